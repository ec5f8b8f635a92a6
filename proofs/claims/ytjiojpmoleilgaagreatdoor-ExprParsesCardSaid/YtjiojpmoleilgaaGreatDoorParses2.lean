/- Part 2 of the texts for the claim. -/
import Derived.Test.YtjiojpmoleilgaaGreatDoorParses1
set_option linter.unusedVariables false
set_option linter.unusedSimpArgs false
set_option maxRecDepth 100000
set_option maxHeartbeats 4000000
noncomputable section
namespace Go.Wf
open Go
theorem zt(l:List Nat)(k:Nat)(hk:k≤l.length):val l=val (l.take k)+4294967296 ^ k * val (l.drop k):=by
 conv=>lhs;rw [← List.take_append_drop k l]
 rw [Qj,List.length_take,Nat.min_eq_left hk]
theorem Jej{a b:Nat}(h:cmpN a b < 0):a < b:=by
 unfold cmpN at h
 split at h
 ·assumption
 ·split at h <;> omega
theorem Jd3{a b:Nat}(h:¬ cmpN a b < 0):b≤a:=by
 unfold cmpN at h
 split at h
 ·omega
 ·omega
theorem Yw{a b:List Nat}(hb:trim b=b)(sa:Js a)(h:val b≤val a):b.length≤a.length:=by
 rcases Nat.lt_or_ge a.length b.length with h1 | h1
 ·have:=Y4 hb sa h1;omega
 ·exact h1
theorem Jmv{a:List Nat}(ha:trim a=a)(sa:Js a):a=digs (val a):=by
 conv=>lhs;rw [← ha,zw sa]
theorem dv_lt{a b:List Nat}(h:val a < val b):[]=digs (val a / val b):=by rw [Nat.div_eq_of_lt h];rfl
theorem Jk3{a b:List Nat}(ha:trim a=a)(sa:Js a)(h:val a < val b):a=digs (val a % val b):=by
 rw [Nat.mod_eq_of_lt h];exact Jmv ha sa
theorem Ks{a:List Nat}(sa:Js a)(h:a.length≤2):val a < 18446744073709551616:=by
 have:=Zw a sa
 have h2:4294967296 ^ a.length≤4294967296 ^ 2:=Nat.pow_le_pow_right (by omega) h;omega
theorem Jgl{x y:Nat}(h:x < 18446744073709551616):x / y < 18446744073709551616:=Nat.lt_of_le_of_lt (Nat.div_le_self _ _) h
theorem Jgm{x y:Nat}(h:x < 18446744073709551616):x % y < 18446744073709551616:=Nat.lt_of_le_of_lt (Nat.mod_le _ _) h
theorem Jef{b:List Nat}(hb:trim b=b)(sb:Js b)(h:b≠[]):0 < b.getD (b.length - 1) 0:=by
 rcases List.eq_nil_or_concat b with rfl | ⟨q,d,rfl⟩
 ·exact absurd rfl h
 ·have h1:=X4 hb h;simp only [List.concat_eq_append] at *;have sq:Js q:=fun u hu=>sb u (by simp [hu]);have h2:=Zw q sq;rw [Z7,List.length_append,List.length_singleton,Nat.add_sub_cancel] at h1;rw [List.length_append,List.length_singleton,Nat.add_sub_cancel,List.getD_eq_getElem?_getD,List.getElem?_append_right (by omega),Nat.sub_self]
  show 0 < d
  rcases Nat.eq_zero_or_pos d with e | e
  ·rw [e,Nat.mul_zero] at h1;omega
  ·exact e
theorem Jlu{b:List Nat}(sb:Js b)(hne:b≠[]){s:Nat}(hs:s≤32 - blen (b.getD (b.length - 1) 0)):val b * 2 ^ s < 4294967296 ^ b.length:=by
 have hpos:0 < b.length:=List.length_pos_iff.2 hne;have h1:=Q3 (k:=b.length - 1) sb (by omega);have h2:=Jp b (b.length - 1);rw [show b.length - 1+1=b.length by omega,List.take_length] at h2;have h3:=Vk (b.getD (b.length - 1) 0);have h4:=Ja4 (Ji sb (b.length - 1))
 generalize b.getD (b.length - 1) 0=t at *
 have h5:(t+1) * 2 ^ s≤4294967296:=by
  refine Nat.le_trans (Nat.mul_le_mul_right _ (show t+1≤2 ^ blen t by omega)) ?_;rw [← Nat.pow_add];exact Nat.le_trans (Nat.pow_le_pow_right (by omega) (show blen t+s≤32 by omega)) (by decide)
 have h6:val b+1≤4294967296 ^ (b.length - 1) * (t+1):=by rw [Nat.mul_add,Nat.mul_one];omega
 have h7:=Nat.mul_le_mul_right (2 ^ s) h6;rw [Nat.mul_assoc] at h7;have h8:=Nat.mul_le_mul_left (4294967296 ^ (b.length - 1)) h5;rw [← Nat.pow_succ,show(b.length - 1).succ=b.length by omega] at h8;rw [Nat.add_mul,Nat.one_mul] at h7
 have:=Nat.two_pow_pos s
 omega
theorem Jl3{v n:Nat}(h1:v < 4294967296 ^ n)(h2:4294967296 ^ (n - 1)≤v)(hn:0 < n):(digs v).length=n:=by
 have a:=Jw h1
 rcases Nat.lt_or_ge (digs v).length n with h | h
 ·have b:=zd v;have c:4294967296 ^ (digs v).length≤4294967296 ^ (n - 1):=Nat.pow_le_pow_right (by omega) (by omega);omega
 ·omega
theorem Jr5{b:List Nat}(hb:trim b=b)(sb:Js b)(hne:b≠[]){s:Nat}(hs:s≤32 - blen (b.getD (b.length - 1) 0)):(trim (J0 (b.length+1) (val b * 2 ^ s))).length=b.length∧val (trim (J0 (b.length+1) (val b * 2 ^ s)))=val b * 2 ^ s∧trim (trim (J0 (b.length+1) (val b * 2 ^ s)))=trim (J0 (b.length+1) (val b * 2 ^ s)):=by
 have h1:=Jlu sb hne hs;have hpos:0 < b.length:=List.length_pos_iff.2 hne;have h1':val b * 2 ^ s < 4294967296 ^ (b.length+1):=Nat.lt_of_lt_of_le h1 (Nat.pow_le_pow_right (by omega) (by omega));rw [Xp h1'];refine⟨Jl3 h1 (Nat.le_trans (X4 hb hne) (Nat.le_mul_of_pos_right _ (Nat.two_pow_pos s))) hpos,Jz _,Y3 _⟩
theorem Jqc{a b L:List Nat}(sa:Js a)(hb:trim b=b)(hne:b≠[]){s:Nat}(hle:b.length≤a.length)(hL:L.length=a.length+1)(hs:Js L)(hv:val L=val a * 2 ^ s):
  val (L.drop (a.length+1 - b.length)) < val b * 2 ^ s:=by
 have hpos:0 < b.length:=List.length_pos_iff.2 hne;have h1:=zt L (a.length+1 - b.length) (by omega);have h2:=Zw a sa;have h3:=X4 hb hne;have h4:4294967296 ^ (a.length+1 - b.length) * val (L.drop (a.length+1 - b.length)) < 4294967296 ^ (a.length+1 - b.length) * (4294967296 ^ (b.length - 1) * 2 ^ s):=by
  rw [← Nat.mul_assoc,← Nat.pow_add,show a.length+1 - b.length+(b.length - 1)=a.length by omega]
  have:=Nat.mul_lt_mul_of_pos_right h2 (Nat.two_pow_pos s)
  omega
 have h5:=Nat.lt_of_mul_lt_mul_left h4;exact Nat.lt_of_lt_of_le h5 (Nat.mul_le_mul_right _ h3)
theorem Jlz{L:List Nat}{J n:Nat}(hJ:0 < J)(hl:J+n≤L.length):L=L.take (J - 1)++(L.drop (J - 1)).take (n+1)++L.drop (J+n):=by
 rw [List.append_assoc]
 conv=>lhs;rw [← List.take_append_drop (J - 1) L]
 congr 1
 conv=>lhs;rw [← List.take_append_drop (n+1) (L.drop (J - 1))]
 rw [List.drop_drop,show J - 1+(n+1)=J+n by omega]
theorem Jj6{L:List Nat}{J n:Nat}(hJ:0 < J)(hl:J+n≤L.length):((L.drop (J - 1)).take (n+1)).length=n+1:=by
 rw [List.length_take,List.length_drop];omega
theorem Jeb{L:List Nat}{J n D:Nat}(hl:J+n≤L.length)(hD:D < 4294967296 ^ n)(hlo:val (L.drop J) < D):val (L.drop (J+n))=0:=by
 have h:=zt (L.drop J) n (by rw [List.length_drop];omega);rw [List.drop_drop] at h
 rcases Nat.eq_zero_or_pos (val (L.drop (J+n))) with e | e
 ·exact e
 ·have:=Nat.mul_le_mul_left (4294967296 ^ n) e
  rw [Nat.mul_one] at this;omega
theorem Jjn{L:List Nat}{J n D:Nat}(hJ:0 < J)(hl:J+n≤L.length)(hD:D < 4294967296 ^ n)(hlo:val (L.drop J) < D):val (L.drop (J - 1))=val ((L.drop (J - 1)).take (n+1)):=by
 have h:=zt (L.drop (J - 1)) (n+1) (by rw [List.length_drop];omega);rw [List.drop_drop,show J - 1+(n+1)=J+n by omega,Jeb hl hD hlo,Nat.mul_zero,Nat.add_zero] at h;exact h
theorem Jpl{L:List Nat}{J n D:Nat}(hs:Js L)(hJ:0 < J)(hl:J+n≤L.length)(hD:D < 4294967296 ^ n)(hlo:val (L.drop J) < D):val ((L.drop (J - 1)).take (n+1)) < D * 4294967296:=by
 rw [← Jjn hJ hl hD hlo,Vz hJ (by omega)]
 have:=Ji hs (J - 1)
 omega
theorem Jm6{u D:Nat}(h:u < D * 4294967296):u / D < 4294967296:=Nat.div_lt_of_lt_mul h
theorem Jn0{L:List Nat}{J n T:Nat}(hJ:0 < J)(hl:J+n≤L.length):(L.take (J - 1)++J0 (n+1) T++L.drop (J+n)).length=L.length:=by
 simp only [List.length_append,List.length_take,List.length_drop,Jl];omega
theorem Jft{L:List Nat}{J n D u:Nat}(hJ:0 < J)(hl:J+n≤L.length)(hD:D < 4294967296 ^ n)(hlo:val (L.drop J) < D):val ((L.take (J - 1)++J0 (n+1) (u % D)++L.drop (J+n)).drop (J - 1))=u % D:=by
 have hlen:(L.take (J - 1)).length=J - 1:=by rw [List.length_take];omega
 have hT:u % D < 4294967296 ^ (n+1):=by
  have h1:=Nat.mod_lt u (show 0 < D by omega);have h2:4294967296 ^ n≤4294967296 ^ (n+1):=Nat.pow_le_pow_right (by omega) (by omega);omega
 rw [List.append_assoc,List.drop_append_of_le_length (by omega),List.drop_of_length_le (by omega),List.nil_append,Qj,Zj _ _ hT,Jeb hl hD hlo,Nat.mul_zero,Nat.add_zero]
theorem Jqm{L Q:List Nat}{J n D N:Nat}(hJ:0 < J)(hl:J+n≤L.length)(hD:D < 4294967296 ^ n)(hlo:val (L.drop J) < D)(hN:N=val Q * D * 4294967296 ^ J+val L):
  N=val ((val ((L.drop (J - 1)).take (n+1)) / D)::Q) * D * 4294967296 ^ (J - 1)+val (L.take (J - 1)++J0 (n+1) (val ((L.drop (J - 1)).take (n+1)) % D)++L.drop (J+n)):=by
 have hlen:(L.take (J - 1)).length=J - 1:=by rw [List.length_take];omega
 have h1:=zt (L.take (J - 1)++J0 (n+1) (val ((L.drop (J - 1)).take (n+1)) % D)++L.drop (J+n)) (J - 1) (by rw [Jn0 hJ hl];omega);rw [Jft hJ hl hD hlo] at h1;rw [List.append_assoc,List.take_append_of_le_length (by omega),List.take_take,Nat.min_self,← List.append_assoc] at h1;have h2:=zt L (J - 1) (by omega);have h3:=Jjn hJ hl hD hlo;rw [h3] at h2;rw [h1,hN,h2,val]
 generalize val ((L.drop (J - 1)).take (n+1))=u
 have h4:=Nat.div_add_mod u D
 generalize u % D=r at *
 generalize u / D=d at *
 have e:4294967296 ^ J=4294967296 * 4294967296 ^ (J - 1):=by rw [Nat.mul_comm,← Nat.pow_succ,show(J - 1).succ=J by omega]
 rw [e,← h4]
 generalize 4294967296 ^ (J - 1)=p
 generalize val (L.take (J - 1))=t
 generalize val Q=q
 rw [Nat.add_mul,Nat.add_mul,Nat.mul_add,Nat.mul_comm d D,Nat.mul_comm (D * d) p];have e2:q * D * (4294967296 * p)=4294967296 * q * D * p:=by
  rw [← Nat.mul_assoc,Nat.mul_comm (q * D),← Nat.mul_assoc]
 rw [e2];omega
theorem Joo{a:List Nat}(sa:Js a){s:Nat}(hs:s≤32):val a * 2 ^ s < 4294967296 ^ (a.length+1):=by
 have h1:=Zw a sa;have h2:2 ^ s≤4294967296:=Nat.le_trans (Nat.pow_le_pow_right (by omega) hs) (by decide);have h3:=Nat.mul_le_mul_left (val a) h2;have h4:=Nat.mul_lt_mul_of_pos_right h1 (show 0 < 4294967296 by decide);rw [Nat.pow_succ];omega
theorem Jit{L:List Nat}{i k n T:Nat}(hs:Js L):Js (L.take i++J0 n T++L.drop k):=Z8 (Z8 (V2 hs _) (J8 _ _)) (Vy hs _)
theorem dv_q{a b Q L:List Nat}{s:Nat}(hQ:Js Q)(hb:0 < val b)(hN:val a * 2 ^ s=val Q * (val b * 2 ^ s) * 4294967296 ^ 0+val L)(hlo:val (L.drop 0) < val b * 2 ^ s):trim Q=digs (val a / val b):=by
 rw [List.drop_zero] at hlo;rw [Nat.pow_zero,Nat.mul_one] at hN;rw [zw hQ]
 congr 1
 have hp:=Nat.two_pow_pos s;have h1:val a * 2 ^ s / (val b * 2 ^ s)=val Q:=by
  rw [hN,Nat.mul_comm (val Q),Nat.mul_add_div (Nat.mul_pos hb hp),Nat.div_eq_of_lt hlo,Nat.add_zero]
 rw [← h1,Nat.mul_div_mul_right _ _ hp]
theorem dv_r{a b Q L:List Nat}{s n:Nat}(hL:Js L)(hb:0 < val b)(hn:n≤L.length)(hD:val b * 2 ^ s < 4294967296 ^ n)(hN:val a * 2 ^ s=val Q * (val b * 2 ^ s) * 4294967296 ^ 0+val L)(hlo:val (L.drop 0) < val b * 2 ^ s):
  trim (J0 (L.take n).length (val (L.take n) / 2 ^ s))=digs (val a % val b):=by
 rw [List.drop_zero] at hlo;rw [Nat.pow_zero,Nat.mul_one] at hN;have hp:=Nat.two_pow_pos s;have h0:val (L.take n)=val L:=by
  have h:=zt L n hn;have e:=Jeb (J:=0) (n:=n) (L:=L) (by omega) hD (by rw [List.drop_zero];exact hlo);rw [Nat.zero_add] at e;rw [e] at h;omega
 have h1:val L=val a * 2 ^ s % (val b * 2 ^ s):=by
  rw [hN,Nat.mul_comm (val Q),Nat.mul_add_mod,Nat.mod_eq_of_lt hlo]
 have h2:val L / 2 ^ s=val a % val b:=by
  rw [h1,Nat.mul_mod_mul_right,Nat.mul_div_cancel _ hp]
 rw [h0,h2];refine Xp ?_;rw [← h2,List.length_take,Nat.min_eq_left hn];exact Nat.lt_of_le_of_lt (Nat.div_le_self _ _) (Nat.lt_trans hlo hD)
end Go.Wf
namespace Go.Wf
open Go
theorem Vb(b:Bool)(n:Nat):(Jm b n).natAbs=n:=by cases b <;> simp [Jm]
theorem Jf9(b:Bool)(n:Nat):decide (Jm b n < 0)=(b && decide (0 < n)):=by
 cases b
 ·simp [Jm]
 ·simp [Jm]
theorem Jcv(b:Bool)(n:Nat):Jm (!b) n= - Jm b n:=by cases b <;> simp [Jm]
theorem Yx(n:Nat):Jm false n=n:=rfl
theorem Q9(v:Nat):decide (0 < (digs v).length)=decide (0 < v):=by
 rcases Nat.eq_zero_or_pos v with rfl | h
 ·rfl
 ·have:digs v≠[]:=fun e=>by rw [yn] at e;omega
  rw [decide_eq_true h,decide_eq_true (List.length_pos_iff.2 this)]
theorem Jie{b:Bool}{m:List Nat}(h:Js m):mkSg b m=ofZ (Jm b (val m)):=by
 unfold mkSg ofZ;rw [zw h,Vb,Jf9,Q9]
theorem Y0{b:Bool}{m:List Nat}{z:Int}(h:Js m)(e:Jm b (val m)=z):mkSg b m=ofZ z:=by rw [Jie h,e]
theorem Jq(z:Int):(ofZ z).toZ=z:=by
 unfold GInt.toZ ofZ;rw [Jz]
 rcases Int.lt_or_le z 0 with h | h
 ·rw [decide_eq_true h];simp [Jm];omega
 ·rw [decide_eq_false (by omega)];simp [Jm];omega
theorem K4(z:Int):Js (ofZ z).mag:=Zt _
theorem Vx(z:Int):trim (ofZ z).mag=(ofZ z).mag:=Y3 _
theorem Ji2{y z:Int}(h:ofZ y=ofZ z):y=z:=by rw [← Jq y,h,Jq]
theorem Vv(z:Int):(ofZ z).mag=digs z.natAbs:=rfl
theorem Jai(z:Int):(ofZ z).neg=decide (z < 0):=rfl
theorem Qr(a:GInt):a.toZ.natAbs=val a.mag:=Vb _ _
theorem yu{a:GInt}:a.toZ=0↔val a.mag=0:=by rw [← Int.natAbs_eq_zero,Qr]
theorem Xn{m:List Nat}(_h:Js m):(trim m).length=0↔val m=0:=by
 rw [List.length_eq_zero_iff,K0]
theorem Jib{a:GInt}(h:val a.mag=0):(0:Int)=a.toZ.sign:=by rw [yu.2 h];rfl
theorem Jf2{a:GInt}(hn:a.neg=true)(h:val a.mag≠0):(-1:Int)=a.toZ.sign:=by
 unfold GInt.toZ;rw [hn];rw [Int.sign_eq_neg_one_of_neg];simp [Jm];omega
theorem Jmx{a:GInt}(hn:a.neg=false)(h:val a.mag≠0):(1:Int)=a.toZ.sign:=by
 unfold GInt.toZ;rw [hn];rw [Int.sign_eq_one_of_pos];simp [Jm];omega
theorem Jfa{a:GInt}{b:List Nat}{n:Bool}(h:a.neg=n):Jm n (val a.mag+val b)=a.toZ+Jm n (val b):=by
 unfold GInt.toZ;rw [h];cases n <;> simp [Jm] <;> omega
theorem Jn2{a:GInt}{b:List Nat}{n:Bool}(h:¬ a.neg=n)(hle:val b≤val a.mag):Jm a.neg (val a.mag - val b)=a.toZ+Jm n (val b):=by
 unfold GInt.toZ
 have:n= !a.neg:=by cases n <;> cases hh:a.neg <;> simp_all
 rw [this];cases a.neg <;> simp [Jm] <;> omega
theorem Jpm{a:GInt}{b:List Nat}{n:Bool}(h:¬ a.neg=n)(hle:val a.mag≤val b):Jm n (val b - val a.mag)=a.toZ+Jm n (val b):=by
 unfold GInt.toZ
 have:n= !a.neg:=by cases n <;> cases hh:a.neg <;> simp_all
 rw [this];cases a.neg <;> simp [Jm] <;> omega
theorem Jdb(a b:GInt):Jm (a.neg != b.neg) (val a.mag * val b.mag)=a.toZ * b.toZ:=by
 unfold GInt.toZ
 cases a.neg <;> cases b.neg <;> simp [Jm,Int.neg_mul,Int.mul_neg]
theorem zl{a b:GInt}(hb:val b.mag≠0)(h:a.neg=false∨val a.mag % val b.mag=0):
  Jm (a.neg != b.neg) (val a.mag / val b.mag)=a.toZ / b.toZ∧((val a.mag % val b.mag:Nat):Int)=a.toZ % b.toZ:=by
 unfold GInt.toZ;have hm:=Nat.div_add_mod (val a.mag) (val b.mag)
 generalize val a.mag=x at *
 generalize val b.mag=y at *
 cases ha:a.neg with
 | false=>
  cases b.neg with
  | false=>simp [Jm]
  | true=>simp [Jm]
 | true=>
  have h0:x % y=0:=by
   rcases h with h | h
   ·rw [ha] at h;cases h
   ·exact h
  rw [h0,Nat.add_zero] at hm
  generalize x / y=q at *
  subst hm;have hy:(y:Int)≠0:=by omega
  cases b.neg with
  | false=>
   simp only [Jm];refine⟨?_,?_⟩
   ·have: -((y * q:Nat):Int)=(y:Int) * (-(q:Int)):=by simp [Int.mul_neg]
    simp only [if_true,Bool.bne_false,if_false,Bool.false_eq_true];rw [this,Int.mul_ediv_cancel_left _ hy]
   ·simp [h0]
  | true=>
   simp only [Jm];refine⟨?_,?_⟩
   ·have: -((y * q:Nat):Int)=(-(y:Int)) * (q:Int):=by simp [Int.neg_mul]
    simp only [if_true,bne_self_eq_false,if_false,Bool.false_eq_true];rw [this,Int.mul_ediv_cancel_left _ (by omega)]
   ·simp [h0]
theorem Ja7{a b:GInt}(hb:val b.mag≠0)(ha:a.neg=true)(h:val a.mag % val b.mag≠0):
  Jm (a.neg != b.neg) (val a.mag / val b.mag+1)=a.toZ / b.toZ∧((val b.mag - val a.mag % val b.mag:Nat):Int)=a.toZ % b.toZ:=by
 unfold GInt.toZ;have hm:=Nat.div_add_mod (val a.mag) (val b.mag);have hlt:=Nat.mod_lt (val a.mag) (show 0 < val b.mag by omega)
 generalize val a.mag=x at *
 generalize val b.mag=y at *
 generalize x / y=q at *
 generalize x % y=r at *
 rw [ha];have key:∀ s:Int,(s=y∨s= -y)→∀ Q:Int,-(x:Int)=s * Q+((y - r:Nat):Int)→Q= -(x:Int) / s∧((y - r:Nat):Int)= -(x:Int) % s:=by
  intro s hs Q hQ;have h1:0≤((y - r:Nat):Int):=Int.natCast_nonneg _;have h2:((y - r:Nat):Int) < s.natAbs:=by
   have:s.natAbs=y:=by rcases hs with rfl | rfl <;> simp
   rw [this];omega
  have hs0:s≠0:=by rcases hs with rfl | rfl <;> omega
  have e1: -(x:Int) / s=Q:=by
   have h3:((y - r:Nat):Int) / s=0:=by
    rcases hs with rfl | rfl
    ·exact Int.ediv_eq_zero_of_lt h1 (by omega)
    ·rw [Int.ediv_neg,Int.ediv_eq_zero_of_lt h1 (by omega),Int.neg_zero]
   rw [hQ,Int.mul_add_ediv_left _ _ hs0,h3,Int.add_zero]
  refine⟨e1.symm,?_⟩
  have:=Int.emod_def (-(x:Int)) s
  rw [this,e1];omega
 have hx:(x:Int)=(y:Int) * q+r:=by rw [← hm];simp
 have hsub:((y - r:Nat):Int)=(y:Int) - r:=by omega
 cases b.neg with
 | false=>
  have:=key y (.inl rfl) (-((q:Int)+1)) (by rw [hsub,hx,Int.mul_neg,Int.mul_add];omega)
  simpa [Jm] using this
 | true=>
  have:=key (-y) (.inr rfl) ((q:Int)+1) (by rw [hsub,hx,Int.neg_mul,Int.mul_add];omega)
  simpa [Jm] using this
end Go.Wf
namespace Go.Wf
open Go
def GRat.q(r:GRat):Rat:=Rat.divInt r.num.toZ r.den.toZ
def ofQ(q:Rat):GRat:=⟨ofZ q.num,ofZ (q.den:Int)⟩
theorem Yq(q:Rat):(ofQ q).q=q:=by
 unfold GRat.q ofQ;rw [Jq,Jq];exact Rat.num_divInt_den q
def low(n d:Int):GRat:=ofQ (Rat.divInt n d)
theorem Jce(n:Int):low n 0=⟨ofZ 0,ofZ 1⟩:=by
 unfold low ofQ;rw [Rat.divInt_zero];rfl
theorem Jb4(d:Int):low 0 d=⟨ofZ 0,ofZ 1⟩:=by
 unfold low ofQ;rw [Rat.zero_divInt];rfl
theorem Jdm{n d:Int}(hd:0 < d):low n d=⟨ofZ (n / (Int.gcd n d:Int)),ofZ (d / (Int.gcd n d:Int))⟩:=by
 unfold low ofQ;rw [Rat.num_divInt,Rat.den_divInt,if_neg (by omega),Int.gcd_comm,Int.sign_eq_one_of_pos hd,Int.one_mul]
 congr 2
 have:(d.natAbs:Int)=d:=by omega
 rw [← this];simp
theorem Jro{n d:Int}(hd:d=1):low n d=⟨ofZ n,ofZ d⟩:=by
 subst hd;rw [Jdm (by decide),Int.gcd_one_right];simp
theorem Jd7{n d:Int}(hd:0 < d)(h:Int.gcd n d=1):low n d=⟨ofZ n,ofZ d⟩:=by
 rw [Jdm hd,h];simp
theorem vt{a:GRat}(h:a.den.toZ=0):a.q=0:=by
 unfold GRat.q;rw [h,Rat.divInt_zero]
theorem Jxe{a b:GRat}(ha:a.den.toZ≠0)(hb:b.den.toZ≠0):a.q+b.q=Rat.divInt (a.num.toZ * b.den.toZ+b.num.toZ * a.den.toZ) (a.den.toZ * b.den.toZ):=Rat.divInt_add_divInt _ _ ha hb
theorem Jxi(a:GRat):Rat.divInt (-a.num.toZ) a.den.toZ= - a.q:=by
 unfold GRat.q;rw [Rat.neg_divInt]
def ky(q:Rat):Int:=q.num.sign
theorem Jpf(a:GRat):a.num.toZ.sign * a.den.toZ.sign=ky a.q:=by
 unfold GRat.q ky;rw [Rat.num_divInt]
 generalize a.num.toZ=n
 generalize a.den.toZ=d
 rcases Int.lt_trichotomy d 0 with h | h | h
 ·rw [Int.sign_eq_neg_one_of_neg h];have hg:0 < Int.gcd d n:=Int.gcd_pos_of_ne_zero_left _ (by omega);have hdvd:(Int.gcd d n:Int) ∣ n:=Int.gcd_dvd_right _ _;obtain⟨k,hk⟩:=hdvd
  generalize Int.gcd d n=g at *
  subst hk;rw [show(-1:Int) * ((g:Int) * k)=(g:Int) * (-k) by rw [Int.mul_neg,Int.neg_mul,Int.one_mul],Int.mul_ediv_cancel_left _ (by omega),Int.sign_mul,Int.sign_neg,Int.sign_eq_one_of_pos (by omega)];omega
 ·subst h;simp
 ·rw [Int.sign_eq_one_of_pos h];have hg:0 < Int.gcd d n:=Int.gcd_pos_of_ne_zero_left _ (by omega);have hdvd:(Int.gcd d n:Int) ∣ n:=Int.gcd_dvd_right _ _;obtain⟨k,hk⟩:=hdvd
  generalize Int.gcd d n=g at *
  subst hk;rw [Int.one_mul,Int.mul_ediv_cancel_left _ (by omega),Int.sign_mul,Int.sign_eq_one_of_pos (show 0 < (g:Int) by omega)];omega
end Go.Wf
namespace Go.Wf
open Go
def qcmp(p q:Rat):Int:=ky (p - q)
end Go.Wf
namespace Go.Wf
open Go Go.Proofs Go.RowKit
section
variable {P:Program} {ops:Array Oper} {n:Nat} {Q:Post} {r:List Oper} {f:Fr} {w:World}
theorem Oy {d:Nat} {op:Op} {ty:TypeId} {pos:String} {after:Array Edge} {j:Nat} {b:Bool} (hlo:Nat.blt d n=true) (hy:Zm ops f j=none)
  (h:Sq P ops n Q r (updO f (some d) undef) w):
  Sq P ops n Q (⟨some d,op,ty,pos,after,some (j,b)⟩::r) f w:=⟨Nat.le_of_ble_eq_true hlo,by simp only [Region.wanted,hy];exact h⟩
end
section
variable {P:Program} {ρ:Operand→Value} {w:World} {K:Value→World→Prop} {Kp:List PanicEntry→World→Prop} {dst:Option Tmp} {ty:TypeId} {pos:String} {after:Array Edge} {gd:Option (Nat × Bool)} {X0 x y:Nat→Prop} {w0:Bs}
end
theorem Ju {X:Nat→Prop} {w:World} {s1 s2 s3 s4:Value} (m:GExpr) (g1: -9223372036854775808≤m.op) (g2:m.op≤9223372036854775807) (g3:m.name.length≤maxLen)
  (h1:RS Ye X w s1 m.n) (h2:RS Jd X w s2 m.c.num.mag) (h3:RS Jd X w s3 m.c.den.mag) (h4:RS Jg X w s4 m.args):
  RV Jg X w (.agg #[.int .i64 m.op,s1,.bool m.c.num.neg,s2,.bool m.c.den.neg,s3,str m.name,s4]) m:=by
 have h:=Zs (b:=m.c.num.neg) (d:=m.c.den.neg) g1 g2 g3 h1 h2 h3 h4
 cases m;exact h
theorem RV.args_max{X:Nat→Prop}{w:World}{v:Value}{a:GExpr}(h:RV Jg X w v a):a.args.length≤9223372036854775807:=by
 obtain⟨a1,c1,a2,c2,a3,c3,a4,c4,_,h'⟩:=J37 h;obtain⟨_,_,_,h1,h2⟩:=h'.args.len;have hml:maxLen=9223372036854775807:=rfl;omega
end Go.Wf
namespace Go.Proofs.YtjiojpmoleilgaaGreatDoor
open Go Go.Proofs Go.Wf Go.RowKit Go.ChangeShapes Go.WideShapes
abbrev NX:Nat→Prop:=fun _=>False
section
variable {H:Type} {enc:TypeId × Value→H} {w:World} {base:Nat} {sp:Nat→Bool} {held:Bool}
theorem und4:Tryz.prog.underlying 4=some .bool:=by kernel_rfl
theorem und9:Tryz.prog.underlying 9=some .string:=by kernel_rfl
end
end Go.Proofs.YtjiojpmoleilgaaGreatDoor
namespace Go.Wf
open Go
theorem Jeo:ofZ 1=⟨false,[1]⟩:=by
 unfold ofZ;rw [show(1:Int).natAbs=1 from rfl,qa (by decide) (by decide)];rfl
theorem Jp9{m:List Nat}(h:((m.length:Nat):Int)=1):m=[m.getD 0 0]:=by
 match m,h with
 | [d],_=>rfl
 | [],h=>simp at h
 | _::_::_,h=>simp at h;omega
theorem Jt7{a:GInt}(h1:((a.mag.length:Nat):Int)=1)(h2:((a.mag.getD 0 0:Nat):Int)=1):(!a.neg)=decide (a=ofZ 1):=by
 have e:=Jp9 h1;have h2:a.mag.getD 0 0=1:=by omega
 rw [h2] at e;obtain⟨n,m⟩:=a;have e:m=[1]:=e;subst e;rw [Jeo]
 cases n <;> simp
theorem Jvz{a:GInt}(h2:¬ ((a.mag.getD 0 0:Nat):Int)=1):false=decide (a=ofZ 1):=by
 refine(decide_eq_false fun e=>h2 ?_).symm
 rw [e,Jeo];rfl
theorem Ju0{a:GInt}(h1:¬ ((a.mag.length:Nat):Int)=1):false=decide (a=ofZ 1):=by
 refine(decide_eq_false fun e=>h1 ?_).symm
 rw [e,Jeo];rfl
theorem Y9{z:Int}:ofZ z=ofZ 1↔z=1:=⟨fun h=>Ji2 h,fun h=>by rw [h]⟩
theorem Za{a:GInt}(sa:Js a.mag):(ofZ a.toZ).mag.length≤a.mag.length:=by
 rw [Vv,Qr];exact Jw (Zw _ sa)
theorem Yg(z:Int):(ofZ (-z)).mag=(ofZ z).mag:=by rw [Vv,Vv,Int.natAbs_neg]
theorem Qk{a b:Nat}(h:a≤b):(digs a).length≤(digs b).length:=Jw (Nat.lt_of_le_of_lt h (zd b))
theorem Jbb{y z:Int}(h:y.natAbs≤z.natAbs):(ofZ y).mag.length≤(ofZ z).mag.length:=Qk h
theorem Zi{z:Int}:(ofZ z).mag.length=0↔z=0:=by
 rw [Vv,List.length_eq_zero_iff,yn,Int.natAbs_eq_zero]
theorem Ky(z:Int):val (ofZ z).mag=z.natAbs:=Jz _
theorem Jdy{n d:Int}(hd:d≠0):(ofZ (Int.gcd n d:Int)).mag.length≤(ofZ d).mag.length:=
 Jbb (by
  have:Int.gcd n d ∣ d.natAbs:=Nat.gcd_dvd_right _ _
  have h2:=Nat.le_of_dvd (by omega) this;simpa using h2)
theorem Job{n d:Int}(hd:d≠0):((Int.gcd n d:Nat):Int)≠0:=by
 have:=Int.gcd_pos_of_ne_zero_right n hd
 omega
theorem Jco(n d:Int):n % ((Int.gcd n d:Nat):Int)=0:=Int.emod_eq_zero_of_dvd (Int.gcd_dvd_left _ _)
theorem Jc2(n d:Int):d % ((Int.gcd n d:Nat):Int)=0:=Int.emod_eq_zero_of_dvd (Int.gcd_dvd_right _ _)
theorem Jc7{n d:Int}(h:d=0∨n=0):(⟨⟨false,[]⟩,ofZ 1⟩:GRat)=ofQ (Rat.divInt n d):=by
 rcases h with rfl | rfl
 ·exact(Jce n).symm
 ·exact(Jb4 d).symm
theorem Qa{n d:Int}(h:d=1):(⟨ofZ n,ofZ d⟩:GRat)=ofQ (Rat.divInt n d):=(Jro h).symm
theorem zm{n d:Int}(hd:0 < d)(h:((Int.gcd n d:Nat):Int)=1):(⟨ofZ n,ofZ d⟩:GRat)=ofQ (Rat.divInt n d):=(Jd7 hd (by omega)).symm
theorem qr{n d:Int}(hd:0 < d):(⟨ofZ (n / ((Int.gcd n d:Nat):Int)),ofZ (d / ((Int.gcd n d:Nat):Int))⟩:GRat)=ofQ (Rat.divInt n d):=(Jdm hd).symm
theorem qb(n d:Int):Rat.divInt (-n) (-d)=Rat.divInt n d:=Rat.neg_divInt_neg n d
end Go.Wf
namespace Go.Wf
open Go
theorem Jbu(n d:Int):(Rat.divInt n d).num.natAbs≤n.natAbs:=by
 rw [Rat.num_divInt];refine Nat.le_trans (Int.natAbs_ediv_le_natAbs _ _) ?_;rw [Int.natAbs_mul]
 have:d.sign.natAbs≤1:=by
  rcases Int.lt_trichotomy d 0 with h | h | h
  ·rw [Int.sign_eq_neg_one_of_neg h];decide
  ·rw [h];decide
  ·rw [Int.sign_eq_one_of_pos h];decide
 calc d.sign.natAbs * n.natAbs≤1 * n.natAbs:=Nat.mul_le_mul_right _ this
  _=n.natAbs:=Nat.one_mul _
theorem Jbe(n d:Int):(Rat.divInt n d).den≤max 1 d.natAbs:=by
 rw [Rat.den_divInt]
 split
 ·exact Nat.le_max_left _ _
 ·exact Nat.le_trans (Nat.div_le_self _ _) (Nat.le_max_right _ _)
theorem Kh:(digs 1).length=1:=by rw [qa (by decide) (by decide)];rfl
theorem Xs(n d:Int):(ofQ (Rat.divInt n d)).num.mag.length≤(ofZ n).mag.length:=Jbb (Jbu n d)
theorem Xr(n d:Int):(ofQ (Rat.divInt n d)).den.mag.length≤(ofZ d).mag.length+1:=by
 have h:=Jbe n d
 show(digs _).length≤(digs d.natAbs).length+1
 have e:((Rat.divInt n d).den:Int).natAbs=(Rat.divInt n d).den:=by simp
 rw [e];refine Nat.le_trans (Qk h) ?_
 rcases Nat.le_total 1 d.natAbs with h1 | h1
 ·rw [Nat.max_eq_right h1];omega
 ·rw [Nat.max_eq_left h1,Kh];omega
theorem Vm{a:GRat}(sn:Js a.num.mag):(ofQ a.q).num.mag.length≤a.num.mag.length:=Nat.le_trans (Xs _ _) (Za sn)
theorem Vh{a:GRat}(sd:Js a.den.mag):(ofQ a.q).den.mag.length≤a.den.mag.length+1:=by
 have h1:=Xr a.num.toZ a.den.toZ;have h2:=Za sd;unfold GRat.q;omega
theorem Qu(q:Rat):(ofQ (-q)).num.mag=(ofQ q).num.mag:=by
 show(ofZ (-q).num).mag=(ofZ q.num).mag
 rw [Rat.neg_num,Yg]
theorem Qt(q:Rat):(ofQ (-q)).den.mag=(ofQ q).den.mag:=by
 show(ofZ ((-q).den:Int)).mag=(ofZ (q.den:Int)).mag
 rw [Rat.neg_den]
theorem Jeh(n:Int)(d:Nat)(h:d≠0):(Rat.normalize n d h).num.natAbs≤n.natAbs:=by
 rw [Rat.normalize_eq];exact Int.natAbs_ediv_le_natAbs _ _
theorem Jd6(n:Int)(d:Nat)(h:d≠0):(Rat.normalize n d h).den≤d:=by
 rw [Rat.normalize_eq];exact Nat.div_le_self _ _
theorem Jfo(v:Nat):v < 4294967296 ^ (digs v).length:=zd v
theorem Jbm(x y:Nat):(digs (x * y)).length≤(digs x).length+(digs y).length:=by
 refine Jw ?_;rw [Nat.pow_add];exact Nat.mul_lt_mul'' (Jfo x) (Jfo y)
theorem Jfg(x y:Nat):(digs (x+y)).length≤(digs x).length+(digs y).length+1:=by
 refine Jw ?_;have h1:=Jfo x;have h2:=Jfo y;have h3:4294967296 ^ (digs x).length≤4294967296 ^ ((digs x).length+(digs y).length):=Nat.pow_le_pow_right (by omega) (by omega);have h4:4294967296 ^ (digs y).length≤4294967296 ^ ((digs x).length+(digs y).length):=Nat.pow_le_pow_right (by omega) (by omega);rw [Nat.pow_succ];omega
theorem Jdv(p q:Rat):(ofQ (p+q)).num.mag.length≤(ofQ p).num.mag.length+(ofQ q).den.mag.length+(ofQ q).num.mag.length+(ofQ p).den.mag.length+1:=by
 show(digs (p+q).num.natAbs).length≤(digs p.num.natAbs).length+(digs ((q.den:Int)).natAbs).length+(digs q.num.natAbs).length+(digs ((p.den:Int)).natAbs).length+1
 have h:(p+q).num.natAbs≤p.num.natAbs * q.den+q.num.natAbs * p.den:=by
  rw [Rat.add_def];refine Nat.le_trans (Jeh _ _ _) ?_;refine Nat.le_trans (Int.natAbs_add_le _ _) ?_;rw [Int.natAbs_mul,Int.natAbs_mul];simp
 refine Nat.le_trans (Qk h) ?_;have h1:=Jfg (p.num.natAbs * q.den) (q.num.natAbs * p.den);have h2:=Jbm p.num.natAbs q.den;have h3:=Jbm q.num.natAbs p.den;simp only [Int.natAbs_natCast];omega
theorem Jec(p q:Rat):(ofQ (p+q)).den.mag.length≤(ofQ p).den.mag.length+(ofQ q).den.mag.length:=by
 show(digs (((p+q).den:Int)).natAbs).length≤(digs ((p.den:Int)).natAbs).length+(digs ((q.den:Int)).natAbs).length
 simp only [Int.natAbs_natCast];have h:(p+q).den≤p.den * q.den:=by rw [Rat.add_def];exact Jd6 _ _ _
 exact Nat.le_trans (Qk h) (Jbm _ _)
theorem xz{x y:Int}:(ofZ (x * y)).mag.length≤(ofZ x).mag.length+(ofZ y).mag.length:=by
 show(digs (x * y).natAbs).length≤(digs x.natAbs).length+(digs y.natAbs).length
 rw [Int.natAbs_mul];exact Jbm _ _
theorem Jjw{x y:Int}:(ofZ (x+y)).mag.length≤(ofZ x).mag.length+(ofZ y).mag.length+1:=by
 show(digs (x+y).natAbs).length≤(digs x.natAbs).length+(digs y.natAbs).length+1
 exact Nat.le_trans (Qk (Int.natAbs_add_le _ _)) (Jfg _ _)
theorem Jqk(z:Int): -1≤z.sign∧z.sign≤1:=by
 rcases Int.lt_trichotomy z 0 with h | h | h
 ·rw [Int.sign_eq_neg_one_of_neg h];omega
 ·rw [h];simp
 ·rw [Int.sign_eq_one_of_pos h];omega
theorem qv(x y:Int): -9223372036854775808≤x.sign * y.sign∧x.sign * y.sign≤9223372036854775807:=by
 rw [← Int.sign_mul]
 have:=Jqk (x * y)
 omega
theorem Jus{a b:GRat}(h:a.den.toZ.sign=0):ofQ b.q=ofQ (a.q+b.q):=by
 rw [vt (Int.sign_eq_zero_iff_zero.1 h),Rat.zero_add]
theorem Jv6{a b:GRat}(h:b.den.toZ.sign=0):ofQ a.q=ofQ (a.q+b.q):=by
 rw [vt (a:=b) (Int.sign_eq_zero_iff_zero.1 h),Rat.add_zero]
theorem Jsu{a b:GRat}(ha:a.den=ofZ 1)(hb:b.den=ofZ 1):(⟨ofZ (a.num.toZ+b.num.toZ),ofZ 1⟩:GRat)=ofQ (a.q+b.q):=by
 have ea:a.den.toZ=1:=by rw [ha,Jq]
 have eb:b.den.toZ=1:=by rw [hb,Jq]
 rw [Jxe (by omega) (by omega),ea,eb,Int.mul_one,Int.mul_one,Int.mul_one];exact Qa rfl
theorem Jgs{a b:GRat}(ha:¬ a.den.toZ.sign=0)(hb:¬ b.den.toZ.sign=0):ofQ (Rat.divInt (a.num.toZ * b.den.toZ+b.num.toZ * a.den.toZ) (a.den.toZ * b.den.toZ))=ofQ (a.q+b.q):=by
 rw [Jxe (fun e=>ha (Int.sign_eq_zero_iff_zero.2 e)) (fun e=>hb (Int.sign_eq_zero_iff_zero.2 e))]
end Go.Wf
namespace Go.Wf
open Go
theorem Jj8{a:GInt}(sa:Js a.mag){b:Bool}(hb:b=(a.neg && decide (0 < (trim a.mag).length))):(⟨b,trim a.mag⟩:GInt)=ofZ a.toZ:=by
 subst hb;have h:=Jie (b:=a.neg) sa;unfold mkSg at h;exact h
theorem Jbl{x y:Nat}:cmpN x y= -1↔x < y:=by
 unfold cmpN
 split
 ·exact⟨fun _=>by assumption,fun _=>rfl⟩
 ·split <;> constructor <;> intro h <;> omega
theorem Jhw{a b:List Nat}(ha:trim a=a)(hb:trim b=b)(sa:Js a)(sb:Js b)(h:¬ a.length=b.length):decide (((a.length:Nat):Int) < ((b.length:Nat):Int))=decide (val a < val b):=by
 rcases Nat.lt_or_ge a.length b.length with hl | hl
 ·rw [decide_eq_true (by omega),decide_eq_true (Y4 hb sa hl)]
 ·have:=Y4 ha sb (by omega)
  rw [decide_eq_false (by omega),decide_eq_false (by omega)]
theorem Jif{a b:List Nat}{j:Nat}(sa:Js a)(sb:Js b)(hl:j≤a.length)(hab:a.length=b.length)(h0:0 < j)(h:¬ ((a.getD (j - 1) 0:Nat):Int)=((b.getD (j - 1) 0:Nat):Int))(heq:a.drop j=b.drop j):
  decide (((a.getD (j - 1) 0:Nat):Int) < ((b.getD (j - 1) 0:Nat):Int))=decide (val a < val b):=by
 rcases Nat.lt_or_ge (a.getD (j - 1) 0) (b.getD (j - 1) 0) with hd | hd
 ·have:=(Jjv sa sb hl hab h0 hd heq).symm
  rw [decide_eq_true (by omega),decide_eq_true (Jbl.1 this)]
 ·have:=(Jpn sa sb hl hab h0 (by omega) (by omega) heq).symm
  rw [decide_eq_false (by omega),decide_eq_false (fun h=>by have h2:=Jbl.2 h;omega)]
theorem Jmb{a b:List Nat}{j:Nat}(h:j=0)(heq:a.drop j=b.drop j):false=decide (val a < val b):=by
 have:=Jnw h heq
 exact(decide_eq_false fun h=>by have h2:=Jbl.2 h;omega).symm
theorem z1{a b p:List Nat}{i c s:Nat}(hp:p.length=i)(hv:val p+4294967296 ^ i * c=val (a.take i)+val (b.take i))(hs:s=c+a.getD i 0+b.getD i 0):
  val (p++[s % 4294967296])+4294967296 ^ (i+1) * (s / 4294967296)=val (a.take (i+1))+val (b.take (i+1)):=by
 rw [Z7,Jp,Jp,hp,Nat.pow_succ,Nat.mul_assoc,Nat.add_assoc,← Nat.mul_add,Nat.mod_add_div,hs,Nat.mul_add,Nat.mul_add];omega
theorem Jj5{a b p:List Nat}{i c:Nat}(sp:Js p)(hp:p.length=i)(hi:i=max a.length b.length)(hc:c≤1)(hv:val p+4294967296 ^ i * c=val (a.take i)+val (b.take i)):
  p++[c % 4294967296]=J0 (max a.length b.length+1) (val a+val b):=by
 rw [Nat.mod_eq_of_lt (by omega)];rw [List.take_of_length_le (by omega),List.take_of_length_le (by omega)] at hv;refine Y7 (J3 sp (by omega)) (by rw [List.length_append,hp,hi];rfl) ?_;rw [Z7,hp,hv]
theorem Q6{a b p:List Nat}{i c c' s d:Nat}(hp:p.length=i)(hv:val p+val (b.take i)=val (a.take i)+4294967296 ^ i * c)(hs:s=c+b.getD i 0)(hd:d+s=a.getD i 0+4294967296 * c'):
  val (p++[d])+val (b.take (i+1))=val (a.take (i+1))+4294967296 ^ (i+1) * c':=by
 rw [Z7,Jp,Jp,hp,Nat.pow_succ,Nat.mul_assoc];have h:=congrArg (4294967296 ^ i * ·) hd;simp only [hs,Nat.mul_add] at h;omega
theorem Jlk{x y:GInt}(h:x.neg=y.neg):Jm x.neg (val x.mag+val y.mag)=x.toZ+y.toZ:=by
 have:=Jfa (a:=x) (b:=y.mag) h
 rw [h,this];rfl
theorem Js7{x y:GInt}(h:¬ x.neg=y.neg)(hle:val x.mag≤val y.mag):Jm y.neg (val y.mag - val x.mag)=x.toZ+y.toZ:=by
 rw [Jpm (a:=x) h hle];rfl
theorem Jsr{x y:GInt}(h:¬ x.neg=y.neg)(hle:val y.mag≤val x.mag):Jm x.neg (val x.mag - val y.mag)=x.toZ+y.toZ:=by
 rw [Jn2 (a:=x) h hle];rfl
end Go.Wf
namespace Go.Wf
open Go
theorem Jct{x:Nat}(h:0 < x):blen x=blen (x / 2)+1:=by
 rcases Nat.eq_zero_or_pos (x / 2) with e | e
 ·have:x=1:=by omega
  subst this;rfl
 ·refine xj h ?_ ?_
  ·have:=Vk (x / 2)
   rw [Nat.pow_succ];omega
  ·have:=xv e
   have hp:=zo e;rw [Nat.pow_succ];have e2:2 ^ blen (x / 2)=2 ^ (blen (x / 2) - 1) * 2:=by rw [← Nat.pow_succ];congr 1;omega
   omega
theorem Je1{d:List Nat}(hd:trim d=d)(sd:Js d)(hne:d.length≠0):blen (val d)=32 * (d.length - 1)+blen (d.getD (d.length - 1) 0):=by
 have hne':d≠[]:=fun e=>hne (by rw [e];rfl);have ht:=Jef hd sd hne';have h2:=Jp d (d.length - 1);rw [show d.length - 1+1=d.length by omega,List.take_length] at h2;have h1:=Q3 (k:=d.length - 1) sd (by omega);have hb:=Vk (d.getD (d.length - 1) 0);have hg:=xv ht;have hp:=zo ht
 generalize d.getD (d.length - 1) 0=t at *
 generalize val (d.take (d.length - 1))=l at *
 have e:(4294967296:Nat) ^ (d.length - 1)=2 ^ (32 * (d.length - 1)):=by rw [Nat.pow_mul]
 rw [e] at h1 h2;rw [h2];have hP:=Nat.two_pow_pos (32 * (d.length - 1))
 generalize 32 * (d.length - 1)=k at *
 refine xj ?_ ?_ ?_
 ·have:=Nat.mul_pos hP ht;omega
 ·rw [Nat.pow_add]
  have:=Nat.mul_le_mul_left (2 ^ k) (show t+1≤2 ^ blen t by omega)
  rw [Nat.mul_add] at this;omega
 ·rw [Nat.pow_add];have e2:2 ^ blen t=2 ^ (blen t - 1) * 2:=by rw [← Nat.pow_succ];congr 1;omega
  have:=Nat.mul_le_mul_left (2 ^ k) hg
  rw [e2,← Nat.mul_assoc];omega
theorem Jsq{m:List Nat}{j:Nat}(sm:Js m)(hl:m.length≤2)(hj:0 < j):val (m.drop j) < 4294967296:=by
 have h:=Zw (m.drop j) (Vy sm j);rw [List.length_drop] at h
 have:4294967296 ^ (m.length - j)≤4294967296 ^ 1:=Nat.pow_le_pow_right (by omega) (by omega)
 omega
theorem Jl6{n:Nat}(h:n < 18446744073709551616):trim [n % 4294967296,n / 4294967296 % 4294967296]=digs n:=by
 refine zy (Zy (Nat.mod_lt _ (by decide)) (Zy (Nat.mod_lt _ (by decide)) J9)) ?_;simp only [val]
 have:n / 4294967296 < 4294967296:=by omega
 rw [Nat.mod_eq_of_lt this];omega
theorem Jhd{a p:List Nat}{i c n x:Nat}(hp:p.length=n / 32+i)(hv:val p+4294967296 ^ p.length * c=val (a.take i) * 2 ^ n)(hx:x=a.getD i 0 * 2 ^ (n % 32)+c):
  val (p++[x % 4294967296])+4294967296 ^ (p++[x % 4294967296]).length * (x / 4294967296)=val (a.take (i+1)) * 2 ^ n:=by
 rw [Z7,List.length_append,List.length_singleton,Jp,Nat.pow_succ,Nat.mul_assoc,Nat.add_assoc,← Nat.mul_add,Nat.mod_add_div,hx,Nat.mul_add,Nat.add_mul,← hv];have e:4294967296 ^ p.length * (a.getD i 0 * 2 ^ (n % 32))=4294967296 ^ i * a.getD i 0 * 2 ^ n:=by
  rw [hp];have e1:(4294967296:Nat) ^ (n / 32+i)=2 ^ (32 * (n / 32)) * 4294967296 ^ i:=by rw [Nat.pow_add,Nat.pow_mul]
  have e2:(2:Nat) ^ n=2 ^ (32 * (n / 32)) * 2 ^ (n % 32):=by rw [← Nat.pow_add];congr 1;omega
  rw [e1,e2]
  generalize (2:Nat) ^ (32 * (n / 32))=u
  generalize (4294967296:Nat) ^ i=v
  generalize (2:Nat) ^ (n % 32)=z
  generalize a.getD i 0=t
  rw [Nat.mul_assoc,Nat.mul_assoc,Nat.mul_left_comm t,Nat.mul_left_comm u]
 rw [e];omega
theorem Jkj{a p:List Nat}{i c n:Nat}(sp:Js p)(hi:a.length≤i)(hc:c < 4294967296)(hv:val p+4294967296 ^ p.length * c=val (a.take i) * 2 ^ n):trim (p++[c % 4294967296])=digs (val a * 2 ^ n):=by
 rw [Nat.mod_eq_of_lt hc];rw [List.take_of_length_le hi] at hv;exact zy (J3 sp hc) (by rw [Z7,hv])
theorem Jkr{x s c:Nat}(hx:x < 4294967296)(hs:s < 32)(hc:c < 4294967296):x * 2 ^ s+c < 18446744073709551616∧(x * 2 ^ s+c) / 4294967296 < 4294967296:=by
 have h:=zb hs;have h2:x * 2 ^ s≤4294967295 * 2147483648:=Nat.mul_le_mul (by omega) h;omega
end Go.Wf
namespace Go.Wf
open Go
theorem Jac(n:Nat):J0 n 0=List.replicate n 0:=(Y7 (K5 n) (List.length_replicate ..) (Jbi n)).symm
theorem Jk8{n v i:Nat}(hv:v < 4294967296 ^ n)(hi:i < n):(J0 n v).getD i 0=v / 4294967296 ^ i % 4294967296:=by
 have h:=zg (J8 n v) i;rw [Zj n v hv] at h;have hd:=Vz (a:=J0 n v) (j:=i+1) (by omega) (by rw [Jl];omega);rw [Nat.add_sub_cancel] at hd;rw [h,hd]
 have:=Ji (J8 n v) i
 omega
theorem Jc9(k:Nat):(2:Nat) ^ k=4294967296 ^ (k / 32) * 2 ^ (k % 32):=by
 have e:(4294967296:Nat) ^ (k / 32)=2 ^ (32 * (k / 32)):=by rw [Nat.pow_mul]
 rw [e,← Nat.pow_add];congr 1;omega
theorem yj{n q k:Nat}(hk:k / 32 < n)(hd:q % 2 ^ (k+1)=0)(hq:q < 4294967296 ^ n):(J0 n q).getD (k / 32) 0+2 ^ (k % 32) < 4294967296:=by
 rw [Jk8 hq hk];obtain⟨m,hm⟩:=Nat.dvd_of_mod_eq_zero hd;have hP:0 < (4294967296:Nat) ^ (k / 32):=Nat.pow_pos (by decide);have e1:(2:Nat) ^ (k+1)=4294967296 ^ (k / 32) * 2 ^ (k % 32+1):=by rw [Nat.pow_succ,Jc9 k,Nat.pow_succ,Nat.mul_assoc]
 have e2:q / 4294967296 ^ (k / 32)=2 ^ (k % 32+1) * m:=by
  rw [hm,e1,Nat.mul_assoc,Nat.mul_div_cancel_left _ hP]
 rw [e2];have hr:k % 32 < 32:=Nat.mod_lt _ (by decide);have e3:(4294967296:Nat)=2 ^ (k % 32+1) * 2 ^ (31 - k % 32):=by
  rw [← Nat.pow_add,show k % 32+1+(31 - k % 32)=32 by omega]
 have h1:2 ^ (k % 32+1) * m % 4294967296=2 ^ (k % 32+1) * (m % 2 ^ (31 - k % 32)):=by
  conv=>lhs;rw [e3]
  rw [Nat.mul_mod_mul_left]
 rw [h1];have h2:=Nat.mod_lt m (Nat.two_pow_pos (31 - k % 32));have h3:=Nat.mul_le_mul_left (2 ^ (k % 32+1)) (show m % 2 ^ (31 - k % 32)+1≤2 ^ (31 - k % 32) by omega);rw [← e3,Nat.mul_add,Nat.mul_one] at h3;have h4:(2:Nat) ^ (k % 32+1)=2 ^ (k % 32) * 2:=Nat.pow_succ ..;have h5:=Nat.two_pow_pos (k % 32);omega
theorem Jcp{n q k:Nat}(hk:k / 32 < n)(hd:q % 2 ^ (k+1)=0)(hq:q+2 ^ k < 4294967296 ^ n):(J0 n q).set (k / 32) ((J0 n q).getD (k / 32) 0+2 ^ (k % 32))=J0 n (q+2 ^ k):=by
 have hq':q < 4294967296 ^ n:=by have:=Nat.two_pow_pos k;omega
 refine Y7 (Xu (J8 _ _) (yj hk hd hq') _) (by rw [List.length_set,Jl]) ?_;have h:=xd (l:=J0 n q) (k:=k / 32) (d:=(J0 n q).getD (k / 32) 0+2 ^ (k % 32)) (by rw [Jl];exact hk);rw [Zj n q hq',Nat.mul_add,← Jc9] at h;omega
def dvQ(a b:List Nat):List Nat:=if a.length≤2∧b.length≤2 then digs (val a / val b) else if blen (val a) < blen (val b) then [] else J0 ((blen (val a) - blen (val b)) / 32+1) (val a / val b)
theorem xp{x y:Nat}(hy:0 < y):x / y < 2 ^ (blen x - blen y+1):=by
 rcases Nat.eq_zero_or_pos (x / y) with e | e
 ·rw [e];exact Nat.two_pow_pos _
 ·rw [Nat.div_lt_iff_lt_mul hy];have h1:=Vk x;have h2:=xv hy;have h3:=zo hy;have h4:blen y≤blen x:=by
   refine Nat.le_of_not_lt fun hh=>?_
   have:2 ^ blen x≤2 ^ (blen y - 1):=Nat.pow_le_pow_right (by omega) (by omega)
   have:=Nat.div_eq_of_lt (show x < y by omega)
   omega
  have h5:=Nat.mul_le_mul_left (2 ^ (blen x - blen y+1)) h2;rw [← Nat.pow_add,show blen x - blen y+1+(blen y - 1)=blen x by omega] at h5;omega
theorem Jaq{x y:Nat}(hy:0 < y):x / y < 4294967296 ^ ((blen x - blen y) / 32+1):=by
 have h:=xp (x:=x) hy;have e:(4294967296:Nat) ^ ((blen x - blen y) / 32+1)=2 ^ (32 * ((blen x - blen y) / 32+1)):=by rw [Nat.pow_mul]
 rw [e];exact Nat.lt_of_lt_of_le h (Nat.pow_le_pow_right (by omega) (by omega))
theorem yg{x y:Nat}(hy:0 < y)(h:blen x < blen y):x < y:=by
 have h1:=Vk x;have h2:=xv hy
 have:2 ^ blen x≤2 ^ (blen y - 1):=Nat.pow_le_pow_right (by omega) (by omega)
 omega
theorem Jjh{a b:List Nat}:Js (dvQ a b):=by
 unfold dvQ
 split
 ·exact Zt _
 ·split
  ·exact J9
  ·exact J8 _ _
theorem Jes{a b:List Nat}(hb:0 < val b):val (dvQ a b)=val a / val b:=by
 unfold dvQ
 split
 ·exact Jz _
 ·split
  ·rename_i h;rw [Nat.div_eq_of_lt (yg hb h)];rfl
  ·exact Zj _ _ (Jaq hb)
theorem V1{a:List Nat}(sa:Js a):blen (val a)≤32 * a.length:=by
 have h:=Zw a sa;have e:(4294967296:Nat) ^ a.length=2 ^ (32 * a.length):=by rw [Nat.pow_mul]
 rw [e] at h;exact Jbo h
theorem Js6{a b:List Nat}(sa:Js a):(dvQ a b).length≤a.length+1:=by
 unfold dvQ
 split
 ·have:=digs_div_len' sa (val b)
  omega
 ·split
  ·simp
  ·rw [Jl]
   have:=V1 sa
   omega
where digs_div_len' {a:List Nat} (sa:Js a) (n:Nat):(digs (val a / n)).length≤a.length:=Jw (Nat.lt_of_le_of_lt (Nat.div_le_self _ _) (Zw a sa))
theorem Jcl{a b:List Nat}(sa:Js a){k:Nat}(hk:k≤blen (val a) - blen (val b))(hle:blen (val b)≤blen (val a)):(digs (val b * 2 ^ k)).length≤a.length:=by
 refine Jw ?_;have h1:=Vk (val b);have h2:=V1 sa;have e:(4294967296:Nat) ^ a.length=2 ^ (32 * a.length):=by rw [Nat.pow_mul]
 rw [e];have h3:=Nat.mul_lt_mul_of_pos_right h1 (Nat.two_pow_pos k);rw [← Nat.pow_add] at h3;exact Nat.lt_of_lt_of_le h3 (Nat.pow_le_pow_right (by omega) (by omega))
theorem dv0{a b:List Nat}(hb:0 < val b)(hle:blen (val b)≤blen (val a)):val a < val b * 2 ^ (blen (val a) - blen (val b)+1):=by
 have h:=xp (x:=val a) hb;rw [Nat.div_lt_iff_lt_mul hb,Nat.mul_comm] at h;exact h
theorem Jkp{A B R q k:Nat}(hv:A=q * B+R)(hlt:R < B * 2 ^ (k+1))(hd:q % 2 ^ (k+1)=0)(h:B * 2 ^ k≤R):
  A=(q+2 ^ k) * B+(R - B * 2 ^ k)∧R - B * 2 ^ k < B * 2 ^ k∧(q+2 ^ k) % 2 ^ k=0:=by
 refine⟨?_,?_,?_⟩
 ·rw [Nat.add_mul,Nat.mul_comm (2 ^ k)];omega
 ·rw [Nat.pow_succ,← Nat.mul_assoc] at hlt;omega
 ·obtain⟨m,hm⟩:=Nat.dvd_of_mod_eq_zero hd;rw [hm,Nat.pow_succ,Nat.mul_assoc,Nat.add_mod_right,Nat.mul_mod_right]
theorem Jo6{q k:Nat}(hd:q % 2 ^ (k+1)=0):q % 2 ^ k=0:=by
 obtain⟨m,hm⟩:=Nat.dvd_of_mod_eq_zero hd;rw [hm,Nat.pow_succ,Nat.mul_assoc,Nat.mul_mod_right]
theorem Je7{A B R q k n:Nat}(hB:0 < B)(hv:A=q * B+R)(h:B * 2 ^ k≤R)(hq:A / B < n):q+2 ^ k < n:=by
 refine Nat.lt_of_le_of_lt ?_ hq;rw [Nat.le_div_iff_mul_le hB,Nat.add_mul,Nat.mul_comm (2 ^ k)];omega
theorem Jbf{A B R q:Nat}(hv:A=q * B+R)(hlt:R < B * 2 ^ 0):q=A / B∧R=A % B:=by
 rw [Nat.pow_zero,Nat.mul_one] at hlt;have hB:0 < B:=by omega
 rw [hv,Nat.mul_comm,Nat.mul_add_div hB,Nat.div_eq_of_lt hlt,Nat.mul_add_mod,Nat.mod_eq_of_lt hlt];exact⟨rfl,rfl⟩
theorem Jf5{r:Nat}(h:r < 32):IntKind.u32.wrap ((1:Int) * 2 ^ min ((r:Nat):Int).toNat IntKind.u32.bits)=((2 ^ r:Nat):Int):=by
 have hp:=zb h;rw [Int.toNat_natCast,Nat.min_eq_left (by simp [IntKind.bits];omega),Int.one_mul];have e:(2:Int) ^ r=((2 ^ r:Nat):Int):=by simp
 rw [e]
 generalize (2:Nat) ^ r=z at *
 rw [IntWalk.u32_in _ (by omega)]
end Go.Wf
namespace Go.Wf
open Go
theorem K9{z:Int}(h:z≠0):0 < val (ofZ z).mag:=by rw [Ky];omega
theorem Jrs{z:Int}(h:z≠0):(ofZ z).mag≠[]:=fun e=>h (Zi.1 (by rw [e];rfl))
theorem Jxg{b:GInt}(h:val b.mag≠0):b.toZ≠0:=fun e=>h (yu.1 e)
theorem Jnq{m:Nat}{y:Int}(h:y≠0):(digs (m % val (ofZ y).mag)).length≤(ofZ y).mag.length:=by
 rw [Vv,Jz];exact Qk (Nat.le_of_lt (Nat.mod_lt _ (by omega)))
theorem Ji0{n:Nat}:(ofZ (Jm false n)).mag.length=0↔n=0:=by
 rw [Zi,Yx];omega
theorem Jo5{x y:Int}(hy:y≠0)(hx:(ofZ x).neg=true)(hr:val (ofZ x).mag % val (ofZ y).mag≠0):
  Jm (!(ofZ y).neg) (val (ofZ x).mag / val (ofZ y).mag+1)=x / y∧(y.natAbs:Int) - ((val (ofZ x).mag % val (ofZ y).mag:Nat):Int)=x % y:=by
 have h:=Ja7 (a:=ofZ x) (b:=ofZ y) (by have:=K9 hy;omega) hx hr;have h3:=Nat.mod_lt (val (ofZ x).mag) (K9 hy);rw [hx,Jq,Jq] at h;refine⟨?_,?_⟩
 ·rw [← h.1];cases (ofZ y).neg <;> rfl
 ·rw [← h.2];rw [Ky,Ky] at *;omega
theorem Jgi{x y:Int}(hy:y≠0)(h:(ofZ x).neg=false∨val (ofZ x).mag % val (ofZ y).mag=0):
  Jm ((ofZ x).neg != (ofZ y).neg) (val (ofZ x).mag / val (ofZ y).mag)=x / y∧((val (ofZ x).mag % val (ofZ y).mag:Nat):Int)=x % y:=by
 have h:=zl (a:=ofZ x) (b:=ofZ y) (by have:=K9 hy;omega) h
 rwa [Jq,Jq] at h
theorem Jdd{x y:Int}(hx:0≤x)(hy:0≤y):Int.gcd y (x % y)=Int.gcd x y:=by
 obtain⟨n,rfl⟩:=Int.eq_ofNat_of_zero_le hx;obtain⟨m,rfl⟩:=Int.eq_ofNat_of_zero_le hy;rw [← Int.natCast_emod,Int.gcd_natCast_natCast,Int.gcd_natCast_natCast,Nat.gcd_comm m,Nat.gcd_comm n,← Nat.gcd_rec]
theorem Jkn(x y:Int):Int.gcd ((x.natAbs:Nat):Int) ((y.natAbs:Nat):Int)=Int.gcd x y:=by
 unfold Int.gcd;rw [Int.natAbs_natCast,Int.natAbs_natCast]
theorem xl(z:Int):(ofZ ((z.natAbs:Nat):Int)).mag=(ofZ z).mag:=by rw [Vv,Vv,Int.natAbs_natCast]
theorem Jgg{x y:Int}{g:Nat}(hx:0≤x)(hg:Int.gcd x y=g)(h:(ofZ y).mag.length=0):x=(g:Int):=by
 rw [← hg,Zi.1 h,Int.gcd_zero_right];omega
theorem qy{x y:Int}(hy:0≤y)(h:(ofZ y).mag.length≠0):(x % y).natAbs < y.natAbs:=by
 have h0:y≠0:=fun e=>h (Zi.2 e);have h1:=Int.emod_nonneg x h0;have h2:=Int.emod_lt_of_pos x (show 0 < y by omega);omega
theorem Jlj{y:Int}(h:(ofZ y).mag.length≠0):val (ofZ y).mag≠0:=by
 rw [Ky];intro e;exact h (Zi.2 (by omega))
theorem Jo8{x y:Int}(h:(ofZ y).mag.length≠0):0≤x % y:=Int.emod_nonneg x fun e=>h (Zi.2 e)
theorem Jcd{x y:Int}(h:(ofZ y).mag.length≠0):(ofZ (x % y)).mag.length≤(ofZ y).mag.length:=by
 have h0:y≠0:=fun e=>h (Zi.2 e);have h1:=Int.emod_nonneg x h0;have h2:=Int.emod_lt x h0;refine Jbb ?_;omega
theorem vz{n:Nat}(h:n < 18446744073709551616):val [n % 4294967296,n / 4294967296 % 4294967296]=n:=by
 simp [val];omega
theorem Jnj{a b:GInt}(h:(a.neg != b.neg)=true):false=decide (a=b):=by
 refine(decide_eq_false ?_).symm
 rintro rfl;simp at h
theorem Jml{a b:GInt}(h:¬ ((a.mag.length:Nat):Int)=((b.mag.length:Nat):Int)):false=decide (a=b):=by
 refine(decide_eq_false ?_).symm
 rintro rfl;exact h rfl
theorem Jm9{a b:GInt}{i:Nat}(h:¬ ((a.mag.getD i 0:Nat):Int)=((b.mag.getD i 0:Nat):Int)):false=decide (a=b):=by
 refine(decide_eq_false ?_).symm
 rintro rfl;exact h rfl
theorem Jmj{a b:GInt}{i:Nat}(h:(a.neg != b.neg)=false)(hl:((a.mag.length:Nat):Int)=((b.mag.length:Nat):Int))(hi:¬ (i:Int) < ((a.mag.length:Nat):Int))(he:a.mag.take i=b.mag.take i):true=decide (a=b):=by
 refine(decide_eq_true ?_).symm
 obtain⟨an,am⟩:=a;obtain⟨bn,bm⟩:=b;rw [List.take_of_length_le (by omega),List.take_of_length_le (by simp only at *;omega)] at he;simp only at *;rw [he,show an=bn by cases an <;> cases bn <;> simp_all]
theorem Jr4{α:Type}{a b:List α}{d:α}{i:Nat}(ha:i < a.length)(hb:i < b.length)(he:a.take i=b.take i)(h:a.getD i d=b.getD i d):a.take (i+1)=b.take (i+1):=by
 rw [List.take_add_one,List.take_add_one,he];rw [List.getD_eq_getElem?_getD,List.getD_eq_getElem?_getD,List.getElem?_eq_getElem ha,List.getElem?_eq_getElem hb] at h;rw [List.getElem?_eq_getElem ha,List.getElem?_eq_getElem hb];simp only [Option.getD_some] at h;rw [h]
theorem Jry{n d:Int}(h:d.sign=0):ofQ (Rat.divInt 0 1)=ofQ (Rat.divInt n d):=by
 rw [Int.sign_eq_zero_iff_zero.1 h,Rat.divInt_zero,Rat.zero_divInt]
theorem Jw6{n d:Int}(h:d.sign < 0):(⟨ofZ (n / -((Int.gcd n d:Nat):Int)),ofZ (d / -((Int.gcd n d:Nat):Int))⟩:GRat)=ofQ (Rat.divInt n d):=by
 have hd:d < 0:=Int.sign_neg_iff.1 h;have h1:=qr (n:= -n) (d:= -d) (by omega);rw [qb] at h1;rw [← h1,Int.gcd_neg,Int.neg_gcd,Int.ediv_neg,Int.ediv_neg,Int.neg_ediv_of_dvd (Int.gcd_dvd_left ..),Int.neg_ediv_of_dvd (Int.gcd_dvd_right ..)]
theorem Jow{n d:Int}(h0:¬ d.sign=0)(h:¬ d.sign < 0):0 < d:=by
 have:=mt Int.sign_neg_iff.2 h
 have:d≠0:=fun e=>h0 (by rw [e];rfl)
 omega
theorem Jt1{n d:Int}(h:ofZ (-((Int.gcd n d:Nat):Int))=ofZ 1):False:=by
 have:=Ji2 h;omega
theorem xo_ne{n d:Int}(h0:¬ d.sign=0):Int.gcd n d≠0:=by
 intro e
 have:=(Int.gcd_eq_zero_iff.1 e).2
 exact h0 (by rw [this];rfl)
theorem Jvb{n d:Int}(h0:¬ d.sign=0):(ofZ ((Int.gcd n d:Nat):Int)).mag.length≤(ofZ d).mag.length:=Jdy fun e=>h0 (by rw [e];rfl)
end Go.Wf
namespace Go.Wf
open Go
section
variable {α:Type} {f:α→α→Int} {a b:List α} {d:α} {i:Nat}
end
mutual
def Jwg:GExpr→Bool
 | .mk _ n c s l=>decide (n.length≤80) && decide (c.num.mag.length≤8) && decide (c.den.mag.length≤8) && decide (s.length≤100) && Jk7 l
def Jk7:List GExpr→Bool
 | []=>true
 | a::l=>Jwg a && Jk7 l
end
theorem Jad{a:GExpr}{i:Nat}(hi:i < a.args.length):SizeOf.sizeOf (a.args.getD i default) < SizeOf.sizeOf a:=by
 have h1:a.args.getD i default ∈ a.args:=by
  rw [List.getD_eq_getElem?_getD,List.getElem?_eq_getElem hi];exact List.getElem_mem hi
 have h2:=List.sizeOf_lt_of_mem h1;refine Nat.lt_trans h2 ?_
 cases a
 simp only [GExpr.args];simp;omega
theorem X2{p:Nat→Prop}{i:Nat}(h:∀ j,j < i→p j)(hi:p i):∀ j,j < i+1→p j:=fun j hj=>by
 rcases Nat.lt_or_ge j i with h2 | h2
 ·exact h j h2
 ·rw [show j=i by omega];exact hi
section
variable {a b:GExpr}
end
end Go.Wf
namespace Go.Wf
open Go
def Ke(n:Nat):Bool:=decide ((97≤n∧n≤122)∨(65≤n∧n≤90))
def Yl(n:Nat):Bool:=decide (48≤n∧n≤57)
theorem Jd0{n:Nat}(h:(97≤n∧n≤122)∨(65≤n∧n≤90)):true=Ke n:=(decide_eq_true h).symm
theorem ym{n:Nat}(h:¬ ((97≤n∧n≤122)∨(65≤n∧n≤90))):false=Ke n:=(decide_eq_false h).symm
theorem ya{n:Nat}{p:Prop}[Decidable p](h:p↔((97≤n∧n≤122)∨(65≤n∧n≤90))):decide p=Ke n:=decide_eq_decide.2 h
theorem Jdw{n:Nat}(h:¬ (48≤n∧n≤57)):false=Yl n:=(decide_eq_false h).symm
theorem Jep{n:Nat}{p:Prop}[Decidable p](h:p↔(48≤n∧n≤57)):decide p=Yl n:=decide_eq_decide.2 h
def okB(c:UInt8):Bool:=Ke c.toNat || Yl c.toNat
def digB(c:UInt8):Bool:=Yl c.toNat
def X7:List (List UInt8):=[[71],[101,116,97],[116,104,101,116,97],[68,101,108,116,97],[106],[110,101,119,102,111,114,109],[86],[85],[84],[116,119,105,115,116],[115,101,114,114,101],[98,114,97,99,107,101,116]]
def Jy(s:List UInt8):Bool:=decide (1 < s.length) && decide (s.getD 0 0=69) && (s.drop 1).all digB
def Y5(s:List UInt8):Bool:=decide (s ∈ X7) || Jy s
def Kx(s:List UInt8):Bool:=decide (1≤s.length) && decide (s.length≤20) && Ke (s.getD 0 0).toNat && !Y5 s && s.all okB
theorem zj{p:UInt8→Bool}{s:List UInt8}:s.all p=true↔∀ j,j < s.length→p (s.getD j 0)=true:=by
 rw [List.all_eq_true]
 constructor
 ·intro h j hj;rw [List.getD_eq_getElem?_getD,List.getElem?_eq_getElem hj];exact h _ (List.getElem_mem hj)
 ·intro h c hc;obtain⟨j,hj,rfl⟩:=List.mem_iff_getElem.1 hc
  have:=h j hj
  rwa [List.getD_eq_getElem?_getD,List.getElem?_eq_getElem hj] at this
theorem Jjb{p:UInt8→Bool}{s:List UInt8}{j:Nat}(hj:j < s.length)(h:p (s.getD j 0)=false):s.all p=false:=
 Bool.eq_false_iff.2 fun ha=>by rw [zj.1 ha j hj] at h;cases h
theorem vp(s:List UInt8)(j:Nat):(s.drop 1).getD j 0=s.getD (j+1) 0:=by
 rw [List.getD_eq_getElem?_getD,List.getD_eq_getElem?_getD,List.getElem?_drop,Nat.add_comm]
theorem vj{n:Nat}(h:128≤n):Ke n=false:=decide_eq_false (by omega)
theorem yb{n:Nat}(h:128≤n):Yl n=false:=decide_eq_false (by omega)
theorem Jve{n:Nat}{C:Prop}(h:128≤n)(h2:Ke n=true):C:=by rw [vj h] at h2;cases h2
theorem Jo4{n:Nat}{C:Prop}(h:128≤n)(h2:Yl n=true):C:=by rw [yb h] at h2;cases h2
theorem Jph{c:UInt8}(h:Ke c.toNat=true):okB c=true:=by unfold okB;rw [h];rfl
theorem Joe{c:UInt8}(h:Yl c.toNat=true):okB c=true:=by unfold okB;rw [h,Bool.or_true]
theorem Jl9{c:UInt8}(h:Ke c.toNat=false)(h2:Yl c.toNat=false):okB c=false:=by unfold okB;rw [h,h2];rfl
theorem Ju4{c:UInt8}(h:128≤c.toNat):okB c=false:=Jl9 (vj h) (yb h)
section
variable {s:List UInt8}
theorem Jnl(h:((s.length:Nat):Int) < 1):false=Kx s:=by unfold Kx;rw [decide_eq_false (by omega)];rfl
theorem Jh4(h:(20:Int) < ((s.length:Nat):Int)):false=Kx s:=by unfold Kx;rw [decide_eq_false (show ¬ s.length≤20 by omega)];simp
theorem Jth(h:s=[]):false=Kx s:=by rw [h];rfl
theorem Jgr(h:Ke (s.getD 0 0).toNat=false):false=Kx s:=by unfold Kx;rw [h];simp
theorem Jh1{i:Nat}(h:Ke (s.getD i 0).toNat=false)(h0:((i:Nat):Int)=0):false=Kx s:=by
 have e:i=0:=by omega
 subst e;exact Jgr h
theorem Jfv{j:Nat}(hj:j < s.length)(h:okB (s.getD j 0)=false):false=Kx s:=by unfold Kx;rw [Jjb hj h];simp
theorem Jny(h:Y5 s=true):false=Kx s:=by unfold Kx;rw [h];simp
theorem Xh(h:s ∈ X7):false=Kx s:=Jny (by unfold Y5;rw [decide_eq_true h];rfl)
theorem Jn9(h1:¬ ((s.length:Nat):Int) < 1)(h2:¬ (20:Int) < ((s.length:Nat):Int))(h3:Ke (s.getD 0 0).toNat=true)(h4:Y5 s=false)(h5:∀ j,j < s.length→okB (s.getD j 0)=true):true=Kx s:=by
 unfold Kx;rw [decide_eq_true (show 1≤s.length by omega),decide_eq_true (show s.length≤20 by omega),h3,h4,zj.2 h5];rfl
theorem wt_no{j:Nat}(h1:1≤j)(hj:j < s.length)(h:Yl (s.getD j 0).toNat=false):false=Jy s:=by
 unfold Jy;rw [Jjb (p:=digB) (j:=j - 1) (by rw [List.length_drop];omega) (by rw [vp,show j - 1+1=j by omega];exact h)];simp
theorem Jwe{j:Nat}(h:∀ i,1≤i→i < j→Yl (s.getD i 0).toNat=true)(hj:s.length≤j):(s.drop 1).all digB=true:=
 zj.2 fun i hi=>by rw [vp];exact h _ (by omega) (by rw [List.length_drop] at hi;omega)
theorem Jwy(h:¬ (1:Int) < ((s.length:Nat):Int)):false=Jy s:=by unfold Jy;rw [decide_eq_false (by omega)];rfl
theorem Jwc{j:Nat}(h0:(1:Int) < ((s.length:Nat):Int))(h:∀ i,1≤i→i < j→Yl (s.getD i 0).toNat=true)(hj:¬ (j:Int) < ((s.length:Nat):Int)):decide ((((s.getD 0 0).toNat:Nat):Int)=69)=Jy s:=by
 unfold Jy;rw [decide_eq_true (show 1 < s.length by omega),Jwe h (by omega),Bool.true_and,Bool.and_true];refine decide_eq_decide.2 ⟨fun e=>?_,fun e=>by rw [e];rfl⟩;exact UInt8.toNat_inj.1 (by have:(69:UInt8).toNat=69:=rfl;omega)
theorem Jq1{i:Nat}(h:∀ j,j < i→¬ X7.getD j []=s)(hi:¬ (i:Int) < 12):Jy s=Y5 s:=by
 unfold Y5;rw [decide_eq_false,Bool.false_or];intro hm;obtain⟨j,hj,e⟩:=List.mem_iff_getElem.1 hm;refine h j ?_ ?_
 ·have:X7.length=12:=rfl
  omega
 ·rw [List.getD_eq_getElem?_getD,List.getElem?_eq_getElem hj];exact e
theorem Js5{i:Nat}(hi:i < 12)(h:X7.getD i []=s):true=Y5 s:=by
 unfold Y5;rw [decide_eq_true,Bool.true_or];rw [← h,List.getD_eq_getElem?_getD,List.getElem?_eq_getElem (show i < X7.length from hi)];exact List.getElem_mem _
theorem Jt3{j:Nat}(hj:j < s.length)(h:Yl (s.getD j 0).toNat=false):false=(s.all digB && decide (¬ s=[])):=by rw [Jjb (p:=digB) hj h];rfl
theorem dg_hi{j:Nat}(hj:j < s.length)(h:128≤(s.getD j 0).toNat):false=(s.all digB && decide (¬ s=[])):=Jt3 hj (yb h)
theorem Jns{j:Nat}(h:∀ i,i < j→Yl (s.getD i 0).toNat=true)(hj:s.length≤j){b:Bool}(hb:b=decide (¬ s=[])):b=(s.all digB && decide (¬ s=[])):=by
 rw [zj.2 fun i hi=>h i (by omega),Bool.true_and];exact hb
theorem nm_E(h0:¬ s=[])(hw:s ∉ X7)(h2:¬ (20:Int) < ((s.length:Nat):Int))(h3:Ke (s.getD 0 0).toNat=true)(h5:∀ j,j < s.length→okB (s.getD j 0)=true)(h:¬ (((s.getD 0 0).toNat:Nat):Int)=69):true=Kx s:=by
 have hp:=List.length_pos_iff.2 h0;refine Jn9 (by omega) h2 h3 ?_ h5;unfold Y5 Jy;rw [decide_eq_false hw,decide_eq_false (show ¬ s.getD 0 0=69 from fun e=>h (by rw [e];rfl))];simp
theorem nm_D(h0:¬ s=[])(hw:s ∉ X7)(h2:¬ (20:Int) < ((s.length:Nat):Int))(h3:Ke (s.getD 0 0).toNat=true)(h5:∀ j,j < s.length→okB (s.getD j 0)=true)(h:(((s.getD 0 0).toNat:Nat):Int)=69):
  (!((s.drop 1).all digB && decide (¬ s.drop 1=[])))=Kx s:=by
 have hp:=List.length_pos_iff.2 h0;have he:s.getD 0 0=69:=UInt8.toNat_inj.1 (by have:(69:UInt8).toNat=69:=rfl;omega);have hd:decide (¬ s.drop 1=[])=decide (1 < s.length):=decide_eq_decide.2 (by
  have h1:¬ s.drop 1=[]↔0 < (s.drop 1).length:=(List.length_pos_iff (l:=s.drop 1)).symm;rw [h1,List.length_drop];omega)
 have hr:Y5 s=((s.drop 1).all digB && decide (1 < s.length)):=by
  unfold Y5 Jy;rw [decide_eq_false hw,he];simp [Bool.and_comm]
 unfold Kx;rw [decide_eq_true (show 1≤s.length by omega),decide_eq_true (show s.length≤20 by omega),h3,zj.2 h5,hr,hd];simp
end
end Go.Wf
namespace Go.Wf
open Go
mutual
def cntE:GExpr→Nat
 | .mk _ _ _ _ l=>1+cntL l
def cntL:List GExpr→Nat
 | []=>0
 | a::l=>cntE a+cntL l
end
mutual
def lvlE:GExpr→Nat
 | .mk _ _ _ _ l=>lvlL l+1
def lvlL:List GExpr→Nat
 | []=>0
 | a::l=>max (lvlE a) (lvlL l)
end
theorem Vt(a:GExpr):cntE a=1+cntL a.args:=by cases a;rw [cntE];rfl
theorem Jds(a:GExpr):lvlE a=lvlL a.args+1:=by cases a;rw [lvlE];rfl
theorem zi:∀ l m:List GExpr,cntL (l++m)=cntL l+cntL m
 | [],m=>by simp [cntL]
 | a::l,m=>by rw [List.cons_append,cntL,cntL,zi l m];omega
theorem xr:∀ l m:List GExpr,lvlL (l++m)=max (lvlL l) (lvlL m)
 | [],m=>by simp [lvlL]
 | a::l,m=>by rw [List.cons_append,lvlL,lvlL,xr l m];omega
theorem Jae{l:List GExpr}{i:Nat}(h:i < l.length):l.take (i+1)=l.take i++[l.getD i default]:=by
 rw [List.take_succ_eq_append_getElem h,List.getD_eq_getElem?_getD,List.getElem?_eq_getElem h];rfl
theorem Jmc{l:List GExpr}{i:Nat}(h:i < l.length):cntL (l.take (i+1))=cntL (l.take i)+cntE (l.getD i default):=by
 rw [Jae h,zi,cntL,cntL];omega
theorem Jnh{l:List GExpr}{i:Nat}(h:i < l.length):lvlL (l.take (i+1))=max (lvlL (l.take i)) (lvlE (l.getD i default)):=by
 rw [Jae h,xr,lvlL,lvlL];omega
theorem Jcw(l:List GExpr)(i:Nat):cntL l=cntL (l.take i)+cntL (l.drop i):=by
 rw [← zi,List.take_append_drop]
theorem Y6{l:List GExpr}{i:Nat}(h:i < l.length):l.drop i=l.getD i default::l.drop (i+1):=by
 rw [List.drop_eq_getElem_cons h,List.getD_eq_getElem?_getD,List.getElem?_eq_getElem h];rfl
theorem Jiv{l:List GExpr}{i:Nat}(h:i < l.length):cntE (l.getD i default)≤cntL l:=by
 rw [Jcw l i,Y6 h,cntL];omega
theorem Jlr(a:GExpr):1≤cntE a:=by rw [Vt];omega
theorem Jh2:∀ l:List GExpr,l.length≤cntL l
 | []=>Nat.zero_le _
 | a::l=>by rw [List.length_cons,cntL];have:=Jh2 l;have:=Jlr a;omega
theorem Jqb:∀ n:Nat,(∀ a:GExpr,SizeOf.sizeOf a < n→lvlE a≤cntE a)∧∀ l:List GExpr,SizeOf.sizeOf l < n→lvlL l≤cntL l:=by
 intro n
 induction n with
 | zero=>exact⟨fun _ h=>absurd h (Nat.not_lt_zero _),fun _ h=>absurd h (Nat.not_lt_zero _)⟩
 | succ n ih=>
  refine⟨fun a h=>?_,fun l h=>?_⟩
  ·cases a with
   | mk o q c s l=>
    rw [lvlE,cntE]
    have:=ih.2 l (by simp at h;omega)
    omega
  ·cases l with
   | nil=>exact Nat.le_refl _
   | cons a l=>
    rw [lvlL,cntL];simp at h
    have:=ih.1 a (by omega)
    have:=ih.2 l (by omega)
    omega
theorem Juf(a:GExpr):lvlE a≤cntE a:=(Jqb _).1 a (Nat.lt_succ_self _)
theorem Jcr{l:List GExpr}{i:Nat}(h:l.length≤i):l.take i=l:=List.take_of_length_le h
theorem Jrk{a:GExpr}{i m z:Nat}(h:i < a.args.length)(hz:z=min (1+cntL (a.args.take i)) (m+1))(hm:z≤m):
  z+min (cntE (a.args.getD i default)) (m - z+1)=min (1+cntL (a.args.take (i+1))) (m+1):=by
 rw [Jmc h];omega
theorem Jqp{a:GExpr}{i m z:Nat}(h:a.args.length≤i)(hz:z=min (1+cntL (a.args.take i)) (m+1)):z=min (cntE a) (m+1):=by
 rw [hz,Jcr h,Vt]
theorem Jsp{a:GExpr}{i m z:Nat}(hm:m < z)(hz:z=min (1+cntL (a.args.take i)) (m+1)):z=min (cntE a) (m+1):=by
 have:=Jcw a.args i
 rw [Vt];omega
theorem Jqx{a:GExpr}{i z:Nat}(h:i < a.args.length)(hz:z=lvlL (a.args.take i)):max z (lvlE (a.args.getD i default))=lvlL (a.args.take (i+1)):=by rw [Jnh h,hz]
theorem Jog{a:GExpr}{i z:Nat}(h:a.args.length≤i)(hz:z=lvlL (a.args.take i)):z+1=lvlE a:=by rw [hz,Jcr h,Jds]
mutual
def pszE:GExpr→Nat→Nat→Nat × Bool
 | .mk _ _ _ _ l,k,v=>if 60 < k+1∨12 < v then(k+1,false) else pszL l (k+1) (v+1)
def pszL:List GExpr→Nat→Nat→Nat × Bool
 | [],k,_=>(k,true)
 | a::l,k,v=>if(pszE a k v).2=true then pszL l (pszE a k v).1 v else(pszE a k v)
end
theorem Jbg(a:GExpr)(k v:Nat):pszE a k v=if 60 < k+1∨12 < v then(k+1,false) else pszL a.args (k+1) (v+1):=by cases a;rw [pszE];rfl
theorem Jl7{l:List GExpr}{i k v:Nat}{R:Nat × Bool}(h:i < l.length)(hR:pszL (l.drop i) k v=R)(hb:(pszE (l.getD i default) k v).2=true):pszL (l.drop (i+1)) (pszE (l.getD i default) k v).1 v=R:=by
 rw [← hR,Y6 h,pszL,if_pos hb]
theorem Jl5{l:List GExpr}{i k v:Nat}{R:Nat × Bool}(h:i < l.length)(hR:pszL (l.drop i) k v=R)(hb:(pszE (l.getD i default) k v).2=false):pszE (l.getD i default) k v=R:=by
 rw [← hR,Y6 h,pszL,if_neg (by rw [hb];simp)]
theorem Jqi{l:List GExpr}{i k v:Nat}{R:Nat × Bool}(h:l.length≤i)(hR:pszL (l.drop i) k v=R):(k,true)=R:=by
 rw [← hR,List.drop_of_length_le h,pszL]
theorem Jfh:∀ n:Nat,(∀ a:GExpr,SizeOf.sizeOf a < n→∀ k v,k≤60→(pszE a k v).2=decide (k+cntE a≤60∧v+lvlE a≤13)∧((pszE a k v).2=true→(pszE a k v).1=k+cntE a))∧
  ∀ l:List GExpr,SizeOf.sizeOf l < n→∀ k v,k≤60→v≤13→(pszL l k v).2=decide (k+cntL l≤60∧v+lvlL l≤13)∧((pszL l k v).2=true→(pszL l k v).1=k+cntL l):=by
 intro n
 induction n with
 | zero=>exact⟨fun _ h=>absurd h (Nat.not_lt_zero _),fun _ h=>absurd h (Nat.not_lt_zero _)⟩
 | succ n ih=>
  refine⟨fun a h k v hk=>?_,fun l h k v hk hv=>?_⟩
  ·rw [Jbg,Vt,Jds]
   split
   ·rename_i hc
    refine⟨(decide_eq_false (by omega)).symm,fun h=>by cases h⟩
   ·rename_i hc
    obtain⟨h1,h2⟩:=ih.2 a.args (by cases a;simp [GExpr.args] at h ⊢;omega) (k+1) (v+1) (by omega) (by omega);refine⟨?_,fun hb=>by rw [h2 hb];omega⟩;rw [h1];exact decide_eq_decide.2 (by omega)
  ·cases l with
   | nil=>
    rw [pszL,cntL,lvlL];exact⟨(decide_eq_true (by omega)).symm,fun _=>rfl⟩
   | cons a l=>
    simp at h;obtain⟨h1,h2⟩:=ih.1 a (by omega) k v hk;rw [pszL,cntL,lvlL]
    by_cases hb:(pszE a k v).2=true
    ·rw [if_pos hb];have hb':=hb;rw [h1] at hb';have hd:=of_decide_eq_true hb';obtain⟨h3,h4⟩:=ih.2 l (by omega) (pszE a k v).1 v (by rw [h2 hb];omega) hv;refine⟨?_,fun hc=>by rw [h4 hc,h2 hb];omega⟩;rw [h3,h2 hb];exact decide_eq_decide.2 (by omega)
    ·rw [if_neg hb];refine⟨?_,fun hc=>absurd hc hb⟩;rw [h1] at hb ⊢;have hd:¬ (k+cntE a≤60∧v+lvlE a≤13):=fun e=>hb (decide_eq_true e);rw [decide_eq_false hd]
     exact(decide_eq_false (by omega)).symm
theorem Jg3(a:GExpr):(pszE a 0 1).2=decide (cntE a≤60∧lvlE a≤12):=by
 rw [((Jfh _).1 a (Nat.lt_succ_self _) 0 1 (by omega)).1];exact decide_eq_decide.2 (by omega)
def cA(n:Int):Int:=if n=1∨n=6∨n=7∨n=8 then 0 else if n=2 then 1 else if n=3∨n=9 then 4 else if n=4 then 2 else if n=5 then 2 else if n=10∨n=11 then 0 else if n=12∨n=13∨n=14∨n=15∨n=16 then 1 else if n=17 then 0 else 1
def cB(n:Int):Int:=if n=1∨n=6∨n=7∨n=8 then 0 else if n=2 then 1 else if n=3∨n=9 then 4 else if n=4 then 41 else if n=5 then 65 else if n=10∨n=11 then 0 else if n=12∨n=13∨n=14∨n=15∨n=16 then 1 else if n=17 then 0 else 1
def cC(n:Int):Int:=if 1≤n∧n≤9 then 0 else if n=10∨n=11 then 2 else if 12≤n∧n≤17 then 1 else 2
def cD(n:Int):Int:=if 1≤n∧n≤9 then 0 else if n=10∨n=11 then 60 else if 12≤n∧n≤17 then 1 else 2
def lA(n:Int):Int:=if n=12 then -200 else if n=13∨n=14∨n=15 then 1 else if n=18 then 0 else if n=2 then 0 else -1000000
def lB(n:Int):Int:=if n=12 then 200 else if n=13∨n=14∨n=15 then 1000 else if n=18 then 6 else 1000000
def sA(n:Int):Int:=if 1≤n∧n≤18 then cA n else 0
def sB(n:Int):Int:=if 1≤n∧n≤18 then cB n else 0
def sC(n:Int):Int:=if n=10∨n=11 then -1 else if 1≤n∧n≤18 then cC n else 0
def okOp(n:Int):Bool:=decide (1≤n∧n≤18)
theorem K2{a b c a' b' c':Int}(h1:a=a')(h2:b=b')(h3:c=c'):(Value.agg #[.int .i64 a,.int .i64 b,.int .i64 c])= .agg #[.int .i64 a',.int .i64 b',.int .i64 c']:=by rw [h1,h2,h3]
end Go.Wf
namespace Go.Wf
open Go
structure cntOk (a:GExpr):Prop where
 o1:1≤a.op
 o2:a.op≤18
 n1:cA a.op≤((a.n.length:Nat):Int)
 n2:((a.n.length:Nat):Int)≤cB a.op
 a1:cC a.op≤((a.args.length:Nat):Int)
 a2:((a.args.length:Nat):Int)≤cD a.op
structure nameOk (a:GExpr):Prop where
 e:decide (a.op=8)=Kx a.name
 s:a.op=8∨a.name=[]
 c:a.op=1∨ky a.c.q=0
def Jle(a:GExpr):Prop:=∀ i,i < a.n.length→lA a.op≤a.n.getD i 0∧a.n.getD i 0≤lB a.op
open Classical in
def Qi(a:GExpr):Int:=if cntOk a∧nameOk a then if Jle a then 0 else 2 else 3
mutual
def errE:GExpr→Int
 | .mk o n c s l=>if Qi (.mk o n c s l)=0 then errL l else Qi (.mk o n c s l)
def errL:List GExpr→Int
 | []=>0
 | a::l=>if errE a=0 then errL l else errE a
end
theorem Jam(a:GExpr):errE a=if Qi a=0 then errL a.args else Qi a:=by cases a;rw [errE];rfl
section
variable {a:GExpr}
theorem Q7(h:¬ cntOk a):3=Qi a:=by unfold Qi;rw [if_neg fun e=>h e.1]
theorem Xz(h:¬ nameOk a):3=Qi a:=by unfold Qi;rw [if_neg fun e=>h e.2]
theorem Jf6(h1:cntOk a)(h2:nameOk a){i:Nat}(hi:i < a.n.length)(h:a.n.getD i 0 < lA a.op∨lB a.op < a.n.getD i 0):2=Qi a:=by
 unfold Qi;rw [if_pos ⟨h1,h2⟩,if_neg fun e=>by have:=e i hi;omega]
theorem Jvw(h1:cntOk a)(h2:nameOk a){i:Nat}(hi:a.n.length≤i)(h:∀ j,j < i→lA a.op≤a.n.getD j 0∧a.n.getD j 0≤lB a.op):0=Qi a:=by
 unfold Qi;rw [if_pos ⟨h1,h2⟩,if_pos (show Jle a from fun j hj=>h j (by omega))]
theorem Js2(h1:cntOk a)(h2:nameOk a){i:Nat}(hi:a.n.length≤i)(h:∀ j,j < i→lA a.op≤a.n.getD j 0∧a.n.getD j 0≤lB a.op):Qi a=0:=(Jvw h1 h2 hi h).symm
theorem Xb{e:Int}(h:e=Qi a)(h0:¬ e=0):e=errE a:=by rw [Jam,if_neg (by rw [← h];exact h0)];exact h
theorem Jh6{i:Nat}(hi:i < a.args.length)(hv:errL (a.args.drop i)=errL a.args)(h:errE (a.args.getD i default)=0):errL (a.args.drop (i+1))=errL a.args:=by
 rw [← hv,Y6 hi,errL,if_pos h]
theorem Ji4{i:Nat}(h0:Qi a=0)(hi:i < a.args.length)(hv:errL (a.args.drop i)=errL a.args)(h:¬ errE (a.args.getD i default)=0):errE (a.args.getD i default)=errE a:=by
 rw [Jam a,if_pos h0,← hv,Y6 hi,errL,if_neg h]
theorem Jpi{i:Nat}(h0:Qi a=0)(hi:a.args.length≤i)(hv:errL (a.args.drop i)=errL a.args):0=errE a:=by
 rw [Jam a,if_pos h0,← hv,List.drop_of_length_le hi,errL]
end
theorem Jvv{n:Int}(h:okOp n=true):sA n=cA n:=if_pos (of_decide_eq_true h)
theorem Jgc{a:GExpr}(h:okOp a.op=true)(h1:¬ ((a.n.length:Nat):Int) < sA a.op)(h2:¬ sB a.op < ((a.n.length:Nat):Int))(h3:0≤sC a.op→((a.args.length:Nat):Int)=sC a.op)(h4:sC a.op < 0→¬ ((a.args.length:Nat):Int) < 2)(h5:a.args.length≤60):cntOk a:=by
 have hr:=of_decide_eq_true h;have hb:sB a.op=cB a.op:=if_pos hr;rw [Jvv h] at h1;rw [hb] at h2;refine⟨hr.1,hr.2,by omega,by omega,?_,?_⟩
 ·unfold sC at h3 h4;unfold cC
  (repeat' split at h3) <;> (repeat' split) <;> first | omega | (unfold cC at h3;(repeat' split at h3) <;> omega)
 ·unfold sC at h3 h4;unfold cD
  (repeat' split at h3) <;> (repeat' split) <;> first | omega | (unfold cC at h3;(repeat' split at h3) <;> omega)
theorem Jag{a:GExpr}(h:okOp a.op=false∨((a.n.length:Nat):Int) < sA a.op∨sB a.op < ((a.n.length:Nat):Int)∨(0≤sC a.op∧¬ ((a.args.length:Nat):Int)=sC a.op)∨(sC a.op < 0∧((a.args.length:Nat):Int) < 2)):¬ cntOk a:=by
 intro c;have hr:okOp a.op=true:=decide_eq_true ⟨c.o1,c.o2⟩;have hp:=of_decide_eq_true hr;have hb:sB a.op=cB a.op:=if_pos hp;rw [Jvv hr,hb,hr] at h;have c1:=c.n1;have c2:=c.n2;have c3:=c.a1;have c4:=c.a2
 rcases h with h | h | h | h | h
 ·cases h
 ·omega
 ·omega
 ·unfold sC at h;unfold cC at c3 h;unfold cD at c4
  (repeat' split at h) <;> (repeat' split at c3) <;> (repeat' split at c4) <;> omega
 ·unfold sC at h;unfold cC at c3 h;unfold cD at c4
  (repeat' split at h) <;> (repeat' split at c3) <;> (repeat' split at c4) <;> omega
theorem Jdf{a:GExpr}(h1:(a.op=8∧Kx a.name=true)∨(¬ a.op=8∧a.name=[]))(h2:a.op=1∨ky a.c.q=0):nameOk a:=by
 rcases h1 with ⟨h,h3⟩ | ⟨h,h3⟩
 ·exact⟨by rw [decide_eq_true h,h3],.inl h,h2⟩
 ·exact⟨by rw [decide_eq_false h,h3];rfl,.inr h3,h2⟩
theorem Jek{a:GExpr}(h:(a.op=8∧Kx a.name=false)∨(¬ a.op=8∧¬ a.name=[])∨(¬ a.op=1∧¬ ky a.c.q=0)):¬ nameOk a:=by
 intro c
 rcases h with ⟨h,h3⟩ | ⟨h,h3⟩ | ⟨h,h3⟩
 ·have:=c.e;rw [decide_eq_true h,h3] at this;cases this
 ·exact c.s.elim h h3
 ·exact c.c.elim h h3
def K3(a:GExpr):Int:=if cntE a≤60∧lvlE a≤12 then errE a else 7
theorem Jgu{a:GExpr}{k v:Nat}(h:60 < k+1∨12 < v):(k+1,false)=pszE a k v:=by rw [Jbg,if_pos h]
theorem Jih{a:GExpr}{k v i kk:Nat}(h:¬ (60 < k+1∨12 < v))(hi:i < a.args.length)(hR:pszL (a.args.drop i) kk (v+1)=pszL a.args (k+1) (v+1))(hb:(pszE (a.args.getD i default) kk (v+1)).2=false):pszE (a.args.getD i default) kk (v+1)=pszE a k v:=by
 rw [Jbg a,if_neg h];exact Jl5 hi hR hb
theorem Jo2{a:GExpr}{k v i kk:Nat}(h:¬ (60 < k+1∨12 < v))(hi:a.args.length≤i)(hR:pszL (a.args.drop i) kk (v+1)=pszL a.args (k+1) (v+1)):(kk,true)=pszE a k v:=by
 rw [Jbg a,if_neg h];exact Jqi hi hR
theorem pr_le{a:GExpr}{k v:Nat}(hk:k≤60)(hb:(pszE a k v).2=true):(pszE a k v).1≤60:=by
 obtain⟨h1,h2⟩:=(Jfh _).1 a (Nat.lt_succ_self _) k v hk;rw [h2 hb];rw [h1] at hb
 have:=of_decide_eq_true hb
 omega
end Go.Wf
namespace Go.Wf
open Go Go.Proofs Go.RowKit
def ItB(w:World)(g:Nat)(s:List UInt8)(pos:Nat):Prop:=w.heap[g]? =some (.stringIter ⟨s.toArray⟩ pos)
theorem ItB.lt{w:World}{g:Nat}{s:List UInt8}{pos:Nat}(h:ItB w g s pos):g < w.heap.size:=(Array.getElem?_eq_some_iff.1 h).1
structure Itr (w0:Bs) (y:Nat→Prop) (w:World) (g:Nat) (s:List UInt8) (pos:Nat):Prop where
 mem:y g
 ge:w0.heap.size≤g∨w0.M g
 blk:ItB w g s pos
section
variable {w0:Bs} {X0 x y x' y':Nat→Prop} {w w':World} {g g':Nat} {s:List UInt8} {pos:Nat}
theorem Itr.sp{ch:Nat→Prop}(h:Itr w0 y w g s pos)(p:Sp x y w x' y' w' ch)(hn:¬ ch g):Itr w0 y' w' g s pos:=⟨p.up _ h.mem,h.ge,(p.same g h.blk.lt hn).trans h.blk⟩
theorem Itr.spn(h:Itr w0 y w g s pos)(p:Sp x y w x' y' w' Zu):Itr w0 y' w' g s pos:=h.sp p id
theorem Itr.spo(h:Itr w0 y w g s pos)(p:Sp x y w x' y' w' (· =g'))(hn:g≠g'):Itr w0 y' w' g s pos:=h.sp p hn
theorem Cx.iter(C:Cx X0 w0 x y w)(s:List UInt8):
  Cx X0 w0 (fun b=>x b∨b=w.heap.size) (fun b=>y b∨b=w.heap.size) (w.alloc (.stringIter ⟨s.toArray⟩ 0))∧
  Sp x y w (fun b=>x b∨b=w.heap.size) (fun b=>y b∨b=w.heap.size) (w.alloc (.stringIter ⟨s.toArray⟩ 0)) Zu∧
  Itr w0 (fun b=>y b∨b=w.heap.size) (w.alloc (.stringIter ⟨s.toArray⟩ 0)) w.heap.size s 0:=by
 have hle:=C.below.size;refine⟨⟨C.below.trans ((Ko w _).mono hle),fun b h=> .inl (C.base b h),?_,?_⟩,⟨?_,?_,fun _ h=> .inl h,fun b hb _=>Y8 hb⟩,⟨.inr rfl,.inl hle,heap_alloc_new _ _⟩⟩
 ·rintro b (h | rfl)
  ·have:=C.bd b h;simp;omega
  ·simp
 ·rintro b (h | rfl)
  ·exact .inl (C.yx b h)
  ·exact .inr rfl
 ·refine⟨?_,fun b hb _=>Y8 hb,by simp⟩;rintro b hb (h | rfl)
  ·exact h
  ·omega
 ·refine⟨?_,fun b hb _=>Y8 hb,by simp⟩;rintro b hb (h | rfl)
  ·exact h
  ·omega
def itSet(w:World)(g:Nat)(s:List UInt8)(pos:Nat):World:={w with heap:=w.heap.setIfInBounds g (.stringIter ⟨s.toArray⟩ pos)}
theorem Cx.itSet(C:Cx X0 w0 x y w)(I:Itr w0 y w g s pos)(q:Nat):Cx X0 w0 x y (itSet w g s q)∧Sp x y w x y (itSet w g s q) (· =g)∧Itr w0 y (itSet w g s q) g s q:=by
 have hs:(Wf.itSet w g s q).heap.size=w.heap.size:=by simp [Wf.itSet]
 have ho:∀ b,b≠g→(Wf.itSet w g s q).heap[b]? =w.heap[b]? :=fun b hb=>by simp [Wf.itSet,Array.getElem?_setIfInBounds,Ne.symm hb]
 have hb:Bel ⟨w,(· =g)⟩ (Wf.itSet w g s q):=⟨rfl,rfl,rfl,by rw [hs];exact Nat.le_refl _,fun k hk hm=>ho k hm⟩;refine⟨⟨C.below.turn hb I.ge,C.base,fun b h=>by rw [hs];exact C.bd b h,C.yx⟩,⟨⟨fun _ _ h=>h,fun b hb hx=>ho b fun e=>hx (e ▸ C.yx _ I.mem),by rw [hs];exact Nat.le_refl _⟩,⟨fun _ _ h=>h,fun b hb hx=>ho b fun e=>hx (e ▸ I.mem),by rw [hs];exact Nat.le_refl _⟩,fun _ h=>h,fun b hb hn=>ho b hn⟩,⟨I.mem,I.ge,?_⟩⟩;simp [ItB,Wf.itSet,Array.getElem?_setIfInBounds,I.blk.lt]
end
section
variable {P:Program} {ρ:Operand→Value} {w:World} {K:Value→World→Prop} {Kp:List PanicEntry→World→Prop} {dst:Option Tmp} {ty:TypeId} {pos:String} {after:Array Edge} {gd:Option (Nat × Bool)} {X0 x y:Nat→Prop} {w0:Bs}
theorem J3b {t:TypeId} {a:Operand} {s:List UInt8} (C:Cx X0 w0 x y w) (ht:P.underlying t=some .string) (hx:ρ a=str s)
  (h:∀ g w' x' y',(∀ b,b < w.heap.size→b≠g)→Cx X0 w0 x' y' w'→Sp x y w x' y' w' Zu→Itr w0 y' w' g s 0→K (.pointer (some ⟨g,0,none⟩)) w'):
  St P ρ ⟨dst,.range t a,ty,pos,after,gd⟩ w K Kp:=by
 obtain⟨c,p,i⟩:=C.iter s;refine J1i (v:= .pointer (some ⟨w.heap.size,0,none⟩)) (w':=w.alloc (.stringIter ⟨s.toArray⟩ 0)) ?_ (h _ _ _ _ (fun b hb=>by omega) c p i);simp only [execOp,hx,str]
 have:=run_range_string (P:=P) w t ⟨s.toArray⟩ ht
 simp [this,World.iter]
theorem Jna{w:World}{g:Nat}{s:List UInt8}{q:Nat}{ty:TypeId}(h:ItB w g s q)(hq:s.length≤q):(Instr.next (.pointer (some ⟨g,0,none⟩)) true ty).run P w= .ok (.tuple #[.bool false]) w:=by
 have hn:¬ q < (⟨s.toArray⟩:ByteArray).size:=by simp [ByteArray.size];omega
 simp [Instr.next,getObj,Sem.run,show w.heap[g]? =_ from h,hn]
theorem Jlt{w:World}{g:Nat}{s:List UInt8}{q:Nat}{ty:TypeId}(h:ItB w g s q)(hq:q < s.length):
  (Instr.next (.pointer (some ⟨g,0,none⟩)) true ty).run P w= .ok (.tuple #[.bool true,.int .i64 q,.int .i32 (Utf8.decode ⟨s.toArray⟩ q).1]) (itSet w g s (q+(Utf8.decode ⟨s.toArray⟩ q).2)):=by
 have hn:q < (⟨s.toArray⟩:ByteArray).size:=by simp [ByteArray.size];omega
 simp [Instr.next,getObj,setObj,Sem.run,show w.heap[g]? =_ from h,hn,itSet,goInt]
theorem J3f {it:Operand} {g:Nat} {s:List UInt8} {q:Nat} (C:Cx X0 w0 x y w) (I:Itr w0 y w g s q) (hx:ρ it= .pointer (some ⟨g,0,none⟩))
  (he:s.length≤q→K (.tuple #[.bool false]) w)
  (ha:∀ w',q < s.length→(s.getD q 0).toNat < 128→Cx X0 w0 x y w'→Sp x y w x y w' (· =g)→Itr w0 y w' g s (q+1)→K (.tuple #[.bool true,.int .i64 q,.int .i32 (((s.getD q 0).toNat:Nat):Int)]) w')
  (hh:∀ w' r p,q < s.length→128≤(s.getD q 0).toNat→128≤r→Cx X0 w0 x y w'→Sp x y w x y w' (· =g)→Itr w0 y w' g s p→K (.tuple #[.bool true,.int .i64 q,.int .i32 ((r:Nat):Int)]) w'):
  St P ρ ⟨dst,.next it true,ty,pos,after,gd⟩ w K Kp:=by
 rcases Nat.lt_or_ge q s.length with hq | hq
 ·obtain⟨c,p,i⟩:=C.itSet I (q+(Utf8.decode ⟨s.toArray⟩ q).2);refine J1i (v:= .tuple #[.bool true,.int .i64 q,.int .i32 (Utf8.decode ⟨s.toArray⟩ q).1]) (w':=Wf.itSet w g s (q+(Utf8.decode ⟨s.toArray⟩ q).2)) ?_ ?_
  ·simp [execOp,hx,Jlt I.blk hq]
  ·have hn:q < (⟨s.toArray⟩:ByteArray).size:=by simp [ByteArray.size];omega
   have hb:((⟨s.toArray⟩:ByteArray)[q]'hn)=s.getD q 0:=by
    rw [List.getD_eq_getElem?_getD,List.getElem?_eq_getElem hq];rfl
   rcases Nat.lt_or_ge (s.getD q 0).toNat 128 with h1 | h1
   ·have hd:=decode_ascii ⟨s.toArray⟩ q hn (by rw [hb];exact h1);rw [hb] at hd;rw [hd] at c p i ⊢;exact ha _ hq h1 c p i
   ·have hd:=decode_high ⟨s.toArray⟩ q hn (by rw [hb];exact h1);exact hh _ _ _ hq h1 hd.1 c p i
 ·refine J1i (v:= .tuple #[.bool false]) (w':=w) ?_ (he hq);simp [execOp,hx,Jna I.blk hq]
end
section
variable {P:Program} {ρ:Operand→Value} {w:World} {K:Value→World→Prop} {Kp:List PanicEntry→World→Prop} {dst:Option Tmp} {ty:TypeId} {pos:String} {after:Array Edge} {gd:Option (Nat × Bool)} {X0 x y:Nat→Prop} {w0:Bs}
end
section
variable {P:Program} {ρ:Operand→Value} {w:World} {K:Value→World→Prop} {Kp:List PanicEntry→World→Prop} {dst:Option Tmp} {ty:TypeId} {pos:String} {after:Array Edge} {gd:Option (Nat × Bool)} {X0 x y:Nat→Prop} {w0:Bs}
def u0{τ:Type}:τ→Value→World→Prop:=fun _ v _=>∃ g,v= .slice (some ⟨g,0,none⟩) 0 0
end
section
variable {fc:Fence} [Fw fc] {P:Program} {ops:Array Oper} {n:Nat} {D:List Deferred} {Q:Post} {f0:Fr} {w0:World}
end
end Go.Wf
namespace Go.Wf
open Go Go.RowKit
section
variable {fc:Fence} [Fw fc] {P:Program} {ops:Array Oper} {n:Nat} {D:List Deferred} {Q:Post} {f0:Fr} {w0:World}
def vk{σ:Type}(P:Program)(ops:Array Oper)(Q:Post)(R R0:σ→World→σ→World→Prop)(N:σ→World→Prop)(q:Nat)(Gl:List (σ→Value→World→Prop))(f:Fr)(s:σ)(w:World):List Oper→List (List Nat)→Nat→Prop
 | o::l,d::dl,k=>
  (Deps ops Gl f s w d→(Nat.beq k q=true→N s w)→OpSt P ops f o w (fun v w'=>∃ s',(bif Nat.beq k q then R else R0) s w s' w'∧(Gl.getD k noG) s' v w') (fun ch w'=>∀ f,Q (.panic ch) f w'))∧vk P ops Q R R0 N q Gl f s w l dl (k+1)
 | _,_,_=>True
def yd{σ:Type}(R R0:σ→World→σ→World→Prop)(q:Nat):List (σ→Value→World→Prop)→Nat→Prop
 | [],_=>True
 | g::r,k=>(∀ v s w s' w',g s v w→(bif Nat.beq k q then R0 else R) s w s' w'→g s' v w')∧yd R R0 q r (k+1)
theorem yd.at{σ:Type}{R R0:σ→World→σ→World→Prop}{q:Nat}:∀ (Gl:List (σ→Value→World→Prop)) (k:Nat),yd R R0 q Gl k→∀ j v s w s' w',(Gl.getD j noG) s v w→(bif Nat.beq (k+j) q then R0 else R) s w s' w'→(Gl.getD j noG) s' v w':=by
 intro Gl
 induction Gl with
 | nil=>intro k _ j v s w s' w' _ _;simp [List.getD,noG]
 | cons g r ih=>
  intro k h j v s w s' w' hg hr
  cases j with
  | zero=>exact h.1 v s w s' w' hg hr
  | succ j=>exact ih (k+1) h.2 j v s w s' w' hg (by rw [show k+1+j=k+(j+1) by omega];exact hr)
theorem vk.at{σ:Type}{R R0:σ→World→σ→World→Prop}{N:σ→World→Prop}{q:Nat}{Gl:List (σ→Value→World→Prop)}{f:Fr}{s:σ}{w:World}:∀ (l:List Oper) (dl:List (List Nat)) (k:Nat),vk P ops Q R R0 N q Gl f s w l dl k→
  ∀ i o,l[i]? =some o→i < dl.length→Deps ops Gl f s w (dl.getD i [])→(Nat.beq (k+i) q=true→N s w)→
   OpSt P ops f o w (fun v w'=>∃ s',(bif Nat.beq (k+i) q then R else R0) s w s' w'∧(Gl.getD (k+i) noG) s' v w') (fun ch w'=>∀ f,Q (.panic ch) f w'):=by
 intro l
 induction l with
 | nil=>intro dl k _ i o h;simp at h
 | cons x l ih=>
  intro dl k hst i o ho hi
  cases dl with
  | nil=>simp at hi
  | cons d dl=>
   cases i with
   | zero=>simp at ho;subst ho;exact hst.1
   | succ i=>
    have:=ih dl (k+1) hst.2 i o (by simpa using ho) (by simpa using hi)
    intro h3 h4;rw [show k+(i+1)=k+1+i by omega] at h4 ⊢;exact this (by simpa using h3) h4
theorem Jmt {σ:Type} {s0:σ} {m q:Nat} {dl:List (List Nat)} (F:DrawFacts ops m n dl) {R R0:σ→World→σ→World→Prop} {N:σ→World→Prop} {Gl:List (σ→Value→World→Prop)}
  (htr:∀ s a t b u c,R s a t b→R t b u c→R s a u c) (h01:∀ s a t b,R0 s a t b→R s a t b) (hN:∀ s a t b,N s a→R0 s a t b→N t b) (hG:yd R R0 q Gl 0)
  (hst:∀ f s w,R s0 w0 s w→Keep (J6 ops m) f0 f→vk P ops Q R R0 N q Gl f s w ops.toList dl 0)
  (htail:∀ f s w,R s0 w0 s w→Keep (J6 ops m) f0 f→Deps ops Gl f s w (List.range m)→Sq P ops n Q (ops.toList.drop m) f w):
  ∀ (fuel:Nat) (L:Array Bool) (a:Act) (s:σ) (w:World),unl ops.size L=fuel→L.size=ops.size→Qs ops L→
   (∀ i,i < ops.size→m≤i→L.getD i true=false)→Good n D a→R s0 w0 s w→Keep (J6 ops m) f0 (frOf a)→
   (∀ j,j < m→L.getD j true=true→(Gl.getD j noG) s (frOf a (Yi ops j)) w)→(L.getD q true=false→N s w)→
   wpAnyIn fc 0 P .any ops (fun e a' w'=>Good n D a'∧Q e (frOf a') w') fuel L a w:=by
 intro fuel;have bridge:∀ (L:Array Bool),L.size=ops.size→∀ i,i < ops.size→L.getD i false=L.getD i true:=by
  intro L hs i hi
  have:L[i]? =some L[i]:=by simp [hs,hi]
  simp [Array.getD_eq_getD_getElem?,this]
 have done:∀ (L:Array Bool) (a:Act) (s:σ) (w:World),unl ops.size L=ops.size - m→L.size=ops.size→(∀ i,i < m→L.getD i true=true)→
   (∀ i,i < ops.size→m≤i→L.getD i true=false)→Good n D a→R s0 w0 s w→Keep (J6 ops m) f0 (frOf a)→
   (∀ j,j < m→L.getD j true=true→(Gl.getD j noG) s (frOf a (Yi ops j)) w)→
   wpAnyIn fc 0 P .any ops (fun e a' w'=>Good n D a'∧Q e (frOf a') w') (ops.size - m) L a w:=by
  intro L a s w _ hs hall hno ha hR hK hg;refine Jjr F (ops.size - m) m L a w (Nat.le_refl _) (by have:=F.le;omega) hs ?_ ha (htail _ _ _ hR hK (Deps.of _ fun j hj=>hg j (by simpa using hj) (hall j (by simpa using hj))));intro i hi
  constructor
  ·intro h
   rcases Nat.lt_or_ge i m with hl | hl
   ·exact hl
   ·rw [hno i hi hl] at h;cases h
  ·intro h;exact hall i h
 have cnt:∀ (L:Array Bool),(∀ i,i < m→L.getD i true=true)→(∀ i,i < ops.size→m≤i→L.getD i true=false)→unl ops.size L=ops.size - m:=by
  intro L h1 h2;have hle:=F.le
  have:∀ N,m≤N→N≤ops.size→unl N L=N - m:=by
   intro N hN
   induction N with
   | zero=>intro _;simp [unl]
   | succ N ih=>
    intro hNs;simp only [unl,List.range_succ,List.countP_append,List.countP_singleton]
    rcases Nat.eq_or_lt_of_le hN with e | hlt
    ·have:unl N L=0:=by
      refine List.countP_eq_zero.2 ?_;intro i hi;have hi':i < N:=by simpa using hi
      simp [h1 i (by omega)]
     unfold unl at this;rw [this,h1 N (by omega)];simp;omega
    ·have:=ih (by omega) (by omega)
     unfold unl at this;rw [this,h2 N (by omega) (by omega)];simp;omega
  exact this ops.size hle (Nat.le_refl _)
 induction fuel with
 | zero=>
  intro L a s w hu hs hc hno ha hR hK hg hNn;have hall:=qu hu;have hall':∀ i,i < m→L.getD i true=true:=fun i hi=>hall i (by have:=F.le;omega);have hu':=cnt L hall' hno
  have:=done L a s w hu' hs hall' hno ha hR hK hg
  rw [hu'.symm,hu] at this;exact this
 | succ fuel ih=>
  intro L a s w hu hs hc hno ha hR hK hg hNn
  by_cases hall:∀ i,i < m→L.getD i true=true
  ·have hu':=cnt L hall hno
   have:=done L a s w hu' hs hall hno ha hR hK hg
   rw [hu'.symm,hu] at this;exact this
  ·
   have hex:∃ i,i < m∧L.getD i true=false:=by
    refine Classical.byContradiction fun hn=>hall fun i hi=>?_
    cases hb:L.getD i true with
    | true=>rfl
    | false=>exact absurd ⟨i,hi,hb⟩ hn
   have hmin:∃ i,i < m∧L.getD i true=false∧∀ j,j < i→L.getD j true=true:=by
    obtain⟨i,hi,hb⟩:=hex
    induction i using Nat.strongRecOn with
    | _ i ihh=>
     by_cases h:∃ j,j < i∧L.getD j true=false
     ·obtain⟨j,hj,hjb⟩:=h;exact ihh j hj (by omega) hjb
     ·refine⟨i,hi,hb,fun j hj=>?_⟩
      cases hjb:L.getD j true with
      | true=>rfl
      | false=>exact absurd ⟨j,hj,hjb⟩ h
   obtain⟨i0,hi0,hb0,hlow⟩:=hmin;have hle:=F.le;have hr0:i0 ∈ Region.ready .any ops L:=by
    have hok:ops[i0]? =some ops[i0]:=by simp [show i0 < ops.size by omega]
    refine Ya.2 ⟨by omega,hb0,ops[i0],hok,?_⟩;intro e he hbe;have hlt:=F.back i0 _ hok e he hbe;rw [bridge L hs _ (by omega)];exact hlow _ hlt
   refine⟨(fun hnil=>by rw [hnil] at hr0;cases hr0),?_⟩;intro i hi;obtain⟨h1,h2,o,ho,h3⟩:=Ya.1 hi;have him:i < m:=by
    rcases Nat.lt_or_ge i m with hl | hl
    ·exact hl
    ·exfalso
     have:=Kw hs hc ops.size i0 i h1 (fun o' ho'=>by rw [ho] at ho';cases ho';exact h3) (F.tail i h1 hl i0 (by omega))
     rw [bridge L hs i0 (by omega),hb0] at this
     cases this
   have hdep:Deps ops Gl (frOf a) s w (dl.getD i []):=by
    refine Deps.of _ fun j hj=>?_
    obtain⟨hanc,hjm⟩:=F.deps i him j hj
    have:=Kw hs hc ops.size j i h1 (fun o' ho'=>by rw [ho] at ho';cases ho';exact h3) hanc
    rw [bridge L hs j (by omega)] at this;exact hg j hjm this
   have hstep:=vk.at ops.toList dl 0 (hst (frOf a) s w hR hK) i o (by simpa using ho) (by rw [F.len];exact him) hdep (fun e=>hNn (by rw [← Nat.zero_add i,Nat.eq_of_beq_eq_true e] at h2;exact h2));rw [Nat.zero_add] at hstep;have hsome:=F.some i him;rw [ho] at hsome;have hdi:Yi ops i=(o.dst).getD 0:=by simp [Yi,ho]
   obtain⟨d,hd⟩:=Option.isSome_iff_exists.1 hsome;simp only [Option.bind_some] at hd;have hdd:Yi ops i=d:=by rw [hdi,hd];rfl
   have hlo:=F.dst i o ho;refine z7 (Kv:=fun v w'=>∃ s',(bif Nat.beq i q then R else R0) s w s' w'∧(Gl.getD i noG) s' v w') (Kp:=fun ch w'=>∀ f,Q (.panic ch) f w') ho ha hstep ?_ ?_
   ·rintro v w' ⟨s',hRR0,hgv⟩;have hRR:R s w s' w':=by
     cases hb:Nat.beq i q with
     | true=>rw [hb] at hRR0;exact hRR0
     | false=>rw [hb] at hRR0;exact h01 _ _ _ _ hRR0
    refine ih _ _ s' _ ?_ (by simp [hs]) ?_ ?_ (ha.put _ _) (htr _ _ _ _ _ _ hR hRR) ?_ ?_ ?_
    ·have:=Jbw hs h1 h2;omega
    ·intro k hk hl o' ho' e he hb;rw [Array.getD_eq_getD_getElem?,Array.getElem?_setIfInBounds]
     by_cases e1:i=e.on
     ·subst e1;simp [hs,h1]
     ·simp only [e1,if_false];rw [← Array.getD_eq_getD_getElem?]
      by_cases e2:i=k
      ·subst e2;rw [ho] at ho';cases ho';exact h3 e he hb
      ·rw [Array.getD_eq_getD_getElem?,Array.getElem?_setIfInBounds] at hl;simp only [e2,if_false] at hl;rw [← Array.getD_eq_getD_getElem?] at hl;exact hc k hk hl o' ho' e he hb
    ·intro k hk hmk
     have:¬ i=k:=by omega
     rw [Array.getD_eq_getD_getElem?,Array.getElem?_setIfInBounds];simp only [this,if_false];rw [← Array.getD_eq_getD_getElem?];exact hno k hk hmk
    ·rw [Yt ha _ hlo,hd];intro t ht;have htd:t≠d:=by
      rintro rfl
      have:t ∈ J6 ops m:=by
       refine List.mem_filterMap.2 ⟨o,?_,hd⟩;have h':ops.toList[i]? =some o:=by simpa using ho
       have:(ops.toList.take m)[i]? =some o:=by rw [List.getElem?_take,if_pos him];exact h'
       exact List.mem_of_getElem? this
      have:(J6 ops m).contains t=true:=by simpa using this
      rw [this] at ht;cases ht
     simp only [updO,upd,htd,if_false];exact hK t ht
    ·intro j hj hl;rw [Yt ha _ hlo,hd]
     by_cases e:j=i
     ·subst e;rw [hdd];simp only [updO,upd,if_true];exact hgv
     ·have hne:Yi ops j≠d:=by rw [← hdd];exact F.apart i him j hj e
      simp only [updO,upd,hne,if_false];have e':¬ i=j:=fun h=>e h.symm;rw [Array.getD_eq_getD_getElem?,Array.getElem?_setIfInBounds] at hl;simp only [e',if_false] at hl;rw [← Array.getD_eq_getD_getElem?] at hl;have hsj:=yd.at Gl 0 hG j _ s w s' w' (hg j hj hl);rw [Nat.zero_add] at hsj
      cases hb:Nat.beq j q with
      | true=>
       have hjq:=Nat.eq_of_beq_eq_true hb;subst hjq;rw [hb] at hsj;have hbi:Nat.beq i j=false:=Bool.eq_false_iff.2 fun e=>e' (Nat.eq_of_beq_eq_true e);rw [hbi] at hRR0;exact hsj hRR0
      | false=>rw [hb] at hsj;exact hsj hRR
    ·intro hl;rw [Array.getD_eq_getD_getElem?,Array.getElem?_setIfInBounds] at hl
     by_cases e:i=q
     ·subst e;simp [hs,h1] at hl
     ·simp only [e,if_false] at hl;rw [← Array.getD_eq_getD_getElem?] at hl;have hbi:Nat.beq i q=false:=Bool.eq_false_iff.2 fun e2=>e (Nat.eq_of_beq_eq_true e2);rw [hbi] at hRR0;exact hN _ _ _ _ (hNn hl) hRR0
   ·intro c w' hq;exact hq _
theorem Jay{f:Fr}{w:World}{fn:Func}{r s q z:ResultVar}{v u x y:Value}(hr:fn.results= #[r,s,q,z])(h:resV (P:=P) f w r v)(k:resV (P:=P) f w s u)(m:resV (P:=P) f w q x)(l:resV (P:=P) f w z y):∀ tmps:Array Value,(∀ t,tmps.getD t undef=f t)→(results fn tmps).run P w= .ok (.tuple #[v,u,x,y]) w:=by
 intro tmps ht;have h1:=K1 h tmps ht;have h2:=K1 k tmps ht;have h3:=K1 m tmps ht;have h4:=K1 l tmps ht;simp only [Xo,hr,List.mapM_toArray,List.mapM_cons,List.mapM_nil,Sem.run_bind,Sem.run_map];rw [h1];simp only [Result.andThen_ok];rw [h2];simp only [Result.andThen_ok];rw [h3];simp only [Result.andThen_ok];rw [h4];simp
theorem Q8{f:Fr}{w:World}{fn:Func}{R:Ending→World→Prop}{r s q z:ResultVar}{v u x y:Value}(hr:fn.results= #[r,s,q,z])(h:resV (P:=P) f w r v)(k:resV (P:=P) f w s u)(m:resV (P:=P) f w q x)(l:resV (P:=P) f w z y)(hR:R (.returned (.tuple #[v,u,x,y])) w):retQ P fn R .ret f w:=⟨_,Jay hr h k m l,hR⟩
structure RA (X0:Nat→Prop) (b0:Bs) (s:Gh) (w:World) (s':Gh) (w':World):Prop where
 cx:Cx X0 b0 s'.1 s'.2 w'
 yy:s'.2=s.2
 ap:Ap s.1 w s'.1 s.2 w'
theorem RA.trans{X0:Nat→Prop}{b0:Bs}:∀ (s:Gh) (a:World) (t:Gh) (b:World) (u:Gh) (c:World),RA X0 b0 s a t b→RA X0 b0 t b u c→RA X0 b0 s a u c:=
 fun s a t b u c h k=>⟨k.cx,k.yy.trans h.yy,h.ap.tx.trans k.ap.tx,fun g hg hy=>(k.ap.same g (Nat.lt_of_lt_of_le hg h.ap.tx.size) (by rw [h.yy];exact hy)).trans (h.ap.same g hg hy)⟩
theorem OS.opn{α:Type}{T:Ty α}{E:TypeId}{b0:Bs}{x y:Nat→Prop}{w:World}{v:Value}{l:List α}(h:OS T E b0 x y w v l):∃ a c,v= .slice a l.length c∧OS T E b0 x y w (.slice a l.length c) l:=by
 obtain⟨a,c,rfl,_,_⟩:=h.len;exact⟨a,c,rfl,h⟩
theorem RA.step{X0:Nat→Prop}{b0:Bs}{s:Gh}{w w':World}{x':Nat→Prop}(C:Cx X0 b0 x' s.2 w')(a:Ap s.1 w x' s.2 w'):RA X0 b0 s w (x',s.2) w':=⟨C,rfl,a⟩
end
end Go.Wf
namespace Go.Wf
open Go
mutual
def okE:GExpr→Prop
 | .mk _ _ c s l=>c.num.mag.length≤1000∧c.den.mag.length≤1000∧s.length≤1000∧okL l
def okL:List GExpr→Prop
 | []=>True
 | a::l=>okE a∧okL l
end
theorem X3(a:GExpr):okE a=(a.c.num.mag.length≤1000∧a.c.den.mag.length≤1000∧a.name.length≤1000∧okL a.args):=by cases a;rw [okE];rfl
theorem Jfy:∀ {l:List GExpr},okL l↔∀ i,i < l.length→okE (l.getD i default)
 | []=>⟨fun _ i h=>absurd h (Nat.not_lt_zero _),fun _=>trivial⟩
 | a::l=>by
  rw [okL,Jfy (l:=l)]
  constructor
  ·rintro⟨h1,h2⟩ i hi
   cases i with
   | zero=>exact h1
   | succ i=>exact h2 i (by simp at hi;omega)
  ·intro h;exact⟨h 0 (by simp),fun i hi=>h (i+1) (by simp;omega)⟩
theorem Jdi{a:GExpr}{i:Nat}(h:okE a)(hi:i < a.args.length):okE (a.args.getD i default):=by
 rw [X3] at h;exact Jfy.1 h.2.2.2 i hi
theorem Jfb(a:GExpr):a.args.length < cntE a:=by rw [Vt];have:=Jh2 a.args;omega
theorem RV.n_max{X:Nat→Prop}{w:World}{v:Value}{a:GExpr}(h:RV Jg X w v a):a.n.length≤9223372036854775807:=by
 obtain⟨a1,c1,a2,c2,a3,c3,a4,c4,_,h'⟩:=J37 h;obtain⟨_,_,_,h1,h2⟩:=h'.n.len;have hml:maxLen=9223372036854775807:=rfl;omega
theorem Z3 {X:Nat→Prop} {w:World} {s1 s2 s3 s4:Value} (m:GExpr) (g1: -9223372036854775808≤m.op) (g2:m.op≤9223372036854775807) (g3:m.name.length≤maxLen)
  (h1:RS Ye X w s1 m.n) (h2:RS Jd X w s2 m.c.num.mag) (h3:RS Jd X w s3 m.c.den.mag) (h4:RS Jg X w s4 m.args):
  Jg.rd X w [.int .i64 m.op,s1,.bool m.c.num.neg,s2,.bool m.c.den.neg,s3,str m.name,s4] m:=by
 have h:=yf (b:=m.c.num.neg) (d:=m.c.den.neg) g1 g2 g3 h1 h2 h3 h4
 cases m;exact h
theorem xa{a:GExpr}(h:¬ (cntE a≤60∧lvlE a≤12)):7=K3 a:=by unfold K3;rw [if_neg h]
theorem Jlh{a:GExpr}(h:cntE a≤60∧lvlE a≤12):errE a=K3 a:=by unfold K3;rw [if_pos h]
end Go.Wf
namespace Go.Wf
open Go
def Jnb:GRat:=⟨⟨false,[]⟩,⟨false,[]⟩⟩
def Kq:GExpr:= .mk 0 [] Jnb [] []
mutual
def repE(nm:List UInt8)(y:GExpr):GExpr→GExpr
 | .mk o n c s l=>if o=8∧s=nm then y else .mk o n c s (repL nm y l)
def repL(nm:List UInt8)(y:GExpr):List GExpr→List GExpr
 | []=>[]
 | a::l=>repE nm y a::repL nm y l
end
section
variable {a y:GExpr} {nm:List UInt8} {p:List GExpr} {i:Nat}
end
theorem Jn4{α:Type}{T:Ty α}{x:Nat→Prop}{w:World}{v:Value}{l:List α}(h:RS T x w v l):l.length≤9223372036854775807:=by
 obtain⟨_,_,_,h1,h2⟩:=h.len
 have:maxLen=9223372036854775807:=rfl
 omega
theorem Jv0{x:Nat→Prop}{w:World}{v:Value}{a:GInt}(h:RV J1 x w v a):a.mag.length≤9223372036854775807:=by
 obtain⟨_,_,_,h1⟩:=RV.int h;exact Jn4 h1
end Go.Wf
namespace Go.Wf
open Go
inductive Rr (α:Type) where
 | ok (a:α) (p:Nat)
 | er (e:Int) (p:Nat)
def Rr.th{α β:Type}(x:Rr α)(f:α→Nat→Rr β):Rr β:=match x with
 | .ok a p=>f a p
 | .er e p=> .er e p
theorem Rr.th_ok{α β:Type}(a:α)(p:Nat)(f:α→Nat→Rr β):(Rr.ok a p).th f=f a p:=rfl
def spM(s:List UInt8)(p:Nat):Nat:=p+((s.drop p).takeWhile (fun c=>decide (c.toNat=32))).length
def hdM(s:List UInt8)(p:Nat):Nat:=(s.getD (spM s p) 0).toNat
def folB(s:List UInt8)(p c:Nat):Bool:=decide (spM s p < s.length∧hdM s p=c)
def tkM(s:List UInt8)(p c:Nat):Rr Unit:=if folB s p c then .ok () (spM s p+1) else .er 19 (spM s p)
def opnM(s:List UInt8)(o p:Nat):Rr Unit:=if folB s p 40 then(if o=64 then .er 7 (spM s p) else .ok () (spM s p+1)) else .er 19 (spM s p)
def digL(s:List UInt8)(p:Nat):List UInt8:=(s.drop p).takeWhile digB
def dgsM(s:List UInt8)(p:Nat):Rr (List UInt8):=
 if digL s (spM s p)=[] then .er 19 (spM s p) else .ok (digL s (spM s p)) (spM s p+(digL s (spM s p)).length)
def Je(d:List UInt8):Nat:=d.foldl (fun n c=>n * 10+(c.toNat - 48)) 0
def fpM(s:List UInt8)(p c:Nat):Nat:=if folB s p c then spM s p+1 else spM s p
def intM(s:List UInt8)(p:Nat):Rr Int:=(dgsM s (fpM s p 45)).th fun d q=>
 if 1000000 < Je d then .er 2 (spM s p) else .ok (if folB s p 45 then -(Je d:Int) else(Je d:Int)) q
def Xd(s:List UInt8)(c:Nat):Nat→List Int→Nat→Rr (List Int)
 | 0,_,p=> .er 0 p
 | k+1,l,p=>if folB s p 44 then(intM s (spM s p+1)).th fun i q=>Xd s c k (l++[i]) q
  else(tkM s p c).th fun _ q=> .ok l q
def Kn(s:List UInt8)(c p:Nat):Rr (List Int):=(intM s p).th fun i q=>Xd s c (s.length+1) [i] q
def eNum(n d:Int):GExpr:= .mk 1 [] (ofQ (Rat.divInt n d)) [] []
def eOp(op:Int)(n:List Int)(l:List GExpr):GExpr:= .mk op n Jnb [] l
def Jc4(w:List UInt8):GExpr:= .mk 8 [] Jnb w []
def numM(s:List UInt8)(p:Nat):Rr GExpr:=(dgsM s p).th fun n q=>
 if folB s q 47 then(dgsM s (spM s q+1)).th fun d q'=>
  if Je d=0 then .er 19 (spM s (spM s q+1)) else .ok (eNum (Je n) (Je d)) q'
 else .ok (eNum (Je n) 1) (spM s q)
def Jr(s:List UInt8)(p:Nat):List UInt8:=(s.drop p).takeWhile okB
section
variable (s:List UInt8) (S:Nat→Nat→Rr GExpr)
def oneM(op:Int)(two:Bool)(o p:Nat):Rr GExpr:=(opnM s o p).th fun _ p1=>(intM s p1).th fun n p2=>(tkM s p2 44).th fun _ p3=>(S (o+1) p3).th fun a p4=>
 if two then(tkM s p4 44).th fun _ p5=>(S (o+1) p5).th fun b p6=>(tkM s p6 41).th fun _ p7=> .ok (eOp op [n] [a,b]) p7
 else(tkM s p4 41).th fun _ p5=> .ok (eOp op [n] [a]) p5
def Vr(op:Int)(o p:Nat):Rr GExpr:=(opnM s o p).th fun _ p1=>(Kn s 41 p1).th fun l p2=> .ok (eOp op l []) p2
def twoM(op:Int)(o p:Nat):Rr GExpr:=(opnM s o p).th fun _ p1=>(intM s p1).th fun n p2=>(tkM s p2 41).th fun _ p3=>(tkM s p3 91).th fun _ p4=>
 (Kn s 93 p4).th fun l p5=> .ok (eOp op (n::l) []) p5
def serM(o p:Nat):Rr GExpr:=(opnM s o p).th fun _ p1=>(S (o+1) p1).th fun a p2=>(tkM s p2 41).th fun _ p3=> .ok (eOp 17 [] [a]) p3
def Xi(w:List UInt8)(q o p:Nat):Rr GExpr:=
 if w=[68,101,108,116,97] then .ok (eOp 6 [] []) p
 else if w=[106] then .ok (eOp 7 [] []) p
 else if w=[71] then Vr s 3 o p
 else if w=[110,101,119,102,111,114,109] then Vr s 9 o p
 else if w=[101,116,97] then twoM s 4 o p
 else if w=[116,104,101,116,97] then twoM s 5 o p
 else if w=[86] then oneM s S 13 false o p
 else if w=[85] then oneM s S 14 false o p
 else if w=[84] then oneM s S 15 false o p
 else if w=[116,119,105,115,116] then oneM s S 16 false o p
 else if w=[98,114,97,99,107,101,116] then oneM s S 18 true o p
 else if w=[115,101,114,114,101] then serM s S o p
 else if Kx w then .ok (Jc4 w) p else .er 19 q
def Jx(o p:Nat):Rr (GExpr × Bool):=
 if Yl (hdM s p) then(numM s (spM s p)).th fun a q=> .ok (a,true) q
 else if hdM s p=40 then(opnM s o (spM s p)).th fun _ p1=>(S (o+1) p1).th fun a p2=>(tkM s p2 41).th fun _ p3=> .ok (a,false) p3
 else if Ke (hdM s p) then
  let w:=Jr s (spM s p)
  let q:=spM s p+w.length
  if Jy w then(if 1000000 < Je (w.drop 1) then .er 2 (spM s p+1) else .ok (eOp 2 [(Je (w.drop 1):Int)] [],false) q)
  else(Xi s S w (spM s p) o q).th fun a q=> .ok (a,false) q
 else .er 19 (spM s p)
def powM(o p:Nat):Rr (GExpr × Bool):=(Jx s S o p).th fun a q=>
 if folB s q 94 then(intM s (spM s q+1)).th fun n q'=> .ok (eOp 12 [n] [a.1],false) q' else .ok a (spM s q)
def Jbz(o:Nat):Nat→List GExpr→Nat→Rr (List GExpr)
 | 0,_,p=> .er 0 p
 | k+1,l,p=>if folB s p 42 then(powM s S o (spM s p+1)).th fun a q=>Jbz o k (l++[a.1]) q else .ok l (spM s p)
def Kc(op:Int)(l:List GExpr):GExpr:=match l with
 | [a]=>a
 | l=>eOp op [] l
def negE(a:GExpr):GExpr:= .mk a.op a.n (ofQ (-a.c.q)) a.name a.args
def negL(minus plain:Bool)(l:List GExpr):List GExpr:=
 if minus then(if plain then negE (l.getD 0 default)::l.drop 1 else eNum (-1) 1::l) else l
def Zx(minus:Bool)(o p:Nat):Rr GExpr:=(powM s S o p).th fun a q=>(Jbz s S o (s.length+1) [a.1] q).th fun l q'=> .ok (Kc 11 (negL minus a.2 l)) q'
def sumL(o:Nat):Nat→List GExpr→Nat→Rr (List GExpr)
 | 0,_,p=> .er 0 p
 | k+1,l,p=>if folB s p 43 then(Zx s S false o (spM s p+1)).th fun a q=>sumL o k (l++[a]) q
  else if folB s p 45 then(Zx s S true o (spM s p+1)).th fun a q=>sumL o k (l++[a]) q else .ok l (spM s p)
def sumF(o p:Nat):Rr GExpr:=(Zx s S (folB s p 45) o (fpM s p 45)).th fun a q=>(sumL s S o (s.length+1) [a] q).th fun l q'=> .ok (Kc 10 l) q'
end
def sumM(s:List UInt8):Nat→Nat→Nat→Rr GExpr
 | 0,_,p=> .er 0 p
 | k+1,o,p=>sumF s (sumM s k) o p
def zc(s:List UInt8):Rr GExpr:=(sumM s (s.length+1) 0 0).th fun a p=>if spM s p < s.length then .er 19 (spM s p) else .ok a 0
def Z4(s:List UInt8):GExpr × Nat × Int:=if 4000 < s.length then(Kq,0,7) else match zc s with
 | .er e p=>(Kq,p,e)
 | .ok a _=>if K3 a=0 then(a,0,0) else(Kq,0,K3 a)
theorem K7{s:List UInt8}{p:Nat}:p≤spM s p:=Nat.le_add_right _ _
theorem xb{α:Type}(f:α→Bool):∀ l:List α,(l.takeWhile f).length≤l.length
 | []=>Nat.le_refl _
 | a::l=>by
  rw [List.takeWhile_cons];split
  ·simp only [List.length_cons];have:=xb f l;omega
  ·exact Nat.zero_le _
theorem Yh{s:List UInt8}{p:Nat}(h:p≤s.length):spM s p≤s.length:=by
 unfold spM
 have:=xb (fun c:UInt8=>decide (c.toNat=32)) (s.drop p)
 rw [List.length_drop] at this;omega
theorem Vw{s:List UInt8}{p:Nat}(h:p < s.length):s.drop p=s.getD p 0::s.drop (p+1):=by
 rw [List.drop_eq_getElem_cons h,List.getD_eq_getElem?_getD,List.getElem?_eq_getElem h];rfl
theorem Jdu{s:List UInt8}{p:Nat}(h:p < s.length)(h2:(s.getD p 0).toNat=32):spM s (p+1)=spM s p:=by
 unfold spM;rw [Vw h,List.takeWhile_cons,if_pos (decide_eq_true h2),List.length_cons];omega
theorem Jdk{s:List UInt8}{p:Nat}(h2:¬ (s.getD p 0).toNat=32):spM s p=p:=by
 unfold spM
 by_cases h:p < s.length
 ·rw [Vw h,List.takeWhile_cons,if_neg (by rw [decide_eq_true_eq];exact h2)];rfl
 ·rw [List.drop_eq_nil_of_le (by omega)];rfl
theorem Jks{s:List UInt8}{p:Nat}(h:s.length≤p):spM s p=p:=by
 unfold spM;rw [List.drop_eq_nil_of_le h];rfl
theorem Jld:∀ (n:Nat) (s:List UInt8) (p:Nat),s.length≤p+n→¬ (s.getD (spM s p) 0).toNat=32
 | 0,s,p,h=>by rw [Jks (by omega),List.getD_eq_getElem?_getD,List.getElem?_eq_none (by omega)];decide
 | n+1,s,p,h=>by
  by_cases h1:p < s.length
  ·by_cases h2:(s.getD p 0).toNat=32
   ·rw [← Jdu h1 h2];exact Jld n s (p+1) (by omega)
   ·rw [Jdk h2];exact h2
  ·rw [Jks (by omega),List.getD_eq_getElem?_getD,List.getElem?_eq_none (by omega)];decide
theorem vb(s:List UInt8)(p:Nat):spM s (spM s p)=spM s p:=Jdk (Jld s.length s p (by omega))
theorem Jem{s:List UInt8}{p c:Nat}(h1:spM s p < s.length)(h2:hdM s p=c):folB s p c=true:=decide_eq_true ⟨h1,h2⟩
theorem qx{s:List UInt8}{p c:Nat}(h:¬ (spM s p < s.length∧hdM s p=c)):folB s p c=false:=decide_eq_false h
theorem Z9{s:List UInt8}{p c:Nat}:folB s p c=true↔spM s p < s.length∧hdM s p=c:=decide_eq_true_iff
theorem Jen(s:List UInt8)(p:Nat):hdM s (spM s p)=hdM s p:=by unfold hdM;rw [vb]
theorem xg(s:List UInt8)(p c:Nat):folB s (spM s p) c=folB s p c:=by unfold folB;rw [vb,Jen]
theorem xf{s:List UInt8}{p c:Nat}:p≤fpM s p c:=by
 unfold fpM;have:=K7 (s:=s) (p:=p);split <;> omega
theorem Yu{s:List UInt8}{p c:Nat}(h:p≤s.length):fpM s p c≤s.length:=by
 unfold fpM;have:=Yh h
 split
 ·rename_i hf;exact(Z9.1 hf).1
 ·exact this
theorem Jd5{s:List UInt8}{i p:Nat}(hR:spM s i=spM s p)(h:s.length≤i):i=spM s p:=by rw [← hR,Jks h]
theorem Jwk{s:List UInt8}{i p:Nat}(hR:spM s i=spM s p)(h:s.length≤i):(0:Int)=((hdM s p:Nat):Int):=by
 unfold hdM;rw [← Jd5 hR h,List.getD_eq_getElem?_getD,List.getElem?_eq_none h];rfl
theorem Ji7{s:List UInt8}{i p:Nat}(hR:spM s i=spM s p)(h:¬ (s.getD i 0).toNat=32):i=spM s p:=by rw [← hR,Jdk h]
theorem pk_at{s:List UInt8}{i p:Nat}(hR:spM s i=spM s p)(h:¬ (s.getD i 0).toNat=32):(((s.getD i 0).toNat:Nat):Int)=((hdM s p:Nat):Int):=by
 unfold hdM;rw [← Ji7 hR h]
theorem Jhv{α:Type}(f:α→Bool):∀ l:List α,l.takeWhile f=l.take (l.takeWhile f).length
 | []=>rfl
 | a::l=>by
  rw [List.takeWhile_cons];split
  ·rw [List.length_cons,List.take_succ_cons,← Jhv f l]
  ·rfl
section
variable {f:UInt8→Bool} {s:List UInt8} {i p:Nat}
theorem Jan(h:i < s.length)(h2:f (s.getD i 0)=true):(i+1)+((s.drop (i+1)).takeWhile f).length=i+((s.drop i).takeWhile f).length:=by
 rw [Vw h,List.takeWhile_cons,if_pos h2,List.length_cons];omega
theorem Jcg(h:s.length≤i):(s.drop i).takeWhile f=[]:=by rw [List.drop_eq_nil_of_le h];rfl
theorem Jap(h2:f (s.getD i 0)=false):(s.drop i).takeWhile f=[]:=by
 by_cases h:i < s.length
 ·rw [Vw h,List.takeWhile_cons,if_neg (by rw [h2];decide)]
 ·exact Jcg (by omega)
theorem Jd8(h0:(s.drop i).takeWhile f=[])(hR:i+((s.drop i).takeWhile f).length=p+((s.drop p).takeWhile f).length):i=p+((s.drop p).takeWhile f).length:=by
 rw [h0] at hR;exact hR
theorem Jpj(h0:(s.drop i).takeWhile f=[])(hR:i+((s.drop i).takeWhile f).length=p+((s.drop p).takeWhile f).length):(s.take i).drop p=(s.drop p).takeWhile f:=by
 have h:=Jd8 h0 hR;rw [List.drop_take,Jhv f (s.drop p)]
 congr 1;omega
end
theorem Jas{s:List UInt8}{i:Nat}(h:i < s.length)(h2:Ke (s.getD i 0).toNat=true∨Yl (s.getD i 0).toNat=true):(i+1)+(Jr s (i+1)).length=i+(Jr s i).length:=by
 refine Jan h ?_;unfold okB
 rcases h2 with h2 | h2
 ·rw [h2];rfl
 ·rw [h2,Bool.or_true]
theorem Jak{s:List UInt8}{i:Nat}(h1:¬ Ke (s.getD i 0).toNat=true)(h2:¬ Yl (s.getD i 0).toNat=true):Jr s i=[]:=
 Jap (Jl9 (Bool.eq_false_iff.2 h1) (Bool.eq_false_iff.2 h2))
theorem Jex{s:List UInt8}{i:Nat}(h:s.length≤i):Jr s i=[]:=Jcg h
theorem Je6{s:List UInt8}{i p:Nat}(h0:Jr s i=[])(hR:i+(Jr s i).length=p+(Jr s p).length):(s.take i).drop p=Jr s p:=Jpj h0 hR
theorem Jao{s:List UInt8}{i p:Nat}(h0:Jr s i=[])(hR:i+(Jr s i).length=p+(Jr s p).length):i=p+(Jr s p).length:=Jd8 h0 hR
theorem Js4{s:List UInt8}{i p:Nat}(h0:digL s i=[])(hR:i+(digL s i).length=spM s p+(digL s (spM s p)).length)(hc:i=spM s p):dgsM s p= .er 19 i:=by
 have h:digL s (spM s p)=[]:=by rw [← hc];exact h0
 unfold dgsM;rw [if_pos h,hc]
theorem Jsd{s:List UInt8}{i p:Nat}(h0:digL s i=[])(hR:i+(digL s i).length=spM s p+(digL s (spM s p)).length)(hc:¬ i=spM s p):dgsM s p= .ok ((s.take i).drop (spM s p)) i:=by
 have h1:=Jd8 (f:=digB) h0 hR;have h:¬ digL s (spM s p)=[]:=fun h=>by
  have:(digL s (spM s p)).length=0:=by rw [h];rfl
  unfold digL at this;omega
 unfold dgsM;rw [if_neg h,Jpj (f:=digB) h0 hR];unfold digL;rw [← h1]
def Rr.fw{α:Type}(s:List UInt8)(p:Nat)(x:Rr α):Prop:=match x with
 | .ok _ q=>p≤q∧q≤s.length
 | .er _ q=>q≤s.length
theorem Rr.fw_th{α β:Type}{s:List UInt8}{p:Nat}{x:Rr α}{f:α→Nat→Rr β}(h:x.fw s p)(hf:∀ a q,p≤q→q≤s.length→(f a q).fw s q):(x.th f).fw s p:=by
 cases x with
 | ok a q=>
  rw [Rr.th_ok]
  have:=hf a q h.1 h.2
  cases hx:f a q with
  | ok b r=>rw [hx] at this;exact⟨Nat.le_trans h.1 this.1,this.2⟩
  | er e r=>rw [hx] at this;exact this
 | er e q=>exact h
theorem Rr.fw_mono{α:Type}{s:List UInt8}{p q:Nat}{x:Rr α}(h:x.fw s q)(hp:p≤q):x.fw s p:=by
 cases x with
 | ok a r=>exact⟨Nat.le_trans hp h.1,h.2⟩
 | er e r=>exact h
theorem Rr.fw_ite{α:Type}{c:Prop}[Decidable c]{s:List UInt8}{p:Nat}{x y:Rr α}(hx:x.fw s p)(hy:y.fw s p):(if c then x else y).fw s p:=by split <;> assumption
theorem Ka{s:List UInt8}{p c:Nat}(h:p≤s.length):(tkM s p c).fw s (p+1):=by
 unfold tkM;have h1:=K7 (s:=s) (p:=p)
 split
 ·rename_i hf;exact⟨by omega,(Z9.1 hf).1⟩
 ·exact Yh h
theorem Zv{s:List UInt8}{o p:Nat}(h:p≤s.length):(opnM s o p).fw s (p+1):=by
 unfold opnM;have h1:=K7 (s:=s) (p:=p)
 split
 ·rename_i hf
  split
  ·exact Yh h
  ·exact⟨by omega,(Z9.1 hf).1⟩
 ·exact Yh h
theorem V8{s:List UInt8}{p:Nat}(h:p≤s.length):(dgsM s p).fw s (p+1):=by
 unfold dgsM;have h1:=K7 (s:=s) (p:=p);have h2:=Yh h;have h3:=xb digB (s.drop (spM s p));rw [List.length_drop] at h3
 split
 ·exact h2
 ·rename_i hn
  have:0 < (digL s (spM s p)).length:=List.length_pos_iff.2 hn
  unfold digL at this ⊢;exact⟨by omega,by omega⟩
theorem Yc{s:List UInt8}{p:Nat}(h:p≤s.length):(intM s p).fw s p:=by
 unfold intM;refine Rr.fw_th (Rr.fw_mono (V8 (Yu h)) (by have:=xf (s:=s) (p:=p) (c:=45);omega)) fun d q h1 h2=>?_
 split
 ·exact Yh h
 ·exact⟨Nat.le_refl _,h2⟩
theorem Jgo{s:List UInt8}{c:Nat}:∀ (k:Nat) (l:List Int) (p:Nat),p≤s.length→(Xd s c k l p).fw s p
 | 0,l,p,h=>h
 | k+1,l,p,h=>by
  unfold Xd;have h1:=K7 (s:=s) (p:=p)
  split
  ·rename_i hf
   exact Rr.fw_mono (Rr.fw_th (Yc (Z9.1 hf).1) fun i q _ hq=>Jgo k _ q hq) (by omega)
  ·exact Rr.fw_th (Rr.fw_mono (Ka h) (by omega)) fun _ q _ hq=>⟨Nat.le_refl _,hq⟩
theorem Jbk{s:List UInt8}{c p:Nat}(h:p≤s.length):(Kn s c p).fw s p:=Rr.fw_th (Yc h) fun i q _ hq=>Jgo _ _ q hq
theorem Joy{s:List UInt8}{p:Nat}(h:p≤s.length):(numM s p).fw s p:=by
 unfold numM;refine Rr.fw_th (Rr.fw_mono (V8 h) (by omega)) fun n q h1 h2=>?_
 have h3:=K7 (s:=s) (p:=q)
 split
 ·rename_i hf
  have h4:=(Z9.1 hf).1;refine Rr.fw_mono (Rr.fw_th (Rr.fw_mono (V8 (p:=spM s q+1) h4) (Nat.le_succ _)) fun d r h5 h6=>?_) (by omega)
  split
  ·exact Yh h4
  ·exact⟨Nat.le_refl _,h6⟩
 ·exact⟨h3,Yh h2⟩
section
variable {s:List UInt8} {S:Nat→Nat→Rr GExpr} (hS:∀ o p,p≤s.length→(S o p).fw s p)
include hS
theorem Jb8{op:Int}{two:Bool}{o p:Nat}(h:p≤s.length):(oneM s S op two o p).fw s p:=by
 unfold oneM;refine Rr.fw_th (Rr.fw_mono (Zv h) (Nat.le_succ _)) fun _ p1 _ h1=>Rr.fw_th (Yc h1) fun n p2 _ h2=>Rr.fw_th (Rr.fw_mono (Ka h2) (Nat.le_succ _)) fun _ p3 _ h3=>Rr.fw_th (hS _ _ h3) fun a p4 _ h4=>?_
 split
 ·exact Rr.fw_th (Rr.fw_mono (Ka h4) (Nat.le_succ _)) fun _ p5 _ h5=>Rr.fw_th (hS _ _ h5) fun b p6 _ h6=>Rr.fw_th (Rr.fw_mono (Ka h6) (Nat.le_succ _)) fun _ p7 _ h7=>⟨Nat.le_refl _,h7⟩
 ·exact Rr.fw_th (Rr.fw_mono (Ka h4) (Nat.le_succ _)) fun _ p5 _ h5=>⟨Nat.le_refl _,h5⟩
theorem Jw7{o p:Nat}(h:p≤s.length):(serM s S o p).fw s p:=
 Rr.fw_th (Rr.fw_mono (Zv h) (Nat.le_succ _)) fun _ p1 _ h1=>Rr.fw_th (hS _ _ h1) fun a p2 _ h2=>Rr.fw_th (Rr.fw_mono (Ka h2) (Nat.le_succ _)) fun _ p3 _ h3=>⟨Nat.le_refl _,h3⟩
omit hS in
theorem Jka{op:Int}{o p:Nat}(h:p≤s.length):(Vr s op o p).fw s p:=
 Rr.fw_th (Rr.fw_mono (Zv h) (Nat.le_succ _)) fun _ p1 _ h1=>Rr.fw_th (Jbk h1) fun l p2 _ h2=>⟨Nat.le_refl _,h2⟩
omit hS in
theorem Jos{op:Int}{o p:Nat}(h:p≤s.length):(twoM s op o p).fw s p:=
 Rr.fw_th (Rr.fw_mono (Zv h) (Nat.le_succ _)) fun _ p1 _ h1=>Rr.fw_th (Yc h1) fun n p2 _ h2=>Rr.fw_th (Rr.fw_mono (Ka h2) (Nat.le_succ _)) fun _ p3 _ h3=>
  Rr.fw_th (Rr.fw_mono (Ka h3) (Nat.le_succ _)) fun _ p4 _ h4=>Rr.fw_th (Jbk h4) fun l p5 _ h5=>⟨Nat.le_refl _,h5⟩
theorem Jq7{w:List UInt8}{q o p:Nat}(h:p≤s.length)(hq:q≤s.length):(Xi s S w q o p).fw s p:=by
 unfold Xi;have e:∀ a:GExpr,(Rr.ok a p).fw s p:=fun a=>⟨Nat.le_refl _,h⟩;refine Rr.fw_ite (e _) (Rr.fw_ite (e _) (Rr.fw_ite (Jka h) (Rr.fw_ite (Jka h) (Rr.fw_ite (Jos h) (Rr.fw_ite (Jos h) ?_)))));refine Rr.fw_ite (Jb8 hS h) (Rr.fw_ite (Jb8 hS h) (Rr.fw_ite (Jb8 hS h) (Rr.fw_ite (Jb8 hS h) (Rr.fw_ite (Jb8 hS h) (Rr.fw_ite (Jw7 hS h) (Rr.fw_ite (e _) hq))))))
theorem Xf{o p:Nat}(h:p≤s.length):(Jx s S o p).fw s p:=by
 have h1:=K7 (s:=s) (p:=p);have h2:=Yh h;have hw:spM s p+(Jr s (spM s p)).length≤s.length:=by
  have:=xb okB (s.drop (spM s p))
  rw [List.length_drop] at this;unfold Jr;omega
 unfold Jx
 split
 ·exact Rr.fw_mono (Rr.fw_th (Joy h2) fun a q _ hq=>⟨Nat.le_refl _,hq⟩) h1
 split
 ·exact Rr.fw_mono (Rr.fw_th (Rr.fw_mono (Zv h2) (Nat.le_succ _)) fun _ p1 _ h3=>Rr.fw_th (hS _ _ h3) fun a p2 _ h4=>Rr.fw_th (Rr.fw_mono (Ka h4) (Nat.le_succ _)) fun _ p3 _ h5=>⟨Nat.le_refl _,h5⟩) h1
 split
 ·dsimp only
  split
  ·rename_i hwt
   split
   ·have:0 < (Jr s (spM s p)).length:=by
     unfold Jy at hwt;simp only [Bool.and_eq_true,decide_eq_true_eq] at hwt;omega
    show _≤_
    omega
   ·exact⟨by omega,hw⟩
  ·exact Rr.fw_mono (Rr.fw_th (Jq7 hS hw h2) fun a q _ hq=>⟨Nat.le_refl _,hq⟩) (by omega)
 ·exact h2
theorem q5{o p:Nat}(h:p≤s.length):(powM s S o p).fw s p:=by
 unfold powM;refine Rr.fw_th (Xf hS h) fun a q h1 h2=>?_
 have h3:=K7 (s:=s) (p:=q)
 split
 ·rename_i hf
  exact Rr.fw_mono (Rr.fw_th (Yc (Z9.1 hf).1) fun n r _ hr=>⟨Nat.le_refl _,hr⟩) (by omega)
 ·exact⟨h3,Yh h2⟩
theorem Jfz{o:Nat}:∀ (k:Nat) (l:List GExpr) (p:Nat),p≤s.length→(Jbz s S o k l p).fw s p
 | 0,l,p,h=>h
 | k+1,l,p,h=>by
  unfold Jbz;have h1:=K7 (s:=s) (p:=p)
  split
  ·rename_i hf
   exact Rr.fw_mono (Rr.fw_th (q5 hS (Z9.1 hf).1) fun a q _ hq=>Jfz k _ q hq) (by omega)
  ·exact⟨h1,Yh h⟩
theorem Y2{minus:Bool}{o p:Nat}(h:p≤s.length):(Zx s S minus o p).fw s p:=
 Rr.fw_th (q5 hS h) fun a q _ hq=>Rr.fw_th (Jfz hS _ _ q hq) fun l r _ hr=>⟨Nat.le_refl _,hr⟩
theorem Jed{o:Nat}:∀ (k:Nat) (l:List GExpr) (p:Nat),p≤s.length→(sumL s S o k l p).fw s p
 | 0,l,p,h=>h
 | k+1,l,p,h=>by
  unfold sumL;have h1:=K7 (s:=s) (p:=p)
  split
  ·rename_i hf
   exact Rr.fw_mono (Rr.fw_th (Y2 hS (Z9.1 hf).1) fun a q _ hq=>Jed k _ q hq) (by omega)
  split
  ·rename_i hf
   exact Rr.fw_mono (Rr.fw_th (Y2 hS (Z9.1 hf).1) fun a q _ hq=>Jed k _ q hq) (by omega)
  ·exact⟨h1,Yh h⟩
theorem Jsl{o p:Nat}(h:p≤s.length):(sumF s S o p).fw s p:=
 Rr.fw_mono (Rr.fw_th (Y2 hS (Yu h)) fun a q _ hq=>Rr.fw_th (Jed hS _ _ q hq) fun l r _ hr=>⟨Nat.le_refl _,hr⟩) xf
end
theorem V9{s:List UInt8}:∀ (k o p:Nat),p≤s.length→(sumM s k o p).fw s p
 | 0,o,p,h=>h
 | k+1,o,p,h=>Jsl (V9 k) h
end Go.Wf
namespace Go.Wf
open Go Go.RowKit
structure OW {α:Type} (T:Ty α) (E:TypeId) (x:Nat→Prop) (w:World) (v:Value) (l:List α):Prop where
 ex:∃ css:List (List Value),css.length=l.length∧(∀ (i:Nat) (cs:List Value) (u:α),css[i]? =some cs→l[i]? =some u→T.rd x w cs u)∧w.ownsRow 0 E T.sz v l.length css.flatten
section
variable {α:Type} {T:Ty α} {E:TypeId} {X X0 x y:Nat→Prop} {w w':World} {w0:Bs} {v:Value} {l:List α}
theorem OW.opn(h:OW T E X w v l):∃ a c,v= .slice a l.length c∧l.length≤c∧c≤maxLen:=by
 obtain⟨⟨css,h1,h2,h3⟩⟩:=h
 rcases h3.2 with ⟨rfl,h⟩ | ⟨g,cap,cur,rfl,_,_,h4,h5,_⟩
 ·exact⟨none,0,by rw [h],by omega,by unfold maxLen;omega⟩
 ·exact⟨_,cap,rfl,h4,h5⟩
theorem OW.start(h:OW T E X w v l)(hX:∀ b,X b→b < w.heap.size)(hm:∀ k,v.ownBlock=some k→X k):
  ∃ M:Nat→Prop,Cx X ⟨w,M⟩ X Zu w∧OS T E ⟨w,M⟩ X Zu w v l∧∀ k,M k→v.ownBlock=some k:=
 ⟨fun k=>v.ownBlock=some k,⟨Bel.refl _,fun _ h=>h,hX,fun _ h=>h.elim⟩,⟨h.ex,fun k hk=>⟨⟨hm k hk,id⟩,.inr hk⟩⟩,fun _ h=>h⟩
theorem OS.ow(h:OS T E w0 x y w v l):OW T E x w v l:=⟨h.ex⟩
theorem OS.take{a:Option Addr}{n c j:Nat}(h:OS T E w0 x y w (.slice a n c) l)(hj:j≤l.length):OS T E w0 x y w (.slice a j c) (l.take j):=by
 obtain⟨⟨css,h1,h2,h3⟩,hm⟩:=h;have hall:=Xq h1 h2;have hfl:∀ (css:List (List Value)) (j:Nat),(∀ cs ∈ css,cs.length=T.sz)→j≤css.length→(css.take j).flatten=css.flatten.take (j * T.sz)∧(css.take j).flatten.length=j * T.sz:=by
  intro css
  induction css with
  | nil=>intro j _ hj;simp at hj;subst hj;simp
  | cons cs css ih=>
   intro j hh hj
   cases j with
   | zero=>simp
   | succ j=>
    obtain⟨e1,e2⟩:=ih j (fun q hq=>hh q (by simp [hq])) (by simpa using hj);have h0:=hh cs (by simp);rw [List.take_succ_cons,List.flatten_cons,List.flatten_cons,List.take_append,e1,Nat.succ_mul,h0];refine⟨?_,?_⟩
    ·rw [show cs.take (j * T.sz+T.sz)=cs from List.take_of_length_le (by omega),show j * T.sz+T.sz - T.sz=j * T.sz by omega]
    ·rw [List.length_append,← e1,e2,h0];omega
 obtain⟨e1,e2⟩:=hfl css j hall (by omega);refine⟨⟨css.take j,by rw [List.length_take,List.length_take];omega,fun i cs u hi hu=>?_,?_⟩,fun k hk=>hm k (by cases a <;> simp [Value.ownBlock] at hk ⊢ <;> exact hk)⟩
 ·rw [List.getElem?_take] at hi hu
  split at hi
  ·rename_i hlt
   rw [if_pos hlt] at hu;exact h2 i cs u hi hu
  ·cases hi
 ·have hjl:(l.take j).length=j:=by rw [List.length_take];omega
  rw [hjl];refine⟨e2,?_⟩
  rcases h3.2 with ⟨e,h⟩ | ⟨g,cap,cur,e,hb,hg,h4,h5,h6,h7⟩
  ·cases e
   left
   refine⟨by rw [show j=0 by omega],by omega⟩
  ·injection e with e3 e4 e5
   subst e3;subst e5
   right
   refine⟨g,c,cur,rfl,hb,hg,by omega,h5,h6,?_⟩;rw [e1,← h7,List.take_take,Nat.min_eq_left (Nat.mul_le_mul_right _ hj)]
end
section
variable {P:Program} {ρ:Operand→Value} {w:World} {K:Value→World→Prop} {Kp:List PanicEntry→World→Prop} {dst:Option Tmp} {ty:TypeId} {pos:String} {after:Array Edge} {gd:Option (Nat × Bool)} {X0 x y:Nat→Prop} {w0:Bs} {α:Type} {T:Ty α} {E:TypeId}
theorem J2w {a i:Operand} {t e:TypeId} {z:Value} {by_:Nat} {ad:Option Addr} {n c:Nat} {l:List α} {k:IntKind} {m:Int} {j:Nat} (ho:OS T E w0 x y w (.slice ad n c) l) (ht:P.underlying t=some (.slice e)) (hi:Zn P e=some (z,T.sz,by_))
  (hx:ρ a= .slice ad n c) (hy:ρ i= .int k m) (hm:m=j) (hj:j < l.length)
  (h:K (.pointer (ad.map (·.add (j * T.sz)))) w):St P ρ ⟨dst,.indexAddr t a i,ty,pos,after,gd⟩ w K Kp:=by
 obtain⟨inf,hi',_,hs,_⟩:=J5 hi;obtain⟨⟨css,h1,h2,h3⟩,hmm⟩:=ho
 rcases h3.2 with ⟨e1,h4⟩ | ⟨g,cap,cur,e1,hb,hg,h4,h5,_⟩
 ·omega
 ·cases e1
  refine J2j ht hi' hs hx hy hm hj ?_;have h8:(Value.pointer (Option.map (fun x=>x.add (j * T.sz)) (some (⟨g,0,none⟩:Addr))))= .pointer (some ⟨g,0+j * T.sz,none⟩):=by simp [Addr.add];intro h;exact h.symm
  rw [h8] at h;exact h
end
section
variable {P:Program} {ρ:Operand→Value} {w:World} {K:Value→World→Prop} {Kp:List PanicEntry→World→Prop} {dst:Option Tmp} {ty:TypeId} {pos:String} {after:Array Edge} {gd:Option (Nat × Bool)} {X0 x y:Nat→Prop} {w0:Bs}
theorem J24 {e:TypeId} {z:Value} {sz by_:Nat} {vs:List Value} (C:Cx X0 w0 x y w) (hi:Zn P e=some (z,sz,by_)) (hv:z.cells=vs.toArray)
  (h:∀ g w' x' y',(∀ b,b < w.heap.size→b≠g)→Cx X0 w0 x' y' w'→Sp x y w x' y' w' Zu→Own w0 y' w' g vs e→(∀ b,x b→x' b)→K (.pointer (some ⟨g,0,none⟩)) w'):
  St P ρ ⟨dst,.alloc e,ty,pos,after,gd⟩ w K Kp:=by
 obtain⟨i,hi',hz,_,_⟩:=J5 hi;exact St.alloc hi' hz hv (h _ _ _ _ (fun b hb=>by omega) (C.box vs e).1 (C.box vs e).2.1 (C.box vs e).2.2 fun _ h=> .inl h)
end
section
variable {P:Program} {ρ:Operand→Value} {w:World} {K:Value→World→Prop} {Kp:List PanicEntry→World→Prop} {dst:Option Tmp} {ty:TypeId} {pos:String} {after:Array Edge} {gd:Option (Nat × Bool)} {X0 x y:Nat→Prop} {w0:Bs}
theorem J2c {α:Type} {T:Ty α} {E t:TypeId} {z u:Value} {by_ g n:Nat} {l m:List α} {a b:Operand} (C:Cx X0 w0 x y w) (ht:P.underlying t=some (.slice E)) (hi:Zn P E=some (z,T.sz,by_)) (hx:ρ a= .slice (some ⟨g,0,none⟩) n n) (hy:ρ b=u)
  (hv:RS T x w (.slice (some ⟨g,0,none⟩) n n) l) (hs:Src T x w u m) (h63:l.length+m.length≤maxLen) (hby:(l.length+m.length) * by_≤140737488355328) (hz:z.cells.size=T.sz)
  (h:∀ v' w',Cx X0 w0 x y w'→Sp x y w x y w' Zu→RS T x w' v' (l++m)→K v' w'):
  St P ρ ⟨dst,.call {callee:= .builtin .append,args:= #[a,b],argTypes:= #[t,t]},ty,pos,after,gd⟩ w K Kp:=by
 obtain⟨inf,hi',hz',hsz,hbyt⟩:=J5 hi;obtain⟨css',k1,k2,ad,c,rfl,k3⟩:=hs;have hal':=Xq k1 k2;obtain⟨_,_,e0,hn0,hc0⟩:=hv.len;obtain⟨rfl⟩:n=l.length:=by injection e0
 have hfl:∀ (css:List (List Value)),(∀ cs ∈ css,cs.length=T.sz)→css.flatten.length=css.length * T.sz:=by
  intro css
  induction css with
  | nil=>intro _;simp
  | cons c css ih=>intro hh;rw [List.flatten_cons,List.length_append,hh c (by simp),ih fun cs h=>hh cs (by simp [h]),List.length_cons,Nat.succ_mul];omega
 by_cases hml:m=[]
 ·subst hml;have hcss':css'=[]:=List.eq_nil_of_length_eq_zero (by simpa using k1);subst hcss';have hrun:(Builtin.append_ #[t,t] ty #[.slice (some ⟨g,0,none⟩) l.length l.length,.slice ad ([]:List α).length c]).run P w= .ok (.slice (some ⟨g,0,none⟩) l.length l.length) w:=by
   cases ad <;> simp [Builtin.append_,run_underlying ht,sizeOf,typeInfo,hi',Builtin.lenOf,Builtin.firstCells,loadCells,loadCellsFrom,storeCells]
  refine J1i (v:= .slice (some ⟨g,0,none⟩) l.length l.length) (w':=w) (by simp only [List.length_nil] at hrun hy;simp [execOp,resolve,invoke,builtin,hx,hy,hrun]) (h _ _ C Sp.refl (by rw [List.append_nil];exact hv))
 ·rcases k3 with k3 | ⟨bb,oo,rfl,hcell⟩
  ·exact absurd k3 hml
  have hmpos:0 < m.length:=List.length_pos_iff.2 hml;have hnl:css'.flatten.length=m.length * T.sz:=by rw [hfl css' hal',k1]
  have hnews:∀ j u,css'.flatten[j]? =some u→w.cell? ((⟨bb,oo,none⟩:Addr).add j)=some u:=fun j u hj=>by rw [Addr.add_lit];exact hcell j u hj
  obtain⟨⟨css,h1,h2,ad2,c2,e2,h3⟩⟩:=Kb hv;have hal:=Xq h1 h2;have hcl:css.flatten.length=l.length * T.sz:=by rw [hfl css hal,h1]
  have holds:∀ j u,css.flatten[j]? =some u→w.cell? ((⟨g,0,none⟩:Addr).add j)=some u:=by
   intro j u hj
   rcases h3 with h3 | ⟨b3,o3,e3,h3⟩
   ·subst h3
    have:css=[]:=List.eq_nil_of_length_eq_zero (by simpa using h1)
    subst this;simp at hj
   ·injection e2 with e4 _ _
    rw [e3] at e4
    injection e4 with e4
    injection e4 with e5 e6 _
    subst e5;subst e6;rw [Addr.add_lit];exact h3 j u hj
  have hr:=run_append_grow (P:=P) w t ty E inf z ht hi' hz' ⟨g,0,none⟩ l.length l.length css.flatten (by rw [hcl,hsz]) holds ⟨bb,oo,none⟩ m.length c css'.flatten (by rw [hnl,hsz]) hnews (by omega) (by simp only [maxLen] at h63;omega) (by rw [hbyt];exact growslice_fits (by omega) hby);have hlen:(css.flatten++css'.flatten).length=(l.length+m.length) * T.sz:=by rw [List.length_append,hnl,hcl,Nat.add_mul]
  have hB:=((Below.refl w.heap.size w).drew).alloc (Nat.le_refl _) (.cells (css.flatten.toArray++css'.flatten.toArray++Builtin.zeroCells z.cells (grownCap w (l.length+m.length) l.length E - (l.length+m.length))) E);obtain⟨C',S'⟩:=C.next hB;have ho:OS T E w0 (fun b=>x b∨b=w.heap.size) y (w.drew.alloc (.cells (css.flatten.toArray++css'.flatten.toArray++Builtin.zeroCells z.cells (grownCap w (l.length+m.length) l.length E - (l.length+m.length))) E)) (.slice (some ⟨w.heap.size,0,none⟩) (l++m).length (grownCap w (l.length+m.length) l.length E)) (l++m):=by
   have hT:Tr x w (fun b=>x b∨b=w.heap.size) (w.drew.alloc (.cells (css.flatten.toArray++css'.flatten.toArray++Builtin.zeroCells z.cells (grownCap w (l.length+m.length) l.length E - (l.length+m.length))) E)):=⟨by
    rintro b hb (h | rfl)
    ·exact h
    ·exact absurd hb (Nat.lt_irrefl _),S'.tx.blk,S'.tx.size⟩
   refine⟨⟨css++css',by simp [h1,k1],?_,by rw [List.flatten_append,hlen,List.length_append],.inr ⟨w.heap.size,_,_,by rw [List.length_append],Nat.zero_le _,heap_alloc_new w.drew _,by rw [List.length_append];exact grownCap_ge w _ _ E,grownCap_le_maxLen w _ _ E h63,?_,?_⟩⟩,fun k hk=>?_⟩
   ·intro i cs u hic hiu;rw [List.getElem?_append] at hic hiu
    by_cases hil:i < l.length
    ·rw [if_pos (by omega)] at hic;rw [if_pos hil] at hiu;exact T.tr (h2 i cs u hic hiu) hT
    ·rw [if_neg (by omega)] at hic;rw [if_neg hil] at hiu;rw [h1] at hic;exact T.tr (k2 _ cs u hic hiu) hT
   ·have hge:=grownCap_ge w (l.length+m.length) l.length E;simp only [Array.size_append,List.size_toArray,size_zeroCells,hz,hnl,hcl,← Nat.add_mul]
    congr 1;omega
   ·simp only [Array.toList_append,List.append_assoc,List.flatten_append];rw [← List.append_assoc,List.length_append,← hlen];exact List.take_left
   ·simp [Value.ownBlock] at hk;subst hk;exact⟨⟨.inr rfl,fun hy=>by have:=C.bd _ (C.yx _ hy);omega⟩,.inl C.below.size⟩
  refine J1i (v:= .slice (some ⟨w.heap.size,0,none⟩) (l++m).length (grownCap w (l.length+m.length) l.length E)) (w':=_) (by
   rw [List.length_append];simp [execOp,resolve,invoke,builtin,hx,hy,hr]) (h _ _ C' S' (ho.pub (fun _ h=> .inl h) fun k hk=>by
   simp [Value.ownBlock] at hk;subst hk;exact fun hx=>by have:=C.bd _ hx;omega))
end
end Go.Wf
namespace Go.Wf
open Go Go.Proofs
abbrev rc(s:List UInt8)(p o:Nat):List Value:=[str s,.int .i64 ((p:Nat):Int),.int .i64 ((o:Nat):Int)]
def flt(e:Int)(p:Nat):PanicEntry:={v:= .iface 82 (.agg #[.int .i64 e,.int .i64 ((p:Nat):Int)]),recovered:=false}
def RetP{α:Type}(w:World)(g:Nat)(x:Rr α)(Φ:α→Nat→Value→World→Prop):Ending→World→Prop
 | .returned v,w'=>(∃ a q,x= .ok a q∧Φ a q v w')∧Bel ⟨w,(· =g)⟩ w'
 | .panicked ch,w'=>(∃ e q,x= .er e q∧ch=[flt e q])∧Bel ⟨w,(· =g)⟩ w'
 | .outgrown,_=>False
theorem RetP.ok{α:Type}{w w':World}{g:Nat}{x:Rr α}{Φ:α→Nat→Value→World→Prop}{v:Value}{a:α}{q:Nat}(hx:x= .ok a q)(h:Φ a q v w')(b:Bel ⟨w,(· =g)⟩ w'):RetP w g x Φ (.returned v) w':=⟨⟨a,q,hx,h⟩,b⟩
theorem RetP.er{α:Type}{w w':World}{g:Nat}{x:Rr α}{Φ:α→Nat→Value→World→Prop}{e:Int}{q:Nat}(hx:x= .er e q)(b:Bel ⟨w,(· =g)⟩ w'):RetP w g x Φ (.panicked [flt e q]) w':=⟨⟨e,q,hx,rfl⟩,b⟩
section
variable {P:Program} {ρ:Operand→Value} {dst:Option Tmp} {ty:TypeId} {pos:String} {after:Array Edge} {gd:Option (Nat × Bool)}
 {w:World} {K:Value→World→Prop} {Kp:List PanicEntry→World→Prop} {X0 x y:Nat→Prop} {w0:Bs}
theorem J1w {α:Type} {k:FuncId} {args:Array Operand} {ts:Array TypeId} {vs:List Value} {g:Nat} {cs:List Value} {T:TypeId} {m:Rr α} {Φ:α→Nat→Value→World→Prop} {cs':α→Nat→List Value}
  (C:Cx X0 w0 x y w) (o:Own w0 y w g cs T) (hk:Jb P k=true)
  (ha:args.toList.map ρ=vs) (he:ρ (.func k)= .func (.func k) #[] #[]) (hc:Calls P k vs.toArray w (RetP w g m fun a q v w'=>Φ a q v w'∧Blk w' g (cs' a q) T))
  (hp:∀ w' e q,m= .er e q→Bel w0 w'→Kp [flt e q] w')
  (h:∀ v w' a q,m= .ok a q→Cx X0 w0 x y w'→Sp x y w x y w' (· =g)→Own w0 y w' g (cs' a q) T→Φ a q v w'→K v w'):
  St P ρ ⟨dst,.call {callee:= .value (.func k),args:=args,argTypes:=ts},ty,pos,after,gd⟩ w K Kp:=by
 unfold Jb at hk
 split at hk
 ·rename_i fn hf
  simp only [Bool.and_eq_true,Bool.not_eq_true'] at hk;refine J23 hf hk.1 hk.2 ha (Calls.mono hc ?_) he;intro e w' hr
  cases e with
  | returned v=>
   obtain⟨⟨a,q,hx,h1,hb⟩,h2⟩:=hr;obtain⟨c,s,o'⟩:=C.turn o h2 hb;exact h v w' a q hx c s o' h1
  | panicked ch=>
   obtain⟨⟨e,q,hx,rfl⟩,h2⟩:=hr;exact hp w' e q hx (C.below.turn h2 o.ge)
  | outgrown=>exact hr.elim
 ·cases hk
theorem J2t{x:Operand}{t:TypeId}{v:Value}(hx:ρ x= .iface t v)(h:Kp [{v:= .iface t v,recovered:=false}] w):St P ρ ⟨dst,.panic x,ty,pos,after,gd⟩ w K Kp:=by
 unfold St;have hr:(execOp ρ ⟨dst,.panic x,ty,pos,after,gd⟩).run P w= .halt (.panic (.iface t v)) w:=by
  have hp:Sem.run P (Instr.panic (.iface t v)) w= .halt (.panic (.iface t v)) w:=rfl;simp [execOp,hx,hp]
 rw [hr];exact h
end
theorem Zg{α:Type}{w w':World}{g:Nat}{x:Rr α}{e:Int}{q:Nat}(hx:x= .er e q)(b:Bel ⟨w,(· =g)⟩ w'):(∃ e' q',x= .er e' q'∧[flt e q]=[flt e' q'])∧Bel ⟨w,(· =g)⟩ w':=⟨⟨e,q,hx,rfl⟩,b⟩
structure RZ (X0:Nat→Prop) (b0:Bs) (s:Gh) (w:World) (s':Gh) (w':World):Prop where
 eq:s'=s
 cx:Cx X0 b0 s'.1 s'.2 w'
 sp:Sp s.1 s.2 w s'.1 s'.2 w' Zu
structure RT (X0:Nat→Prop) (b0:Bs) (g:Nat) (s:Gh) (w:World) (s':Gh) (w':World):Prop where
 eq:s'=s
 cx:Cx X0 b0 s'.1 s'.2 w'
 sp:Sp s.1 s.2 w s'.1 s'.2 w' (· =g)
section
variable {fc:Fence} [Fw fc] {P:Program} {ops:Array Oper} {n:Nat} {D:List Deferred} {Q:Post} {f0:Fr} {w0:World} {X0 x y:Nat→Prop} {b0:Bs} {g:Nat}
theorem RT.of:∀ (s:Gh) (a:World) (t:Gh) (b:World),RZ X0 b0 s a t b→RT X0 b0 g s a t b:=fun _ _ _ _ r=>⟨r.eq,r.cx,r.sp.wide⟩
theorem RT.trans:∀ (s:Gh) (a:World) (t:Gh) (b:World) (u:Gh) (c:World),RT X0 b0 g s a t b→RT X0 b0 g t b u c→RT X0 b0 g s a u c:=fun _ _ _ _ _ _ h k=>⟨k.eq.trans h.eq,k.cx,h.sp.transW k.sp⟩
theorem RT.step{w w':World}(C:Cx X0 b0 x y w')(S:Sp x y w x y w' (· =g)):RT X0 b0 g (x,y) w (x,y) w':=⟨rfl,C,S⟩
theorem RZ.same{s:Gh}{w:World}(C:Cx X0 b0 s.1 s.2 w):RZ X0 b0 s w s w:=⟨rfl,C,Sp.refl⟩
theorem RZ.go{s:Gh}{w w':World}(C:Cx X0 b0 s.1 s.2 w')(S:Sp s.1 s.2 w s.1 s.2 w' Zu):RZ X0 b0 s w s w':=⟨rfl,C,S⟩
theorem RT.up{s:Gh}{w w':World}(r:RT X0 b0 g (x,y) w s w'):∀ b,x b→s.1 b:=fun _ h=>by rw [r.eq];exact h
theorem tSl{α:Type}{T:Ty α}{m:List α}:∀ v s w s' w',fs T m s v w→RT X0 b0 g s w s' w'→fs T m s' v w':=fun _ _ _ _ _ h r=>RS.tr h r.sp.tx
theorem J2f {cs:List Value} {T:TypeId} {id:Nat} (hm:P.follows .mixedOrders=true) (m q:Nat) (dl:List (List Nat)) (C:Cx X0 b0 x y w0) (ho:Own b0 y w0 g cs T)
  (Gl:List (Gh→Value→World→Prop)) (chk:xk ops m n dl=true) (hG:yd (RT X0 b0 g) (RZ X0 b0) q Gl 0)
  (h:∀ f s w,RT X0 b0 g (x,y) w0 s w→Keep (J6 ops m) f0 f→vk P ops Q (RT X0 b0 g) (RZ X0 b0) (fun s w=>Own b0 s.2 w g cs T) q Gl f s w ops.toList dl 0∧(Deps ops Gl f s w (List.range m)→Sq P ops n Q (ops.toList.drop m) f w)):
  W fc P (Code.region id ops true) n D Q f0 w0:=by
 intro a ha hf;have F:=Vp chk;refine wpIn_region_any hm ?_;have hz:∀ i,i < ops.size→(Array.replicate ops.size false).getD i true=false:=by
  intro i hi;simp [Array.getD_eq_getD_getElem?,hi]
 have c0:RZ X0 b0 (x,y) w0 (x,y) w0.drew:=⟨rfl,(J2l C).cx,(J2l C).sp⟩;refine Jmt (R:=RT X0 b0 g) F RT.trans RT.of (fun s a t b o r=>o.spn r.sp) hG (fun f s w r k=>(h f s w r k).1) (fun f s w r k=>(h f s w r k).2) ops.size _ a (x,y) _ ?_ (by simp) ?_ (fun i hi _=>hz i hi) ha (RT.of _ _ _ _ c0) (fun t _=>by rw [hf]) ?_ (fun _=>ho.spn c0.sp)
 ·unfold unl
  have:(List.range ops.size).countP (fun i=> !(Array.replicate ops.size false).getD i true)=(List.range ops.size).length:=by
   refine List.countP_eq_length.2 ?_;intro i hi;simp [hz i (by simpa using hi)]
  rw [this];simp
 ·intro k hk hl;rw [hz k hk] at hl;cases hl
 ·intro j hj hl;rw [hz j (by have:=F.le;omega)] at hl;cases hl
end
end Go.Wf
namespace Go.Wf
open Go Go.Proofs
theorem pl2:Y1 Tryz.prog 2=true:=by kernel_rfl
theorem io3:Zn Tryz.prog 3=some (.int .i64 0,1,8):=by kernel_rfl
theorem pl3:Y1 Tryz.prog 3=true:=by kernel_rfl
theorem pl4:Y1 Tryz.prog 4=true:=by kernel_rfl
theorem io5:Zn Tryz.prog 5=some (.int .u8 0,1,1):=by kernel_rfl
theorem pl5:Y1 Tryz.prog 5=true:=by kernel_rfl
theorem io9:Zn Tryz.prog 9=some (str [],1,16):=by kernel_rfl
theorem pl9:Y1 Tryz.prog 9=true:=by kernel_rfl
theorem io23:Zn Tryz.prog 23=some (.slice none 0 0,1,24):=by kernel_rfl
theorem pl23:Y1 Tryz.prog 23=true:=by kernel_rfl
theorem io24:Zn Tryz.prog 24=some (.slice none 0 0,1,24):=by kernel_rfl
theorem pl24:Y1 Tryz.prog 24=true:=by kernel_rfl
theorem io26:Zn Tryz.prog 26=some (.agg #[.bool false,.slice none 0 0],2,32):=by kernel_rfl
theorem ag26:vd Tryz.prog 26 2=true:=by kernel_rfl
theorem io28:Zn Tryz.prog 28=some (.agg #[.bool false,.slice none 0 0,.bool false,.slice none 0 0],4,64):=by kernel_rfl
theorem ag28:vd Tryz.prog 28 4=true:=by kernel_rfl
theorem io29:Zn Tryz.prog 29=some (.slice none 0 0,1,24):=by kernel_rfl
theorem pl29:Y1 Tryz.prog 29=true:=by kernel_rfl
theorem io31:Zn Tryz.prog 31=some (.agg #[.int .i64 0,.slice none 0 0,.bool false,.slice none 0 0,.bool false,.slice none 0 0,str [],.slice none 0 0],8,136):=by kernel_rfl
theorem ag31:vd Tryz.prog 31 8=true:=by kernel_rfl
theorem io32:Zn Tryz.prog 32=some (.int .i64 0,1,8):=by kernel_rfl
theorem pl32:Y1 Tryz.prog 32=true:=by kernel_rfl
theorem Jh:Zn Tryz.prog 118=some (.int .u32 0,1,4):=by kernel_rfl
theorem Zf:Y1 Tryz.prog 118=true:=by kernel_rfl
theorem sl23:Tryz.prog.underlying 23=some (.slice 3):=by kernel_rfl
theorem sl24:Tryz.prog.underlying 24=some (.slice 118):=by kernel_rfl
theorem sl29:Tryz.prog.underlying 29=some (.slice 31):=by kernel_rfl
theorem sl50:Tryz.prog.underlying 50=some (.slice 9):=by kernel_rfl
theorem Jha:Tryz.prog.underlying 158=some (.slice 5):=by kernel_rfl
theorem un3:Tryz.prog.underlying 3=some (.int .i64):=by kernel_rfl
theorem us3:(Tryz.prog.underlying 3).isSome=true:=by kernel_rfl
theorem un5:Tryz.prog.underlying 5=some (.int .u8):=by kernel_rfl
theorem us5:(Tryz.prog.underlying 5).isSome=true:=by kernel_rfl
theorem Yp:Tryz.prog.underlying 118=some (.int .u32):=by kernel_rfl
theorem Yb:(Tryz.prog.underlying 118).isSome=true:=by kernel_rfl
theorem Z6:Tryz.prog.underlying 140=some (.int .u64):=by kernel_rfl
theorem Yj:(Tryz.prog.underlying 140).isSome=true:=by kernel_rfl
theorem Jm1:Tryz.prog.underlying 110=some (.int .u64):=by kernel_rfl
theorem un9:Tryz.prog.underlying 9=some .string:=by kernel_rfl
theorem un4:Tryz.prog.underlying 4=some .bool:=by kernel_rfl
theorem Zq:Zl Tryz.prog 26 0=some 0:=by kernel_rfl
theorem J4:Zl Tryz.prog 26 1=some 1:=by kernel_rfl
theorem X6:Zl Tryz.prog 28 0=some 0:=by kernel_rfl
theorem Kr:Zl Tryz.prog 28 1=some 2:=by kernel_rfl
theorem Zk:Zl Tryz.prog 31 0=some 0:=by kernel_rfl
theorem Ki:Zl Tryz.prog 31 1=some 1:=by kernel_rfl
theorem Qo:Zl Tryz.prog 31 2=some 2:=by kernel_rfl
theorem xc:Zl Tryz.prog 31 3=some 6:=by kernel_rfl
theorem Ys:Zl Tryz.prog 31 4=some 7:=by kernel_rfl
theorem cb9:Jb Tryz.prog 9=true:=by kernel_rfl
theorem cb10:Jb Tryz.prog 10=true:=by kernel_rfl
theorem cb11:Jb Tryz.prog 11=true:=by kernel_rfl
theorem cb12:Jb Tryz.prog 12=true:=by kernel_rfl
theorem cb14:Jb Tryz.prog 14=true:=by kernel_rfl
theorem cb18:Jb Tryz.prog 18=true:=by kernel_rfl
theorem cb19:Jb Tryz.prog 19=true:=by kernel_rfl
theorem cb20:Jb Tryz.prog 20=true:=by kernel_rfl
theorem cb21:Jb Tryz.prog 21=true:=by kernel_rfl
theorem cb30:Jb Tryz.prog 30=true:=by kernel_rfl
theorem cb31:Jb Tryz.prog 31=true:=by kernel_rfl
theorem cb32:Jb Tryz.prog 32=true:=by kernel_rfl
theorem cb33:Jb Tryz.prog 33=true:=by kernel_rfl
theorem cb34:Jb Tryz.prog 34=true:=by kernel_rfl
theorem cb35:Jb Tryz.prog 35=true:=by kernel_rfl
theorem cb39:Jb Tryz.prog 39=true:=by kernel_rfl
theorem cb42:Jb Tryz.prog 42=true:=by kernel_rfl
theorem cb43:Jb Tryz.prog 43=true:=by kernel_rfl
theorem cb44:Jb Tryz.prog 44=true:=by kernel_rfl
theorem cb45:Jb Tryz.prog 45=true:=by kernel_rfl
theorem cb46:Jb Tryz.prog 46=true:=by kernel_rfl
theorem cb47:Jb Tryz.prog 47=true:=by kernel_rfl
theorem cb48:Jb Tryz.prog 48=true:=by kernel_rfl
theorem cb49:Jb Tryz.prog 49=true:=by kernel_rfl
theorem cb50:Jb Tryz.prog 50=true:=by kernel_rfl
theorem cb51:Jb Tryz.prog 51=true:=by kernel_rfl
theorem cb52:Jb Tryz.prog 52=true:=by kernel_rfl
theorem cb53:Jb Tryz.prog 53=true:=by kernel_rfl
theorem cb67:Jb Tryz.prog 67=true:=by kernel_rfl
theorem cb68:Jb Tryz.prog 68=true:=by kernel_rfl
theorem cb69:Jb Tryz.prog 69=true:=by kernel_rfl
theorem cb70:Jb Tryz.prog 70=true:=by kernel_rfl
theorem cb71:Jb Tryz.prog 71=true:=by kernel_rfl
theorem cb72:Jb Tryz.prog 72=true:=by kernel_rfl
theorem cb73:Jb Tryz.prog 73=true:=by kernel_rfl
theorem cb77:Jb Tryz.prog 77=true:=by kernel_rfl
theorem cb78:Jb Tryz.prog 78=true:=by kernel_rfl
theorem cb79:Jb Tryz.prog 79=true:=by kernel_rfl
theorem cb80:Jb Tryz.prog 80=true:=by kernel_rfl
theorem cb81:Jb Tryz.prog 81=true:=by kernel_rfl
theorem cb82:Jb Tryz.prog 82=true:=by kernel_rfl
theorem cb83:Jb Tryz.prog 83=true:=by kernel_rfl
theorem cb85:Jb Tryz.prog 85=true:=by kernel_rfl
theorem cb92:Jb Tryz.prog 92=true:=by kernel_rfl
theorem cb98:Jb Tryz.prog 98=true:=by kernel_rfl
theorem cb99:Jb Tryz.prog 99=true:=by kernel_rfl
theorem Jtm:Jb Tryz.prog 100=true:=by kernel_rfl
theorem Jly:Jb Tryz.prog 101=true:=by kernel_rfl
theorem cb102:Jb Tryz.prog 102=true:=by kernel_rfl
theorem cb103:Jb Tryz.prog 103=true:=by kernel_rfl
theorem Jni:Jb Tryz.prog 104=true:=by kernel_rfl
theorem Js1:Jb Tryz.prog 106=true:=by kernel_rfl
theorem Jv7:Jb Tryz.prog 107=true:=by kernel_rfl
theorem Juv:Jb Tryz.prog 108=true:=by kernel_rfl
theorem cb109:Jb Tryz.prog 109=true:=by kernel_rfl
theorem Jin:Jb Tryz.prog 112=true:=by kernel_rfl
theorem cb113:Jb Tryz.prog 113=true:=by kernel_rfl
theorem cb114:Jb Tryz.prog 114=true:=by kernel_rfl
theorem Jr8:Jb Tryz.prog 115=true:=by kernel_rfl
theorem Jw9:Jb Tryz.prog 116=true:=by kernel_rfl
theorem Jme:Jb Tryz.prog 117=true:=by kernel_rfl
theorem q6:Jb Tryz.prog 118=true:=by kernel_rfl
theorem Jnn:Jb Tryz.prog 119=true:=by kernel_rfl
theorem cb120:Jb Tryz.prog 120=true:=by kernel_rfl
theorem Jgy:Jb Tryz.prog 121=true:=by kernel_rfl
theorem cb123:Jb Tryz.prog 123=true:=by kernel_rfl
theorem cb135:Jb Tryz.prog 135=true:=by kernel_rfl
theorem Jhx:Jb Tryz.prog 137=true:=by kernel_rfl
theorem cb141:Jb Tryz.prog 141=true:=by kernel_rfl
theorem cb147:Jb Tryz.prog 147=true:=by kernel_rfl
theorem Jje:Jb Tryz.prog 148=true:=by kernel_rfl
theorem cb149:Jb Tryz.prog 149=true:=by kernel_rfl
theorem Jh9:Jb Tryz.prog 150=true:=by kernel_rfl
theorem Jhf:Jb Tryz.prog 151=true:=by kernel_rfl
theorem Jhh:Jb Tryz.prog 152=true:=by kernel_rfl
theorem Jsi:Jb Tryz.prog 154=true:=by kernel_rfl
theorem Jxn:Jb Tryz.prog 157=true:=by kernel_rfl
theorem Jhn:Jb Tryz.prog 158=true:=by kernel_rfl
theorem Jqs:Jb Tryz.prog 165=true:=by kernel_rfl
theorem Jg8:Jb Tryz.prog 166=true:=by kernel_rfl
theorem yh:Jb Tryz.prog 167=true:=by kernel_rfl
theorem Jq8:Jb Tryz.prog 168=true:=by kernel_rfl
theorem Js8:Jb Tryz.prog 169=true:=by kernel_rfl
theorem Jc3:Jb Tryz.prog 170=true:=by kernel_rfl
theorem Jgz:Jb Tryz.prog 171=true:=by kernel_rfl
theorem Ju9:Jb Tryz.prog 174=true:=by kernel_rfl
theorem cb175:Jb Tryz.prog 175=true:=by kernel_rfl
theorem Jw4:Jb Tryz.prog 182=true:=by kernel_rfl
theorem Jwd:Jb Tryz.prog 183=true:=by kernel_rfl
theorem Jmq:Jb Tryz.prog 184=true:=by kernel_rfl
theorem Jrb:Jb Tryz.prog 186=true:=by kernel_rfl
theorem Jg7:Jb Tryz.prog 187=true:=by kernel_rfl
theorem Jk1:Jb Tryz.prog 191=true:=by kernel_rfl
theorem cb192:Jb Tryz.prog 192=true:=by kernel_rfl
theorem z6:Jb Tryz.prog 193=true:=by kernel_rfl
theorem Jng:Jb Tryz.prog 194=true:=by kernel_rfl
theorem cb195:Jb Tryz.prog 195=true:=by kernel_rfl
theorem Jq4:Jb Tryz.prog 196=true:=by kernel_rfl
theorem Jtw:Jb Tryz.prog 197=true:=by kernel_rfl
theorem Jln:Jb Tryz.prog 198=true:=by kernel_rfl
theorem Jiw:Jb Tryz.prog 199=true:=by kernel_rfl
theorem Jhq:Jb Tryz.prog 200=true:=by kernel_rfl
theorem Js9:Jb Tryz.prog 201=true:=by kernel_rfl
theorem Jm4:Jb Tryz.prog 202=true:=by kernel_rfl
theorem cb203:Jb Tryz.prog 203=true:=by kernel_rfl
theorem Jrg:Jb Tryz.prog 204=true:=by kernel_rfl
theorem Vu:Jb Tryz.prog 205=true:=by kernel_rfl
theorem cb206:Jb Tryz.prog 206=true:=by kernel_rfl
theorem Vi:Jb Tryz.prog 208=true:=by kernel_rfl
theorem Jnm:Jb Tryz.prog 209=true:=by kernel_rfl
theorem Jdq:Jb Tryz.prog 211=true:=by kernel_rfl
theorem cb215:Jb Tryz.prog 215=true:=by kernel_rfl
theorem Jvd:Jb Tryz.prog 216=true:=by kernel_rfl
theorem cb217:Jb Tryz.prog 217=true:=by kernel_rfl
theorem Jqg:Jb Tryz.prog 218=true:=by kernel_rfl
theorem Jlx:Jb Tryz.prog 219=true:=by kernel_rfl
theorem cb221:Jb Tryz.prog 221=true:=by kernel_rfl
theorem cb222:Jb Tryz.prog 222=true:=by kernel_rfl
theorem cb225:Jb Tryz.prog 225=true:=by kernel_rfl
theorem cb226:Jb Tryz.prog 226=true:=by kernel_rfl
theorem Jv1:Jb Tryz.prog 228=true:=by kernel_rfl
theorem Juk:Jb Tryz.prog 229=true:=by kernel_rfl
theorem Jtq:Jb Tryz.prog 230=true:=by kernel_rfl
theorem Jp3:Jb Tryz.prog 231=true:=by kernel_rfl
theorem Jtf:Jb Tryz.prog 232=true:=by kernel_rfl
theorem Ji8:Jb Tryz.prog 233=true:=by kernel_rfl
theorem cb234:Jb Tryz.prog 234=true:=by kernel_rfl
theorem cb235:Jb Tryz.prog 235=true:=by kernel_rfl
theorem Jnc:Jb Tryz.prog 239=true:=by kernel_rfl
theorem Jtp:Jb Tryz.prog 240=true:=by kernel_rfl
theorem Jnp:Jb Tryz.prog 241=true:=by kernel_rfl
theorem Jri:Jb Tryz.prog 242=true:=by kernel_rfl
theorem Jwm:Jb Tryz.prog 243=true:=by kernel_rfl
theorem Jsy:Jb Tryz.prog 244=true:=by kernel_rfl
theorem Jwa:Jb Tryz.prog 246=true:=by kernel_rfl
theorem cb247:Jb Tryz.prog 247=true:=by kernel_rfl
theorem Jut:Jb Tryz.prog 248=true:=by kernel_rfl
theorem cb253:Jb Tryz.prog 253=true:=by kernel_rfl
theorem Jtt:Jb Tryz.prog 254=true:=by kernel_rfl
theorem cb255:Jb Tryz.prog 255=true:=by kernel_rfl
theorem cb256:Jb Tryz.prog 256=true:=by kernel_rfl
theorem Jkh:Jb Tryz.prog 257=true:=by kernel_rfl
theorem Jmr:Jb Tryz.prog 258=true:=by kernel_rfl
theorem cb260:Jb Tryz.prog 260=true:=by kernel_rfl
theorem cb261:Jb Tryz.prog 261=true:=by kernel_rfl
theorem cb265:Jb Tryz.prog 265=true:=by kernel_rfl
theorem cb273:Jb Tryz.prog 273=true:=by kernel_rfl
theorem cb278:Jb Tryz.prog 278=true:=by kernel_rfl
theorem mixed:Tryz.prog.follows .mixedOrders=true:=by kernel_rfl
end Go.Wf
namespace Go.Wf
open Go Go.Proofs
theorem X1:Zn Tryz.prog 125=some (.agg #[.int .i64 0,.int .i64 0,.int .i64 0],3,24):=by kernel_rfl
theorem Q4:vd Tryz.prog 125 3=true:=by kernel_rfl
theorem Jso:Zl Tryz.prog 125 0=some 0:=by kernel_rfl
theorem Jss:Zl Tryz.prog 125 1=some 1:=by kernel_rfl
theorem Jax:Zl Tryz.prog 125 2=some 2:=by kernel_rfl
end Go.Wf
namespace Go.Wf
open Go Go.Proofs
theorem Yr:Zl Tryz.prog 86 0=some 0:=by kernel_rfl
theorem Zb:Zl Tryz.prog 86 1=some 1:=by kernel_rfl
theorem Ym:Zl Tryz.prog 88 0=some 0:=by kernel_rfl
theorem Jb2:Zl Tryz.prog 88 1=some 2:=by kernel_rfl
end Go.Wf
namespace Go.Wf
open Go Go.Proofs Go.RowKit
theorem X8{X:Nat→Prop}{w:World}(hX:XB X w){g:Nat}{s:List UInt8}{p o:Nat}(hB:Blk w g (rc s p o) 88)(hXg:X g)(hp:p≤s.length)(hs:s.length≤65536):Calls Tryz.prog 68 #[(.pointer (some ⟨g,0,none⟩))] w (RetM w g fun v w'=>v=(.int .u8 (((hdM s p):Nat):Int))∧Blk w' g (rc s (spM s p) o) 88):=by
 have C:=J1t g hX hXg;have L:=J38 hB;refine Cgo (args:=[(.pointer (some ⟨g,0,none⟩))]) Tryz.func68 rfl rfl rfl (Rg<|Oa<|Nl<|J06<|W.block<|J1g (fun μ f v=>∃ (x y:Nat→Prop) (i:Nat),Cx X ⟨w,(· =g)⟩ x y v∧f 0=(.pointer (some ⟨g,0,none⟩))∧f 2=(.int .u8 0)∧Own ⟨w,(· =g)⟩ y v g [(str s),(.int .i64 ((i:Nat):Int)),(.int .i64 ((o:Nat):Int))] 88∧i≤s.length∧spM s i=spM s p∧μ=(s.length - i)) _ ⟨_,_,p,C,rfl,rfl,L,hp,rfl,rfl⟩ ?_);rintro N f1 w2 ⟨x3,y4,i,e,h,k,d,hi,hR,M⟩;obtain⟨P,rfl⟩:=rebK (aC h<|aC k aN);clear h k;refine J06<|J06 ?_
 by_cases hin:i < s.length
 ·by_cases hbl:(s.getD i 0).toNat=32
  ·refine J12 mixed 19 e (Qm<|Qn<|Qf Zb rfl<|Qd d pl3 rfl rfl<|Qm<|Qn<|Qf Yr rfl<|Qd d pl9 rfl rfl<|Qp (fun _=>J1v un9 rfl ⟨rfl,rfl⟩)<|Qp (fun _=>J15 (t:=true) rfl rfl (decide_eq_true (by omega)) ⟨rfl,rfl⟩)<|Qm<|Qg<|Qm<|Qg<|Qn<|Qg<|Qf Yr rfl<|Qg<|Qd d pl9 rfl rfl<|Qg<|Qm<|Qg<|Qn<|Qg<|Qf Zb rfl<|Qg<|Qd d pl3 rfl rfl ?_);refine Qz fun Q l m=>?_
   replace d:=d.spn m;refine OgD (J1p (j:=i) (c:=(s.getD i 0)) un9 rfl rfl rfl (Jf (by omega))<|OgD<|J1y (t:=true) rfl rfl (decide_eq_true (by omega))<|OT<|Nl<|J0w rfl<|J01<|W.block<|J0y<|Om<|Ol<|J03 rfl<|Ol<|J0s Zb rfl<|Ol<|J0x d pl3 rfl rfl<|Ol<|St.add rfl rfl (Jc (a:=i) (b:=1) (by omega)) ?_);refine Ol (J03 rfl<|Ol<|J0s Zb rfl<|On<|J0u (cs':=[(str s),(.int .i64 ((i+1:Nat):Int)),(.int .i64 ((o:Nat):Int))]) l d io3 rfl rfl rfl rfl rfl rfl ?_);intro R r S z;refine Nl<|⟨_,(by omega),_,_,(i+1),r,rfl,rfl,z,(by omega),((Jdu (by omega) (by omega)).trans hR),rfl⟩
  refine J12 mixed 19 e (Qm<|Qn<|Qf Zb rfl<|Qd d pl3 rfl rfl<|Qm<|Qn<|Qf Yr rfl<|Qd d pl9 rfl rfl<|Qp (fun _=>J1v un9 rfl ⟨rfl,rfl⟩)<|Qp (fun _=>J15 (t:=true) rfl rfl (decide_eq_true (by omega)) ⟨rfl,rfl⟩)<|Qm<|Qg<|Qm<|Qg<|Qn<|Qg<|Qf Yr rfl<|Qg<|Qd d pl9 rfl rfl<|Qg<|Qm<|Qg<|Qn<|Qg<|Qf Zb rfl<|Qg<|Qd d pl3 rfl rfl ?_);refine Qz fun T A B=>?_
  replace d:=d.spn B;refine OgD (J1p (j:=i) (c:=(s.getD i 0)) un9 rfl rfl rfl (Jf (by omega))<|OgD<|J1y (t:=false) rfl rfl (decide_eq_false (by omega))<|OT<|Nl<|J0v rfl<|J1j<|J06<|J06<|J12 mixed 9 A<|Qm<|Qn<|Qf Zb rfl<|Qd d pl3 rfl rfl<|Qm<|Qn<|Qf Yr rfl<|Qd d pl9 rfl rfl<|Qp (fun _=>J1v un9 rfl ⟨rfl,rfl⟩) ?_);refine Qz fun U D E=>?_
  replace d:=d.spn E;refine Ol<|J1y (t:=false) rfl rfl (decide_eq_false (by omega))<|Nl<|J0v rfl<|J01<|J06<|J12 mixed 8 D<|Qm<|Qn<|Qf Yr rfl<|Qd d pl9 rfl rfl<|Qm<|Qn<|Qf Zb rfl<|Qd d pl3 rfl rfl<|Qz fun V F G=>?_
  replace d:=d.spn G;refine Ol<|J1p (j:=i) (c:=(s.getD i 0)) un9 rfl rfl rfl (Jf (by omega))<|Oa<|Nl<|J04<|Jo rfl (J35 rfl)<|RetM.intro ⟨?_,?_⟩ F.below
  ·exact congrArg (Value.int _)<|pk_at hR hbl
  have hh:=d.blk;rw [show i=(spM s p) from Ji7 hR hbl] at hh;exact hh
 refine J12 mixed 19 e<|Qm<|Qn<|Qf Zb rfl<|Qd d pl3 rfl rfl<|Qm<|Qn<|Qf Yr rfl<|Qd d pl9 rfl rfl<|Qp (fun _=>J1v un9 rfl ⟨rfl,rfl⟩)<|Qp (fun _=>J15 (t:=false) rfl rfl (decide_eq_false (by omega)) ⟨rfl,rfl⟩)<|Qm<|Qx<|Qx<|Qx<|Qx<|Qx<|Qx<|Qx<|Qx<|Qz fun Y H I=>?_
 replace d:=d.spn I;refine Oz<|Oz<|OF<|Nl<|J0v rfl<|J1j<|J06<|J06<|J12 mixed 9 H<|Qm<|Qn<|Qf Zb rfl<|Qd d pl3 rfl rfl<|Qm<|Qn<|Qf Yr rfl<|Qd d pl9 rfl rfl<|Qp (fun _=>J1v un9 rfl ⟨rfl,rfl⟩)<|Qz fun Z J K=>?_
 replace d:=d.spn K;refine Ol<|J1y (t:=true) rfl rfl (decide_eq_true (by omega))<|Nl<|J0w rfl<|Rg<|Oa<|Nl<|J04<|Jo rfl (J35 rfl)<|RetM.intro ⟨?_,?_⟩ J.below
 ·exact congrArg (Value.int _)<|Jwk hR (by omega)
 have hh:=d.blk;rw [show i=(spM s p) from Jd5 hR (by omega)] at hh;exact hh
theorem Jgq{X:Nat→Prop}{w:World}(hX:XB X w){n:Nat}  :CRt 194 #[(.int .u8 ((n:Nat):Int))] w fun v w'=>v=(.bool (Ke n)):=by
 have C:=J07 hX;refine Cgo (args:=[(.int .u8 ((n:Nat):Int))]) Tryz.func194 rfl rfl rfl<|Rg<|Oa<|Nl<|Rg<|Om<|Ol<|J13 rfl rfl (fun a=>?_)<|fun a=>?_
 ·refine Om<|OgD<|J00<|OgD<|J2e rfl rfl (fun b=>?_)<|fun b=>?_
  ·exact OT<|Om<|Oz<|Oz<|Oz<|OyD<|OyD<|Oz<|OT<|Oa<|Nl<|J04<|Wq rfl rfl C<|congrArg (Value.bool)<|Jd0 (by omega)
  refine OT<|Om<|OgD<|J00<|OgD<|J13 rfl rfl (fun d=>?_)<|fun d=>?_
  ·exact OgD<|J00<|OgD<|J00<|OgD<|J2q rfl rfl rfl<|OgD<|J1f (t:=true) rfl<|OF<|Oa<|Nl<|J04<|Wq rfl rfl C<|congrArg (Value.bool)<|ya (by omega)
  exact OgD<|J00<|Oz<|Oz<|OgD<|J1f (t:=false) rfl<|OF<|Oa<|Nl<|J04<|Wq rfl rfl C<|congrArg (Value.bool)<|ym (by omega)
 refine Om<|Oz<|Oz<|OF<|Om<|OgD<|J00<|OgD<|J13 rfl rfl (fun e=>?_)<|fun e=>?_
 ·exact OgD<|J00<|OgD<|J00<|OgD<|J2q rfl rfl rfl<|OgD<|J1f (t:=true) rfl<|OF<|Oa<|Nl<|J04<|Wq rfl rfl C<|congrArg (Value.bool)<|ya (by omega)
 exact OgD<|J00<|Oz<|Oz<|OgD<|J1f (t:=false) rfl<|OF<|Oa<|Nl<|J04<|Wq rfl rfl C<|congrArg (Value.bool)<|ym (by omega)
theorem Jcq{X:Nat→Prop}{w:World}(hX:XB X w){n:Nat}  :CRt 191 #[(.int .u8 ((n:Nat):Int))] w fun v w'=>v=(.bool (Yl n)):=by
 have C:=J07 hX;refine Cgo (args:=[(.int .u8 ((n:Nat):Int))]) Tryz.func191 rfl rfl rfl<|Rg<|Oa<|Nl<|Rg<|Om<|Ol<|J13 rfl rfl (fun a=>?_)<|fun a=>?_
 ·exact Om<|OgD<|J00<|OgD<|J2q rfl rfl rfl<|OT<|Oa<|Nl<|J04<|Wq rfl rfl C<|congrArg (Value.bool)<|Jep (by omega)
 exact Om<|Oz<|Oz<|OF<|Oa<|Nl<|J04<|Wq rfl rfl C<|congrArg (Value.bool)<|Jdw (by omega)
theorem Jl2{X:Nat→Prop}{w:World}(hX:XB X w){g:Nat}{s:List UInt8}{p o:Nat}(hB:Blk w g (rc s p o) 88)(hXg:X g)(hp:p≤s.length)(hs:s.length≤65536):Calls Tryz.prog 195 #[(.pointer (some ⟨g,0,none⟩))] w (RetM w g fun v w'=>v=(str (Jr s p))∧Blk w' g (rc s (p+(Jr s p).length) o) 88):=by
 have C:=J1t g hX hXg;have z:=J38 hB;refine Cgo (args:=[(.pointer (some ⟨g,0,none⟩))]) Tryz.func195 rfl rfl rfl (Rg<|Oa<|Nl<|Rg<|Om<|Ol<|J03 rfl<|Ol<|J0s Zb rfl<|Ol<|J0x z pl3 rfl rfl<|Oa<|Nl<|J06<|W.block<|J1g (fun μ f v=>∃ (x y:Nat→Prop) (i:Nat),Cx X ⟨w,(· =g)⟩ x y v∧f 0=(.pointer (some ⟨g,0,none⟩))∧f 2=(str [])∧f 3=(.int .i64 ((p:Nat):Int))∧Own ⟨w,(· =g)⟩ y v g [(str s),(.int .i64 ((i:Nat):Int)),(.int .i64 ((o:Nat):Int))] 88∧i≤s.length∧p≤i∧i+(Jr s i).length=p+(Jr s p).length∧μ=(s.length - i)) _ ⟨_,_,p,C,rfl,rfl,rfl,z,hp,(Nat.le_refl _),rfl,rfl⟩ ?_);rintro aa f1 w2 ⟨x3,y4,i,e,A,B,D,d,hi,hpi,hR,Z⟩;obtain⟨ab,rfl⟩:=rebK (aC A<|aC B<|aC D aN);clear A B D;refine J06<|J06 ?_
 by_cases hin:i < s.length
 ·by_cases hle:Ke (s.getD i 0).toNat=true
  ·refine J12 mixed 30 e (Qm<|Qn<|Qf Zb rfl<|Qd d pl3 rfl rfl<|Qm<|Qn<|Qf Yr rfl<|Qd d pl9 rfl rfl<|Qp (fun _=>J1v un9 rfl ⟨rfl,rfl⟩)<|Qp (fun _=>J15 (t:=true) rfl rfl (decide_eq_true (by omega)) ⟨rfl,rfl⟩)<|Qm<|Qg<|Qm<|Qg<|Qn<|Qg<|Qf Yr rfl<|Qg<|Qd d pl9 rfl rfl<|Qg<|Qm<|Qg<|Qn<|Qg<|Qf Zb rfl<|Qg<|Qd d pl3 rfl rfl ?_);refine Qg<|Qp (fun _=>J1p (j:=i) (c:=(s.getD i 0)) un9 rfl rfl rfl (Jf (by omega)) ⟨rfl,rfl⟩)<|Qg<|Qw (fun w c=>J0t c.1 Jng rfl rfl (Jgq c.1.bd (n:=(s.getD i 0).toNat)) fun _ _ C s h=>⟨h.trans<|congrArg Value.bool hle,C,c.2.trans s⟩)<|Qg<|Qm<|Qx<|Qx<|Qx<|Qx<|Qx<|Qx<|Qx<|Qx<|Qz fun ac E F=>?_
   replace d:=d.spn F;refine Oz (Oz<|OgD<|J1f (t:=true) rfl<|OT<|Nl<|J0w rfl<|J01<|W.block<|J0y<|Om<|Ol<|J03 rfl<|Ol<|J0s Zb rfl<|Ol<|J0x d pl3 rfl rfl<|Ol<|St.add rfl rfl (Jc (a:=i) (b:=1) (by omega))<|Ol<|J03 rfl<|Ol<|J0s Zb rfl ?_);refine On (J0u (cs':=[(str s),(.int .i64 ((i+1:Nat):Int)),(.int .i64 ((o:Nat):Int))]) E d io3 rfl rfl rfl rfl rfl rfl ?_);intro ad G ae H;refine Nl<|⟨_,(by omega),_,_,(i+1),G,rfl,rfl,rfl,H,(by omega),(by omega),((Jas (by omega)<|.inl hle).trans hR),rfl⟩
  by_cases hdi:Yl (s.getD i 0).toNat=true
  ·refine J12 mixed 30 e (Qm<|Qn<|Qf Zb rfl<|Qd d pl3 rfl rfl<|Qm<|Qn<|Qf Yr rfl<|Qd d pl9 rfl rfl<|Qp (fun _=>J1v un9 rfl ⟨rfl,rfl⟩)<|Qp (fun _=>J15 (t:=true) rfl rfl (decide_eq_true (by omega)) ⟨rfl,rfl⟩)<|Qm<|Qg<|Qm<|Qg<|Qn<|Qg<|Qf Yr rfl<|Qg<|Qd d pl9 rfl rfl<|Qg<|Qm<|Qg<|Qn<|Qg<|Qf Zb rfl<|Qg<|Qd d pl3 rfl rfl ?_);refine Qg (Qp (fun _=>J1p (j:=i) (c:=(s.getD i 0)) un9 rfl rfl rfl (Jf (by omega)) ⟨rfl,rfl⟩)<|Qg<|Qw (fun w c=>J0t c.1 Jng rfl rfl (Jgq c.1.bd (n:=(s.getD i 0).toNat)) fun _ _ C s h=>⟨h.trans<|congrArg Value.bool<|Bool.eq_false_iff.2 hle,C,c.2.trans s⟩)<|Qg<|Qm<|Qg<|Qm<|Qg<|Qn<|Qg<|Qf Yr rfl<|Qg<|Qd d pl9 rfl rfl<|Qg<|Qm ?_);refine Qg<|Qn<|Qg<|Qf Zb rfl<|Qg<|Qd d pl3 rfl rfl<|Qz fun af k I=>?_
   refine OgD (J1p (j:=i) (c:=(s.getD i 0)) un9 rfl rfl rfl (Jf (by omega))<|OgD<|J0t k Jk1 rfl rfl (Jcq k.bd (n:=(s.getD i 0).toNat)) ?_);intro ag ah J K l;replace d:=(d.spn I).spn K;rw [hdi] at l;subst l;refine OgD (J1f (t:=false) rfl<|OT<|Nl<|J0w rfl<|J01<|W.block<|J0y<|Om<|Ol<|J03 rfl<|Ol<|J0s Zb rfl<|Ol<|J0x d pl3 rfl rfl<|Ol<|St.add rfl rfl (Jc (a:=i) (b:=1) (by omega))<|Ol<|J03 rfl<|Ol<|J0s Zb rfl<|On<|J0u (cs':=[(str s),(.int .i64 ((i+1:Nat):Int)),(.int .i64 ((o:Nat):Int))]) J d io3 rfl rfl rfl rfl rfl rfl ?_);intro ai L aj M;refine Nl<|⟨_,(by omega),_,_,(i+1),L,rfl,rfl,rfl,M,(by omega),(by omega),((Jas (by omega)<|.inr hdi).trans hR),rfl⟩
  refine J12 mixed 30 e (Qm<|Qn<|Qf Zb rfl<|Qd d pl3 rfl rfl<|Qm<|Qn<|Qf Yr rfl<|Qd d pl9 rfl rfl<|Qp (fun _=>J1v un9 rfl ⟨rfl,rfl⟩)<|Qp (fun _=>J15 (t:=true) rfl rfl (decide_eq_true (by omega)) ⟨rfl,rfl⟩)<|Qm<|Qg<|Qm<|Qg<|Qn<|Qg<|Qf Yr rfl<|Qg<|Qd d pl9 rfl rfl<|Qg<|Qm<|Qg<|Qn<|Qg<|Qf Zb rfl<|Qg<|Qd d pl3 rfl rfl ?_);refine Qg (Qp (fun _=>J1p (j:=i) (c:=(s.getD i 0)) un9 rfl rfl rfl (Jf (by omega)) ⟨rfl,rfl⟩)<|Qg<|Qw (fun w c=>J0t c.1 Jng rfl rfl (Jgq c.1.bd (n:=(s.getD i 0).toNat)) fun _ _ C s h=>⟨h.trans<|congrArg Value.bool<|Bool.eq_false_iff.2 hle,C,c.2.trans s⟩)<|Qg<|Qm<|Qg<|Qm<|Qg<|Qn<|Qg<|Qf Yr rfl<|Qg<|Qd d pl9 rfl rfl<|Qg<|Qm ?_);refine Qg<|Qn<|Qg<|Qf Zb rfl<|Qg<|Qd d pl3 rfl rfl<|Qz fun ak m N=>?_
  refine OgD (J1p (j:=i) (c:=(s.getD i 0)) un9 rfl rfl rfl (Jf (by omega))<|OgD<|J0t m Jk1 rfl rfl (Jcq m.bd (n:=(s.getD i 0).toNat)) ?_);intro am an P Q r;replace d:=(d.spn N).spn Q;rw [(Bool.eq_false_iff.2 hdi)] at r;subst r;refine OgD<|J1f (t:=false) rfl<|OT<|Nl<|J0v rfl<|J1j<|J06<|J12 mixed 9 P<|Qm<|Qn<|Qf Yr rfl<|Qd d pl9 rfl rfl<|Qm<|Qm<|Qn<|Qf Zb rfl<|Qd d pl3 rfl rfl<|Qz fun ao R S=>?_
  replace d:=d.spn S;refine Ol<|J2g (i:=p) (j:=i) un9 rfl rfl rfl rfl rfl (by omega) (by omega)<|Oa<|Nl<|J04<|Jo rfl (J35 rfl)<|RetM.intro ⟨?_,?_⟩ R.below
  ·exact congrArg (str)<|Je6 (Jak hle hdi) hR
  have hh:=d.blk;rw [show i=(p+(Jr s p).length) from Jao (Jak hle hdi) hR] at hh;exact hh
 refine J12 mixed 30 e<|Qm<|Qn<|Qf Zb rfl<|Qd d pl3 rfl rfl<|Qm<|Qn<|Qf Yr rfl<|Qd d pl9 rfl rfl<|Qp (fun _=>J1v un9 rfl ⟨rfl,rfl⟩)<|Qp (fun _=>J15 (t:=false) rfl rfl (decide_eq_false (by omega)) ⟨rfl,rfl⟩)<|Qm<|Qx<|Qx<|Qx<|Qx<|Qx<|Qx<|Qx<|Qx<|Qx<|Qx<|Qx<|Qx<|Qx<|Qx<|Qx<|Qx<|Qx<|Qx<|Qx<|Qz fun aq T U=>?_
 replace d:=d.spn U;refine OyD<|OyD<|Oz<|OF<|Nl<|J0v rfl<|J1j<|J06<|J12 mixed 9 T<|Qm<|Qn<|Qf Yr rfl<|Qd d pl9 rfl rfl<|Qm<|Qm<|Qn<|Qf Zb rfl<|Qd d pl3 rfl rfl<|Qz fun ar V Y=>?_
 replace d:=d.spn Y;refine Ol<|J2g (i:=p) (j:=i) un9 rfl rfl rfl rfl rfl (by omega) (by omega)<|Oa<|Nl<|J04<|Jo rfl (J35 rfl)<|RetM.intro ⟨?_,?_⟩ V.below
 ·exact congrArg (str)<|Je6 (Jex (by omega)) hR
 have hh:=d.blk;rw [show i=(p+(Jr s p).length) from Jao (Jex (by omega)) hR] at hh;exact hh
theorem V4{X:Nat→Prop}{w:World}(hX:XB X w){g:Nat}{s:List UInt8}{p o:Nat}(hB:Blk w g (rc s p o) 88)(hXg:X g)(hp:p≤s.length)(hs:s.length≤65536):Calls Tryz.prog 198 #[(.pointer (some ⟨g,0,none⟩))] w (RetP w g (dgsM s p) fun a q v w'=>v=(str a)∧Blk w' g (rc s q o) 88):=by
 have C:=J1t g hX hXg;have E:=J38 hB;have hsp:=Yh hp;refine Cgo (args:=[(.pointer (some ⟨g,0,none⟩))]) Tryz.func198 rfl rfl rfl (Rg<|Oa<|Nl<|Rg<|Om<|Ol<|J08 C E cb68 rfl rfl (X8 C.bd (s:=s) (p:=p) (o:=o) E.blk (C.yx _ E.mem) hp hs) ?_);intro v1 w2 Y s4 H Z;subst Z;refine Nl (Rg<|Om<|Ol<|J03 rfl<|Ol<|J0s Zb rfl<|Ol<|J0x H pl3 rfl rfl<|Oa<|Nl<|J06<|W.block<|J1g (fun μ f v=>∃ (x y:Nat→Prop) (i:Nat),Cx X ⟨w,(· =g)⟩ x y v∧f 0=(.pointer (some ⟨g,0,none⟩))∧f 2=(str [])∧f 3=(.int .i64 (((spM s p):Nat):Int))∧Own ⟨w,(· =g)⟩ y v g [(str s),(.int .i64 ((i:Nat):Int)),(.int .i64 ((o:Nat):Int))] 88∧i≤s.length∧spM s p≤i∧i+(digL s i).length=spM s p+(digL s<|spM s p).length∧μ=(s.length - i)) _ ⟨_,_,(spM s p),Y,rfl,rfl,rfl,H,hsp,(Nat.le_refl _),rfl,rfl⟩ ?_);rintro aa f7 w8 ⟨x9,ab,i,e,h,k,l,d,hi,hpi,hR,V⟩;obtain⟨ac,rfl⟩:=rebK (aC h<|aC k<|aC l aN);clear h k l;refine J06<|J06 ?_
 by_cases hin:i < s.length
 ·by_cases hdg:Yl (s.getD i 0).toNat=true
  ·refine J12 mixed 19 e (Qm<|Qn<|Qf Zb rfl<|Qd d pl3 rfl rfl<|Qm<|Qn<|Qf Yr rfl<|Qd d pl9 rfl rfl<|Qp (fun _=>J1v un9 rfl ⟨rfl,rfl⟩)<|Qp (fun _=>J15 (t:=true) rfl rfl (decide_eq_true (by omega)) ⟨rfl,rfl⟩)<|Qm<|Qg<|Qm<|Qg<|Qn<|Qg<|Qf Yr rfl<|Qg<|Qd d pl9 rfl rfl<|Qg<|Qm<|Qg<|Qn<|Qg<|Qf Zb rfl<|Qg<|Qd d pl3 rfl rfl ?_);refine Qz fun ad m I=>?_
   refine OgD (J1p (j:=i) (c:=(s.getD i 0)) un9 rfl rfl rfl (Jf (by omega))<|OgD<|J0t m Jk1 rfl rfl (Jcq m.bd (n:=(s.getD i 0).toNat)) ?_);intro ae af J K r;replace d:=(d.spn I).spn K;rw [hdg] at r;subst r;refine OT (Nl<|J0w rfl<|J01<|W.block<|J0y<|Om<|Ol<|J03 rfl<|Ol<|J0s Zb rfl<|Ol<|J0x d pl3 rfl rfl<|Ol<|St.add rfl rfl (Jc (a:=i) (b:=1) (by omega))<|Ol<|J03 rfl<|Ol<|J0s Zb rfl<|On<|J0u (cs':=[(str s),(.int .i64 ((i+1:Nat):Int)),(.int .i64 ((o:Nat):Int))]) J d io3 rfl rfl rfl rfl rfl rfl ?_);intro ag L ah M;refine Nl<|⟨_,(by omega),_,_,(i+1),L,rfl,rfl,rfl,M,(by omega),(by omega),((Jan (f:=digB) (by omega) hdg).trans hR),rfl⟩
  refine J12 mixed 19 e (Qm<|Qn<|Qf Zb rfl<|Qd d pl3 rfl rfl<|Qm<|Qn<|Qf Yr rfl<|Qd d pl9 rfl rfl<|Qp (fun _=>J1v un9 rfl ⟨rfl,rfl⟩)<|Qp (fun _=>J15 (t:=true) rfl rfl (decide_eq_true (by omega)) ⟨rfl,rfl⟩)<|Qm<|Qg<|Qm<|Qg<|Qn<|Qg<|Qf Yr rfl<|Qg<|Qd d pl9 rfl rfl<|Qg<|Qm<|Qg<|Qn<|Qg<|Qf Zb rfl<|Qg<|Qd d pl3 rfl rfl ?_);refine Qz fun ai z N=>?_
  refine OgD (J1p (j:=i) (c:=(s.getD i 0)) un9 rfl rfl rfl (Jf (by omega))<|OgD<|J0t z Jk1 rfl rfl (Jcq z.bd (n:=(s.getD i 0).toNat)) ?_);intro aj ak A P B;replace d:=(d.spn N).spn P;rw [(Bool.eq_false_iff.2 hdg)] at B;subst B;refine OT<|Nl<|J0v rfl<|J1j<|Rh<|Om<|Om<|Ol<|J03 rfl<|Ol<|J0s Zb rfl<|Ol<|J0x d pl3 rfl rfl<|Ol<|J1a rfl rfl (fun F=>?_)<|fun F=>?_
  ·exact Nl<|J0w rfl<|J0y<|Om<|Ol<|J03 rfl<|Ol<|J0s Zb rfl<|Ol<|J0x d pl3 rfl rfl<|Ol<|J09 (cs:=[(.int .i64 19),(.int .i64 ((i:Nat):Int))]) rfl (by kernel_rfl)<|Ol<|J1z (by kernel_rfl)<|On<|J2t rfl<|Zg (Js4 (Jap (f:=digB)<|Bool.eq_false_iff.2 hdg) hR (by omega)) A.below
  refine Nl<|J0v rfl<|J01<|J06<|J12 mixed 9 A<|Qm<|Qn<|Qf Yr rfl<|Qd d pl9 rfl rfl<|Qm<|Qm<|Qn<|Qf Zb rfl<|Qd d pl3 rfl rfl<|Qz fun am Q R=>?_
  replace d:=d.spn R;refine Ol<|J2g (i:=(spM s p)) (j:=i) un9 rfl rfl rfl rfl rfl (by omega) (by omega)<|Oa<|Nl<|J04<|Jo rfl (J35 rfl)<|RetP.ok (a:=((s.take i).drop (spM s p))) (q:=i) (Jsd (Jap (f:=digB)<|Bool.eq_false_iff.2 hdg) hR (by omega)) ⟨?_,?_⟩ Q.below
  ·rfl
  exact d.blk
 refine J12 mixed 19 e<|Qm<|Qn<|Qf Zb rfl<|Qd d pl3 rfl rfl<|Qm<|Qn<|Qf Yr rfl<|Qd d pl9 rfl rfl<|Qp (fun _=>J1v un9 rfl ⟨rfl,rfl⟩)<|Qp (fun _=>J15 (t:=false) rfl rfl (decide_eq_false (by omega)) ⟨rfl,rfl⟩)<|Qm<|Qx<|Qx<|Qx<|Qx<|Qx<|Qx<|Qx<|Qx<|Qz fun an D S=>?_
 replace d:=d.spn S;refine Oz<|Oz<|OF<|Nl<|J0v rfl<|J1j<|Rh<|Om<|Om<|Ol<|J03 rfl<|Ol<|J0s Zb rfl<|Ol<|J0x d pl3 rfl rfl<|Ol<|J1a rfl rfl (fun G=>?_)<|fun G=>?_
 ·exact Nl<|J0w rfl<|J0y<|Om<|Ol<|J03 rfl<|Ol<|J0s Zb rfl<|Ol<|J0x d pl3 rfl rfl<|Ol<|J09 (cs:=[(.int .i64 19),(.int .i64 ((i:Nat):Int))]) rfl (by kernel_rfl)<|Ol<|J1z (by kernel_rfl)<|On<|J2t rfl<|Zg (Js4 (Jcg (by omega)) hR (by omega)) D.below
 refine Nl<|J0v rfl<|J01<|J06<|J12 mixed 9 D<|Qm<|Qn<|Qf Yr rfl<|Qd d pl9 rfl rfl<|Qm<|Qm<|Qn<|Qf Zb rfl<|Qd d pl3 rfl rfl<|Qz fun ao T U=>?_
 replace d:=d.spn U;refine Ol<|J2g (i:=(spM s p)) (j:=i) un9 rfl rfl rfl rfl rfl (by omega) (by omega)<|Oa<|Nl<|J04<|Jo rfl (J35 rfl)<|RetP.ok (a:=((s.take i).drop (spM s p))) (q:=i) (Jsd (Jcg (by omega)) hR (by omega)) ⟨?_,?_⟩ T.below
 ·rfl
 exact d.blk
end Go.Wf
namespace Go.Wf
open Go
theorem fp_t{s:List UInt8}{p c:Nat}(h:folB s p c=true):spM s p+1=fpM s p c:=by unfold fpM;rw [if_pos h]
theorem fp_f{s:List UInt8}{p c:Nat}(h:folB s p c=false):spM s p=fpM s p c:=by unfold fpM;rw [if_neg (by rw [h];decide)]
theorem Jcf{s:List UInt8}{p c:Nat}(h:¬ hdM s p=c):folB s p c=false:=qx fun k=>h k.2
theorem Jkb{s:List UInt8}{p c:Nat}(h:spM s p=s.length):folB s p c=false:=qx fun k=>by omega
theorem Jn8{s:List UInt8}{p c:Nat}(h:hdM s p=c)(hn:¬ spM s p=s.length)(hp:p≤s.length):folB s p c=true:=Jem (by have:=Yh hp;omega) h
theorem Ji6(s:List UInt8)(p c:Nat):fpM s (spM s p) c=fpM s p c:=by unfold fpM;rw [xg,vb]
theorem xe(s:List UInt8)(p:Nat):dgsM s (spM s p)=dgsM s p:=by unfold dgsM;rw [vb]
theorem Rr.le{α:Type}{s:List UInt8}{p q:Nat}{x:Rr α}{a:α}(h:x.fw s p)(e:x= .ok a q):q≤s.length:=by rw [e] at h;exact h.2
theorem Rr.ge{α:Type}{s:List UInt8}{p q:Nat}{x:Rr α}{a:α}(h:x.fw s p)(e:x= .ok a q):p≤q:=by rw [e] at h;exact h.1
def K6(s:List UInt8)(o p c:Nat):Rr Unit:=if c=40 then opnM s o p else tkM s p c
def opA(c o:Nat):Nat:=if c=40 then o+1 else if c=41 then o - 1 else o
theorem Jio{s:List UInt8}{o p c:Nat}(h:p≤s.length):(K6 s o p c).fw s (p+1):=by
 unfold K6;split
 ·exact Zv h
 ·exact Ka h
theorem Jqf{s:List UInt8}{o p c:Nat}(h:folB s p c=false):K6 s o p c= .er 19 (fpM s p c):=by
 rw [← fp_f h];unfold K6 opnM tkM
 split
 ·rename_i e;subst e;rw [if_neg (by rw [h];decide)]
 ·rw [if_neg (by rw [h];decide)]
theorem Jpq{s:List UInt8}{o p c:Nat}(h:folB s p c=true)(hc:c=40)(ho:o=64):K6 s o p c= .er 7 (fpM s p c - 1):=by
 subst hc;rw [← fp_t h,Nat.add_sub_cancel];unfold K6 opnM;rw [if_pos rfl,if_pos h,if_pos ho]
theorem Jpv{s:List UInt8}{o p c:Nat}(h:folB s p c=true)(hc:c=40)(ho:¬ o=64):K6 s o p c= .ok () (fpM s p c):=by
 subst hc;rw [← fp_t h];unfold K6 opnM;rw [if_pos rfl,if_pos h,if_neg ho]
theorem Jjo{s:List UInt8}{o p c:Nat}(h:folB s p c=true)(hc:¬ c=40):K6 s o p c= .ok () (fpM s p c):=by
 rw [← fp_t h];unfold K6 tkM;rw [if_neg hc,if_pos h]
theorem Jug{c o:Nat}(h:c=40):o+1=opA c o:=by unfold opA;rw [if_pos h]
theorem Jt5{c o:Nat}(h:¬ c=40)(h2:c=41):o - 1=opA c o:=by unfold opA;rw [if_neg h,if_pos h2]
theorem Joa{c o:Nat}(h:¬ c=40)(h2:¬ c=41):o=opA c o:=by unfold opA;rw [if_neg h,if_neg h2]
theorem Vc{d:List UInt8}{i:Nat}(h:i < d.length):Je (d.take (i+1))=Je (d.take i) * 10+((d.getD i 0).toNat - 48):=by
 unfold Je;rw [List.take_add_one,List.foldl_append,List.getD_eq_getElem?_getD,List.getElem?_eq_getElem h]
 rfl
theorem Jr7{c:UInt8}(h:digB c=true):48≤c.toNat∧c.toNat≤57:=by
 unfold digB Yl at h;simp only [Bool.and_eq_true,decide_eq_true_eq] at h;omega
theorem Xe{s d:List UInt8}{p q:Nat}(h:dgsM s p= .ok d q):∀ c ∈ d,digB c=true:=by
 unfold dgsM at h
 split at h
 ·cases h
 ·cases h
  intro c hc;exact List.all_eq_true.1 (List.all_takeWhile (l:=s.drop (spM s p)) (p:=digB)) c hc
theorem K8{s d:List UInt8}{p q:Nat}(h:dgsM s p= .ok d q):d.length≤s.length:=by
 unfold dgsM at h
 split at h
 ·cases h
 ·cases h
  have:=xb digB (s.drop (spM s p))
  rw [List.length_drop] at this;unfold digL;omega
theorem Jtl{s d:List UInt8}{p q:Nat}(h:dgsM s p= .ok d q):d≠[]:=by
 unfold dgsM at h
 split at h
 ·cases h
 ·rename_i hn;cases h;exact hn
def valM(d:List UInt8):Nat:=min 1000001 (Je d)
theorem Jmi{d:List UInt8}{i:Nat}(h:i < d.length)(hd:∀ c ∈ d,digB c=true):((valM (d.take (i+1)):Nat):Int)=if((valM (d.take i) * 10+((d.getD i 0).toNat - 48):Nat):Int) < 1000001 then((valM (d.take i) * 10+((d.getD i 0).toNat - 48):Nat):Int) else 1000001:=by
 unfold valM;rw [Vc h]
 split <;> omega
theorem ze{d:List UInt8}{i:Nat}(h:i < d.length)(hd:∀ c ∈ d,digB c=true):48≤(d.getD i 0).toNat∧(d.getD i 0).toNat≤57:=by
 rw [List.getD_eq_getElem?_getD,List.getElem?_eq_getElem h];exact Jr7 (hd _ (List.getElem_mem h))
theorem Jqd{d:List UInt8}{i:Nat}(h:¬ i < d.length):valM (d.take i)=valM d:=by rw [List.take_of_length_le (by omega)]
theorem Jj4(d:List UInt8):valM d≤1000001:=by unfold valM;omega
theorem Jot{s:List UInt8}{p q:Nat}{e:Int}(h:dgsM s (fpM s (spM s p) 45)= .er e q):intM s p= .er e q:=by
 rw [Ji6] at h;unfold intM;rw [h];rfl
theorem Jij{s d:List UInt8}{p q:Nat}(h:dgsM s (fpM s (spM s p) 45)= .ok d q)(hb:1000000 < ((valM d:Nat):Int)):intM s p= .er 2 (spM s p):=by
 rw [Ji6] at h;unfold intM;rw [h,Rr.th_ok,if_pos (by unfold valM at hb;omega)]
theorem Jrc{s d:List UInt8}{p q:Nat}(h:dgsM s (fpM s (spM s p) 45)= .ok d q)(hb:¬ 1000000 < ((valM d:Nat):Int))(hm:folB s (spM s p) 45=true):intM s p= .ok (-((valM d:Nat):Int)) q:=by
 rw [Ji6] at h;rw [xg] at hm;unfold intM;unfold valM at hb ⊢;rw [h,Rr.th_ok,if_neg (by omega),if_pos hm,Nat.min_eq_right (by omega)]
theorem Jqa{s d:List UInt8}{p q:Nat}(h:dgsM s (fpM s (spM s p) 45)= .ok d q)(hb:¬ 1000000 < ((valM d:Nat):Int))(hm:folB s (spM s p) 45=false):intM s p= .ok ((valM d:Nat):Int) q:=by
 rw [Ji6] at h;rw [xg] at hm;unfold intM;unfold valM at hb ⊢;rw [h,Rr.th_ok,if_neg (by omega),if_neg (by rw [hm];decide),Nat.min_eq_right (by omega)]
theorem Xy{s:List UInt8}{p q:Nat}{i:Int}(h:intM s p= .ok i q): -1000000≤i∧i≤1000000:=by
 unfold intM at h
 cases hd:dgsM s (fpM s p 45) with
 | er e q=>rw [hd] at h;cases h
 | ok d q=>
  rw [hd,Rr.th_ok] at h
  split at h
  ·cases h
  ·cases h;split <;> omega
theorem Jp2{s:List UInt8}{p q c:Nat}{i:Int}(h:intM s p= .ok i q):Kn s c p=Xd s c (s.length+1) [i] q:=by unfold Kn;rw [h];rfl
theorem Jno{s:List UInt8}{p q c:Nat}{e:Int}(h:intM s p= .er e q):Kn s c p= .er e q:=by unfold Kn;rw [h];rfl
section
variable {s:List UInt8} {q q' c k o:Nat} {i e:Int} {l:List Int} {M:Rr (List Int)}
theorem Jkv(hM:M=Xd s c k l q)(hk:s.length < q+k)(hq:q≤s.length)(hb:folB s q 44=true)(hx:intM s (fpM s q 44)= .ok i q'):M=Xd s c (k - 1) (l++[i]) q':=by
 obtain⟨k,rfl⟩:∃ j,k=j+1:=⟨k - 1,by omega⟩;rw [hM,Xd,if_pos hb,fp_t hb,hx];rfl
theorem Jpt(hM:M=Xd s c k l q)(hk:s.length < q+k)(hq:q≤s.length)(hb:folB s q 44=true)(hx:intM s (fpM s q 44)= .er e q'):M= .er e q':=by
 obtain⟨k,rfl⟩:∃ j,k=j+1:=⟨k - 1,by omega⟩;rw [hM,Xd,if_pos hb,fp_t hb,hx];rfl
theorem Jfe{x:Rr Unit}(hM:M=Xd s c k l q)(hk:s.length < q+k)(hq:q≤s.length)(hb:folB s q 44=false)(hc:¬ c=40)(hx:K6 s o (fpM s q 44) c=x):M=x.th fun _ q=> .ok l q:=by
 obtain⟨k,rfl⟩:∃ j,k=j+1:=⟨k - 1,by omega⟩;rw [← hx,hM,Xd,if_neg (by rw [hb];decide),← fp_f hb];unfold K6 tkM;rw [if_neg hc,xg,vb]
theorem qm(hb:folB s q 44=true)(hq:q≤s.length)(hx:intM s (fpM s q 44)= .ok i q'):q+1≤q'∧q'≤s.length:=by
 have h:=Yc (s:=s) (p:=fpM s q 44) (Yu hq);rw [hx] at h;have h1:=K7 (s:=s) (p:=q);rw [← fp_t hb] at h;exact⟨by have:=h.1;omega,h.2⟩
end
end Go.Wf
namespace Go.Wf
open Go Go.Proofs Go.RowKit
theorem Xg{X:Nat→Prop}{w:World}(hX:XB X w){g:Nat}{s:List UInt8}{p o:Nat}(hB:Blk w g (rc s p o) 88)(hXg:X g){c:Nat}(hp:p≤s.length)(hs:s.length≤65536):Calls Tryz.prog 99 #[(.pointer (some ⟨g,0,none⟩)),(.int .u8 ((c:Nat):Int))] w (RetM w g fun v w'=>v=(.bool (folB s p c))∧Blk w' g (rc s (fpM s p c) o) 88):=by
 have C:=J1t g hX hXg;have F:=J38 hB;have hsp:=Yh hp;refine Cgo (args:=[(.pointer (some ⟨g,0,none⟩)),(.int .u8 ((c:Nat):Int))]) Tryz.func99 rfl rfl rfl<|Rg<|Oa<|Nl<|J06<|J06 ?_
 by_cases hpc:hdM s p=c
 ·by_cases hpl:spM s p=s.length
  ·refine J2f mixed 14 1 [[],[0],[],[1,2],[3],[4],[4,5],[4,6],[1,4,7],[4],[4,9],[4,10],[1,4,11],[1,4,12]] C F [fx<|.pointer (some ⟨g,0,none⟩),fun(z:Gh) (v:Value) (w':World)=>(v=(.int .u8 (((hdM s p):Nat):Int)))∧Own ⟨w,(· =g)⟩ z.2 w' g (rc s (spM s p) o) 88,fx<|.int .u8 ((c:Nat):Int),fx<|.bool false,fx<|.bool false,fx<|.pointer (some ⟨g,0,none⟩),fx<|.pointer (some ⟨g,0,none⟩),fx<|.pointer (some ⟨g,1,none⟩),fx<|.int .i64 (((spM s p):Nat):Int),fx<|.pointer (some ⟨g,0,none⟩),fx<|.pointer (some ⟨g,0,none⟩),fx<|.pointer (some ⟨g,0,none⟩),fx<|str s,fx<|.int .i64 ((s.length:Nat):Int)] (by kernel_rfl) ⟨sx,(fun _ _ _ _ _ ⟨h,o⟩ r=>⟨h,o.spn r.sp⟩),sx,sx,sx,sx,sx,sx,sx,sx,sx,sx,sx,sx,trivial⟩ fun f8 y cN bi j=>?_
   have k:=bi.cx;have j:Keep [5,6,7,8,9,10,11,12,13,14,15,16,17,18] _ f8:=j;refine⟨⟨fun _ _=>?_,fun⟨bj,_⟩ B=>?_,fun _ _=>?_,fun⟨bk,bl,_⟩ _=>?_,fun⟨bm,_⟩ _=>?_,fun⟨bn,_⟩ _=>?_,fun⟨bo,bp,_⟩ _=>?_,fun⟨bq,br,_⟩ _=>?_,fun⟨bs,bt,bu,_⟩ _=>?_,fun⟨bv,_⟩ _=>?_,fun⟨bw,bx,_⟩ _=>?_,fun⟨bz,bA,_⟩ _=>?_,fun⟨bB,bC,bD,_⟩ _=>?_,fun⟨bE,bF,bG,_⟩ _=>?_,trivial⟩,fun⟨bH,bI,bJ,bK,bL,bM,bN,bO,bP,bQ,bR,bS,bT,bU,_⟩=>?_⟩
   ·exact Ja j aN fun _=>OpSt.op<|J00 ⟨y,RZ.same k,rfl⟩
   ·replace B:=B rfl;refine Ja j (aC bj aN) fun _=>OpSt.op (J08 k B cb68 rfl rfl (X8 k.bd (s:=s) (p:=p) (o:=o) B.blk (k.yx _ B.mem) hp hs) ?_);intro cO cP bV bW bX bY;exact⟨y,RT.step bV bW,bY,bX⟩
   ·exact Ja j aN fun _=>OpSt.op<|J00 ⟨y,RZ.same k,rfl⟩
   ·obtain⟨bZ,cQ⟩:=bk;exact Ja j (aC bZ<|aC bl aN) fun _=>OpSt.op<|J17 (t:=false) rfl rfl (by rw [decide_eq_true (by omega)];rfl) ⟨y,RZ.same k,rfl⟩
   ·exact Ja j (aC bm aN) fun _=>OpSt.op<|J00 ⟨y,RZ.same k,rfl⟩
   ·exact Ja j (aC bn aN) fun _=>J1c rfl<|J00 ⟨y,RZ.same k,rfl⟩
   ·exact Ja j (aC bo<|aC bp aN) fun _=>J1c rfl<|J03 rfl ⟨y,RZ.same k,rfl⟩
   ·exact Ja j (aC bq<|aC br aN) fun _=>J1c rfl<|J0s Zb rfl ⟨y,RZ.same k,rfl⟩
   ·obtain⟨b0,b1⟩:=bs;exact Ja j (aC b0<|aC bt<|aC bu aN) fun _=>J1c rfl<|J0x b1 pl3 rfl rfl ⟨y,RZ.same k,rfl⟩
   ·exact Ja j (aC bv aN) fun _=>J1c rfl<|J00 ⟨y,RZ.same k,rfl⟩
   ·exact Ja j (aC bw<|aC bx aN) fun _=>J1c rfl<|J03 rfl ⟨y,RZ.same k,rfl⟩
   ·exact Ja j (aC bz<|aC bA aN) fun _=>J1c rfl<|J0s Yr rfl ⟨y,RZ.same k,rfl⟩
   ·obtain⟨b2,b3⟩:=bB;exact Ja j (aC b2<|aC bC<|aC bD aN) fun _=>J1c rfl<|J0x b3 pl9 rfl rfl ⟨y,RZ.same k,rfl⟩
   ·obtain⟨b4,cR⟩:=bE;exact Ja j (aC b4<|aC bF<|aC bG aN) fun _=>J1c rfl<|J1v un9 rfl ⟨y,RZ.same k,rfl⟩
   obtain⟨b5,b6⟩:=bI;obtain⟨cS,rfl⟩:=mixK j (aC bH<|aC b5<|aC bJ<|aC bK<|aC bL<|aC bM<|aC bN<|aC bO<|aC bP<|aC bQ<|aC bR<|aC bS<|aC bT<|aC bU aN);refine OgD<|J1y (t:=true) rfl rfl (decide_eq_true (by omega))<|OF<|Nl<|J0w rfl<|Rg<|Oa<|Nl<|J04<|Jo rfl (J35 rfl)<|RetM.intro ⟨?_,?_⟩ k.below
   ·exact congrArg (Value.bool)<|(Jkb hpl).symm
   have hh:=b6.blk;rw [show(spM s p)=(fpM s p c) from(fp_f<|Jkb hpl)] at hh;exact hh
  refine J2f mixed 14 1 [[],[0],[],[1,2],[3],[4],[4,5],[4,6],[1,4,7],[4],[4,9],[4,10],[1,4,11],[1,4,12]] C F [fx<|.pointer (some ⟨g,0,none⟩),fun(z:Gh) (v:Value) (w':World)=>(v=(.int .u8 (((hdM s p):Nat):Int)))∧Own ⟨w,(· =g)⟩ z.2 w' g (rc s (spM s p) o) 88,fx<|.int .u8 ((c:Nat):Int),fx<|.bool false,fx<|.bool false,fx<|.pointer (some ⟨g,0,none⟩),fx<|.pointer (some ⟨g,0,none⟩),fx<|.pointer (some ⟨g,1,none⟩),fx<|.int .i64 (((spM s p):Nat):Int),fx<|.pointer (some ⟨g,0,none⟩),fx<|.pointer (some ⟨g,0,none⟩),fx<|.pointer (some ⟨g,0,none⟩),fx<|str s,fx<|.int .i64 ((s.length:Nat):Int)] (by kernel_rfl) ⟨sx,(fun _ _ _ _ _ ⟨h,o⟩ r=>⟨h,o.spn r.sp⟩),sx,sx,sx,sx,sx,sx,sx,sx,sx,sx,sx,sx,trivial⟩ fun b7 x cT b8 l=>?_
  have m:=b8.cx;have l:Keep [5,6,7,8,9,10,11,12,13,14,15,16,17,18] _ b7:=l;refine⟨⟨fun _ _=>?_,fun⟨b9,_⟩ D=>?_,fun _ _=>?_,fun⟨ca,cb,_⟩ _=>?_,fun⟨G,_⟩ _=>?_,fun⟨H,_⟩ _=>?_,fun⟨I,J,_⟩ _=>?_,fun⟨K,L,_⟩ _=>?_,fun⟨M,N,P,_⟩ _=>?_,fun⟨Q,_⟩ _=>?_,fun⟨R,S,_⟩ _=>?_,fun⟨T,U,_⟩ _=>?_,fun⟨V,Y,Z,_⟩ _=>?_,fun⟨aa,ab,ac,_⟩ _=>?_,trivial⟩,fun⟨ad,ae,af,ag,ah,ai,aj,ak,am,an,ao,aq,ar,au,_⟩=>?_⟩
  ·exact Ja l aN fun _=>OpSt.op<|J00 ⟨x,RZ.same m,rfl⟩
  ·replace D:=D rfl;refine Ja l (aC b9 aN) fun _=>OpSt.op (J08 m D cb68 rfl rfl (X8 m.bd (s:=s) (p:=p) (o:=o) D.blk (m.yx _ D.mem) hp hs) ?_);intro cd ce av aw ax ay;exact⟨x,RT.step av aw,ay,ax⟩
  ·exact Ja l aN fun _=>OpSt.op<|J00 ⟨x,RZ.same m,rfl⟩
  ·obtain⟨az,cf⟩:=ca;exact Ja l (aC az<|aC cb aN) fun _=>OpSt.op<|J17 (t:=false) rfl rfl (by rw [decide_eq_true (by omega)];rfl) ⟨x,RZ.same m,rfl⟩
  ·exact Ja l (aC G aN) fun _=>OpSt.op<|J00 ⟨x,RZ.same m,rfl⟩
  ·exact Ja l (aC H aN) fun _=>J1c rfl<|J00 ⟨x,RZ.same m,rfl⟩
  ·exact Ja l (aC I<|aC J aN) fun _=>J1c rfl<|J03 rfl ⟨x,RZ.same m,rfl⟩
  ·exact Ja l (aC K<|aC L aN) fun _=>J1c rfl<|J0s Zb rfl ⟨x,RZ.same m,rfl⟩
  ·obtain⟨aA,aB⟩:=M;exact Ja l (aC aA<|aC N<|aC P aN) fun _=>J1c rfl<|J0x aB pl3 rfl rfl ⟨x,RZ.same m,rfl⟩
  ·exact Ja l (aC Q aN) fun _=>J1c rfl<|J00 ⟨x,RZ.same m,rfl⟩
  ·exact Ja l (aC R<|aC S aN) fun _=>J1c rfl<|J03 rfl ⟨x,RZ.same m,rfl⟩
  ·exact Ja l (aC T<|aC U aN) fun _=>J1c rfl<|J0s Yr rfl ⟨x,RZ.same m,rfl⟩
  ·obtain⟨aD,aE⟩:=V;exact Ja l (aC aD<|aC Y<|aC Z aN) fun _=>J1c rfl<|J0x aE pl9 rfl rfl ⟨x,RZ.same m,rfl⟩
  ·obtain⟨aF,cg⟩:=aa;exact Ja l (aC aF<|aC ab<|aC ac aN) fun _=>J1c rfl<|J1v un9 rfl ⟨x,RZ.same m,rfl⟩
  obtain⟨aG,E⟩:=ae;obtain⟨ch,rfl⟩:=mixK l (aC ad<|aC aG<|aC af<|aC ag<|aC ah<|aC ai<|aC aj<|aC ak<|aC am<|aC an<|aC ao<|aC aq<|aC ar<|aC au aN);refine OgD (J1y (t:=false) rfl rfl (decide_eq_false (by omega))<|OF<|Nl<|J0v rfl<|J01<|Rg<|Om<|Ol<|J03 rfl<|Ol<|J0s Zb rfl<|Ol<|J0x E pl3 rfl rfl<|Ol<|St.add rfl rfl (Jc (a:=(spM s p)) (b:=1) (by omega))<|Ol<|J03 rfl ?_);refine Ol (J0s Zb rfl<|On<|J0u (cs':=[(str s),(.int .i64 (((spM s p)+1:Nat):Int)),(.int .i64 ((o:Nat):Int))]) m E io3 rfl rfl rfl rfl rfl rfl ?_);intro ci aH cj aI;refine Nl<|Rg<|Oa<|Nl<|J04<|Jo rfl (J35 rfl)<|RetM.intro ⟨?_,?_⟩ aH.below
  ·exact congrArg (Value.bool)<|(Jn8 hpc hpl hp).symm
  have hh:=aI.blk;rw [show(spM s p)+1=(fpM s p c) from(fp_t<|Jn8 hpc hpl hp)] at hh;exact hh
 refine J2f mixed 14 1 [[],[0],[],[1,2],[3],[4],[4,5],[4,6],[1,4,7],[4],[4,9],[4,10],[1,4,11],[1,4,12]] C F [fx<|.pointer (some ⟨g,0,none⟩),fun(z:Gh) (v:Value) (w':World)=>(v=(.int .u8 (((hdM s p):Nat):Int)))∧Own ⟨w,(· =g)⟩ z.2 w' g (rc s (spM s p) o) 88,fx<|.int .u8 ((c:Nat):Int),fx<|.bool true,fx<|.bool true,noG,noG,noG,noG,noG,noG,noG,noG,noG] (by kernel_rfl) ⟨sx,(fun _ _ _ _ _ ⟨h,o⟩ r=>⟨h,o.spn r.sp⟩),sx,sx,sx,(fun _ _ _ _ _ h _=>h),(fun _ _ _ _ _ h _=>h),(fun _ _ _ _ _ h _=>h),(fun _ _ _ _ _ h _=>h),(fun _ _ _ _ _ h _=>h),(fun _ _ _ _ _ h _=>h),(fun _ _ _ _ _ h _=>h),(fun _ _ _ _ _ h _=>h),(fun _ _ _ _ _ h _=>h),trivial⟩ fun aJ i ck aK d=>?_
 have e:=aK.cx;have d:Keep [5,6,7,8,9,10,11,12,13,14,15,16,17,18] _ aJ:=d;refine⟨⟨fun _ _=>?_,fun⟨aL,_⟩ A=>?_,fun _ _=>?_,fun⟨aM,aO,_⟩ _=>?_,fun⟨aP,_⟩ _=>?_,fun⟨aQ,_⟩ _=>?_,fun⟨aR,cl,_⟩ _=>?_,fun⟨aS,cm,_⟩ _=>?_,fun⟨aT,aU,cn,_⟩ _=>?_,fun⟨aV,_⟩ _=>?_,fun⟨aW,co,_⟩ _=>?_,fun⟨aX,cp,_⟩ _=>?_,fun⟨aY,aZ,cq,_⟩ _=>?_,fun⟨a0,a1,cr,_⟩ _=>?_,trivial⟩,fun⟨a2,a3,a4,a5,a6,cs,ct,cu,cv,cw,cy,cz,cE,cF,_⟩=>?_⟩
 ·exact Ja d aN fun _=>OpSt.op<|J00 ⟨i,RZ.same e,rfl⟩
 ·replace A:=A rfl;refine Ja d (aC aL aN) fun _=>OpSt.op (J08 e A cb68 rfl rfl (X8 e.bd (s:=s) (p:=p) (o:=o) A.blk (e.yx _ A.mem) hp hs) ?_);intro cG cH a7 a8 a9 ba;exact⟨i,RT.step a7 a8,ba,a9⟩
 ·exact Ja d aN fun _=>OpSt.op<|J00 ⟨i,RZ.same e,rfl⟩
 ·obtain⟨bb,cI⟩:=aM;exact Ja d (aC bb<|aC aO aN) fun _=>OpSt.op<|J17 (t:=true) rfl rfl (by rw [decide_eq_false (by omega)];rfl) ⟨i,RZ.same e,rfl⟩
 ·exact Ja d (aC aP aN) fun _=>OpSt.op<|J00 ⟨i,RZ.same e,rfl⟩
 ·exact Ja d (aC aQ aN) fun _=>J1m rfl rfl ⟨i,RZ.same e,trivial⟩
 ·exact Ja d (aC aR aN) fun _=>J1m rfl rfl ⟨i,RZ.same e,trivial⟩
 ·exact Ja d (aC aS aN) fun _=>J1m rfl rfl ⟨i,RZ.same e,trivial⟩
 ·obtain⟨bc,cJ⟩:=aT;exact Ja d (aC bc<|aC aU aN) fun _=>J1m rfl rfl ⟨i,RZ.same e,trivial⟩
 ·exact Ja d (aC aV aN) fun _=>J1m rfl rfl ⟨i,RZ.same e,trivial⟩
 ·exact Ja d (aC aW aN) fun _=>J1m rfl rfl ⟨i,RZ.same e,trivial⟩
 ·exact Ja d (aC aX aN) fun _=>J1m rfl rfl ⟨i,RZ.same e,trivial⟩
 ·obtain⟨be,cK⟩:=aY;exact Ja d (aC be<|aC aZ aN) fun _=>J1m rfl rfl ⟨i,RZ.same e,trivial⟩
 ·obtain⟨bf,cL⟩:=a0;exact Ja d (aC bf<|aC a1 aN) fun _=>J1m rfl rfl ⟨i,RZ.same e,trivial⟩
 obtain⟨bg,bh⟩:=a3;obtain⟨cM,rfl⟩:=mixK d (aC a2<|aC bg<|aC a4<|aC a5<|aC a6 aN);refine Oz<|OT<|Nl<|J0w rfl<|Rg<|Oa<|Nl<|J04<|Jo rfl (J35 rfl)<|RetM.intro ⟨?_,?_⟩ e.below
 ·exact congrArg (Value.bool)<|(Jcf hpc).symm
 have hh:=bh.blk;rw [show(spM s p)=(fpM s p c) from(fp_f<|Jcf hpc)] at hh;exact hh
theorem qe{X:Nat→Prop}{w:World}(hX:XB X w){g:Nat}{s:List UInt8}{p o:Nat}(hB:Blk w g (rc s p o) 88)(hXg:X g){c:Nat}(hp:p≤s.length)(hs:s.length≤65536)(hc:c=41→1≤o)(ho:o≤64):Calls Tryz.prog 193 #[(.pointer (some ⟨g,0,none⟩)),(.int .u8 ((c:Nat):Int))] w (RetP w g (K6 s o p c) fun a q v w'=>v= .tuple #[]∧Blk w' g (rc s q (opA c o)) 88):=by
 have C:=J1t g hX hXg;have i:=J38 hB;refine Cgo (args:=[(.pointer (some ⟨g,0,none⟩)),(.int .u8 ((c:Nat):Int))]) Tryz.func193 rfl rfl rfl (Rh<|Om<|Ol<|J03 rfl<|Ol<|J0s Ym rfl<|Om<|Ol<|J1n<|J08 C i cb99 rfl rfl (Xg C.bd (s:=s) (p:=p) (o:=o) i.blk (C.yx _ i.mem) (c:=c) hp hs) ?_);intro F G h H e z;refine⟨_,z,fun d=>?_,fun d=>?_⟩
 ·refine Ol<|J1s rfl<|Nl<|J0v rfl<|J01<|Rg<|Om<|Nl<|W.block<|Rg<|Ol<|J1a rfl rfl (fun k=>?_)<|fun k=>?_
  ·refine Oa<|Nl<|J0w rfl<|Rh<|Om<|Ol<|J03 rfl<|Ol<|J0s Jb2 rfl<|Ol<|J0x e pl3 rfl rfl<|Ol<|J1a rfl rfl (fun l=>?_)<|fun l=>?_
   ·refine Nl<|J0w rfl ?_
    have:=fp_t d
    have:=Yu (c:=c) hp
    refine J0y (Om<|Ol<|J03 rfl<|Ol<|J0s Ym rfl<|Ol<|J0s Zb rfl<|Ol<|J0x e pl3 rfl rfl<|Ol<|St.sub rfl rfl (Zr (a:=(fpM s p c)) (b:=1) (by omega) (by omega))<|Ol<|J09 (cs:=[(.int .i64 7),(.int .i64 (((fpM s p c) - 1:Nat):Int))]) rfl (by kernel_rfl)<|Ol<|J1z (by kernel_rfl) ?_);exact On<|J2t rfl<|Zg (Jpq d (by omega) (by omega)) h.below
   refine Nl (J0v rfl<|J01<|J0y<|Om<|Ol<|J03 rfl<|Ol<|J0s Jb2 rfl<|Ol<|J0x e pl3 rfl rfl<|Ol<|St.add rfl rfl (Jc (a:=o) (b:=1) (by omega))<|Ol<|J03 rfl<|Ol<|J0s Jb2 rfl<|On<|J0u (cs':=[(str s),(.int .i64 (((fpM s p c):Nat):Int)),(.int .i64 ((o+1:Nat):Int))]) h e io3 rfl rfl rfl rfl rfl rfl ?_);intro A m B r;refine Nl<|Zp rfl<|RetP.ok (a:=()) (q:=(fpM s p c)) (Jpv d (by omega) (by omega)) ⟨?_,?_⟩ m.below
   ·exact rfl
   have hh:=r.blk;rw [show o+1=(opA c o) from(Jug (by omega))] at hh;exact hh
  refine Oa<|Nl<|J0v rfl<|Rg<|Ol<|J1a rfl rfl (fun j=>?_)<|fun j=>?_
  ·refine Oa<|Nl<|J0w rfl ?_
   have:=hc (by omega)
   refine J0y (Om<|Ol<|J03 rfl<|Ol<|J0s Jb2 rfl<|Ol<|J0x e pl3 rfl rfl<|Ol<|St.sub rfl rfl (Zr (a:=o) (b:=1) (by omega) (by omega))<|Ol<|J03 rfl<|Ol<|J0s Jb2 rfl<|On<|J0u (cs':=[(str s),(.int .i64 (((fpM s p c):Nat):Int)),(.int .i64 ((o - 1:Nat):Int))]) h e io3 rfl rfl rfl rfl rfl rfl ?_);intro D x E y;refine Nl<|Zp rfl<|RetP.ok (a:=()) (q:=(fpM s p c)) (Jjo d (by omega)) ⟨?_,?_⟩ x.below
   ·exact rfl
   have hh:=y.blk;rw [show o - 1=(opA c o) from(Jt5 (by omega) (by omega))] at hh;exact hh
  refine Oa<|Nl<|J0v rfl<|J01<|Zp rfl<|RetP.ok (a:=()) (q:=(fpM s p c)) (Jjo d (by omega)) ⟨?_,?_⟩ h.below
  ·exact rfl
  have hh:=e.blk;rw [show o=(opA c o) from(Joa (by omega) (by omega))] at hh;exact hh
 exact Ol<|J1s rfl<|Nl<|J0w rfl<|J0y<|Om<|Ol<|J03 rfl<|Ol<|J0s Ym rfl<|Ol<|J0s Zb rfl<|Ol<|J0x e pl3 rfl rfl<|Ol<|J09 (cs:=[(.int .i64 19),(.int .i64 (((fpM s p c):Nat):Int))]) rfl (by kernel_rfl)<|Ol<|J1z (by kernel_rfl)<|On<|J2t rfl<|Zg (Jqf d) h.below
theorem Jea{X:Nat→Prop}{w:World}(hX:XB X w){d:List UInt8}(hd:∀ c ∈ d,digB c=true)(hl:d.length≤65536):CRt 196 #[(str d)] w fun v w'=>v=(.int .i64 (((valM d):Nat):Int)):=by
 have C:=J07 hX;refine Cgo (args:=[(str d)]) Tryz.func196 rfl rfl rfl (Rg<|Oa<|Nl<|Rg<|Oa<|Nl<|Rh<|Om<|Ol<|J1v un9 rfl<|Om<|Nl<|W.block<|J1g (fun μ f v=>∃ (x y:Nat→Prop) (i:Nat),Cx X w x y v∧f 0=(str d)∧f 2=(.int .i64 0)∧f 6=(.int .i64 ((d.length:Nat):Int))∧f 7=(.int .i64 ((i:Nat):Int))∧f 3=(.int .i64 ((valM (d.take i):Nat):Int))∧i≤d.length∧μ=(d.length - i)) _ ⟨_,_,0,C,rfl,rfl,rfl,rfl,rfl,(Nat.zero_le _),rfl⟩ ?_);rintro r A B ⟨D,E,i,h,k,l,m,o,e,hi,p⟩;obtain⟨s,rfl⟩:=rebK (aC k<|aC l<|aC m<|aC o<|aC e aN);clear k l m o e;refine Rg<|Ol<|J1h rfl rfl (fun g=>?_)<|fun g=>?_
 ·refine Nl (J06<|J0w rfl<|J01<|J06<|W.block<|Rg<|Om<|Oa<|Nl ?_);have hr:=ze (i:=i) (by omega) hd;have hv:=Jj4 (d.take i);refine J0y (Om<|Ol<|J2s rfl rfl (xq (a:=valM<|d.take i) (b:=10) (by omega))<|Om<|Om<|Ol<|J1p (j:=i) (c:=(d.getD i 0)) un9 rfl rfl rfl (Jf (by omega))<|Ol<|St.sub rfl rfl (V7 (a:=(d.getD i 0).toNat) (b:=48) (by omega) (by omega))<|Ol<|J1b (z:=((((d.getD i 0).toNat) - 48:Nat):Int)) us5 un3 rfl (IntWalk.i64_in _ (by omega)) ?_);refine Ol<|St.add rfl rfl (Jc (a:=(valM<|d.take i) * 10) (b:=((d.getD i 0).toNat) - 48) (by omega))<|Ol<|St.min rfl rfl (Jmi (by omega) hd).symm<|Oa<|Nl<|J0y<|Ol<|St.add rfl rfl (Jc (a:=i) (b:=1) (by omega))<|Om<|Nl<|⟨_,(by omega),_,_,(i+1),h,rfl,rfl,rfl,rfl,rfl,(by omega),rfl⟩
 exact Nl<|J06<|J0v rfl<|J1j<|Rg<|Om<|Oa<|Nl<|J04<|Wq rfl rfl h<|congrArg (Value.int _)<|congrArg Nat.cast<|Jqd (by omega)
theorem kz{X:Nat→Prop}{w:World}(hX:XB X w){g:Nat}{s:List UInt8}{p o:Nat}(hB:Blk w g (rc s p o) 88)(hXg:X g)(hp:p≤s.length)(hs:s.length≤65536):Calls Tryz.prog 148 #[(.pointer (some ⟨g,0,none⟩))] w (RetP w g (intM s p) fun a q v w'=>v=(.int .i64 a)∧Blk w' g (rc s q o) 88):=by
 have C:=J1t g hX hXg;have E:=J38 hB;refine Cgo (args:=[(.pointer (some ⟨g,0,none⟩))]) Tryz.func148 rfl rfl rfl (Rg<|Oa<|Nl<|Rg<|Om<|Ol<|J03 rfl<|Ol<|J0s Ym rfl<|Ol<|J08 C E cb68 rfl rfl (X8 C.bd (s:=s) (p:=p) (o:=o) E.blk (C.yx _ E.mem) hp hs) ?_);intro v1 w2 F s4 x T;subst T;refine Nl (Rg<|Om<|Ol<|J03 rfl<|Ol<|J0s Ym rfl<|Ol<|J0s Zb rfl<|Ol<|J0x x pl3 rfl rfl<|Oa<|Nl<|Rg<|Om<|Ol<|J03 rfl<|Ol<|J0s Ym rfl<|Ol<|J1n<|J08 F x cb99 rfl rfl (Xg F.bd (s:=s) (p:=(spM s p)) (o:=o) x.blk (F.yx _ x.mem) (c:=45) (Yh hp) hs) ?_);intro v7 w8 k U e G;refine⟨_,G,fun h=>?_,fun h=>?_⟩
 ·refine Oa<|Nl<|Rg<|Om<|Ol<|J03 rfl<|Ol<|J0s Ym rfl<|Ol<|J1w (cs':=fun a q=>rc s q o) k e Jln rfl rfl (V4 k.bd (s:=s) (p:=(fpM s (spM s p) 45)) (o:=o) e.blk (k.yx _ e.mem) (Yu<|Yh hp) hs) ?_ ?_
  ·intro V Y Z b H;exact Zg (Jot b) H
  intro aa ab l I b y ac m J;subst J;refine Ol (J0t y Jq4 rfl rfl (Jea y.bd (Xe b)<|Nat.le_trans (K8 b) hs) ?_);intro ad ae A K L;replace m:=m.spn K;subst L;refine Oa<|Nl<|Rh<|Om<|Ol<|J10 rfl rfl (fun i=>?_)<|fun i=>?_
  ·exact Nl<|J0w rfl<|J0y<|Om<|Ol<|J09 (cs:=[(.int .i64 2),(.int .i64 (((spM s p):Nat):Int))]) rfl (by kernel_rfl)<|Ol<|J1z (by kernel_rfl)<|On<|J2t rfl<|Zg (Jij b i) A.below
  refine Nl<|J0v rfl<|J01<|Rh<|Om<|Nl<|J0w rfl ?_
  have:=Jj4 l
  refine J0y<|Om<|Ol<|St.neg (z:=(-(((valM l):Nat):Int))) rfl (kx (by omega))<|Oa<|Nl<|Rg<|Om<|Oa<|Nl<|J04<|Jo rfl (J35 rfl)<|RetP.ok (a:=(-(((valM l):Nat):Int))) (q:=I) (Jrc b i h) ⟨?_,?_⟩ A.below
  ·rfl
  exact m.blk
 refine Oa<|Nl<|Rg<|Om<|Ol<|J03 rfl<|Ol<|J0s Ym rfl<|Ol<|J1w (cs':=fun a q=>rc s q o) k e Jln rfl rfl (V4 k.bd (s:=s) (p:=(fpM s (spM s p) 45)) (o:=o) e.blk (k.yx _ e.mem) (Yu<|Yh hp) hs) ?_ ?_
 ·intro af ag ah d M;exact Zg (Jot d) M
 intro ai aj N P d B ak r Q;subst Q;refine Ol (J0t B Jq4 rfl rfl (Jea B.bd (Xe d)<|Nat.le_trans (K8 d) hs) ?_);intro am an D R S;replace r:=r.spn R;subst S;refine Oa<|Nl<|Rh<|Om<|Ol<|J10 rfl rfl (fun j=>?_)<|fun j=>?_
 ·exact Nl<|J0w rfl<|J0y<|Om<|Ol<|J09 (cs:=[(.int .i64 2),(.int .i64 (((spM s p):Nat):Int))]) rfl (by kernel_rfl)<|Ol<|J1z (by kernel_rfl)<|On<|J2t rfl<|Zg (Jij d j) D.below
 refine Nl<|J0v rfl<|J01<|Rh<|Om<|Nl<|J0v rfl<|J01<|Rg<|Om<|Oa<|Nl<|J04<|Jo rfl (J35 rfl)<|RetP.ok (a:=(((valM N):Nat):Int)) (q:=P) (Jqa d j h) ⟨?_,?_⟩ D.below
 ·rfl
 exact r.blk
theorem Je5{X:Nat→Prop}{w:World}(hX:XB X w){g:Nat}{s:List UInt8}{p o:Nat}(hB:Blk w g (rc s p o) 88)(hXg:X g){c:Nat}(hp:p≤s.length)(hs:s.length≤65536)(hc:c=41→1≤o)(ho:o≤64)(hn:¬ c=40):Calls Tryz.prog 230 #[(.pointer (some ⟨g,0,none⟩)),(.int .u8 ((c:Nat):Int))] w (RetP w g (Kn s c p) fun a q v w'=>RS Ye X w' v a∧Blk w' g (rc s q (opA c o)) 88):=by
 have C:=J1t g hX hXg;have P:=J38 hB
 have:maxLen=9223372036854775807:=rfl
 refine Cgo (args:=[(.pointer (some ⟨g,0,none⟩)),(.int .u8 ((c:Nat):Int))]) Tryz.func230 rfl rfl rfl<|Rg<|Oa<|Nl<|Rg<|Om<|Ol<|J1w (cs':=fun a q=>rc s q o) C P Jje rfl rfl (kz C.bd (s:=s) (p:=p) (o:=o) P.blk (C.yx _ P.mem) hp hs) ?_ ?_
 ·intro w4 e1 q2 i b3;exact Zg (Jno i) b3
 intro v5 w6 Q q8 i R av z S;subst S;refine Ol (J2v (T:=Ye) (css:=[[(.int .i64 Q)]]) (l:=[Q]) R sl23 io3 (by decide) (by decide) rfl (by kernel_rfl) ⟨⟨rfl,(by have:=Xy i;omega),(by have:=Xy i;omega)⟩,trivial⟩ ?_);intro U aw ax V Y ay Z;replace z:=z.spn Y;refine Oa (Nl<|J06<|W.block<|J1g (fun μ f v=>∃ (x y:Nat→Prop) (q:Nat) (k:Nat) (l:List Int) (la:Option Addr) (lc:Nat),Cx X ⟨w,(· =g)⟩ x y v∧f 0=(.pointer (some ⟨g,0,none⟩))∧f 1=(.int .u8 ((c:Nat):Int))∧f 4=(.slice none 0 0)∧f 5=(.slice la l.length lc)∧OS Ye 3 ⟨w,(· =g)⟩ x y v (.slice la l.length lc) l∧Own ⟨w,(· =g)⟩ y v g [(str s),(.int .i64 ((q:Nat):Int)),(.int .i64 ((o:Nat):Int))] 88∧q≤s.length∧s.length < q+k∧l.length≤q+1∧Kn s c p=Xd s c k l q∧μ=(s.length+1 - q)) _ ⟨_,_,q8,(s.length+1),[Q],(some ⟨U,0,none⟩),1,V,rfl,rfl,rfl,rfl,Z,z,(Rr.le (Yc hp) i),(by omega),(by rw [List.length_singleton];omega),(Jp2 i),rfl⟩ ?_);rintro az aA aB ⟨aD,aE,q,k,l,la,lc,A,F,G,H,I,hL,B,hq,hk,hl,hM,aq⟩;obtain⟨aF,rfl⟩:=rebK (aC F<|aC G<|aC H<|aC I aN);clear F G H I;refine Rh (Om<|Ol<|J03 rfl<|Ol<|J0s Ym rfl<|Ol<|J1n<|J08 A B cb99 rfl rfl (Xg A.bd (s:=s) (p:=q) (o:=o) B.blk (A.yx _ B.mem) (c:=44) hq hs) ?_);intro aG aH e aa j ab;replace hL:=hL.sp aa e<|fun _ h=>h
 refine⟨_,ab,fun b=>?_,fun b=>?_⟩
 ·refine Nl<|J0w rfl<|J01<|W.block<|J0y<|Om<|Om<|Ol<|J1w (cs':=fun a q=>rc s q o) e j Jje rfl rfl (kz e.bd (s:=s) (p:=(fpM s q 44)) (o:=o) j.blk (e.yx _ j.mem) (Yu hq) hs) ?_ ?_
  ·intro aI aJ aK d ac;exact Zg (Jpt hM hk hq b d) ac
  intro aL aM D ad d J ae m af;subst af;refine Ol (J1k (T:=Ye) (css:=[[(.int .i64 D)]]) (l:=[D]) J sl23 io3 (by decide) (by decide) rfl (by kernel_rfl) ⟨⟨rfl,(by have:=Xy d;omega),(by have:=Xy d;omega)⟩,trivial⟩ ?_);intro aO aP K L ag;replace hL:=(hL.sp ae J<|fun _ h=>h).sp L K (fun _ h=>h)
  replace m:=m.spn L;refine Ol (J1o (T:=Ye) K sl23 io3 rfl rfl hL (Kb ag) (by simp only [List.length_cons,List.length_nil];omega) (by simp only [List.length_cons,List.length_nil];omega) rfl ?_);intro aQ aR aS ah ai aT M;replace m:=m.ap ai m.mem;obtain⟨aj,ak,rfl,_,_⟩:=M.len;refine Oa<|Nl<|⟨_,(by have:=(qm b hq d);omega),_,_,ad,(k - 1),(l++[D]),aj,ak,ah,rfl,rfl,rfl,rfl,M,m,(qm b hq d).2,(by have:=(qm b hq d);omega),(by have:=(qm b hq d);rw [List.length_append,List.length_singleton];omega),(Jkv hM hk hq b d),rfl⟩
 refine Nl<|J0v rfl<|J1j<|Rg<|Om<|Om<|Ol<|J1w (cs':=fun a q=>rc s q<|opA c o) e j z6 rfl rfl (qe e.bd (s:=s) (p:=(fpM s q 44)) (o:=o) j.blk (e.yx _ j.mem) (c:=c) (Yu hq) hs hc ho) ?_ ?_
 ·intro aU aV aW r am;exact Zg (Jfe hM hk hq b hn r) am
 intro aX aY aZ an r E ao N a0;replace hL:=hL.sp ao E<|fun _ h=>h
 refine Nl<|Rg<|Om<|Oa<|Nl<|J04<|Jo rfl (J35 rfl)<|RetP.ok (a:=l) (q:=an) (Jfe hM hk hq b hn r) ⟨?_,?_⟩ E.below
 ·exact J39 (hL.toRS E hX N.sees)<|rfl
 have hh:=N.blk;rw [show(opA c o)=(opA c o) from rfl] at hh;exact hh
end Go.Wf
namespace Go.Wf
open Go
theorem Jch{s:List UInt8}{c:Nat}:∀ (k:Nat) (l m:List Int) (p q:Nat),Xd s c k l p= .ok m q→m.length≤l.length+k
 | 0,l,m,p,q,h=>by cases h
 | k+1,l,m,p,q,h=>by
  unfold Xd at h
  split at h
  ·cases hi:intM s (spM s p+1) with
   | er e q=>rw [hi] at h;cases h
   | ok i r=>rw [hi] at h;have:=Jch k (l++[i]) m r q h;rw [List.length_append,List.length_singleton] at this;omega
  ·cases hi:tkM s p c with
   | er e q=>rw [hi] at h;cases h
   | ok i r=>rw [hi] at h;cases h;omega
theorem Jf3{s:List UInt8}{c p q:Nat}{l:List Int}(h:Kn s c p= .ok l q):l.length≤s.length+2:=by
 unfold Kn at h
 cases hi:intM s p with
 | er e q=>rw [hi] at h;cases h
 | ok i r=>rw [hi] at h;have:=Jch _ _ _ _ _ h;rw [List.length_singleton] at this;omega
theorem tk_o{s:List UInt8}{o p q:Nat}(h:opnM s o p= .ok () q)(ho:o≤64):o+1≤64:=by
 unfold opnM at h
 split at h
 ·split at h
  ·cases h
  ·omega
 ·cases h
section
variable {s w:List UInt8} {S:Nat→Nat→Rr GExpr} {o p q0 p1 p2 p3 p4 p5 p6 p7 q:Nat} {op n e:Int} {l:List Int} {a b:GExpr} {M:Rr GExpr} {u u1 u2 u3 u4:Unit}
theorem ls1(hM:M=Vr s op o p)(h:opnM s o p= .er e q):M= .er e q:=by rw [hM,Vr,h];rfl
theorem ls2(hM:M=Vr s op o p)(h:opnM s o p= .ok u p1)(h2:Kn s 41 p1= .er e q):M= .er e q:=by rw [hM,Vr,h,Rr.th_ok,h2];rfl
theorem ls3(hM:M=Vr s op o p)(h:opnM s o p= .ok u p1)(h2:Kn s 41 p1= .ok l q):M= .ok (eOp op l []) q:=by rw [hM,Vr,h,Rr.th_ok,h2];rfl
theorem tw1(hM:M=twoM s op o p)(h:opnM s o p= .er e q):M= .er e q:=by rw [hM,twoM,h];rfl
theorem tw2(hM:M=twoM s op o p)(h:opnM s o p= .ok u p1)(h2:intM s p1= .er e q):M= .er e q:=by rw [hM,twoM,h,Rr.th_ok,h2];rfl
theorem tw3(hM:M=twoM s op o p)(h:opnM s o p= .ok u p1)(h2:intM s p1= .ok n p2)(h3:tkM s p2 41= .er e q):M= .er e q:=by rw [hM,twoM,h,Rr.th_ok,h2,Rr.th_ok,h3];rfl
theorem tw4(hM:M=twoM s op o p)(h:opnM s o p= .ok u p1)(h2:intM s p1= .ok n p2)(h3:tkM s p2 41= .ok u1 p3)(h4:tkM s p3 91= .er e q):M= .er e q:=by
 rw [hM,twoM,h,Rr.th_ok,h2,Rr.th_ok,h3,Rr.th_ok,h4];rfl
theorem tw5(hM:M=twoM s op o p)(h:opnM s o p= .ok u p1)(h2:intM s p1= .ok n p2)(h3:tkM s p2 41= .ok u1 p3)(h4:tkM s p3 91= .ok u2 p4)(h5:Kn s 93 p4= .er e q):M= .er e q:=by
 rw [hM,twoM,h,Rr.th_ok,h2,Rr.th_ok,h3,Rr.th_ok,h4,Rr.th_ok,h5];rfl
theorem tw6(hM:M=twoM s op o p)(h:opnM s o p= .ok u p1)(h2:intM s p1= .ok n p2)(h3:tkM s p2 41= .ok u1 p3)(h4:tkM s p3 91= .ok u2 p4)(h5:Kn s 93 p4= .ok l q):M= .ok (eOp op (n::l) []) q:=by
 rw [hM,twoM,h,Rr.th_ok,h2,Rr.th_ok,h3,Rr.th_ok,h4,Rr.th_ok,h5];rfl
theorem sr1(hM:M=serM s S o p)(h:opnM s o p= .er e q):M= .er e q:=by rw [hM,serM,h];rfl
theorem sr2(hM:M=serM s S o p)(h:opnM s o p= .ok u p1)(h2:S (o+1) p1= .er e q):M= .er e q:=by rw [hM,serM,h,Rr.th_ok,h2];rfl
theorem sr3(hM:M=serM s S o p)(h:opnM s o p= .ok u p1)(h2:S (o+1) p1= .ok a p2)(h3:tkM s p2 41= .er e q):M= .er e q:=by rw [hM,serM,h,Rr.th_ok,h2,Rr.th_ok,h3];rfl
theorem sr4(hM:M=serM s S o p)(h:opnM s o p= .ok u p1)(h2:S (o+1) p1= .ok a p2)(h3:tkM s p2 41= .ok u1 q):M= .ok (eOp 17 [] [a]) q:=by rw [hM,serM,h,Rr.th_ok,h2,Rr.th_ok,h3];rfl
def oneB(s:List UInt8)(S:Nat→Nat→Rr GExpr)(op:Int)(two:Bool)(o p4:Nat)(n:Int)(a:GExpr):Rr GExpr:=
 if two then(tkM s p4 44).th fun _ p5=>(S (o+1) p5).th fun b p6=>(tkM s p6 41).th fun _ p7=> .ok (eOp op [n] [a,b]) p7
 else(tkM s p4 41).th fun _ p5=> .ok (eOp op [n] [a]) p5
variable {t:Bool}
theorem on1(hM:M=oneM s S op t o p)(h:opnM s o p= .er e q):M= .er e q:=by rw [hM,oneM,h];rfl
theorem on2(hM:M=oneM s S op t o p)(h:opnM s o p= .ok u p1)(h2:intM s p1= .er e q):M= .er e q:=by rw [hM,oneM,h,Rr.th_ok,h2];rfl
theorem on3(hM:M=oneM s S op t o p)(h:opnM s o p= .ok u p1)(h2:intM s p1= .ok n p2)(h3:tkM s p2 44= .er e q):M= .er e q:=by rw [hM,oneM,h,Rr.th_ok,h2,Rr.th_ok,h3];rfl
theorem on4(hM:M=oneM s S op t o p)(h:opnM s o p= .ok u p1)(h2:intM s p1= .ok n p2)(h3:tkM s p2 44= .ok u1 p3)(h4:S (o+1) p3= .er e q):M= .er e q:=by
 rw [hM,oneM,h,Rr.th_ok,h2,Rr.th_ok,h3,Rr.th_ok,h4];rfl
theorem on5(hM:M=oneM s S op t o p)(h:opnM s o p= .ok u p1)(h2:intM s p1= .ok n p2)(h3:tkM s p2 44= .ok u1 p3)(h4:S (o+1) p3= .ok a p4):M=oneB s S op t o p4 n a:=by
 rw [hM,oneM,h,Rr.th_ok,h2,Rr.th_ok,h3,Rr.th_ok,h4];rfl
theorem ob1(hM:M=oneB s S op t o p4 n a)(ht:t=true)(h:tkM s p4 44= .er e q):M= .er e q:=by rw [hM,oneB,if_pos ht,h];rfl
theorem ob2(hM:M=oneB s S op t o p4 n a)(ht:t=true)(h:tkM s p4 44= .ok u p5)(h2:S (o+1) p5= .er e q):M= .er e q:=by rw [hM,oneB,if_pos ht,h,Rr.th_ok,h2];rfl
theorem ob3(hM:M=oneB s S op t o p4 n a)(ht:t=true)(h:tkM s p4 44= .ok u p5)(h2:S (o+1) p5= .ok b p6):M=(tkM s p6 41).th fun _ q=> .ok (eOp op [n] [a,b]) q:=by rw [hM,oneB,if_pos ht,h,Rr.th_ok,h2];rfl
theorem ob4(hM:M=oneB s S op t o p4 n a)(ht:t=false):M=(tkM s p4 41).th fun _ q=> .ok (eOp op [n] [a]) q:=by rw [hM,oneB,if_neg (by rw [ht];decide)]
theorem oz1{l:List GExpr}(hM:M=(tkM s p6 41).th fun _ q=> .ok (eOp op [n] l) q)(h:tkM s p6 41= .er e q):M= .er e q:=by rw [hM,h];rfl
theorem oz2{l:List GExpr}(hM:M=(tkM s p6 41).th fun _ q=> .ok (eOp op [n] l) q)(h:tkM s p6 41= .ok u q):M= .ok (eOp op [n] l) q:=by rw [hM,h];rfl
end
abbrev wG:List UInt8:=[71]
abbrev wNew:List UInt8:=[110,101,119,102,111,114,109]
abbrev wEta:List UInt8:=[101,116,97]
abbrev Jfs:List UInt8:=[116,104,101,116,97]
abbrev Jgb:List UInt8:=[116,119,105,115,116]
abbrev wBr:List UInt8:=[98,114,97,99,107,101,116]
abbrev wSer:List UInt8:=[115,101,114,114,101]
section
variable {s w:List UInt8} {S:Nat→Nat→Rr GExpr} {o p q0:Nat}
theorem Jli{op:Int}(h:(w=wG∧op=3)∨(w=wNew∧op=9)):Xi s S w q0 o p=Vr s op o p:=by rcases h with ⟨rfl,rfl⟩ | ⟨rfl,rfl⟩ <;> rfl
theorem Jo1{op:Int}(h:(w=wEta∧op=4)∨(w=Jfs∧op=5)):Xi s S w q0 o p=twoM s op o p:=by rcases h with ⟨rfl,rfl⟩ | ⟨rfl,rfl⟩ <;> rfl
def Jg4(w:List UInt8)(op:Int):Prop:=(w=[86]∧op=13)∨(w=[85]∧op=14)∨(w=[84]∧op=15)∨(w=Jgb∧op=16)∨(w=wBr∧op=18)
theorem Jtz{op:Int}(h:Jg4 w op):Xi s S w q0 o p=oneM s S op (decide (w=wBr)) o p:=by rcases h with ⟨rfl,rfl⟩ | ⟨rfl,rfl⟩ | ⟨rfl,rfl⟩ | ⟨rfl,rfl⟩ | ⟨rfl,rfl⟩ <;> rfl
theorem Jrr{op:Int}(h:Jg4 w op):13≤op∧op≤18:=by rcases h with ⟨_,rfl⟩ | ⟨_,rfl⟩ | ⟨_,rfl⟩ | ⟨_,rfl⟩ | ⟨_,rfl⟩ <;> decide
def Jg9(w:List UInt8):Prop:=¬ w=[86]∧¬ w=[85]∧¬ w=[84]∧¬ w=Jgb∧¬ w=wBr
def vu(w:List UInt8):Prop:=¬ w=wG∧¬ w=wNew
def Jgw(w:List UInt8):Prop:=¬ w=wEta∧¬ w=Jfs
theorem Jum{w:List UInt8}(h:∃ op,Jg4 w op)(h1:¬ w=[86])(h2:¬ w=[85])(h3:¬ w=[84])(h4:¬ w=Jgb):Jg4 w 18:=by
 obtain⟨op,h | h | h | h | h⟩:=h
 ·exact absurd h.1 h1
 ·exact absurd h.1 h2
 ·exact absurd h.1 h3
 ·exact absurd h.1 h4
 ·exact .inr (.inr (.inr (.inr ⟨h.1,rfl⟩)))
theorem Je4(h:w=wSer):Xi s S w q0 o p=serM s S o p:=by subst h;rfl
theorem Jmw(h:w=[68,101,108,116,97]):Xi s S w q0 o p= .ok (eOp 6 [] []) p:=by subst h;rfl
theorem rs_j(h:w=[106]):Xi s S w q0 o p= .ok (eOp 7 [] []) p:=by subst h;rfl
theorem Jvo(h1:¬ w=[68,101,108,116,97])(h2:¬ w=[106])(h3:vu w)(h4:Jgw w)(h5:Jg9 w)(h6:¬ w=wSer):Xi s S w q0 o p=if Kx w then .ok (Jc4 w) p else .er 19 q0:=by
 unfold Xi;rw [if_neg h1,if_neg h2,if_neg h3.1,if_neg h3.2,if_neg h4.1,if_neg h4.2,if_neg h5.1,if_neg h5.2.1,if_neg h5.2.2.1,if_neg h5.2.2.2.1,if_neg h5.2.2.2.2,if_neg h6]
theorem Jji(h1:¬ w=[68,101,108,116,97])(h2:¬ w=[106])(h3:vu w)(h4:Jgw w)(h5:Jg9 w)(h6:¬ w=wSer)(h7:Kx w=true):Xi s S w q0 o p= .ok (Jc4 w) p:=by
 rw [Jvo h1 h2 h3 h4 h5 h6,if_pos h7]
theorem Jnv(h1:¬ w=[68,101,108,116,97])(h2:¬ w=[106])(h3:vu w)(h4:Jgw w)(h5:Jg9 w)(h6:¬ w=wSer)(h7:Kx w=false):Xi s S w q0 o p= .er 19 q0:=by
 rw [Jvo h1 h2 h3 h4 h5 h6,if_neg (by rw [h7];decide)]
end
end Go.Wf
namespace Go.Wf
open Go Go.Proofs Go.RowKit
theorem Jtg{X:Nat→Prop}{w:World}(hX:XB X w){n:Int}  :CRt 260 #[(.int .i64 n)] w fun v w'=>v=(.int .i64 ((n).sign)):=by
 have C:=J07 hX;refine Cgo (args:=[(.int .i64 n)]) Tryz.func260 rfl rfl rfl<|Rg<|Oa<|Nl<|J06<|W.block<|Rg<|Om<|Ol<|J1h rfl rfl (fun a=>?_)<|fun a=>?_
 ·exact Oa<|Nl<|J0w rfl<|Rg<|Oa<|Nl<|J04<|Wq rfl rfl C<|congrArg (Value.int _) (by rw [Int.sign_eq_neg_one_of_neg (by omega)])
 refine Oa<|Nl<|J0v rfl<|Rg<|Om<|Ol<|J10 rfl rfl (fun b=>?_)<|fun b=>?_
 ·exact Oa<|Nl<|J0w rfl<|Rg<|Oa<|Nl<|J04<|Wq rfl rfl C<|congrArg (Value.int _) (by rw [Int.sign_eq_one_of_pos (by omega)])
 exact Oa<|Nl<|J0v rfl<|J01<|Rg<|Oa<|Nl<|J04<|Wq rfl rfl C<|congrArg (Value.int _) (by rw [show n=0 by omega];rfl)
theorem Z0{X:Nat→Prop}{w:World}(hX:XB X w){l:Value}{m:List Nat}(o:RS Jd X w l m)(hm:m.length≤1099511627776):CRt 205 #[l] w fun v w'=>RS Jd X w' v (trim m):=by
 obtain⟨h,i,rfl,_,_⟩:=o.len;have C:=J07 hX;refine Cgo (args:=[(.slice h m.length i)]) Tryz.func205 rfl rfl rfl (Rg<|Oa<|Nl<|J06<|W.block<|J1g (fun μ f v=>∃ (x y:Nat→Prop) (j:Nat),Cx X w x y v∧f 2=(.slice none 0 0)∧f 0=(.slice h j i)∧RS Jd x v (.slice h j i) (m.take j)∧j≤m.length∧trim (m.take j)=trim m∧μ=j) _ ⟨_,_,m.length,C,rfl,rfl,(by rw [List.take_length];exact o),(Nat.le_refl _),(by rw [List.take_length]),rfl⟩ ?_);rintro B G H ⟨I,J,j,d,p,r,hj,hjl,htr,s⟩;obtain⟨D,rfl⟩:=rebK (aC p<|aC r aN);clear p r;refine Rh<|Om<|Ol<|St.len sl24 rfl<|Ol<|J10 rfl rfl (fun a=>?_)<|fun a=>?_
 ·refine Om (OgD<|J00<|OgD<|J00<|OgD<|St.len sl24 rfl<|OgD<|St.sub (z:=(((j:Nat):Int) - 1)) rfl rfl (IntWalk.i64_in _ (by omega))<|OgD<|J1l (j:=(j - 1)) (u:=(m.getD (j - 1) 0)) hj sl24 Jh rfl rfl (by omega) (Jpu hjl (by omega)) ?_);intro E F k e;obtain⟨rfl,A⟩:k=_∧_:=e.rd;refine OgD<|J1d Zf rfl (e.cell 0 _ rfl)<|OgD<|J1a rfl rfl (fun b=>?_)<|fun b=>?_
  ·refine OT (Nl<|J0w rfl<|J01<|W.block<|J0y<|Om<|Om<|Ol<|St.len sl24 rfl<|Ol<|St.sub (z:=(((j:Nat):Int) - 1)) rfl rfl (IntWalk.i64_in _ (by omega))<|Ol<|J3g (j:=(j - 1)) hj sl24 Jh rfl rfl (by omega) (by rw [List.length_take];omega) ?_);intro g;refine Oa<|Nl<|⟨_,(by omega),_,_,(j - 1),d,rfl,rfl,(by rw [List.take_take,Nat.min_eq_left (by omega)] at g;exact g),(by omega),(Jb9 hjl a b htr),rfl⟩
  exact OT<|Nl<|J0v rfl<|J1j<|Rg<|Om<|Oa<|Nl<|J04<|Wq rfl rfl d<|J39 ((hj:RS _ _ _ _ _).tr (Tr.weak d.base))<|(Jci hjl a b htr)
 exact Om<|Oz<|Oz<|Oz<|Oz<|Oz<|Oz<|Oz<|OF<|Nl<|J0v rfl<|J1j<|Rg<|Om<|Oa<|Nl<|J04<|Wq rfl rfl d<|J39 ((hj:RS _ _ _ _ _).tr (Tr.weak d.base))<|(Jgj hjl a htr)
theorem Yk{X:Nat→Prop}{w:World}(hX:XB X w){b:Bool}{x:Value}{m:List Nat}(d:RS Jd X w x m)(hm:m.length≤1099511627776):CRt 208 #[(.bool b),x] w fun v w'=>RV J1 X w' v (mkSg b m):=by
 obtain⟨y,z,rfl,_,_⟩:=d.len;have C:=J07 hX
 cases b
 ·refine Cgo (args:=[(.bool false),(.slice y m.length z)]) Tryz.func208 rfl rfl rfl (Rg<|Ol<|J05 C io26 rfl ?_);intro g3 w4 x5 y6 N A L h;replace d:=d.sp L;refine Nl (Rg<|Om<|Ol<|J0t A Vu rfl rfl (Z0 A.bd d (by omega)) ?_);intro P Q B D e;replace h:=h.spn D;obtain⟨j,k,rfl,_,_⟩:=e.len;refine Oa (Nl<|Rg<|Om<|Om<|Oz<|Oz<|Oz<|OF<|Om<|Ol<|J09 (cs:=[(.bool false),(.slice j (trim m).length k)]) rfl (by kernel_rfl)<|On<|J0u (cs':=[(.bool false),(.slice j (trim m).length k)]) B h io26 rfl rfl rfl rfl rfl rfl ?_);intro R l E F;replace e:=e.sp E;refine Nl (J04<|Jo rfl (resV.c F rfl ag26 rfl)<|J02 ?_ l.below);exact J36 (a:=(⟨false,(trim m)⟩:GInt)) ((Jj e).tr (Tr.weak l.base)) (by simp [mkSg])
 refine Cgo (args:=[(.bool true),(.slice y m.length z)]) Tryz.func208 rfl rfl rfl (Rg<|Ol<|J05 C io26 rfl ?_);intro S T U V M o G i;replace d:=d.sp G;refine Nl (Rg<|Om<|Ol<|J0t o Vu rfl rfl (Z0 o.bd d (by omega)) ?_);intro Y Z H I g;replace i:=i.spn I;obtain⟨p,r,rfl,_,_⟩:=g.len;refine Oa (Nl<|Rg<|Om<|Om<|OgD<|J00<|OgD<|St.len sl24 rfl<|OgD<|J2r rfl rfl rfl<|OT<|Om<|Ol<|J09 (cs:=[(.bool (decide<|0 < (((trim m).length:Nat):Int))),(.slice p (trim m).length r)]) rfl (by kernel_rfl)<|On<|J0u (cs':=[(.bool (decide<|0 < (((trim m).length:Nat):Int))),(.slice p (trim m).length r)]) H i io26 rfl rfl rfl rfl rfl rfl ?_);intro aa s J K;replace g:=g.sp J;refine Nl (J04<|Jo rfl (resV.c K rfl ag26 rfl)<|J02 ?_ s.below);exact J36 (a:=(⟨(decide<|0 < (((trim m).length:Nat):Int)),(trim m)⟩:GInt)) ((Jj g).tr (Tr.weak s.base)) (by simp [mkSg])
theorem qk{X:Nat→Prop}{w:World}(hX:XB X w){e:Value}{m:List Nat}(a:RS Jd X w e m)(hm:m.length≤1099511627776):CRt 209 #[e] w fun v w'=>RS Jd X w' v m:=by
 obtain⟨h,i,rfl,_,_⟩:=a.len;have C:=J07 hX;refine Cgo (args:=[(.slice h m.length i)]) Tryz.func209 rfl rfl rfl<|Rg<|Oa<|Nl<|Rh<|Om<|Ol<|J3y sl24 a rfl rfl (fun g=>?_) ?_
 ·exact Nl<|J0w rfl<|Rg<|Oa<|Nl<|J04<|Wq rfl rfl C<|J39 ((RS.nil:RS _ _ _ _ _).tr (Tr.weak C.base))<|g.symm
 refine Nl (J0v rfl<|J01<|Rg<|Ol<|J3v (T:=Jd) C sl24 Jh ?_);intro B D E j k o l;replace a:=a.sp k;refine Om (Ol<|J1o (T:=Jd) j sl24 Jh rfl rfl l (Kb a) (by simp only [List.length_nil,maxLen];omega) (by simp only [List.length_nil];omega) rfl ?_);intro p r s d x y b;rw [List.nil_append] at b;obtain⟨z,A,rfl,_,_⟩:=b.len;exact Oa<|Nl<|J04<|Wq rfl rfl d<|J39 (b.toRS d hX)<|rfl
theorem xi{X:Nat→Prop}{w:World}(hX:XB X w){n:Nat}(hn:n < 18446744073709551616):CRt 211 #[(.int .u64 ((n:Nat):Int))] w fun v w'=>RS Jd X w' v (digs n):=by
 have C:=J07 hX;refine Cgo (args:=[(.int .u64 ((n:Nat):Int))]) Tryz.func211 rfl rfl rfl<|Rg<|Oa<|Nl<|J06<|W.block<|Rg<|Om<|Ol<|J1a rfl rfl (fun b=>?_)<|fun b=>?_
 ·exact Oa<|Nl<|J0w rfl<|Rg<|Oa<|Nl<|J04<|Wq rfl rfl C<|J39 ((RS.nil:RS _ _ _ _ _).tr (Tr.weak C.base)) (by rw [show n=0 by omega];rfl)
 refine Oa<|Nl<|J0v rfl<|Rg<|Om<|Ol<|J1h rfl rfl (fun e=>?_)<|fun e=>?_
 ·refine Oa (Nl<|J0w rfl<|Rg<|Om<|Ol<|J1b (z:=((n % 4294967296:Nat):Int)) Yj Yp rfl (Jk _)<|Ol<|J1k (T:=Jd) (css:=[[(.int .u32 ((n % 4294967296:Nat):Int))]]) (l:=[n % 4294967296]) C sl24 Jh (by decide) (by decide) rfl (by kernel_rfl) ⟨⟨rfl,(by omega)⟩,trivial⟩ ?_);intro o p g r i;exact Oa<|Nl<|J04<|Wq rfl rfl g<|J39 ((i:RS _ _ _ _ _).tr (Tr.weak g.base)) (by rw [qa (by omega) (by omega)];congr 1;omega)
 refine Oa (Nl<|J0v rfl<|J01<|Rg<|Om<|Ol<|J1b (z:=((n % 4294967296:Nat):Int)) Yj Yp rfl (Jk _)<|Om<|Ol<|J19 rfl rfl (by decide) (Yf (d:=4294967296) _ (by decide))<|Ol<|J1b (z:=(((n / 4294967296) % 4294967296:Nat):Int)) Yj Yp rfl (Jk _) ?_);refine Ol (J1k (T:=Jd) (css:=[[(.int .u32 ((n % 4294967296:Nat):Int))],[(.int .u32 (((n / 4294967296) % 4294967296:Nat):Int))]]) (l:=[n % 4294967296,(n / 4294967296) % 4294967296]) C sl24 Jh (by decide) (by decide) rfl (by kernel_rfl) ⟨⟨rfl,(by omega)⟩,⟨rfl,(by omega)⟩,trivial⟩ ?_);intro j k a m h;exact Oa<|Nl<|J04<|Wq rfl rfl a<|J39 ((h:RS _ _ _ _ _).tr (Tr.weak a.base)) (by rw [Jmg (by omega) (by omega)];congr 2;omega)
theorem Jfw{X:Nat→Prop}{w:World}(hX:XB X w){B:Value}{m:List Nat}(e:RS Jd X w B m)(hm:m.length≤2):CRt 241 #[B] w fun v w'=>v=(.int .u64 (((val m):Nat):Int)):=by
 obtain⟨l,o,rfl,_,_⟩:=e.len;have C:=J07 hX;have hs:=e.u32_small;have aq:=Ji hs 0;have ar:=Ji hs 1;refine Cgo (args:=[(.slice l m.length o)]) Tryz.func241 rfl rfl rfl<|Rg<|Oa<|Nl<|Rh<|Om<|Ol<|St.len sl24 rfl<|Nl<|W.block<|Rg<|Ol<|J1a rfl rfl (fun D=>?_)<|fun D=>?_
 ·exact Oa<|Nl<|J0w rfl<|Rg<|Oa<|Nl<|J04<|Wq rfl rfl C<|congrArg (Value.int _)<|Jwx (by omega)
 refine Oa<|Nl<|J0v rfl<|Rg<|Ol<|J1a rfl rfl (fun E=>?_)<|fun E=>?_
 ·refine Oa (Nl<|J0w rfl<|Rg<|Om<|Ol<|J1l (j:=0) (u:=(m.getD 0 0)) e sl24 Jh rfl rfl rfl (Jf (by omega)) ?_);intro b5 o6 F G;obtain⟨rfl,au⟩:F=_∧_:=G.rd;exact Ol<|J1d Zf rfl (G.cell 0 _ rfl)<|Ol<|J1b (z:=(((m.getD 0 0):Nat):Int)) Yb Z6 rfl (IntWalk.u64_in _ (by omega))<|Oa<|Nl<|J04<|Wq rfl rfl C<|congrArg (Value.int _)<|Jxf (by omega)
 refine Oa<|Nl<|J0v rfl<|J01<|J06<|J1q mixed 9 [[],[0],[1],[2],[3],[],[5],[6],[7]] C [fx<|.slice l m.length o,fE Jd<|m.getD 1 0,fx<|.int .u32 (((m.getD 1 0):Nat):Int),fx<|.int .u64 (((m.getD 1 0):Nat):Int),fx<|.int .u64 ((m.getD 1 0 * 4294967296:Nat):Int),fx<|.slice l m.length o,fE Jd<|m.getD 0 0,fx<|.int .u32 (((m.getD 0 0):Nat):Int),fx<|.int .u64 (((m.getD 0 0):Nat):Int)] (by kernel_rfl) ⟨sx,sE,sx,sx,sx,sx,sE,sx,sx,trivial⟩ fun H d av ⟨b,I⟩ a=>?_
 replace e:=e.sp I;have a:Keep [13,14,15,16,17,18,19,20,21] _ H:=a;refine⟨⟨fun _=>?_,fun⟨J,_⟩=>?_,fun⟨K,_⟩=>?_,fun⟨L,_⟩=>?_,fun⟨M,_⟩=>?_,fun _=>?_,fun⟨N,_⟩=>?_,fun⟨P,_⟩=>?_,fun⟨Q,_⟩=>?_,trivial⟩,fun⟨R,S,T,U,V,Y,Z,aa,ab,_⟩=>?_⟩
 ·exact Ja a aN fun _=>OpSt.op<|J00 ⟨d,RC.same b,rfl⟩
 ·refine Ja a (aC J aN) fun _=>OpSt.op (J1l (j:=1) (u:=(m.getD 1 0)) e sl24 Jh rfl rfl rfl (Jf (by omega)) ?_);intro aw ax p g;obtain⟨rfl,ai⟩:p=_∧_:=g.rd;exact⟨d,RC.same b,⟨_,_,_,rfl,g⟩⟩
 ·obtain⟨ay,az,r,ac,h⟩:=K;obtain⟨rfl,aj⟩:r=_∧_:=h.rd;exact Ja a (aC ac aN) fun _=>OpSt.op<|J1d Zf rfl (h.cell 0 _ rfl) ⟨d,RC.same b,rfl⟩
 ·exact Ja a (aC L aN) fun _=>OpSt.op<|J1b (z:=(((m.getD 1 0):Nat):Int)) Yb Z6 rfl (IntWalk.u64_in _ (by omega)) ⟨d,RC.same b,rfl⟩
 ·exact Ja a (aC M aN) fun _=>OpSt.op<|J2p (z:=((m.getD 1 0 * 4294967296:Nat):Int)) rfl rfl (by decide) (Jbn<|Ji hs 1) ⟨d,RC.same b,rfl⟩
 ·exact Ja a aN fun _=>OpSt.op<|J00 ⟨d,RC.same b,rfl⟩
 ·refine Ja a (aC N aN) fun _=>OpSt.op (J1l (j:=0) (u:=(m.getD 0 0)) e sl24 Jh rfl rfl rfl (Jf (by omega)) ?_);intro aA aB s i;obtain⟨rfl,ak⟩:s=_∧_:=i.rd;exact⟨d,RC.same b,⟨_,_,_,rfl,i⟩⟩
 ·obtain⟨aD,aE,x,ad,k⟩:=P;obtain⟨rfl,am⟩:x=_∧_:=k.rd;exact Ja a (aC ad aN) fun _=>OpSt.op<|J1d Zf rfl (k.cell 0 _ rfl) ⟨d,RC.same b,rfl⟩
 ·exact Ja a (aC Q aN) fun _=>OpSt.op<|J1b (z:=(((m.getD 0 0):Nat):Int)) Yb Z6 rfl (IntWalk.u64_in _ (by omega)) ⟨d,RC.same b,rfl⟩
 obtain⟨aF,aG,y,ae,af⟩:=S;obtain⟨rfl,an⟩:y=_∧_:=af.rd;obtain⟨aH,aI,A,ag,ah⟩:=Z;obtain⟨rfl,ao⟩:A=_∧_:=ah.rd;obtain⟨aJ,rfl⟩:=mixK a (aC R<|aC ae<|aC T<|aC U<|aC V<|aC Y<|aC ag<|aC aa<|aC ab aN);exact Ol<|J3c (z:=((m.getD 1 0 * 4294967296+m.getD 0 0:Nat):Int)) rfl rfl (Jaz (Ji hs 1)<|Ji hs 0)<|Oa<|Nl<|J04<|Wq rfl rfl b<|congrArg (Value.int _)<|Ju3 (by omega)
theorem Jcx{X:Nat→Prop}{w:World}(hX:XB X w){v0:Value}{a:List Nat}(l:RS Jd X w v0 a){v1:Value}{b:List Nat}(m:RS Jd X w v1 b)(ha:trim a=a)(hb:trim b=b)(hla:a.length≤1099511627776)(hlb:b.length≤1099511627776):CRt 246 #[v0,v1] w fun v w'=>v=(.int .i64 (cmpN (val a) (val b))):=by
 obtain⟨o,p,rfl,_,_⟩:=l.len;obtain⟨r,s,rfl,_,_⟩:=m.len;have C:=J07 hX;have sa:=l.u32_small;have sb:=m.u32_small;refine Cgo (args:=[(.slice o a.length p),(.slice r b.length s)]) Tryz.func246 rfl rfl rfl<|Rg<|Oa<|Nl<|Rh<|Om<|Ol<|St.len sl24 rfl<|Om<|Ol<|St.len sl24 rfl<|Ol<|J11 rfl rfl (fun aJ=>?_)<|fun aJ=>?_
 ·refine Nl (J0w rfl<|Rg<|Om<|Ol<|St.len sl24 rfl<|Om<|Ol<|St.len sl24 rfl<|Ol<|St.sub (z:=(((a.length:Nat):Int) - ((b.length:Nat):Int))) rfl rfl (IntWalk.i64_in _ (by omega))<|Ol<|J0t C cb260 rfl rfl (Jtg C.bd) ?_);intro v6 w7 C8 s9 aK;subst aK;exact Oa<|Nl<|J04<|Wq rfl rfl C8<|congrArg (Value.int _)<|(Jp1 ha hb sa sb (by omega))
 refine Nl (J0v rfl<|J01<|Rh<|Om<|Ol<|St.len sl24 rfl<|Ol<|St.sub (z:=(((a.length:Nat):Int) - 1)) rfl rfl (IntWalk.i64_in _ (by omega))<|Oa<|Nl<|W.block<|J1g (fun μ f v=>∃ (x y:Nat→Prop) (j:Nat),Cx X w x y v∧f 0=(.slice o a.length p)∧f 1=(.slice r b.length s)∧f 5=(.int .i64 ((j:Int) - 1))∧RS Jd x v (.slice o a.length p) a∧RS Jd x v (.slice r b.length s) b∧j≤a.length∧a.drop j=b.drop j∧μ=j) _ ⟨_,_,a.length,C,rfl,rfl,rfl,l,m,(Nat.le_refl _),(by rw [List.drop_of_length_le<|Nat.le_refl _,List.drop_of_length_le (by omega)]),rfl⟩ ?_);rintro bD bE bF ⟨bG,bH,j,P,Q,R,S,l,m,hj,heq,a9⟩;obtain⟨bI,rfl⟩:=rebK (aC Q<|aC R<|aC S aN);clear Q R S;refine Rh<|Om<|Ol<|J13 rfl rfl (fun aa=>?_)<|fun aa=>?_
 ·refine Nl<|J0w rfl<|J01<|J06<|W.block<|J06<|J1q mixed 8 [[],[],[0,1],[2],[],[],[4,5],[6]] P [fx<|.slice o a.length p,fx<|.int .i64 ((j:Int) - 1),fE Jd<|a.getD (j - 1) 0,fx<|.int .u32 (((a.getD (j - 1) 0):Nat):Int),fx<|.slice r b.length s,fx<|.int .i64 ((j:Int) - 1),fE Jd<|b.getD (j - 1) 0,fx<|.int .u32 (((b.getD (j - 1) 0):Nat):Int)] (by kernel_rfl) ⟨sx,sx,sE,sx,sx,sx,sE,sx,trivial⟩ fun aL k bJ ⟨i,T⟩ g=>?_
  replace l:=l.sp T;replace m:=m.sp T;have g:Keep [24,25,26,27,28,29,30,31] _ aL:=g;refine⟨⟨fun _=>?_,fun _=>?_,fun⟨aM,aO,_⟩=>?_,fun⟨aP,_⟩=>?_,fun _=>?_,fun _=>?_,fun⟨aQ,aR,_⟩=>?_,fun⟨aS,_⟩=>?_,trivial⟩,fun⟨aT,aU,aV,aW,aX,aY,aZ,a0,_⟩=>?_⟩
  ·exact Ja g aN fun _=>OpSt.op<|J00 ⟨k,RC.same i,rfl⟩
  ·exact Ja g aN fun _=>OpSt.op<|J00 ⟨k,RC.same i,rfl⟩
  ·refine Ja g (aC aM<|aC aO aN) fun _=>OpSt.op (J1l (j:=(j - 1)) (u:=(a.getD (j - 1) 0)) l sl24 Jh rfl rfl (by omega) (Jf (by omega)) ?_);intro bK bL ab U;obtain⟨rfl,bi⟩:ab=_∧_:=U.rd;exact⟨k,RC.same i,⟨_,_,_,rfl,U⟩⟩
  ·obtain⟨bM,bN,ac,a2,V⟩:=aP;obtain⟨rfl,bj⟩:ac=_∧_:=V.rd;exact Ja g (aC a2 aN) fun _=>OpSt.op<|J1d Zf rfl (V.cell 0 _ rfl) ⟨k,RC.same i,rfl⟩
  ·exact Ja g aN fun _=>OpSt.op<|J00 ⟨k,RC.same i,rfl⟩
  ·exact Ja g aN fun _=>OpSt.op<|J00 ⟨k,RC.same i,rfl⟩
  ·refine Ja g (aC aQ<|aC aR aN) fun _=>OpSt.op (J1l (j:=(j - 1)) (u:=(b.getD (j - 1) 0)) m sl24 Jh rfl rfl (by omega) (Jf (by omega)) ?_);intro bO bP ad Y;obtain⟨rfl,bk⟩:ad=_∧_:=Y.rd;exact⟨k,RC.same i,⟨_,_,_,rfl,Y⟩⟩
  ·obtain⟨bQ,bR,ae,a4,Z⟩:=aS;obtain⟨rfl,bl⟩:ae=_∧_:=Z.rd;exact Ja g (aC a4 aN) fun _=>OpSt.op<|J1d Zf rfl (Z.cell 0 _ rfl) ⟨k,RC.same i,rfl⟩
  obtain⟨bS,bT,af,a5,a6⟩:=aV;obtain⟨rfl,bm⟩:af=_∧_:=a6.rd;obtain⟨bU,bV,ag,a7,a8⟩:=aZ;obtain⟨rfl,bn⟩:ag=_∧_:=a8.rd;obtain⟨bW,rfl⟩:=mixK g (aC aT<|aC aU<|aC a5<|aC aW<|aC aX<|aC aY<|aC a7<|aC a0 aN);refine Ol<|J11 rfl rfl (fun A=>?_)<|fun A=>?_
  ·refine Nl<|J0w rfl<|J06<|J06<|J1q mixed 8 [[],[],[0,1],[2],[],[],[4,5],[6]] i [fx<|.slice o a.length p,fx<|.int .i64 ((j:Int) - 1),fE Jd<|a.getD (j - 1) 0,fx<|.int .u32 (((a.getD (j - 1) 0):Nat):Int),fx<|.slice r b.length s,fx<|.int .i64 ((j:Int) - 1),fE Jd<|b.getD (j - 1) 0,fx<|.int .u32 (((b.getD (j - 1) 0):Nat):Int)] (by kernel_rfl) ⟨sx,sx,sE,sx,sx,sx,sE,sx,trivial⟩ fun ah h bo ⟨e,B⟩ d=>?_
   replace l:=l.sp B;replace m:=m.sp B;have d:Keep [33,34,35,36,37,38,39,40] _ ah:=d;refine⟨⟨fun _=>?_,fun _=>?_,fun⟨ai,aj,_⟩=>?_,fun⟨ak,_⟩=>?_,fun _=>?_,fun _=>?_,fun⟨am,an,_⟩=>?_,fun⟨ao,_⟩=>?_,trivial⟩,fun⟨aq,ar,au,av,aw,ax,ay,az,_⟩=>?_⟩
   ·exact Ja d aN fun _=>OpSt.op<|J00 ⟨h,RC.same e,rfl⟩
   ·exact Ja d aN fun _=>OpSt.op<|J00 ⟨h,RC.same e,rfl⟩
   ·refine Ja d (aC ai<|aC aj aN) fun _=>OpSt.op (J1l (j:=(j - 1)) (u:=(a.getD (j - 1) 0)) l sl24 Jh rfl rfl (by omega) (Jf (by omega)) ?_);intro bp bq H D;obtain⟨rfl,ba⟩:H=_∧_:=D.rd;exact⟨h,RC.same e,⟨_,_,_,rfl,D⟩⟩
   ·obtain⟨br,bs,I,aA,E⟩:=ak;obtain⟨rfl,bb⟩:I=_∧_:=E.rd;exact Ja d (aC aA aN) fun _=>OpSt.op<|J1d Zf rfl (E.cell 0 _ rfl) ⟨h,RC.same e,rfl⟩
   ·exact Ja d aN fun _=>OpSt.op<|J00 ⟨h,RC.same e,rfl⟩
   ·exact Ja d aN fun _=>OpSt.op<|J00 ⟨h,RC.same e,rfl⟩
   ·refine Ja d (aC am<|aC an aN) fun _=>OpSt.op (J1l (j:=(j - 1)) (u:=(b.getD (j - 1) 0)) m sl24 Jh rfl rfl (by omega) (Jf (by omega)) ?_);intro bt bu J F;obtain⟨rfl,bc⟩:J=_∧_:=F.rd;exact⟨h,RC.same e,⟨_,_,_,rfl,F⟩⟩
   ·obtain⟨bv,bw,K,aB,G⟩:=ao;obtain⟨rfl,be⟩:K=_∧_:=G.rd;exact Ja d (aC aB aN) fun _=>OpSt.op<|J1d Zf rfl (G.cell 0 _ rfl) ⟨h,RC.same e,rfl⟩
   obtain⟨bx,bz,L,aD,aE⟩:=au;obtain⟨rfl,bf⟩:L=_∧_:=aE.rd;obtain⟨bA,bB,M,aF,aG⟩:=ay;obtain⟨rfl,bg⟩:M=_∧_:=aG.rd;obtain⟨bC,rfl⟩:=mixK d (aC aq<|aC ar<|aC aD<|aC av<|aC aw<|aC ax<|aC aF<|aC az aN);refine Ol<|J1h rfl rfl (fun N=>?_)<|fun N=>?_
   ·exact Nl<|J0w rfl<|Rg<|Oa<|Nl<|J04<|Wq rfl rfl e<|congrArg (Value.int _)<|(Jjv sa sb (by omega) (by omega) (by omega) (by omega) heq)
   exact Nl<|J0v rfl<|J01<|Rg<|Oa<|Nl<|J04<|Wq rfl rfl e<|congrArg (Value.int _)<|(Jpn sa sb (by omega) (by omega) (by omega) (by omega) (by omega) heq)
  refine Nl<|J0v rfl<|J01<|J0y<|Om<|Ol<|St.sub (z:=(((j:Int) - 1) - 1)) rfl rfl (IntWalk.i64_in _ (by omega))<|Oa<|Nl<|⟨_,(by omega),_,_,(j - 1),i,rfl,rfl,(congrArg (Value.int .i64) (by omega)),l,m,(by omega),(Jfr (by omega) (by omega) (by omega) A heq),rfl⟩
 exact Nl<|J0v rfl<|J1j<|Rg<|Oa<|Nl<|J04<|Wq rfl rfl P<|congrArg (Value.int _)<|(Jnw (show j=0 by omega) heq)
end Go.Wf
namespace Go.Wf
open Go Go.Proofs Go.RowKit
theorem xs{X:Nat→Prop}{w:World}(hX:XB X w){x:Nat}{y:Nat}{c:Nat}(hx:x < 4294967296)(hy:y < 4294967296)(hc:c≤1):CRt 257 #[(.int .u32 ((x:Nat):Int)),(.int .u32 ((y:Nat):Int)),(.int .u32 ((c:Nat):Int))] w fun v w'=>∃ e g,v= .tuple #[e,g]∧(e=(.int .u32 ((((x+y+c) % 4294967296):Nat):Int)))∧(g=(.int .u32 ((((x+y+c) / 4294967296):Nat):Int))):=by
 have C:=J07 hX;refine Cgo (args:=[(.int .u32 ((x:Nat):Int)),(.int .u32 ((y:Nat):Int)),(.int .u32 ((c:Nat):Int))]) Tryz.func257 rfl rfl rfl (Rg<|Oa<|Oa<|Nl<|Rg<|Om<|Ol<|J1b (z:=((x:Nat):Int)) Yb Z6 rfl (IntWalk.u64_in _ (by omega))<|Om ?_);refine Ol (J1b (z:=((y:Nat):Int)) Yb Z6 rfl (IntWalk.u64_in _ (by omega))<|Ol<|St.add rfl rfl (J7 (a:=x) (b:=y) (by omega))<|Om<|Ol<|J1b (z:=((c:Nat):Int)) Yb Z6 rfl (IntWalk.u64_in _ (by omega))<|Ol<|St.add rfl rfl (J7 (a:=x+y) (b:=c) (by omega))<|Oa<|Nl<|J06 ?_);refine J0y (Om<|Ol<|J1b (z:=((((x+y)+c) % 4294967296:Nat):Int)) Yj Yp rfl (Jk _)<|Oa<|Nl<|Rg<|Om<|Ol<|J19 rfl rfl (by decide) (Yf (d:=4294967296) _ (by decide))<|Ol<|J1b (z:=(((((x+y)+c) / 4294967296) % 4294967296:Nat):Int)) Yj Yp rfl (Jk _) ?_);refine Oa (Nl<|J04<|Zh rfl (J35 rfl) (J35 rfl)<|J02 ?_ C.below);refine⟨_,_,rfl,?_,?_⟩
 ·skip
  rfl
 ·skip
  exact congrArg (Value.int _) (by omega)
theorem Jal{X:Nat→Prop}{w:World}(hX:XB X w){x:Nat}{y:Nat}{b:Nat}(hx:x < 4294967296)(hy:y < 4294967296)(hb:b≤1):CRt 258 #[(.int .u32 ((x:Nat):Int)),(.int .u32 ((y:Nat):Int)),(.int .u32 ((b:Nat):Int))] w fun v w'=>∃ e g,v= .tuple #[e,g]∧(e=(.int .u32 ((((x+8589934592 - y - b) % 4294967296):Nat):Int)))∧(g=(.int .u32 (((if x < y+b then 1 else 0):Nat):Int))):=by
 have C:=J07 hX;have hxy:x ^^^ y < 4294967296:=Nat.xor_lt_two_pow (n:=32) hx hy;have i:(4294967295 - x) &&& y < 4294967296:=Nat.and_lt_two_pow _ (n:=32) hy;have h:∀ d,d < 4294967296→(4294967295 - (x ^^^ y)) &&& d < 4294967296:=fun d hd=>Nat.and_lt_two_pow _ (n:=32) hd;refine Cgo (args:=[(.int .u32 ((x:Nat):Int)),(.int .u32 ((y:Nat):Int)),(.int .u32 ((b:Nat):Int))]) Tryz.func258 rfl rfl rfl (Rg<|Oa<|Oa<|Nl<|Rg<|Om<|Om<|Ol<|St.sub (z:=(((x+4294967296 - y) % 4294967296:Nat):Int)) rfl rfl (Jop hy) ?_);refine Om (Ol<|St.sub (z:=(((x+8589934592 - y - b) % 4294967296:Nat):Int)) rfl rfl ((Jop (by omega)).trans (by omega))<|Oa<|Nl<|Rg<|Om<|Ol<|J3u rfl (q7 (by omega))<|Om<|Ol<|J34 rfl rfl (xn (a:=4294967295 - x) (b:=y) (by omega) (by omega))<|Om ?_);refine Om (Ol<|St.xor rfl rfl (Jdx (a:=x) (b:=y) (by omega) (by omega))<|Ol<|J3u rfl (q7 (by omega))<|Om<|Ol<|J34 rfl rfl (xn (a:=4294967295 - (x ^^^ y)) (b:=(x+8589934592 - y - b) % 4294967296) (by omega) (by omega))<|Ol<|J3c rfl rfl (yi (a:=(4294967295 - x) &&& y) (b:=(4294967295 - (x ^^^ y)) &&& ((x+8589934592 - y - b) % 4294967296)) (by omega)<|h _ (by omega)) ?_);refine Ol (J19 rfl rfl (by decide) (Yf (d:=2147483648) _ (by decide))<|Oa<|Nl<|J04<|Zh rfl (J35 rfl) (J35 rfl)<|J02 ?_ C.below);refine⟨_,_,rfl,?_,?_⟩
 ·skip
  rfl
 ·skip
  exact congrArg (Value.int _)<|congrArg _<|Jhc hx hy hb rfl
theorem Jp5{X:Nat→Prop}{w:World}(hX:XB X w){hi:Nat}{lo:Nat}{y:Nat}(hh:hi < y)(hl:lo < 4294967296)(hy:y < 4294967296):CRt 235 #[(.int .u32 ((hi:Nat):Int)),(.int .u32 ((lo:Nat):Int)),(.int .u32 ((y:Nat):Int))] w fun v w'=>∃ i j,v= .tuple #[i,j]∧(i=(.int .u32 ((((hi * 4294967296+lo) / y):Nat):Int)))∧(j=(.int .u32 ((((hi * 4294967296+lo) % y):Nat):Int))):=by
 have C:=J07 hX;have hq:(hi * 4294967296+lo) / y < 4294967296:=Nat.div_lt_of_lt_mul (by have:=Nat.mul_le_mul_right 4294967296 (show hi+1≤y by omega);omega);have hr:=Nat.mod_lt (hi * 4294967296+lo) (show 0 < y by omega);refine Cgo (args:=[(.int .u32 ((hi:Nat):Int)),(.int .u32 ((lo:Nat):Int)),(.int .u32 ((y:Nat):Int))]) Tryz.func235 rfl rfl rfl (Rg<|Oa<|Oa<|Nl<|Rh<|Om<|Ol<|J17 (t:=true) rfl rfl (by rw [decide_eq_false (by omega)];rfl)<|Om ?_);refine OgD (J00<|OgD<|J00<|OgD<|J2q (t:=false) rfl rfl (decide_eq_false (by omega))<|OT<|Nl<|J0v rfl<|J01<|Rg<|Om<|Ol<|J1b (z:=((hi:Nat):Int)) Yb Z6 rfl (IntWalk.u64_in _ (by omega))<|Ol<|J2p rfl rfl (by decide) (Q5 (a:=hi) (d:=4294967296) (by decide) (by omega)) ?_);refine Om<|Ol<|J1b (z:=((lo:Nat):Int)) Yb Z6 rfl (IntWalk.u64_in _ (by omega))<|Ol<|J3c (z:=((hi * 4294967296+lo:Nat):Int)) rfl rfl (Jaz (by omega) (by omega))<|Oa<|Nl<|J06<|J1q mixed 11 [[],[],[1],[0,2],[3],[],[],[6],[5,7],[8],[4]] C [fx<|.int .u64 ((hi * 4294967296+lo:Nat):Int),fx<|.int .u32 ((y:Nat):Int),fx<|.int .u64 ((y:Nat):Int),fx<|.int .u64 (((hi * 4294967296+lo) / y:Nat):Int),fx<|.int .u32 ((((hi * 4294967296+lo) / y) % 4294967296:Nat):Int),fx<|.int .u64 ((hi * 4294967296+lo:Nat):Int),fx<|.int .u32 ((y:Nat):Int),fx<|.int .u64 ((y:Nat):Int),fx<|.int .u64 (((hi * 4294967296+lo) % y:Nat):Int),fx<|.int .u32 ((((hi * 4294967296+lo) % y) % 4294967296:Nat):Int),fx<|.int .u32 ((((hi * 4294967296+lo) / y) % 4294967296:Nat):Int)] (by kernel_rfl) ⟨sx,sx,sx,sx,sx,sx,sx,sx,sx,sx,sx,trivial⟩ fun M h Q ⟨g,R⟩ e=>?_
 have e:Keep [23,24,25,26,27,28,29,30,31,32,6] _ M:=e;refine⟨⟨fun _=>?_,fun _=>?_,fun⟨N,_⟩=>?_,fun⟨k,l,_⟩=>?_,fun⟨m,_⟩=>?_,fun _=>?_,fun _=>?_,fun⟨o,_⟩=>?_,fun⟨p,r,_⟩=>?_,fun⟨s,_⟩=>?_,fun⟨x,_⟩=>?_,trivial⟩,fun⟨A,B,D,E,F,G,H,I,J,K,L,_⟩=>?_⟩
 ·exact Ja e aN fun _=>OpSt.op<|J00 ⟨h,RC.same g,rfl⟩
 ·exact Ja e aN fun _=>OpSt.op<|J00 ⟨h,RC.same g,rfl⟩
 ·exact Ja e (aC N aN) fun _=>OpSt.op<|J1b (z:=((y:Nat):Int)) Yb Z6 rfl (IntWalk.u64_in _ (by omega)) ⟨h,RC.same g,rfl⟩
 ·exact Ja e (aC k<|aC l aN) fun _=>OpSt.op<|J2k rfl rfl (by omega) (Qv (a:=hi * 4294967296+lo) (b:=y) (by omega)) ⟨h,RC.same g,rfl⟩
 ·exact Ja e (aC m aN) fun _=>OpSt.op<|J1b (z:=((((hi * 4294967296+lo) / y) % 4294967296:Nat):Int)) Yj Yp rfl (Jk _) ⟨h,RC.same g,rfl⟩
 ·exact Ja e aN fun _=>OpSt.op<|J00 ⟨h,RC.same g,rfl⟩
 ·exact Ja e aN fun _=>OpSt.op<|J00 ⟨h,RC.same g,rfl⟩
 ·exact Ja e (aC o aN) fun _=>OpSt.op<|J1b (z:=((y:Nat):Int)) Yb Z6 rfl (IntWalk.u64_in _ (by omega)) ⟨h,RC.same g,rfl⟩
 ·exact Ja e (aC p<|aC r aN) fun _=>OpSt.op<|J2y rfl rfl (by omega) (Q0 (hi * 4294967296+lo) y) ⟨h,RC.same g,rfl⟩
 ·exact Ja e (aC s aN) fun _=>OpSt.op<|J1b (z:=((((hi * 4294967296+lo) % y) % 4294967296:Nat):Int)) Yj Yp rfl (Jk _) ⟨h,RC.same g,rfl⟩
 ·exact Ja e (aC x aN) fun _=>OpSt.op<|J2h ⟨h,RC.same g,rfl⟩
 obtain⟨P,rfl⟩:=mixK e (aC A<|aC B<|aC D<|aC E<|aC F<|aC G<|aC H<|aC I<|aC J<|aC K<|aC L aN);refine Oa (Nl<|J04<|Zh rfl (J35 rfl) (J35 rfl)<|J02 ?_ g.below);refine⟨_,_,rfl,?_,?_⟩
 ·skip
  exact congrArg (Value.int _)<|congrArg _<|Nat.mod_eq_of_lt hq
 ·skip
  exact congrArg (Value.int _)<|congrArg _<|Nat.mod_eq_of_lt<|Nat.lt_trans hr hy
theorem Jn6{X:Nat→Prop}{w:World}(hX:XB X w){v0:Value}{a:List Nat}(d:RS Jd X w v0 a){v1:Value}{b:List Nat}(e:RS Jd X w v1 b)(hla:a.length≤549755813888)(hlb:b.length≤549755813888):CRt 243 #[v0,v1] w fun v w'=>RS Jd X w' v (J0 (max a.length b.length+1) (val a+val b)):=by
 obtain⟨r,s,rfl,_,_⟩:=d.len;obtain⟨z,D,rfl,_,_⟩:=e.len;have C:=J07 hX;have sa:=d.u32_small;have sb:=e.u32_small;refine Cgo (args:=[(.slice r a.length s),(.slice z b.length D)]) Tryz.func243 rfl rfl rfl<|Rg<|Oa<|Nl<|Rh<|Om<|Ol<|St.len sl24 rfl<|Om<|Ol<|St.len sl24 rfl<|Ol<|J1h rfl rfl (fun aO=>?_)<|fun aO=>?_
 ·refine Nl (J0w rfl<|J0y<|Om<|Om<|Oa<|Oa<|Nl<|Rg<|Om<|Ol<|St.len sl24 rfl<|Ol<|St.add rfl rfl (Jc (a:=b.length) (b:=1) (by omega))<|Ol<|J16 (n:=(b.length+1)) C sl24 rfl rfl rfl (by omega) Jh (by decide) ?_);intro g6 w7 x8 y9 a6 aQ S aR;replace d:=d.sp S;replace e:=e.sp S;refine Oa (Nl<|Rg<|Oa<|Nl<|Rh<|Om<|Ol<|St.len sl24 rfl<|Om<|Nl<|W.block<|J1g (fun μ f v=>∃ (x y:Nat→Prop) (i:Nat) (p:List Nat) (c:Nat),Cx X w x y v∧f 0=(.slice z b.length D)∧f 1=(.slice r a.length s)∧f 4=(.slice none 0 0)∧f 5=(.slice (some ⟨g6,0,none⟩) (b.length+1) (b.length+1))∧f 21=(.slice z b.length D)∧f 22=(.int .i64 ((b.length:Nat):Int))∧f 23=(.int .i64 ((i:Nat):Int))∧f 6=(.int .u32 ((c:Nat):Int))∧RS Jd x v (.slice r a.length s) a∧RS Jd x v (.slice z b.length D) b∧Own w y v g6 ((p++List.replicate ((b.length+1) - i) 0).map u32v) 118∧i≤b.length∧p.length=i∧Js p∧c≤1∧val p+4294967296 ^ i * c=val (b.take i)+val (a.take i)∧μ=(b.length - i)) _ ⟨_,_,0,[],0,aQ,rfl,rfl,rfl,rfl,rfl,rfl,rfl,rfl,d,e,aR,(Nat.zero_le _),rfl,J9,(by omega),(by simp [val]),rfl⟩ ?_);rintro bq br bs ⟨bt,bu,i,p,c,k,T,U,V,Y,Z,aa,ab,ac,d,e,g,hi,hp,hs,hc,hv,a0⟩;obtain⟨bv,rfl⟩:=rebK (aC T<|aC U<|aC V<|aC Y<|aC Z<|aC aa<|aC ab<|aC ac aN);clear T U V Y Z aa ab ac;refine Rg<|Ol<|J1h rfl rfl (fun az=>?_)<|fun az=>?_
  ·refine Nl (J06<|J0w rfl<|J01<|J06<|W.block<|Rg<|Om<|Ol<|J1l (j:=i) (u:=(b.getD i 0)) e sl24 Jh rfl rfl rfl (Jf (by omega)) ?_);intro bw bx aA ad;obtain⟨rfl,a7⟩:aA=_∧_:=ad.rd;refine Ol<|J1d Zf rfl (ad.cell 0 _ rfl)<|Oa<|Oa<|Nl<|Rg<|Oa<|Nl<|Rh<|Om<|Om<|Ol<|St.len sl24 rfl<|Ol<|J1h rfl rfl (fun aB=>?_)<|fun aB=>?_
   ·refine Nl (J0w rfl<|J0y<|Om<|Om<|Ol<|J1l (j:=i) (u:=(a.getD i 0)) d sl24 Jh rfl rfl rfl (Jf (by omega)) ?_);intro bz bA aD ae;obtain⟨rfl,a8⟩:aD=_∧_:=ae.rd;refine Ol (J1d Zf rfl (ae.cell 0 _ rfl)<|Oa<|Nl<|J0y<|Om<|Om<|Om<|Om<|Om<|Ol<|J0t k Jkh rfl rfl (xs k.bd (x:=(b.getD i 0)) (y:=(a.getD i 0)) (c:=c) (by omega) (by omega) hc) ?_);intro bB bC aS E aT;replace g:=g.spn E;obtain⟨bD,bE,rfl,rfl,rfl⟩:=aT;refine Om (Ol<|St.extract rfl rfl<|Ol<|St.extract rfl rfl<|Ol<|J1x (j:=i) sl24 Jh rfl rfl rfl (by omega)<|On<|J1u (j:=i) (u:=(((b.getD i 0)+(a.getD i 0)+c) % 4294967296)) aS g Jh rfl rfl (by rw [List.length_append,List.length_replicate,hp];omega) ?_);intro bF aU af ag;replace d:=(d.sp E).sp af;replace e:=(e.sp E).sp af;rw [Xm hp (by omega)] at ag;refine Oa<|Nl<|J0y<|Ol<|St.add rfl rfl (Jc (a:=i) (b:=1) (by omega))<|Om<|Nl<|⟨_,(by omega),_,_,(i+1),(p++[(((b.getD i 0)+(a.getD i 0)+c) % 4294967296)]),(((b.getD i 0)+(a.getD i 0)+c) / 4294967296),aU,rfl,rfl,rfl,rfl,rfl,rfl,rfl,rfl,d,e,ag,(by omega),(by rw [List.length_append,hp];rfl),(J3 hs (by omega)),(by omega),(zn hp hv rfl rfl),rfl⟩
   refine Nl (J0v rfl<|J01<|J0y<|Om<|Om<|Om<|Om<|Om<|Ol<|J0t k Jkh rfl rfl (xs k.bd (x:=(b.getD i 0)) (y:=0) (c:=c) (by omega) (by omega) hc) ?_);intro bG bH aV F aW;replace g:=g.spn F;obtain⟨bI,bJ,rfl,rfl,rfl⟩:=aW;refine Om (Ol<|St.extract rfl rfl<|Ol<|St.extract rfl rfl<|Ol<|J1x (j:=i) sl24 Jh rfl rfl rfl (by omega)<|On<|J1u (j:=i) (u:=(((b.getD i 0)+0+c) % 4294967296)) aV g Jh rfl rfl (by rw [List.length_append,List.length_replicate,hp];omega) ?_);intro bK aX ah ai;replace d:=(d.sp F).sp ah;replace e:=(e.sp F).sp ah;rw [Xm hp (by omega)] at ai;refine Oa<|Nl<|J0y<|Ol<|St.add rfl rfl (Jc (a:=i) (b:=1) (by omega))<|Om<|Nl<|⟨_,(by omega),_,_,(i+1),(p++[(((b.getD i 0)+0+c) % 4294967296)]),(((b.getD i 0)+0+c) / 4294967296),aX,rfl,rfl,rfl,rfl,rfl,rfl,rfl,rfl,d,e,ai,(by omega),(by rw [List.length_append,hp];rfl),(J3 hs (by omega)),(by omega),(zn hp hv rfl<|Kl (by omega)),rfl⟩
  refine Nl (J06<|J0v rfl<|J1j<|Rg<|Om<|Om<|Ol<|St.len sl24 rfl<|Om<|Ol<|J1x (j:=b.length) sl24 Jh rfl rfl rfl (by omega)<|On<|J1u (j:=b.length) (u:=c) k g Jh rfl rfl (by rw [List.length_append,List.length_replicate,hp];omega) ?_);intro bL aj bM ak;rw [Jb5 hp (by omega)] at ak;exact Nl<|Rg<|Om<|Oa<|Nl<|J04<|Wq rfl rfl aj<|J39 (ak.rowRS aj hX (by rw [List.length_append,hp];show _=_+1;omega) (by omega) (J3 hs (by omega)) id)<|((Jfp (A:=b) (B:=a) hs (by omega) rfl (by omega) hc (by rw [show b.length=i by omega];exact hv)).trans (by rw [Nat.max_eq_right (by omega),Nat.add_comm<|val b]))
 refine Nl (J0v rfl<|J01<|Rg<|Om<|Ol<|St.len sl24 rfl<|Ol<|St.add rfl rfl (Jc (a:=a.length) (b:=1) (by omega))<|Ol<|J16 (n:=(a.length+1)) C sl24 rfl rfl rfl (by omega) Jh (by decide) ?_);intro am bN bO bP a9 aY an aZ;replace d:=d.sp an;replace e:=e.sp an;refine Oa (Nl<|Rg<|Oa<|Nl<|Rh<|Om<|Ol<|St.len sl24 rfl<|Om<|Nl<|W.block<|J1g (fun μ f v=>∃ (x y:Nat→Prop) (i:Nat) (p:List Nat) (c:Nat),Cx X w x y v∧f 0=(.slice r a.length s)∧f 1=(.slice z b.length D)∧f 4=(.slice none 0 0)∧f 5=(.slice (some ⟨am,0,none⟩) (a.length+1) (a.length+1))∧f 21=(.slice r a.length s)∧f 22=(.int .i64 ((a.length:Nat):Int))∧f 23=(.int .i64 ((i:Nat):Int))∧f 6=(.int .u32 ((c:Nat):Int))∧RS Jd x v (.slice r a.length s) a∧RS Jd x v (.slice z b.length D) b∧Own w y v am ((p++List.replicate ((a.length+1) - i) 0).map u32v) 118∧i≤a.length∧p.length=i∧Js p∧c≤1∧val p+4294967296 ^ i * c=val (a.take i)+val (b.take i)∧μ=(a.length - i)) _ ⟨_,_,0,[],0,aY,rfl,rfl,rfl,rfl,rfl,rfl,rfl,rfl,d,e,aZ,(Nat.zero_le _),rfl,J9,(by omega),(by simp [val]),rfl⟩ ?_);rintro bQ bR bS ⟨bT,bU,i,p,c,l,ao,aq,ar,au,av,aw,ax,ay,d,e,h,hi,hp,hs,hc,hv,a2⟩;obtain⟨bV,rfl⟩:=rebK (aC ao<|aC aq<|aC ar<|aC au<|aC av<|aC aw<|aC ax<|aC ay aN);clear ao aq ar au av aw ax ay;refine Rg<|Ol<|J1h rfl rfl (fun aE=>?_)<|fun aE=>?_
 ·refine Nl (J06<|J0w rfl<|J01<|J06<|W.block<|Rg<|Om<|Ol<|J1l (j:=i) (u:=(a.getD i 0)) d sl24 Jh rfl rfl rfl (Jf (by omega)) ?_);intro bW ba P G;obtain⟨rfl,a4⟩:P=_∧_:=G.rd;refine Ol<|J1d Zf rfl (G.cell 0 _ rfl)<|Oa<|Oa<|Nl<|Rg<|Oa<|Nl<|Rh<|Om<|Om<|Ol<|St.len sl24 rfl<|Ol<|J1h rfl rfl (fun Q=>?_)<|fun Q=>?_
  ·refine Nl (J0w rfl<|J0y<|Om<|Om<|Ol<|J1l (j:=i) (u:=(b.getD i 0)) e sl24 Jh rfl rfl rfl (Jf (by omega)) ?_);intro bb bc R H;obtain⟨rfl,a5⟩:R=_∧_:=H.rd;refine Ol (J1d Zf rfl (H.cell 0 _ rfl)<|Oa<|Nl<|J0y<|Om<|Om<|Om<|Om<|Om<|Ol<|J0t l Jkh rfl rfl (xs l.bd (x:=(a.getD i 0)) (y:=(b.getD i 0)) (c:=c) (by omega) (by omega) hc) ?_);intro be bf aF m aG;replace h:=h.spn m;obtain⟨bg,bh,rfl,rfl,rfl⟩:=aG;refine Om (Ol<|St.extract rfl rfl<|Ol<|St.extract rfl rfl<|Ol<|J1x (j:=i) sl24 Jh rfl rfl rfl (by omega)<|On<|J1u (j:=i) (u:=(((a.getD i 0)+(b.getD i 0)+c) % 4294967296)) aF h Jh rfl rfl (by rw [List.length_append,List.length_replicate,hp];omega) ?_);intro bi aH I J;replace d:=(d.sp m).sp I;replace e:=(e.sp m).sp I;rw [Xm hp (by omega)] at J;refine Oa<|Nl<|J0y<|Ol<|St.add rfl rfl (Jc (a:=i) (b:=1) (by omega))<|Om<|Nl<|⟨_,(by omega),_,_,(i+1),(p++[(((a.getD i 0)+(b.getD i 0)+c) % 4294967296)]),(((a.getD i 0)+(b.getD i 0)+c) / 4294967296),aH,rfl,rfl,rfl,rfl,rfl,rfl,rfl,rfl,d,e,J,(by omega),(by rw [List.length_append,hp];rfl),(J3 hs (by omega)),(by omega),(zn hp hv rfl rfl),rfl⟩
  refine Nl (J0v rfl<|J01<|J0y<|Om<|Om<|Om<|Om<|Om<|Ol<|J0t l Jkh rfl rfl (xs l.bd (x:=(a.getD i 0)) (y:=0) (c:=c) (by omega) (by omega) hc) ?_);intro bj bk aI o aJ;replace h:=h.spn o;obtain⟨bl,bm,rfl,rfl,rfl⟩:=aJ;refine Om (Ol<|St.extract rfl rfl<|Ol<|St.extract rfl rfl<|Ol<|J1x (j:=i) sl24 Jh rfl rfl rfl (by omega)<|On<|J1u (j:=i) (u:=(((a.getD i 0)+0+c) % 4294967296)) aI h Jh rfl rfl (by rw [List.length_append,List.length_replicate,hp];omega) ?_);intro bn aK K L;replace d:=(d.sp o).sp K;replace e:=(e.sp o).sp K;rw [Xm hp (by omega)] at L;refine Oa<|Nl<|J0y<|Ol<|St.add rfl rfl (Jc (a:=i) (b:=1) (by omega))<|Om<|Nl<|⟨_,(by omega),_,_,(i+1),(p++[(((a.getD i 0)+0+c) % 4294967296)]),(((a.getD i 0)+0+c) / 4294967296),aK,rfl,rfl,rfl,rfl,rfl,rfl,rfl,rfl,d,e,L,(by omega),(by rw [List.length_append,hp];rfl),(J3 hs (by omega)),(by omega),(zn hp hv rfl<|Kl (by omega)),rfl⟩
 refine Nl (J06<|J0v rfl<|J1j<|Rg<|Om<|Om<|Ol<|St.len sl24 rfl<|Om<|Ol<|J1x (j:=a.length) sl24 Jh rfl rfl rfl (by omega)<|On<|J1u (j:=a.length) (u:=c) l h Jh rfl rfl (by rw [List.length_append,List.length_replicate,hp];omega) ?_);intro bo M bp N;rw [Jb5 hp (by omega)] at N;exact Nl<|Rg<|Om<|Oa<|Nl<|J04<|Wq rfl rfl M<|J39 (N.rowRS M hX (by rw [List.length_append,hp];show _=_+1;omega) (by omega) (J3 hs (by omega)) id)<|((Jfp (A:=a) (B:=b) hs (by omega) rfl (by omega) hc (by rw [show a.length=i by omega];exact hv)).trans (by rw [Nat.max_eq_left (by omega)]))
theorem Jim{X:Nat→Prop}{w:World}(hX:XB X w){T:Value}{a:List Nat}(d:RS Jd X w T a){U:Value}{b:List Nat}(e:RS Jd X w U b)(hla:a.length≤1099511627776)(hlb:b.length≤a.length)(hle:val b≤val a):CRt 244 #[T,U] w fun v w'=>RS Jd X w' v (J0 a.length (val a - val b)):=by
 obtain⟨K,L,rfl,_,_⟩:=d.len;obtain⟨M,N,rfl,_,_⟩:=e.len;have C:=J07 hX;have sa:=d.u32_small;have sb:=e.u32_small;refine Cgo (args:=[(.slice K a.length L),(.slice M b.length N)]) Tryz.func244 rfl rfl rfl (Rg<|Oa<|Nl<|Rg<|Om<|Ol<|St.len sl24 rfl<|Ol<|J16 (n:=a.length) C sl24 rfl rfl rfl (by omega) Jh (by decide) ?_);intro V w6 x7 y8 lt9 Y m Z;replace d:=d.sp m;replace e:=e.sp m;refine Oa (Nl<|Rg<|Oa<|Nl<|Rh<|Om<|Ol<|St.len sl24 rfl<|Om<|Nl<|W.block<|J1g (fun μ f v=>∃ (x y:Nat→Prop) (i:Nat) (p:List Nat) (c:Nat),Cx X w x y v∧f 1=(.slice M b.length N)∧f 4=(.slice none 0 0)∧f 5=(.slice (some ⟨V,0,none⟩) a.length a.length)∧f 13=(.slice K a.length L)∧f 14=(.int .i64 ((a.length:Nat):Int))∧f 15=(.int .i64 ((i:Nat):Int))∧f 6=(.int .u32 ((c:Nat):Int))∧RS Jd x v (.slice K a.length L) a∧RS Jd x v (.slice M b.length N) b∧Own w y v V ((p++List.replicate (a.length - i) 0).map u32v) 118∧i≤a.length∧p.length=i∧Js p∧c≤1∧val p+val (b.take i)=val (a.take i)+4294967296 ^ i * c∧μ=(a.length - i)) _ ⟨_,_,0,[],0,Y,rfl,rfl,rfl,rfl,rfl,rfl,rfl,d,e,Z,(Nat.zero_le _),rfl,J9,(by omega),(by simp [val]),rfl⟩ ?_);rintro aj ak am ⟨an,ao,i,p,c,h,o,r,s,z,A,B,D,d,e,g,hi,hp,hs,hc,hv,ag⟩;obtain⟨aq,rfl⟩:=rebK (aC o<|aC r<|aC s<|aC z<|aC A<|aC B<|aC D aN);clear o r s z A B D;refine Rg<|Ol<|J1h rfl rfl (fun P=>?_)<|fun P=>?_
 ·refine Nl (J06<|J0w rfl<|J01<|J06<|W.block<|Rg<|Om<|Ol<|J1l (j:=i) (u:=(a.getD i 0)) d sl24 Jh rfl rfl rfl (Jf (by omega)) ?_);intro ar au Q E;obtain⟨rfl,ah⟩:Q=_∧_:=E.rd;refine Ol<|J1d Zf rfl (E.cell 0 _ rfl)<|Oa<|Oa<|Nl<|Rg<|Oa<|Nl<|Rh<|Om<|Om<|Ol<|St.len sl24 rfl<|Ol<|J1h rfl rfl (fun R=>?_)<|fun R=>?_
  ·refine Nl (J0w rfl<|J0y<|Om<|Om<|Ol<|J1l (j:=i) (u:=(b.getD i 0)) e sl24 Jh rfl rfl rfl (Jf (by omega)) ?_);intro av aw S F;obtain⟨rfl,ai⟩:S=_∧_:=F.rd;refine Ol (J1d Zf rfl (F.cell 0 _ rfl)<|Oa<|Nl<|J0y<|Om<|Om<|Om<|Om<|Om<|Ol<|J0t h Jmr rfl rfl (Jal h.bd (x:=(a.getD i 0)) (y:=(b.getD i 0)) (b:=c) (by omega) (by omega) hc) ?_);intro ax ay aa k ab;replace g:=g.spn k;obtain⟨az,aA,rfl,rfl,rfl⟩:=ab;refine Om (Ol<|St.extract rfl rfl<|Ol<|St.extract rfl rfl<|Ol<|J1x (j:=i) sl24 Jh rfl rfl rfl (by omega)<|On<|J1u (j:=i) (u:=(((a.getD i 0)+8589934592 - (b.getD i 0) - c) % 4294967296)) aa g Jh rfl rfl (by rw [List.length_append,List.length_replicate,hp];omega) ?_);intro aB ac G H;replace d:=(d.sp k).sp G;replace e:=(e.sp k).sp G;rw [Xm hp (by omega)] at H;refine Oa<|Nl<|J0y<|Ol<|St.add rfl rfl (Jc (a:=i) (b:=1) (by omega))<|Om<|Nl<|⟨_,(by omega),_,_,(i+1),(p++[(((a.getD i 0)+8589934592 - (b.getD i 0) - c) % 4294967296)]),(if(a.getD i 0) < (b.getD i 0)+c then 1 else 0),ac,rfl,rfl,rfl,rfl,rfl,rfl,rfl,d,e,H,(by omega),(by rw [List.length_append,hp];rfl),(J3 hs (by omega)),(by split <;> omega),(Jdc hp hc (Ji sa _) (Ji sb _) hv rfl rfl),rfl⟩
  refine Nl (J0v rfl<|J01<|J0y<|Om<|Om<|Om<|Om<|Om<|Ol<|J0t h Jmr rfl rfl (Jal h.bd (x:=(a.getD i 0)) (y:=0) (b:=c) (by omega) (by omega) hc) ?_);intro aD aE ad l ae;replace g:=g.spn l;obtain⟨aF,aG,rfl,rfl,rfl⟩:=ae;refine Om (Ol<|St.extract rfl rfl<|Ol<|St.extract rfl rfl<|Ol<|J1x (j:=i) sl24 Jh rfl rfl rfl (by omega)<|On<|J1u (j:=i) (u:=(((a.getD i 0)+8589934592 - 0 - c) % 4294967296)) ad g Jh rfl rfl (by rw [List.length_append,List.length_replicate,hp];omega) ?_);intro aH af I J;replace d:=(d.sp l).sp I;replace e:=(e.sp l).sp I;rw [Xm hp (by omega)] at J;refine Oa<|Nl<|J0y<|Ol<|St.add rfl rfl (Jc (a:=i) (b:=1) (by omega))<|Om<|Nl<|⟨_,(by omega),_,_,(i+1),(p++[(((a.getD i 0)+8589934592 - 0 - c) % 4294967296)]),(if(a.getD i 0) < 0+c then 1 else 0),af,rfl,rfl,rfl,rfl,rfl,rfl,rfl,d,e,J,(by omega),(by rw [List.length_append,hp];rfl),(J3 hs (by omega)),(by split <;> omega),(Jdc hp hc (Ji sa _) (by omega) hv rfl<|Kl (by omega)),rfl⟩
 exact Nl<|J06<|J0v rfl<|J1j<|Rg<|Om<|Oa<|Nl<|J04<|Wq rfl rfl h<|J39 (g.rowRS h hX (by rw [List.length_append,List.length_replicate,hp];omega) (by omega) (Z8 hs<|K5 _) id)<|(by rw [show a.length - i=0 by omega,List.replicate_zero,List.append_nil];exact Je9 hs hp (by omega) hlb hle hv)
end Go.Wf
