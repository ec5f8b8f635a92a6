/- Part 8 of the texts for the claim. -/
import Derived.Test.YtnaegfdjkncaoaaGreatDoorFt7
set_option linter.unusedVariables false
set_option linter.unusedSimpArgs false
set_option maxRecDepth 100000
set_option maxHeartbeats 4000000
noncomputable section
namespace Go.Ev
open Go Go.Wf Go.Proofs
theorem GT:∀q∈eisL,Ya (eisR q.1 q.2) 0 (eisC q.1 q.2)=true:=by
 simp only[eisL,WR];exact⟨Hh,ER,GI,ww,wo,F7,Ej,Hd,xH,yK,FI,DC,Gv,yV,zL,D4,Hr,Gm,BO,BL,FC,DU,Fl,AW,Ba,Hk,ED,GL,Bc,AQ,fun _ h=>by cases h⟩
theorem Gd:∀p∈[1,2,3,4,5,6],Ya (delR p) 1 (delC p)=true:=by
 simp only[WR];exact⟨P4,OB,P7,NV,OC,Nt,fun _ h=>by cases h⟩
def inE(l:List (Nat×Nat))(k p:Nat):Bool:=l.any fun q=>Nat.beq q.1 k&&Nat.beq q.2 p
theorem DO{l:List (Nat×Nat)}{k p:Nat}(h:inE l k p=true):(k,p)∈l:=by
 unfold inE at h;rw[List.any_eq_true] at h;obtain⟨q,hq,h⟩:=h;obtain⟨a,b⟩:=Za h;rw[←YT a,←YT b];exact hq
theorem L2{w:World}{n:Nat}(h:Xo w n Vx):Xo w 2 Vx:=fun p hp=>by
 obtain rfl:p=(1,vc):=by simpa using hp
 exact⟨by decide,(h _ hp).2⟩
def eF:List In→Option (List Ou)
 |[.n (.ofNat k),.n (.ofNat p)]=>bif inE eisL k p then some [.se 0 (eisC k p),.n 0] else none
 |_=>none
def dF:List In→Option (List Ou)
 |[.n (.ofNat p)]=>bif inE [(0,1),(0,2),(0,3),(0,4),(0,5),(0,6)] 0 p then some [.se 1 (delC p),.n 0] else none
 |_=>none
theorem Dt:ConT Tryz.prog Vx 138 eF:=by
 intro X w n ins vs os hX hT hn hw hin e;unfold eF at e;split at e
 ·rename_i k p;cases hb:inE eisL k p with
  |false=>rw[hb] at e;cases e
  |true=>
   rw[hb] at e;cases e;obtain⟨v,u,rfl,rfl,a,u2,rfl,rfl,rfl⟩:=hin;exact oP exS0 (uH xR) mixed (GT _ (DO hb)) X w hX hT (by decide) (L2 hw) [_,_] (fun Φ=>by simp only[RvL,Rv];exact⟨_,_,rfl,rfl,_,_,rfl,rfl,rfl⟩)
 ·cases e
theorem Dq:ConT Tryz.prog Vx 139 dF:=by
 intro X w n ins vs os hX hT hn hw hin e;unfold dF at e;split at e
 ·rename_i p;cases hb:inE [(0,1),(0,2),(0,3),(0,4),(0,5),(0,6)] 0 p with
  |false=>rw[hb] at e;cases e
  |true=>
   rw[hb] at e;cases e;obtain⟨v,u,rfl,rfl,rfl⟩:=hin;exact oP exS0 (uH xR) mixed (Gd p (by have:=DO hb;simpa using this)) X w hX hT (by decide) (L2 hw) [_] (fun Φ=>by simp only[RvL,Rv];exact⟨_,_,rfl,rfl,rfl⟩)
 ·cases e
def TB:PrL:=(138,prFT Vx [.n,.n] eF)::(139,prFT Vx [.n] dF)::TA
theorem JL:∀e∈TB,re Tryz.prog e.1 e.2:=by
 unfold TB;rw[WR,WR];exact⟨Im rX OO Dt,Im rX P9 Dq,xR⟩
abbrev milM(k n:Nat):Res:=Qn Tryz.prog (prL TB) (fun _=>0) 100 91 [.i .i64 (Int.ofNat k),.i .i64 (Int.ofNat n)] (hpG 2 Vx)
end Go.Ev
