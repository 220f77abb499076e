/- The program: the other rune of a pair. -/
import Derived.Test.YtldfgkjmficliaaGreatPiSpec4
set_option linter.all false
namespace Go.Ab
open Go.Proofs
namespace Bi
def otTab:List (Int×Int):=[(60,62),(171,187),(8804,8805)]
def mirS(r:Int):Int:=if (ja brTab r).2<0 then (ja otTab r).1 else (ja brTab r).1
section
variable {prim:FuncId->Option Prim}(d:Nat) (cfg:Cfg) (h:Heap)
theorem Bk(hp:prim 163=none):af md (K prim (d+1)) cfg 163 [] h=some (prl otTab,h):=by
 have hk:∃ v H,K prim (d+1) ⟨0,[],0⟩ 163 [] []=some (v,H)/\frz H 0 6 v=some (prl otTab):=by
  simp only[K,aN,hp];exact⟨.sl 0 0 3 3 2,[some (otTab.flatMap fun x=>[.int .i32 x.1,.int .i32 x.2])],by kernel_rfl,by kernel_rfl⟩
 obtain⟨v,H,h1,h2⟩:=hk;simp only[af,show md 163=0 from rfl,NH,if_true,h1,h2]
theorem Fo(hp:∀ f,Np5 f->prim f=none)(r:Int):af md (K prim (d+2)) cfg 135 [.int .i32 r] h=some (.int .i32 (mirS r),h):=by
 refine aU rfl (hp 135 (by decide)) Tryz.func135 rfl rfl rfl (by simp) ?_;have h1:=fun cfg h=>kR (prim:=prim) d cfg h (hp 162 (by decide));have h2:=fun cfg h=>qO (prim:=prim) d cfg h (hp 161 (by decide)) brTab (by decide) r;have h3:=fun cfg h=>Bk (prim:=prim) d cfg h (hp 163 (by decide));have h4:=fun cfg h=>qO (prim:=prim) d cfg h (hp 161 (by decide)) otTab (by decide) r;unfold mirS;generalize ja brTab r=x at *;generalize ja otTab r=y at *;obtain⟨x1,x2⟩:=x;generalize brTab=bt at *;generalize otTab=ot at *;by_cases c1:x2<0
 ·simp[h1,h2,h3,h4,c1]
 ·simp[h1,h2,c1]
end
end Bi
end Go.Ab
