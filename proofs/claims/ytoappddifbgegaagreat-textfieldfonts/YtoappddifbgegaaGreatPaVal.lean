/- The check of a paragraph, of the program and of the reference: one plain function. -/
import Derived.Test.YtoappddifbgegaaGreatPaRef3
set_option linter.all false
namespace Go.Ab
open Go.Proofs
namespace Bi
attribute [local congr] az
def pX(a c:Int):Int:=if a<c then -1 else if c<a then 1 else 0
def ib(a b c e:Int):Int:=if pX a c=0 then pX b e else pX a c
theorem pairS_neg{a b c e:Int}:0<=ib a b c e↔¬ (a<c\/a=c/\b<e):=by
 unfold ib pX
 repeat' split
 all_goals omega
section
variable {prim:FuncId->Option Prim}(d:Nat) (cfg:Cfg) (h:Heap)
theorem tu(hp:∀ f,Np5 f->prim f=none)(x a b:Int):af md (K prim (d+1)) cfg 109 [.int .i64 x,.int .i64 a,.int .i64 b] h=some (.bool (decide (a<=x)&&decide (x<=b)),h):=by
 refine aP rfl (hp 109 (by decide)) Tryz.func109 rfl rfl rfl (by simp) ?_;simp +contextual (disch:=first|omega|(simp;done)|(simp[Le];done)|fail) [-au,cu,aw,aD,bU]
theorem I9(hp:∀ f,Np5 f->prim f=none)(x:Int):af md (K prim (d+1)) cfg 110 [.int .i32 x] h=some (.bool (decide (0<=x)&&decide (x<=1114111)),h):=by
 refine aP rfl (hp 110 (by decide)) Tryz.func110 rfl rfl rfl (by simp) ?_;simp +contextual (disch:=first|omega|(simp;done)|(simp[Le];done)|fail) [-au,cu,aw,aD,bU]
theorem Jj(hp:∀ f,Np5 f->prim f=none)(x:Int):af md (K prim (d+1)) cfg 244 [.int .i32 x] h=some (.bool false,h):=by
 refine aP rfl (hp 244 (by decide)) Tryz.func244 rfl rfl rfl (by simp) ?_;simp
theorem xL(hp:∀ f,Np5 f->prim f=none)(x y:Int):af md (K prim (d+2)) cfg 181 [.int .i32 x,.int .i32 y] h=some (.int .i64 (pX x y),h):=by
 have hn:=fun cfg h x=>Jj (prim:=prim) d cfg h hp x;refine aP rfl (hp 181 (by decide)) Tryz.func181 rfl rfl rfl (by simp) ?_;unfold pX;by_cases h1:x<y
 ·simp[hn,h1]
 ·by_cases h2:y<x
  ·simp[hn,h1,h2]
  ·simp[hn,h1,h2]
theorem or_ok(hp:∀ f,Np5 f->prim f=none)(a b:Int)(H:Heap)(args:List V)(ha:args.mapM (frzA H)=some [il [a,b]]):af md (K prim (d+1)) cfg 180 args H=some (.int .i64 (if a=0 then b else a),H):=by
 refine call3 rfl (hp 180 (by decide)) Tryz.func180 rfl rfl rfl ha ?_;simp;refine ah (fun m fr H=>∃ (i:Nat),i<=2/\m=2-i/\H=[]/\(0<i->a=0)/\(1<i->b=0)/\Slots 18 [(3,.int .i64 0),(6,il [a,b]),(7,.int .i64 2),(8,.int .i64 i)] fr) (m:=2) (by omega) ⟨0,by omega,by omega,rfl,by simp,by simp,by simp⟩ ?_;rintro m fr H ⟨i,hi,rfl,rfl,h1,h2,hs⟩;obtain⟨j,rfl⟩:=hs.ex;clear hs;rcases i with _|_|i
 ·by_cases hz:a=0
  ·simp(disch:=omega)[hz,wrap64];exact ae (m':=1) (by omega) ⟨1,by omega,by omega,rfl,fun _=>hz,by simp,by simp[hz]⟩
  ·simp(disch:=omega)[hz]
 ·have h0:=h1 (by omega);by_cases hz:b=0
  ·simp(disch:=omega)[hz,wrap64];exact ae (m':=0) (by omega) ⟨2,by omega,by omega,rfl,fun _=>h0,fun _=>hz,by simp[hz]⟩
  ·simp(disch:=omega)[hz,h0]
 ·obtain rfl:i=0:=by omega
  have h0:=h1 (by omega);have h3:=h2 (by omega);simp[h0,h3]
theorem ue(hp:∀ f,Np5 f->prim f=none)(a b c e:Int):af md (K prim (d+3)) cfg 111 [.int .i32 a,.int .i32 b,.int .i32 c,.int .i32 e] h=some (.int .i64 (ib a b c e),h):=by
 have hc:=fun cfg h x y=>xL (prim:=prim) d cfg h hp x y;have ho:=fun cfg a b H args ha=>or_ok (prim:=prim) (d+1) cfg hp a b H args ha;refine aP rfl (hp 111 (by decide)) Tryz.func111 rfl rfl rfl (by simp) ?_;have h0:=fun cfg=>ho cfg (pX a c) (pX b e) [some [.int .i64 (pX a c),.int .i64 (pX b e)]] [.sl 0 0 2 2 1] rfl;simp[hc,h0];rfl
end
end Bi
end Go.Ab
