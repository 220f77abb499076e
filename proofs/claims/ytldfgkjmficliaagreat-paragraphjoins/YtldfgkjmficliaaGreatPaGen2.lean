/- The generator: lists of fonts, paragraphs. -/
import Derived.Test.YtldfgkjmficliaaGreatPaGen
set_option linter.unusedSimpArgs false
set_option linter.unusedVariables false
namespace Go.Ab
open Go.Proofs
namespace Bi
structure Spn where
 f:Int
 t:Int
 n:Int
 z:Int
def cb(s:Spn):List V:=[.int .i64 s.f,.int .i64 s.t,.int .i64 s.n,.int .i64 s.z]
structure Par where
 t:List Int
 s:List Spn
 b:Int
 a:Int
 w:Int
def cF(p:Par):List V:=[rl p.t,.lst (p.s.map cb),.int .i64 p.b,.int .i64 p.a,.int .i64 p.w]
def Cov:Int→Int→List Spn→Prop
 | a,b,[]=>a=b
 | a,b,s::l=>s.f=a∧a<s.t∧Cov s.t b l
theorem Cov.snoc:∀ {l:List Spn}{a b:Int}{s:Spn},Cov a b l→s.f=b→b<s.t→Cov a s.t (l++[s])
 | [],_,_,_,h,h1,h2=>⟨h1.trans h.symm,by rw[h];exact h2,rfl⟩
 | _::_,_,_,_,⟨h1,h2,h3⟩,g1,g2=>⟨h1,h2,h3.snoc g1 g2⟩
structure F5(p:Par)(n fonts:Nat):Prop where
 len:p.t.length≤n
 b:-1≤p.b∧p.b≤1
 a:0≤p.a∧p.a≤2
 w:0≤p.w∧p.w≤1048576
 sp:∀ s∈p.s,0≤s.n∧s.n<fonts∧1≤s.z∧s.z≤40
 cov:(p.t=[]∧∃ s,p.s=[s]∧s.f=0∧s.t=0)∨(p.t≠[]∧Cov 0 p.t.length p.s)
 sl:p.s.length≤n+1
section
variable {prim:FuncId→Option Prim}(d:Nat) (cfg:Cfg) (h:Heap)
end
end Bi
end Go.Ab
