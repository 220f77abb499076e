/- The reference: fonts, by their shapes. -/
import Derived.Test.YtoappddifbgegaaGreatPiJ
set_option linter.all false
namespace Go.Ab
open Go.Proofs
namespace Bi
attribute [local congr] az
section
variable {prim:FuncId->Option Prim}(d:Nat) (cfg:Cfg) (h:Heap)
def okA(x:Int×Int×Int):Prop:=0<=x.1/\x.1<=1114111/\0<=x.2.1/\x.2.1<=1114111/\0<=x.2.2/\x.2.2<=4096
def okK(x:Int×Int×Int):Prop:=0<=x.1/\x.1<=1114111/\0<=x.2.1/\x.2.1<=1114111/\-1000<=x.2.2/\x.2.2<=1000
def okG(x:Int×Int×Int×Int):Prop:=0<=x.1/\x.1<=1114111/\0<=x.2.1/\x.2.1<=1114111/\1114112<=x.2.2.1/\x.2.2.1<=2097151/\0<=x.2.2.2/\x.2.2.2<=4096
def gp(f:Fnt):Prop:=16<=f.u/\f.u<=4096/\0<=f.a/\f.a<=4096/\0<=f.d/\f.d<=4096/\0<=f.g/\f.g<=4096/\1<=IntKind.i64.wrap (f.a+f.d)/\0<=f.df/\f.df<=4096
def jM(f:Fnt):Prop:=gp f/\(∀ x∈f.adv,okA x)/\(∀ x∈f.ker,okK x)/\∀ x∈f.lig,okG x
def ordA(l:List (Int×Int×Int)):Prop:=∀ (i:Nat) x,l[i]?=some x->x.1<=x.2.1/\∀ y,0<i->l[i-1]?=some y->y.2.1<x.1
def wi(l:List (Int×Int)):Prop:=∀ (i:Nat) x y,l[i]?=some x->l[i+1]?=some y->x.1<y.1\/x.1=y.1/\x.2<y.2
def ordOK(f:Fnt):Prop:=ordA f.adv/\wi (f.ker.map fun x=>(x.1,x.2.1))/\wi (f.lig.map fun x=>(x.1,x.2.1))
noncomputable def bQ(f:Fnt):Int:=by
 classical
 exact if 100<f.adv.length\/100<f.ker.length\/100<f.lig.length then 2 else if ¬ jM f then 1 else if ¬ ordOK f then 10 else 0
theorem Ca{f:Fnt}(h:100<f.adv.length\/100<f.ker.length\/100<f.lig.length):bQ f=2:=by unfold bQ;exact if_pos h
theorem ET{f:Fnt}(h:¬ (100<f.adv.length\/100<f.ker.length\/100<f.lig.length))(h1:¬ jM f):bQ f=1:=by unfold bQ;rw[if_neg h,if_pos h1]
theorem ER{f:Fnt}(h:¬ (100<f.adv.length\/100<f.ker.length\/100<f.lig.length))(h1:jM f)(h2:¬ ordOK f):bQ f=10:=by unfold bQ;rw[if_neg h,if_neg (fun g=>g h1),if_pos h2]
theorem AE{f:Fnt}(h:¬ (100<f.adv.length\/100<f.ker.length\/100<f.lig.length))(h1:jM f)(h2:ordOK f):bQ f=0:=by unfold bQ;rw[if_neg h,if_neg (fun g=>g h1),if_neg (fun g=>g h2)]
theorem pA{α:Type}{P:α->Prop}{l:List α}{i:Nat}{x:α}(h:∀ y∈l.take i,P y)(hx:l[i]?=some x)(hp:P x):∀ y∈l.take (i+1),P y:=by
 intro y hy;rw[LD,hx]at hy;rcases LB.1 hy with hy|hy
 ·exact h y hy
 ·simp at hy;subst hy;exact hp
end
end Bi
end Go.Ab
