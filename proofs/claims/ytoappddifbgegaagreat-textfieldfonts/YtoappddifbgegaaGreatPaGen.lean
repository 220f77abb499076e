/- The generator: fonts and paragraphs. -/
import Derived.Test.YtoappddifbgegaaGreatAbFlat
set_option linter.all false
namespace Go.Ab
open Go.Proofs
namespace Bi
structure Fnt where
 u:Int
 a:Int
 d:Int
 g:Int
 df:Int
 adv:List (Int×Int×Int)
 ker:List (Int×Int×Int)
 lig:List (Int×Int×Int×Int)
def dV(x:Int×Int×Int):List V:=[.int .i32 x.1,.int .i32 x.2.1,.int .i64 x.2.2]
def ee(x:Int×Int×Int×Int):List V:=[.int .i32 x.1,.int .i32 x.2.1,.int .i64 x.2.2.1,.int .i64 x.2.2.2]
def aG(f:Fnt):List V:=[.int .i64 f.u,.int .i64 f.a,.int .i64 f.d,.int .i64 f.g,.int .i64 f.df,.lst (f.adv.map dV),.lst (f.ker.map dV),.lst (f.lig.map ee)]
structure zf(f:Fnt):Prop where
 u:16<=f.u/\f.u<=200
 a:1<=f.a/\f.a<=100
 d:0<=f.d/\f.d<40
 g:0<=f.g/\f.g<30
 df:0<=f.df/\f.df<120
 adv:∀ x∈f.adv,0<=x.1/\x.1<=x.2.1/\x.2.1<=1114111/\0<=x.2.2/\x.2.2<200
 advA:f.adv.Pairwise fun x y=>x.2.1<y.1
 advL:f.adv.length<=4
 ker:∀ x∈f.ker,0<=x.1/\x.1<=1114111/\0<=x.2.1/\x.2.1<=1114111/\-60<=x.2.2/\x.2.2<=60
 kerA:f.ker.Pairwise fun x y=>x.1<y.1\/x.1=y.1/\x.2.1<y.2.1
 kerL:f.ker.length<=5
 lig:∀ x∈f.lig,0<=x.1/\x.1<=1114111/\0<=x.2.1/\x.2.1<=1114111/\1114112<=x.2.2.1/\x.2.2.1<=1114120/\0<=x.2.2.2/\x.2.2.2<200
 ligA:f.lig.Pairwise fun x y=>x.1<y.1\/x.1=y.1/\x.2.1<y.2.1
 ligL:f.lig.length<=4
section
variable {prim:FuncId->Option Prim}(d:Nat) (cfg:Cfg) (h:Heap)
theorem N_all(hp:∀ f,Np5 f->prim f=none)(L:List Int)(k:Nat)(hL:L.length<=4000)(hk:k<=L.length)(n:Int)(hn:1<=n)(h8:n<=4000000000):
  ∃ v k':Nat,(v:Int)<n/\k'<=L.length/\∀ (cfg:Cfg) (h:Heap) (b:Nat),ab h b=some [il L,.int .i64 k]->cfg.wr b=true->af md (K prim (d+1)) cfg 16 [.ptr b 0,.int .i64 n] h=some (.int .i64 v,h.set b (some [il L,.int .i64 k'])):=by
 have h0:=hp 16 (by decide);by_cases h9:k<L.length
 ·obtain⟨x,hx⟩:∃ x,L[k]=x:=⟨_,rfl⟩;have hr:=N2 x (b:=n) (by omega);have ha:=N3 x (b:=n) (by omega);refine⟨(if x.tmod n<0 then x.tmod n+n else x.tmod n).toNat,k+1,by split<;>omega,by omega,fun cfg h b hb hw=>call1 rfl h0 Tryz.func16 rfl rfl rfl ?_⟩;have h6:(Cfg.wr ⟨cfg.lo,cfg.ex,h.length⟩ b)=true:=hw;have hc:=ao hb;simp;refine ai 9 (by kernel_rfl) ?_;have h4:¬ L.length<=k:=by omega
  have h7:¬ n<1:=by omega
  have hd:¬ n=0:=by omega
  simp[hb,h4,h7];refine ai 11 (by kernel_rfl) ?_;simp(disch:=first|omega|(simp;done)|(simp;omega)) [hb,hx,h6,wrap64];by_cases h3:x.tmod n<0
  ·simp(disch:=first|omega|(simp;done)|(simp;omega)) [h3,wrap64];exact⟨by omega,Li (by simp)⟩
  ·simp(disch:=first|omega|(simp;done)|(simp;omega)) [h3];exact⟨by omega,Li (by simp)⟩
 ·refine⟨0,k,by omega,hk,fun cfg h b hb hw=>?_⟩;rw[eK hb];refine call1 rfl h0 Tryz.func16 rfl rfl rfl ?_;have h4:L.length<=k:=by omega
  simp;refine ai 9 (by kernel_rfl) ?_;simp[hb,h4]
theorem bAt{H:Heap}{b:Nat}{X:Option (List V)}{Y:List V}(hY:isMap Y=false):ab (H.set b X++[some Y]) H.length=some Y:=by
 have:=bn (h:=H.set b X) (r:=[some Y]) (k:=0);simp only[LC,Nb]at this;rw[this];simp[hY]
structure Rd(H:Heap)(b:Nat)(L:List Int)(k:Nat):Prop where
 blk:ab H b=some [il L,.int .i64 k]
 le:k<=L.length
theorem Rd.lt{H:Heap}{b:Nat}{L:List Int}{k:Nat}(r:Rd H b L k):b<H.length:=ao r.blk
theorem Rd.set{H:Heap}{b:Nat}{L:List Int}{k k':Nat}(r:Rd H b L k)(h:k'<=L.length):Rd (H.set b (some [il L,.int .i64 k'])) b L k':=⟨by have:=r.lt;simp[this],h⟩
theorem Rd.push{H:Heap}{b:Nat}{L:List Int}{k:Nat}(r:Rd H b L k)(x:Heap):Rd (H++x) b L k:=⟨by rw[aj r.lt];exact r.blk,r.le⟩
abbrev hk(h:Heap)(b:Nat)(L:List Int)(k:Nat):Heap:=h.set b (some [il L,.int .i64 k])
theorem Rd.nx(hp:∀ f,Np5 f->prim f=none){h:Heap}{b:Nat}{L:List Int}{k0:Nat}(r:Rd h b L k0)(hL:L.length<=4000){k:Nat}(h0:k<=L.length)(n:Int)(h1:1<=n)(h2:n<=4000000000):
  ∃ v k':Nat,(v:Int)<n/\k'<=L.length/\∀ (cfg:Cfg) (x:Heap),cfg.wr b=true->af md (K prim (d+1)) cfg 16 [.ptr b 0,.int .i64 n] (hk h b L k++x)=some (.int .i64 v,hk h b L k'++x):=by
 obtain⟨v,k',g1,g2,g3⟩:=N_all (prim:=prim) d hp L k hL h0 n h1 h2;refine⟨v,k',g1,g2,fun cfg x hw=>?_⟩;rw[g3 cfg _ b ((r.set h0).push x).blk hw,LY _ _ (by simpa using r.lt),M0]
theorem Rd.same{h:Heap}{b:Nat}{L:List Int}{k:Nat}(r:Rd h b L k):h=hk h b L k:=(eK r.blk).symm
theorem Dm{h:Heap}{b:Nat}{L:List Int}{k:Nat}:(hk h b L k).length=h.length:=by simp
structure Gn(h:Heap)(b:Nat)(L:List Int)(k:Nat)(X H:Heap)(os:List Own):Prop where
 le:k<=L.length
 hp:Hp H (hk h b L k++X) os
attribute [local congr] G7
end
end Bi
end Go.Ab
