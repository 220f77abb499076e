/- The generator: fonts and paragraphs. -/
import Derived.Test.YtldfgkjmficliaaGreatPiGen
import Derived.Test.YtldfgkjmficliaaGreatPaRef2
set_option linter.unusedSimpArgs false
set_option linter.unusedVariables false
namespace Go.Ab
open Go.Proofs
namespace Bi
structure Fnt where
 u:Int
 a:Int
 d:Int
 g:Int
 df:Int
 adv:List (Int×Int×Int)
 ker:List (Int×Int×Int)
 lig:List (Int×Int×Int×Int)
def dS(x:Int×Int×Int):List V:=[.int .i32 x.1,.int .i32 x.2.1,.int .i64 x.2.2]
def dY(x:Int×Int×Int×Int):List V:=[.int .i32 x.1,.int .i32 x.2.1,.int .i64 x.2.2.1,.int .i64 x.2.2.2]
def aH(f:Fnt):List V:=[.int .i64 f.u,.int .i64 f.a,.int .i64 f.d,.int .i64 f.g,.int .i64 f.df,.lst (f.adv.map dS),.lst (f.ker.map dS),.lst (f.lig.map dY)]
structure A4(f:Fnt):Prop where
 u:16≤f.u∧f.u≤200
 a:1≤f.a∧f.a≤100
 d:0≤f.d∧f.d<40
 g:0≤f.g∧f.g<30
 df:0≤f.df∧f.df<120
 adv:∀ x∈f.adv,0≤x.1∧x.1≤x.2.1∧x.2.1≤1114111∧0≤x.2.2∧x.2.2<200
 advA:f.adv.Pairwise fun x y=>x.2.1<y.1
 advL:f.adv.length≤4
 ker:∀ x∈f.ker,0≤x.1∧x.1≤1114111∧0≤x.2.1∧x.2.1≤1114111∧-60≤x.2.2∧x.2.2≤60
 kerA:f.ker.Pairwise fun x y=>x.1<y.1∨x.1=y.1∧x.2.1<y.2.1
 kerL:f.ker.length≤5
 lig:∀ x∈f.lig,0≤x.1∧x.1≤1114111∧0≤x.2.1∧x.2.1≤1114111∧1114112≤x.2.2.1∧x.2.2.1≤1114120∧0≤x.2.2.2∧x.2.2.2<200
 ligA:f.lig.Pairwise fun x y=>x.1<y.1∨x.1=y.1∧x.2.1<y.2.1
 ligL:f.lig.length≤4
section
variable {prim:FuncId→Option Prim}(d:Nat) (cfg:Cfg) (h:Heap)
theorem A7(hp:∀ f,Np5 f→prim f=none)(L:List Int)(k:Nat)(hL:L.length≤4000)(hk:k≤L.length)(n:Int)(hn:1≤n)(hn2:n≤4000000000):
  ∃ v k':Nat,(v:Int)<n∧k'≤L.length∧∀ (cfg:Cfg) (h:Heap) (b:Nat),ab h b=some [il L,.int .i64 k]→cfg.wr b=true→af md (K prim (d+1)) cfg 23 [.ptr b 0,.int .i64 n] h=some (.int .i64 v,h.set b (some [il L,.int .i64 k'])):=by
 have hp13:=hp 23 (by decide)
 by_cases hlt:k<L.length
 ·obtain⟨x,hx⟩:∃ x,L[k]=x:=⟨_,rfl⟩
  have hr:=Int.tmod_lt_of_pos x (b:=n) (by omega)
  have hr2:=Int.lt_tmod_of_pos x (b:=n) (by omega)
  refine⟨(if x.tmod n<0 then x.tmod n+n else x.tmod n).toNat,k+1,by split<;>omega,by omega,fun cfg h b hb hw=>call1 rfl hp13 Tryz.func23 rfl rfl rfl ?_⟩
  have hw':(Cfg.wr ⟨cfg.lo,cfg.ex,h.length⟩ b)=true:=hw
  have hbl:=aw hb
  simp
  refine ai 9 (by kernel_rfl) ?_
  have hk1:¬ L.length≤k:=by omega
  have hn1:¬ n<1:=by omega
  have hn0:¬ n=0:=by omega
  simp[hb,hk1,hn1]
  refine ai 11 (by kernel_rfl) ?_
  simp(disch:=first|omega|(simp;done)|(simp;omega)) [hb,hx,hw',wrap64]
  by_cases hneg:x.tmod n<0
  ·simp(disch:=first|omega|(simp;done)|(simp;omega)) [hneg,wrap64]
   exact⟨by omega,List.take_of_length_le (by simp)⟩
  ·simp(disch:=first|omega|(simp;done)|(simp;omega)) [hneg]
   exact⟨by omega,List.take_of_length_le (by simp)⟩
 ·refine⟨0,k,by omega,hk,fun cfg h b hb hw=>?_⟩
  rw[fk hb]
  refine call1 rfl hp13 Tryz.func23 rfl rfl rfl ?_
  have hk1:L.length≤k:=by omega
  simp
  refine ai 9 (by kernel_rfl) ?_
  simp[hb,hk1]
theorem R_all(hp:∀ f,Np5 f→prim f=none)(L:List Int)(k:Nat)(hL:L.length≤4000)(hk:k≤L.length)(lo hi:Int)(h1:lo≤hi)(h2:-1000000≤lo)(h3:hi≤1000000):
  ∃ (v:Int) (k':Nat),lo≤v∧v≤hi∧k'≤L.length∧∀ (cfg:Cfg) (h:Heap) (b:Nat),ab h b=some [il L,.int .i64 k]→cfg.wr b=true→af md (K prim (d+2)) cfg 64 [.ptr b 0,.int .i64 lo,.int .i64 hi] h=some (.int .i64 v,h.set b (some [il L,.int .i64 k'])):=by
 obtain⟨v,k',hv,hk',hN⟩:=A7 (prim:=prim) d hp L k hL hk (hi-lo+1) (by omega) (by omega)
 refine⟨lo+v,k',by omega,by omega,hk',fun cfg h b hb hw=>call1 rfl (hp 64 (by decide)) Tryz.func64 rfl rfl rfl ?_⟩
 have hN':=hN ⟨cfg.lo,cfg.ex,h.length⟩ h b hb hw
 simp(disch:=omega)[hN',wrap64]
 exact List.take_of_length_le (by simp)
structure Rd(H:Heap)(b:Nat)(L:List Int)(k:Nat):Prop where
 blk:ab H b=some [il L,.int .i64 k]
 le:k≤L.length
theorem Rd.lt{H:Heap}{b:Nat}{L:List Int}{k:Nat}(r:Rd H b L k):b<H.length:=aw r.blk
theorem Rd.set{H:Heap}{b:Nat}{L:List Int}{k k':Nat}(r:Rd H b L k)(h:k'≤L.length):Rd (H.set b (some [il L,.int .i64 k'])) b L k':=⟨by have:=r.lt;simp[this],h⟩
theorem Rd.push{H:Heap}{b:Nat}{L:List Int}{k:Nat}(r:Rd H b L k)(x:Heap):Rd (H++x) b L k:=⟨by rw[al r.lt];exact r.blk,r.le⟩
abbrev hk(h:Heap)(b:Nat)(L:List Int)(k:Nat):Heap:=h.set b (some [il L,.int .i64 k])
theorem Rd.nx(hp:∀ f,Np5 f→prim f=none){h:Heap}{b:Nat}{L:List Int}{k0:Nat}(r:Rd h b L k0)(hL:L.length≤4000){k:Nat}(hk1:k≤L.length)(n:Int)(h1:1≤n)(h2:n≤4000000000):
  ∃ v k':Nat,(v:Int)<n∧k'≤L.length∧∀ (cfg:Cfg) (x:Heap),cfg.wr b=true→af md (K prim (d+1)) cfg 23 [.ptr b 0,.int .i64 n] (hk h b L k++x)=some (.int .i64 v,hk h b L k'++x):=by
 obtain⟨v,k',g1,g2,g3⟩:=A7 (prim:=prim) d hp L k hL hk1 n h1 h2
 refine⟨v,k',g1,g2,fun cfg x hw=>?_⟩
 rw[g3 cfg _ b ((r.set hk1).push x).blk hw,List.set_append_left _ _ (by simpa using r.lt),List.set_set]
theorem Rd.same{h:Heap}{b:Nat}{L:List Int}{k:Nat}(r:Rd h b L k):h=hk h b L k:=(fk r.blk).symm
theorem wR{h:Heap}{b:Nat}{L:List Int}{k:Nat}:(hk h b L k).length=h.length:=by simp
structure Gn(h:Heap)(b:Nat)(L:List Int)(k:Nat)(X H:Heap)(os:List Own):Prop where
 le:k≤L.length
 hp:Hp H (hk h b L k++X) os
theorem Gn.start{h:Heap}{b:Nat}{L:List Int}{k:Nat}(hk1:k≤L.length)(X:Heap):Gn h b L k X (hk h b L k++X) []:=⟨hk1,Hp.start⟩
theorem Gn.at{h:Heap}{b:Nat}{L:List Int}{k:Nat}{X H:Heap}{os:List Own}(g:Gn h b L k X H os)(i:Nat){Y:List V}(hX:X[i]?=some (some Y))(hm:isMap Y=false):ab H (h.length+i)=some Y:=by
 have hl:=(List.getElem?_eq_some_iff.1 hX).1
 rw[g.hp.block (by simp;omega),ab,List.getElem?_append_right (by simp),wR,Nat.add_sub_cancel_left,hX]
 simp[hm]
theorem Gn.put{h:Heap}{b:Nat}{L:List Int}{k:Nat}{X H:Heap}{os:List Own}(g:Gn h b L k X H os)(i:Nat)(hi:i<X.length)(Y:Option (List V)):Gn h b L k (X.set i Y) (H.set (h.length+i) Y) os:=by
 refine⟨g.le,?_⟩
 have:=g.hp.set (b:=h.length+i) (by simp;omega) Y
 rwa [List.set_append_right _ _ (by simp),wR,Nat.add_sub_cancel_left]at this
theorem Gn.len{h:Heap}{b:Nat}{L:List Int}{k:Nat}{X H:Heap}{os:List Own}(g:Gn h b L k X H os):h.length+X.length≤H.length:=by
 have:=g.hp.le
 simpa using this
theorem Gn.take{h:Heap}{b:Nat}{L:List Int}{k:Nat}{X H:Heap}{os:List Own}(g:Gn h b L k X H os):H.take h.length=hk h b L k:=by
 have h1:=congrArg (List.take h.length) g.hp.take
 rw[List.take_take,Nat.min_eq_left (by simp),List.take_append_of_le_length (by simp)]at h1
 rw[h1,← wR (h:=h) (b:=b) (L:=L) (k:=k),List.take_length]
theorem Gn.rd{h:Heap}{b:Nat}{L:List Int}{k k0:Nat}{X H:Heap}{os:List Own}(g:Gn h b L k X H os)(r:Rd h b L k0):Rd H b L k:=by
 refine⟨?_,g.le⟩
 have hl:=r.lt
 rw[g.hp.block (by simp;omega),al (by simpa using hl)]
 simp[hl]
theorem Gn.step{h:Heap}{b:Nat}{L:List Int}{k k0 k':Nat}{X H:Heap}{os:List Own}(g:Gn h b L k X H os)(r:Rd h b L k0)(hk1:k'≤L.length):Gn h b L k' X (H.set b (some [il L,.int .i64 k'])) os:=by
 have hl:=r.lt
 refine⟨hk1,?_⟩
 have:=g.hp.set (b:=b) (by simp;omega) (some [il L,.int .i64 k'])
 rwa [List.set_append_left _ _ (by simpa using hl),List.set_set]at this
theorem Gn.push{h:Heap}{b:Nat}{L:List Int}{k:Nat}{X H:Heap}{os:List Own}(g:Gn h b L k X H os)(Y:Heap):Gn h b L k X (H++Y) os:=⟨g.le,g.hp.push Y⟩
theorem Gn.n(hp:∀ f,Np5 f→prim f=none){h:Heap}{b:Nat}{L:List Int}{k k0:Nat}{X H:Heap}{os:List Own}(g:Gn h b L k X H os)(r:Rd h b L k0)(hL:L.length≤4000)(n:Int)(h1:1≤n)(h2:n≤4000000000):
  ∃ v k':Nat,(v:Int)<n∧Gn h b L k' X (H.set b (some [il L,.int .i64 k'])) os∧∀ cfg:Cfg,cfg.wr b=true→af md (K prim (d+1)) cfg 23 [.ptr b 0,.int .i64 n] H=some (.int .i64 v,H.set b (some [il L,.int .i64 k'])):=by
 obtain⟨v,k',g1,g2,g3⟩:=A7 (prim:=prim) d hp L k hL g.le n h1 h2
 exact⟨v,k',g1,g.step r g2,fun cfg hw=>g3 cfg H b (g.rd r).blk hw⟩
theorem Gn.r(hp:∀ f,Np5 f→prim f=none){h:Heap}{b:Nat}{L:List Int}{k k0:Nat}{X H:Heap}{os:List Own}(g:Gn h b L k X H os)(r:Rd h b L k0)(hL:L.length≤4000)(lo hi:Int)(h1:lo≤hi)(h2:-1000000≤lo)(h3:hi≤1000000):
  ∃ (v:Int) (k':Nat),lo≤v∧v≤hi∧Gn h b L k' X (H.set b (some [il L,.int .i64 k'])) os∧∀ cfg:Cfg,cfg.wr b=true→af md (K prim (d+2)) cfg 64 [.ptr b 0,.int .i64 lo,.int .i64 hi] H=some (.int .i64 v,H.set b (some [il L,.int .i64 k'])):=by
 obtain⟨v,k',g1,g2,g4,g3⟩:=R_all (prim:=prim) d hp L k hL g.le lo hi h1 h2 h3
 exact⟨v,k',g1,g2,g.step r g4,fun cfg hw=>g3 cfg H b (g.rd r).blk hw⟩
attribute [local congr] F1
end
end Bi
end Go.Ab
