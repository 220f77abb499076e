/- Several texts of this proof in one. -/
import Derived.Test.YtldfgkjmficliaaGreatPaLq
import Derived.Test.YtldfgkjmficliaaGreatPaRef2
import Derived.Test.YtldfgkjmficliaaGreatPiJ
import Derived.Test.YtldfgkjmficliaaGreatPaCq
import Derived.Test.YtldfgkjmficliaaGreatPaCl
set_option linter.unusedSimpArgs false
set_option linter.unusedVariables false
set_option linter.unusedSectionVars false
namespace Go.Ab
open Go.Proofs
namespace Bi
attribute [local congr] az
namespace Txt
variable (X:Txt)
end Txt
section
variable {prim:FuncId→Option Prim}
end
end Bi
end Go.Ab
namespace Go.Ab
open Go.Proofs
namespace Bi
end Bi
end Go.Ab
namespace Go.Ab
open Go.Proofs
namespace Bi
end Bi
end Go.Ab
namespace Go.Ab
open Go.Proofs
namespace Bi
theorem Bu{raw:List Int}{i:Nat}(h:clG raw i=1∨clG raw i=2∨clG raw i=3):lgI raw i=clG raw i:=by
 rcases i with _|i
 ·rw[clG]at h ⊢
  split
  ·rename_i hc
   rw[if_pos hc]at h
   omega
  ·rfl
 ·rw[clG]at h ⊢
  split
  ·rename_i hc
   rw[if_pos hc]at h
   split
   ·rename_i hd
    rw[if_pos hd]at h
    omega
   ·rename_i hd
    rw[if_neg hd]at h
    exfalso
    apply hd
    unfold hrS
    rcases h with h|h|h<;>simp[h]
  ·rfl
theorem yI{t:List Int}{i:Nat}(h:i<t.length):lgI (cy t) i=cLn (lgI t i):=by
 have:=sZ h
 rw[lgI,List.getD_eq_getElem?_getD,this];rfl
theorem yG{raw:List Int}{i:Nat}(h:i<raw.length):lgI (clS raw) i=clG raw i:=by
 have:=wu h
 rw[lgI,List.getD_eq_getElem?_getD,this];rfl
end Bi
end Go.Ab
namespace Go.Ab
open Go.Proofs
namespace Bi
attribute [local congr] az
def mndB(a b:Int):Bool:=decide (a=1)||decide (a=3)||(decide (a=2)&&!decide (b=3))
section
variable {prim:FuncId→Option Prim}(d:Nat) (cfg:Cfg) (h:Heap)
end
end Bi
end Go.Ab
namespace Go.Ab
open Go.Proofs
namespace Bi
theorem ite2{c:Prop}[Decidable c]{x y:Int}(hx:x≠2)(hy:y≠2):(if c then x else y)≠2:=by split<;>assumption
theorem Bm{t C:List Int}{q:Nat}(hq:q<t.length):lgI (dI t C) q=2↔q+1=t.length∨mndB (cLn (lgI t q)) (cLn (lgI t (q+1)))=true:=by
 by_cases hl:q+1=t.length
 ·have:=@mc t C (by omega)
  rw[show t.length-1=q by omega]at this
  rw[lgI,List.getD_eq_getElem?_getD,this]
  exact⟨fun _=>.inl hl,fun _=>rfl⟩
 ·have hi:q+1<t.length:=by omega
  have hb:=nL (cl:=C) hi
  rw[lgI,List.getD_eq_getElem?_getD,hb]
  simp only[Option.getD_some]
  have hc1:∀ {i:Nat},i<t.length→∀ c:Int,c=1∨c=2∨c=3→(lgI (clS (cy t)) i=c↔cLn (lgI t i)=c):=fun {i} hq c hc=>by
   rw[yG (by rw[dC];exact hq),← yI hq]
   constructor
   ·intro e
    have:=Bu (raw:=cy t) (i:=i) (by omega)
    omega
   ·intro e
    rcases i with _|i<;>(rw[clG,if_neg (by rw[e];rcases hc with rfl|rfl|rfl<;>decide)];exact e)
  have a1:=hc1 hq 1 (by omega)
  have a2:=hc1 hq 2 (by omega)
  have a3:=hc1 hq 3 (by omega)
  have b3:=hc1 hi 3 (by omega)
  have h4:bf4 (cy t) (clS (cy t)) (mkS (t.length+1) C) q≠2:=by
   unfold bf4 bf5 bf6 bf7 bf8 bf9 bfA bfB bfC bfD bfE bfF bfG bfH bfI bfJ bfK
   repeat' apply ite2
   all_goals decide
  rw[ez,bf3]
  generalize bf4 (cy t) (clS (cy t)) (mkS (t.length+1) C) q=z at *
  unfold mndB
  simp only[← a1,← a2,← a3,← b3]
  generalize lgI (clS (cy t)) q=a at *
  generalize lgI (clS (cy t)) (q+1)=b at *
  by_cases g1:a=2∧b=3
  ·rw[if_pos g1]
   obtain⟨rfl,rfl⟩:=g1
   simp
   omega
  ·rw[if_neg g1]
   by_cases g2:a∈[1,3,2]
   ·rw[if_pos g2]
    simp at g2
    simp
    omega
   ·rw[if_neg g2]
    simp at g2
    simp[g2,h4]
    omega
end Bi
end Go.Ab
namespace Go.Ab
open Go.Proofs
namespace Bi
def trG(g:Gly):Int×Int:=(g.f,g.a)
def shP(m:Nat)(p:Int×Int):Int×Int:=(p.1+m,p.2)
def shK(m:Nat)(k:Nat×Nat):Nat×Nat:=(m+k.1,m+k.2)
def Bare(f:Fnt):Prop:=f.ker=[]∧f.lig=[]
section
variable {f:Fnt}{z:Int}{t fo:List Int}{B:List Bool}
theorem rB(h:Bare f):∀ l,ligL [f] f 0 z t B l=l
 | []=>rfl
 | [_]=>rfl
 | g::g2::r=>by
  have h1:qH [f] 0 t B g=false:=by simp[qH,unS,jQ,h.2]
  rw[ligL,if_neg (by rw[h1];simp),rB h (g2::r)]
theorem pE(h:Bare f):∀ l,(∀ g∈l,0≤g.a)→cL [f] 0 z t B l=l
 | [],_=>rfl
 | [_],_=>rfl
 | g::g2::r,hl=>by
  have h1:kn1 [f] 0 z t B g g2=g:=by
   have h0:=hl g (by simp)
   unfold kn1
   split
   ·have hw:wdS [f] ⟨0,z,rnA t (g2.f-1),rnA t g2.f,false⟩=0:=by simp[wdS,ja,h.1]
    rw[hw,Int.add_zero,show max 0 g.a=g.a by omega]
   ·rfl
  rw[cL,h1,pE h (g2::r) fun x hx=>hl x (by simp only[List.mem_cons]at hx ⊢;exact .inr hx)]
theorem vm:∀ (l:List Gly) (ps:List (List Gly)),(∀ g∈l,bdA B g.f=true)→l.foldl (lM B) ps=ps++l.map fun g=>[g]
 | [],ps,_=>by simp
 | g::l,ps,h=>by
  have h1:lM B ps g=ps++[[g]]:=by unfold lM;rw[if_pos (.inr (h g (by simp)))]
  rw[List.foldl_cons,h1,vm l _ fun x hx=>h x (by simp[hx])]
  simp
theorem mY{α:Type}:∀ l:List α,(l.map fun g=>[g]).flatten=l
 | []=>rfl
 | a::l=>by rw[List.map_cons,List.flatten_cons,mY l];rfl
theorem C9{l:List Gly}(h:∀ g∈l,bdA B g.f=true):jl B l=l.reverse:=by
 unfold jl gU
 rw[vm l [] h,List.nil_append,← List.map_reverse,mY]
theorem yY:∀ (l:List Gly) (x:Int),(dU x l).map trG=l.map trG
 | [],_=>rfl
 | g::l,x=>by
  rw[dU,List.map_cons,List.map_cons,yY l]
  rfl
theorem Dh(h:Bare f)(hv:bJ f=0)(hz:1≤z∧z≤1000){a n:Nat}{right:Bool}(hB:∀ i,a≤i→i<a+n→lgB B i=true):
  (mM [f] f 0 z t fo B a n right).map trG=if right=true then ((List.range n).map fun k=>(((a+k:Nat):Int),ki f z (lgI t (a+k)))).reverse else (List.range n).map fun k=>(((a+k:Nat):Int),ki f z (lgI t (a+k))):=by
 have hg:∀ g∈fp f 0 z t fo right a n,0≤g.a∧bdA B g.f=true:=fun g hg=>by
  unfold fp at hg
  obtain⟨k,hk,rfl⟩:=List.mem_map.1 hg
  have hk:=List.mem_range.1 hk
  refine⟨(sg hv hz.1 hz.2 _).1,?_⟩
  have:=hB (a+k) (by omega) (by omega)
  unfold lgB at this
  show B.getD (((a+k:Nat):Int)).toNat false=true
  rw[Int.toNat_natCast]
  exact this
 have ht:(fp f 0 z t fo right a n).map trG=(List.range n).map fun k=>(((a+k:Nat):Int),ki f z (lgI t (a+k))):=by
  unfold fp
  rw[List.map_map]
  rfl
 unfold mM
 rw[yY,rB h,pE h _ fun g hx=>(hg g hx).1]
 split
 ·rw[C9 fun g hx=>(hg g hx).2,List.map_reverse,ht]
 ·exact ht
end
theorem uj{bd:List Bool}:∀ (l:List Int) (k:Nat) (p:Int),(∀ i,i<l.length→lgB bd (k+i)=true)→qF bd k p l=l
 | [],_,_,_=>rfl
 | x::r,k,p,h=>by
  have h0:=h 0 (by simp)
  rw[Nat.add_zero]at h0
  have hx:(if lgB bd k=false then p else x)=x:=by rw[h0];simp
  rw[qF,hx,uj r (k+1) x fun i hi=>by have:=h (i+1) (by simpa using hi);rw[show k+1+i=k+(i+1) by omega];exact this]
theorem uh{bd:List Bool}{a:Nat}{l:List Int}(h:∀ i,i<l.length→lgB bd (a+i)=true):qE bd a l=l:=by
 cases l with
 | nil=>rfl
 | cons x r=>rw[qE,uj r (a+1) x fun i hi=>by have:=h (i+1) (by simpa using hi);rw[show a+1+i=a+(i+1) by omega];exact this]
theorem xW{m:Nat}{l:List (Nat×Nat)}:bmp (l.map (shK m))=(bmp l).map (shK m):=by
 by_cases h:l=[]
 ·subst h;rfl
 ·obtain⟨q,x,rfl⟩:∃ q x,l=q++[x]:=⟨l.dropLast,l.getLast h,(List.dropLast_concat_getLast h).symm⟩
  rw[List.map_append,List.map_singleton,oJ,oJ,List.map_append,List.map_singleton]
  rfl
theorem te{lv spX spY:List Int}(hx:∀ i,lgI spX i=0)(hy:∀ i,lgI spY i=0)(a m:Nat):∀ i,rnF lv spX (m+a) i=(rnF lv spY a i).map (shK m)
 | 0=>rfl
 | i+1=>by
  have hs:gY lv spX (m+a) i=gY lv spY a i:=by simp[gY,hx,hy]
  rw[rnF,rnF,hs,te hx hy a m i]
  split
  ·rw[show m+a+i=m+(a+i) by omega,← xW,List.map_append]
   rfl
  ·rw[xW]
structure SubT(X Y:Txt)(m:Nat)(f:Fnt)(z:Int):Prop where
 hf:Bare f
 fv:bJ f=0
 hz:1≤z∧z≤1000
 xf:X.fs=[f]
 yf:Y.fs=[f]
 xs:∃ N:Int,X.p.s=[⟨0,N,0,z⟩]
 ys:∃ N:Int,Y.p.s=[⟨0,N,0,z⟩]
 n:m+Y.p.t.length≤X.p.t.length
 part:∀ a b,a≤b→b≤Y.p.t.length→(X.p.t.take (m+b)).drop (m+a)=(Y.p.t.take b).drop a
 t:∀ i,i<Y.p.t.length→lgI X.p.t (m+i)=lgI Y.p.t i
 xsp:X.sp=List.replicate X.p.t.length 0
 ysp:Y.sp=List.replicate Y.p.t.length 0
 xb:∀ i,i<X.p.t.length→lgB X.bd i=true
 yb:∀ i,i<Y.p.t.length→lgB Y.bd i=true
 B:∀ i,i<Y.p.t.length→lgI X.B (m+i)=lgI Y.B i
 C:∃ l1 l3,X.C=l1++(Y.C.map (·+(m:Int))++l3)∧(∀ c∈l1,c≤(m:Int))∧∀ c∈l3,((m+Y.p.t.length:Nat):Int)≤c
 yc:∀ c∈Y.C,0≤c
 w:X.p.w=Y.p.w
 a:X.p.a=Y.p.a
 b:X.p.b=Y.p.b
 lv:X.lv=Y.lv
 rs:X.rs=Y.rs
 vy:TxV Y
theorem yJ(n i:Nat):lgI (List.replicate n 0) i=0:=by
 unfold lgI
 rw[List.getD_eq_getElem?_getD,List.getElem?_replicate]
 split<;>rfl
section
variable {X Y:Txt}{m:Nat}{f:Fnt}{z:Int}(h:SubT X Y m f z)
include h
theorem SubT.base{k:Nat×Nat}(h1:k.1≤k.2)(h4:k.2≤Y.p.t.length):X.part (shK m k)=Y.part k∧X.base (shK m k)=Y.base k∧X.levs (shK m k)=Y.levs k:=by
 have hp:X.part (shK m k)=Y.part k:=h.part _ _ h1 h4
 refine⟨hp,?_,?_⟩
 ·unfold Txt.base
  rw[hp,h.b]
 ·unfold Txt.levs
  rw[hp,h.lv,h.b]
theorem SubT.lvls{k:Nat×Nat}{a b:Nat}(h1:k.1≤a)(h2:a≤b)(h3:b≤k.2)(h4:k.2≤Y.p.t.length):X.lvls (shK m k) (m+a) (m+b)=Y.lvls k a b:=by
 obtain⟨g1,g2,g3⟩:=h.base (k:=k) (by omega) h4
 have hl:=h.vy.lvls h1 h2 h3 h4
 unfold Txt.lvls at hl ⊢
 rw[po]at hl
 rw[g1,g2,g3,h.rs,show ((m+a:Nat):Int)-((shK m k).1:Nat)=(a:Int)-k.1 by simp only[shK];omega,show ((m+b:Nat):Int)-((shK m k).1:Nat)=(b:Int)-k.1 by simp only[shK];omega]
 have hn:=h.n
 rw[uh fun i hi=>h.xb _ (by omega),uh fun i hi=>h.yb _ (by omega)]
theorem SubT.xsp0(i:Nat):lgI X.sp i=0:=by rw[h.xsp];exact yJ _ _
theorem SubT.ysp0(i:Nat):lgI Y.sp i=0:=by rw[h.ysp];exact yJ _ _
theorem SubT.xspn(i:Nat):(X.spn i).n=0∧(X.spn i).z=z∧X.fnt i=f:=by
 obtain⟨N,hN⟩:=h.xs
 have e:X.spn i=⟨0,N,0,z⟩:=by unfold Txt.spn;rw[h.xsp0,hN];rfl
 refine⟨by rw[e],by rw[e],?_⟩
 unfold Txt.fnt
 rw[e,h.xf]
 rfl
theorem SubT.yspn(i:Nat):(Y.spn i).n=0∧(Y.spn i).z=z∧Y.fnt i=f:=by
 obtain⟨N,hN⟩:=h.ys
 have e:Y.spn i=⟨0,N,0,z⟩:=by unfold Txt.spn;rw[h.ysp0,hN];rfl
 refine⟨by rw[e],by rw[e],?_⟩
 unfold Txt.fnt
 rw[e,h.yf]
 rfl
theorem SubT.rnI{lv:List Int}{a i:Nat}:rnI lv X.sp (m+a) i=rnI lv Y.sp a i:=by
 unfold Bi.rnI
 rw[te h.xsp0 h.ysp0,List.length_map]
theorem SubT.gl1{lv:List Int}{a i:Nat}(hi:i<lv.length)(ha:a+lv.length≤Y.p.t.length):(X.gl1 lv (m+a) i).map trG=((Y.gl1 lv a i).map trG).map (shP m):=by
 have hn:=h.n
 have hlt:=xC (lv:=lv) (sp:=Y.sp) (a:=a) hi
 have hr:(rnF lv X.sp (m+a) lv.length).getD (Bi.rnI lv X.sp (m+a) i) (0,0)=shK m ((rnF lv Y.sp a lv.length).getD (Bi.rnI lv Y.sp a i) (0,0)):=by
  rw[h.rnI,te h.xsp0 h.ysp0,List.getD_eq_getElem?_getD,List.getD_eq_getElem?_getD,List.getElem?_map,List.getElem?_eq_getElem hlt]
  rfl
 have hm:=iG (lv:=lv) (sp:=Y.sp) (a:=a) lv.length ((rnF lv Y.sp a lv.length).getD (Bi.rnI lv Y.sp a i) (0,0)) (by rw[List.getD_eq_getElem?_getD,List.getElem?_eq_getElem hlt];exact List.getElem_mem _)
 unfold Txt.gl1
 simp only[hr]
 generalize (rnF lv Y.sp a lv.length).getD (Bi.rnI lv Y.sp a i) (0,0)=r at hm
 obtain⟨r1,r2⟩:=r
 simp only at hm
 obtain⟨x1,x2,x3⟩:=h.xspn (m+a+i)
 obtain⟨y1,y2,y3⟩:=h.yspn (a+i)
 rw[x1,x2,x3,y1,y2,y3,h.xf,h.yf]
 have e:(shK m (r1,r2)).2-(shK m (r1,r2)).1=r2-r1:=by simp only[shK];omega
 rw[e,Dh h.hf h.fv h.hz fun j g1 g2=>h.xb _ (by simp only[shK]at g2;omega),Dh h.hf h.fv h.hz fun j g1 g2=>h.yb _ (by omega)]
 have hl:((List.range (r2-r1)).map fun k=>((((shK m (r1,r2)).1+k:Nat):Int),ki f z (lgI X.p.t ((shK m (r1,r2)).1+k))))=((List.range (r2-r1)).map fun k=>(((r1+k:Nat):Int),ki f z (lgI Y.p.t (r1+k)))).map (shP m):=by
  rw[List.map_map]
  refine List.map_congr_left fun k hk=>?_
  have hk:=List.mem_range.1 hk
  have ht:=h.t (r1+k) (by omega)
  simp only[shK,shP,Function.comp]
  rw[show m+r1+k=m+(r1+k) by omega,ht]
  refine Prod.ext ?_ rfl
  show ((m+(r1+k):Nat):Int)=((r1+k:Nat):Int)+m
  omega
 rw[hl]
 split
 ·rw[List.map_reverse]
 ·rfl
theorem SubT.glO{lv:List Int}{a:Nat}(ha:a+lv.length≤Y.p.t.length):∀ (l:List Int) (dn:List Bool),(∀ i∈l,0≤i∧i<lv.length)→(X.glO lv (m+a) dn l).map trG=((Y.glO lv a dn l).map trG).map (shP m)
 | [],_,_=>rfl
 | i::l,dn,hl=>by
  have hi:=hl i (by simp)
  rw[Txt.glO,Txt.glO,h.rnI]
  split
  ·exact SubT.glO ha l dn fun x hx=>hl x (by simp[hx])
  ·rw[List.map_append,List.map_append,List.map_append,h.gl1 (by omega) ha,SubT.glO ha l _ fun x hx=>hl x (by simp[hx])]
theorem SubT.gls{k:Nat×Nat}{a b:Nat}(h1:k.1≤a)(h2:a≤b)(h3:b≤k.2)(h4:k.2≤Y.p.t.length):(X.gls (shK m k) (m+a) (m+b)).map trG=((Y.gls k a b).map trG).map (shP m):=by
 have hl:=h.vy.lvls h1 h2 h3 h4
 unfold Txt.gls
 rw[h.lvls h1 h2 h3 h4,te h.xsp0 h.ysp0,List.length_map]
 exact h.glO (by omega) _ _ fun i hi=>(mE (lv:=Y.lvls k a b)).2 i hi
theorem SubT.wht{s:Nat}:∀ e,e≤Y.p.t.length→X.wht (m+s) (m+e)=m+Y.wht s e
 | 0,_=>by
  rw[Txt.wht,Nat.add_zero]
  cases m with
  | zero=>rfl
  | succ m'=>rw[Txt.wht,if_pos (by omega)]
 | e+1,he=>by
  have ih:=SubT.wht (s:=s) e (by omega)
  have ht:=h.t e (by omega)
  rw[show m+(e+1)=m+e+1 by omega,Txt.wht,Txt.wht,ht]
  by_cases hs:e+1≤s
  ·rw[if_pos (by omega),if_pos hs]
   omega
  ·rw[if_neg (by omega),if_neg hs]
   split
   ·exact ih
   ·omega
end
def BK(w:Int)(l:List (Int×Int)):Int:=((l.filter fun p=>decide (p.1<w)).map (·.2)).sum
theorem BL{l:List Gly}{w:Int}:((l.filter fun g=>decide (g.f<w)).map (·.a)).sum=BK w (l.map trG):=by
 unfold BK
 rw[List.filter_map,List.map_map]
 rfl
theorem Et{m:Nat}{w:Int}{l:List (Int×Int)}:BK (w+m) (l.map (shP m))=BK w l:=by
 unfold BK
 rw[List.filter_map,List.map_map]
 have e:((fun p:Int×Int=>decide (p.1<w+m)) ∘ shP m)=fun p=>decide (p.1<w):=by
  funext p
  simp only[Function.comp,shP]
  by_cases hp:p.1<w
  ·simp[hp]
  ·simp[hp]
 rw[e]
 rfl
def zrP(w:Int)(p:Int×Int):Int×Int:=if w≤p.1 then (p.1,0) else p
theorem zr_sh{m:Nat}{w:Int}{l:List (Int×Int)}:(l.map (shP m)).map (zrP (w+m))=(l.map (zrP w)).map (shP m):=by
 rw[List.map_map,List.map_map]
 refine List.map_congr_left fun p _=>?_
 simp only[Function.comp,zrP,shP]
 by_cases hp:w≤p.1
 ·simp[hp]
 ·simp[hp]
section
variable {X Y:Txt}{m:Nat}{f:Fnt}{z:Int}(h:SubT X Y m f z)
include h
theorem SubT.fit{k:Nat×Nat}{a b:Nat}(h1:k.1≤a)(h2:a≤b)(h3:b≤k.2)(h4:k.2≤Y.p.t.length):X.fit (shK m k) (m+a) (m+b)=Y.fit k a b:=by
 unfold Txt.fit
 rw[BL,BL,h.gls h1 h2 h3 h4,h.wht b (by omega),show ((m+Y.wht a b:Nat):Int)=(Y.wht a b:Int)+m by omega,Et]
theorem SubT.lgl{k:Nat×Nat}{a b:Nat}(h1:k.1≤a)(h2:a≤b)(h3:b≤k.2)(h4:k.2≤Y.p.t.length):(X.lgl (shK m k) (m+a) (m+b)).map trG=((Y.lgl k a b).map trG).map (shP m):=by
 have hg:=h.gls h1 h2 h3 h4
 have hw:=h.wht (s:=a) b (by omega)
 have hz:∀ (l:List Gly) (w:Int),(l.map fun g=>if w≤g.f then { g with a:=0 } else g).map trG=(l.map trG).map (zrP w):=fun l w=>by
  rw[List.map_map,List.map_map]
  refine List.map_congr_left fun g _=>?_
  simp only[Function.comp,zrP,trG]
  by_cases hw:w≤g.f
  ·simp[hw]
  ·simp[hw]
 unfold Txt.lgl
 by_cases hb:b<k.2
 ·rw[if_pos (show m+b<(shK m k).2 by simp only[shK];omega),if_pos hb,hz,hz,hg,hw,show ((m+Y.wht a b:Nat):Int)=(Y.wht a b:Int)+m by omega,zr_sh]
 ·rw[if_neg (show ¬ m+b<(shK m k).2 by simp only[shK];omega),if_neg hb]
  exact hg
theorem zu{l:List Gly}:cw l=((l.map trG).map (·.2)).sum:=by
 unfold cw
 rw[List.map_map]
 rfl
theorem SubT.lwd{k:Nat×Nat}{a b:Nat}(h1:k.1≤a)(h2:a≤b)(h3:b≤k.2)(h4:k.2≤Y.p.t.length):X.lwd (shK m k) (m+a) (m+b)=Y.lwd k a b∧(X.lgl (shK m k) (m+a) (m+b)).length=(Y.lgl k a b).length:=by
 have hg:=h.lgl h1 h2 h3 h4
 constructor
 ·unfold Txt.lwd
  rw[zu h,zu h,hg,List.map_map]
  rfl
 ·have:=congrArg List.length hg
  simpa using this
theorem SubT.skip{k:Nat×Nat}{s t:Nat}:∀ (l1 l:List Int) (b:Int),(∀ c∈l1,c≤(s:Int)∨(t:Int)≤c)→X.frc k s t b (l1++l)=X.frc k s t b l
 | [],_,_,_=>rfl
 | c::l1,l,b,hl=>by
  rw[List.cons_append,Txt.frc,if_pos (hl c (by simp)),SubT.skip l1 l b fun x hx=>hl x (by simp[hx])]
theorem SubT.skipR{k:Nat×Nat}{s t:Nat}:∀ (l l3:List Int) (b:Int),(∀ c∈l3,c≤(s:Int)∨(t:Int)≤c)→X.frc k s t b (l++l3)=X.frc k s t b l
 | [],l3,b,hl=>by
  have:=SubT.skip (k:=k) (s:=s) (t:=t) h l3 [] b hl
  simpa using this
 | c::l,l3,b,hl=>by
  rw[List.cons_append,Txt.frc,Txt.frc,SubT.skipR l l3 b hl,SubT.skipR l l3 c hl]
theorem SubT.frcM{k:Nat×Nat}{s t:Nat}(h1:k.1≤s)(h3:t≤k.2)(h4:k.2≤Y.p.t.length):∀ (l:List Int) (b:Int),(∀ c∈l,0≤c)→X.frc (shK m k) (m+s) (m+t) (b+m) (l.map (·+(m:Int)))=Y.frc k s t b l+m
 | [],_,_=>rfl
 | c::l,b,hl=>by
  have hc:=hl c (by simp)
  have ih:=fun b=>SubT.frcM h1 h3 h4 l b fun x hx=>hl x (by simp[hx])
  rw[List.map_cons,Txt.frc,Txt.frc,ih,ih,h.w]
  by_cases hsk:c≤(s:Int)∨(t:Int)≤c
  ·rw[if_pos hsk,if_pos (by omega)]
  ·rw[if_neg hsk,if_neg (by omega),show (c+(m:Int)).toNat=m+c.toNat by omega,h.fit h1 (by omega) (by omega) h4]
   split
   ·omega
   ·rfl
theorem SubT.frc{k:Nat×Nat}{s t:Nat}(h1:k.1≤s)(h3:t≤k.2)(h4:k.2≤Y.p.t.length)(b:Int):X.frc (shK m k) (m+s) (m+t) (b+m) X.C=Y.frc k s t b Y.C+m:=by
 obtain⟨l1,l3,hC,g1,g3⟩:=h.C
 rw[hC,SubT.skip h l1 _ _ fun c hc=>.inl (by have:=g1 c hc;omega),SubT.skipR h _ l3 _ fun c hc=>.inr (by have:=g3 c hc;omega)]
 exact h.frcM h1 h3 h4 _ _ h.yc
theorem SubT.endL{k:Nat×Nat}{s:Nat}(h1:k.1≤s)(h4:k.2≤Y.p.t.length):∀ (l:List Nat) (b:Nat),(∀ t∈l,s<t∧t≤k.2)→X.endL (shK m k) (m+s) (m+b) (l.map (m+·))=m+Y.endL k s b l
 | [],_,_=>rfl
 | t::l,b,hl=>by
  have ht:=hl t (by simp)
  have ih:=fun b=>SubT.endL h1 h4 l b fun x hx=>hl x (by simp[hx])
  have hB:=h.B (t-1) (by omega)
  rw[List.map_cons,Txt.endL,Txt.endL,ih,ih,h.w,h.fit h1 (by omega) ht.2 h4,show m+t-1=m+(t-1) by omega,hB]
  split
  ·rfl
  ·split
   ·rfl
   ·by_cases hb:s<b
    ·rw[if_pos (by omega),if_pos hb]
    ·rw[if_neg (by omega),if_neg hb]
     have hf:=h.frc h1 ht.2 h4 (t:Int)
     have hr:=lh (X:=Y) (k:=k) (s:=s) (t:=t) Y.C t (by omega) (Int.le_refl _)
     rw[show ((t:Int)+(m:Int))=((m+t:Nat):Int) by omega]at hf
     rw[hf]
     omega
theorem SubT.fin{k:Nat×Nat}{s:Nat}(h1:k.1≤s)(h4:k.2≤Y.p.t.length):X.fin (shK m k) (m+s)=m+Y.fin k s:=by
 unfold Txt.fin
 rw[← h.endL h1 h4 _ _ fun t ht=>by
  obtain⟨i,hi,rfl⟩:=List.mem_map.1 ht
  have:=List.mem_range.1 hi
  omega]
 rw[List.map_map]
 congr 1
 rw[show (shK m k).2-(m+s)=k.2-s by simp only[shK];omega]
 refine List.map_congr_left fun i _=>?_
 simp only[Function.comp]
 omega
end
theorem jA{g:Int→Int}{l:List Int}(hn:l≠[])(hl:∀ x∈l,x=0):mx g l=max 0 (g 0):=by
 obtain⟨x,l',rfl⟩:∃ x l',l=x::l':=by
  cases l with
  | nil=>exact absurd rfl hn
  | cons x l'=>exact⟨x,l',rfl⟩
 have hx:=hl x (by simp)
 subst hx
 refine Int.le_antisymm (mx_le (by omega) fun y hy=>by rw[hl y hy];omega) ?_
 have h0:=yO (f:=g) (l:=0::l')
 have h1:=h0.2 0 (by simp)
 have h2:=h0.1
 omega
theorem rU{X:Txt}{N z:Int}(hs:X.p.s=[⟨0,N,0,z⟩])(hsp:X.sp=List.replicate X.p.t.length 0){s t:Nat}(ht:t≤X.p.t.length):X.spans s t≠[]∧∀ x∈X.spans s t,x=0:=by
 unfold Txt.spans
 split
 ·rw[hsp,List.take_replicate,List.drop_replicate]
  refine⟨fun h=>?_,fun x hx=>List.eq_of_mem_replicate hx⟩
  have:=congrArg List.length h
  simp at this
  omega
 ·rw[hs]
  simp
def kK(m:Nat)(dy:Int)(x:cQ):Int×Int×Int×Int×Int×Int×Nat:=(x.l.f+m,x.l.t+m,x.l.x,x.l.y+dy,x.l.w,x.l.h,x.gs.length)
section
variable {X Y:Txt}{m:Nat}{f:Fnt}{z:Int}(h:SubT X Y m f z)
include h
theorem SubT.lin{k:Nat×Nat}{s t:Nat}{y dy:Int}(h1:k.1≤s)(h2:s≤t)(h3:t≤k.2)(h4:k.2≤Y.p.t.length):kK 0 0 (X.lin (shK m k) (m+s) (m+t) (y+dy))=kK m dy (Y.lin k s t y):=by
 have hw:=h.lwd h1 h2 h3 h4
 have hb:=(h.base (k:=k) (by omega) h4).2.1
 have hn:=h.n
 obtain⟨N,hN⟩:=h.xs
 obtain⟨M,hM⟩:=h.ys
 obtain⟨g1,g2⟩:=rU hN h.xsp (s:=m+s) (t:=m+t) (by omega)
 obtain⟨g3,g4⟩:=rU hM h.ysp (s:=s) (t:=t) (by omega)
 have e1:X.asc 0=Y.asc 0:=by unfold Txt.asc;rw[hN,hM,h.xf,h.yf];rfl
 have e2:X.des 0=Y.des 0:=by unfold Txt.des;rw[hN,hM,h.xf,h.yf];rfl
 have e3:X.hei 0=Y.hei 0:=by unfold Txt.hei;rw[hN,hM,h.xf,h.yf];rfl
 have hx:X.lx (shK m k) (m+s) (m+t)=Y.lx k s t:=by
  unfold Txt.lx
  rw[hw.1,hb,h.a,h.w]
 simp only[kK,Txt.lin,Prod.mk.injEq,gT]
 refine⟨by omega,by omega,hx,by omega,hw.1,?_,hw.2⟩
 rw[jA g1 g2,jA g1 g2,jA g1 g2,jA g3 g4,jA g3 g4,jA g3 g4,e1,e2,e3]
theorem SubT.linK{k:Nat×Nat}(hk:qz Y k):∀ (j s:Nat) (y dy:Int),k.1≤s→s≤k.2→(X.linK (shK m k) j (m+s) (y+dy)).map (kK 0 0)=(Y.linK k j s y).map (kK m dy)
 | 0,s,y,dy,h1,h2=>by
  have hf:=fy (X:=Y) hk h2
  rw[Txt.linK,Txt.linK,h.fin h1 hk.2.1]
  simp only[List.map_cons,List.map_nil]
  rw[h.lin h1 hf.1 hf.2.1 hk.2.1]
 | j+1,s,y,dy,h1,h2=>by
  have hf:=fy (X:=Y) hk h2
  have hl:=h.lin (y:=y) (dy:=dy) h1 hf.1 hf.2.1 hk.2.1
  have hh:(X.lin (shK m k) (m+s) (m+Y.fin k s) (y+dy)).l.h=(Y.lin k s (Y.fin k s) y).l.h:=congrArg (fun q=>q.2.2.2.2.2.1) hl
  rw[Txt.linK,Txt.linK,h.fin h1 hk.2.1]
  by_cases hlt:Y.fin k s<k.2
  ·rw[if_pos (show m+Y.fin k s<(shK m k).2 by simp only[shK];omega),if_pos hlt,List.map_cons,List.map_cons,hl,hh,show y+dy+(Y.lin k s (Y.fin k s) y).l.h=y+(Y.lin k s (Y.fin k s) y).l.h+dy by omega,SubT.linK hk j _ _ _ (by omega) hf.2.1]
  ·rw[if_neg (show ¬ m+Y.fin k s<(shK m k).2 by simp only[shK];omega),if_neg hlt]
   simp only[List.map_cons,List.map_nil]
   rw[hl]
end
end Bi
end Go.Ab
namespace Go.Ab
open Go.Proofs
namespace Bi
abbrev alS:List Int:=[97,1488,32,49,40,19968]
theorem GW:(10::alS).all (fun r=>decide ((cBr r=0∨cBr r=2)∧cLn r≠1∧cLn r≠2∧cLn r≠6∧cLn r≠7∧cLn r≠19∧(cLn r=3↔r=10)))=true:=by kernel_rfl
theorem qU{r:Int}(h:r∈10::alS):(cBr r=0∨cBr r=2)∧cLn r≠1∧cLn r≠2∧cLn r≠6∧cLn r≠7∧cLn r≠19∧(cLn r=3↔r=10):=of_decide_eq_true (List.all_eq_true.1 GW r h)
theorem xS{r:Int}(h:r∈alS):r≠10:=by
 intro e
 subst e
 revert h
 decide
def Bb(n:Nat):List Int:=if n=0 then [] else (List.range (n+1)).map fun i:Nat=>(i:Int)
theorem tN{c:List Int}(h:∀ i,i<c.length→lgI c i=0∨lgI c i=2):∀ q,q<c.length→kx c q=(List.range (q+1)).map fun i:Nat=>(i:Int)
 | 0,_=>rfl
 | q+1,hq=>by
  have h1:=h q (by omega)
  have h2:=h (q+1) hq
  have hp:qO c (q+1)=true:=by
   unfold qO
   rw[Nat.add_sub_cancel]
   rcases h1 with h1|h1<;>rcases h2 with h2|h2<;>simp[h1,h2,ctS]
  rw[kx,if_pos hp,tN h q (by omega),List.range_succ (n:=q+1),List.map_append]
  rfl
theorem kX{t:List Int}(h:∀ r∈t,r∈10::alS):dp t=Bb t.length:=by
 unfold dp Bb
 by_cases h0:t=[]
 ·subst h0;rfl
 ·have hp:0<t.length:=List.length_pos_iff.2 h0
  rw[if_neg h0,if_neg (by omega),tN (fun i hi=>?_) _ (by simp;omega),show t.length-1+1=t.length by omega,List.range_succ,List.map_append]
  ·rfl
  ·rw[List.length_map]at hi
   have:=(qU (h _ (List.getElem_mem hi))).1
   unfold lgI
   rw[List.getD_eq_getElem?_getD,List.getElem?_map,List.getElem?_eq_getElem hi]
   exact this
theorem yN{n:Nat}:∀ (l:List Int) (B:List Bool) (i:Nat),i<B.length→(lgB B i=true∨(i:Int)∈l)→lgB (l.foldl (fun B p=>B.set p.toNat true) B) i=true
 | [],B,i,hi,h=>by
  rcases h with h|h
  ·exact h
  ·cases h
 | c::l,B,i,hi,h=>by
  rw[List.foldl_cons]
  refine yN (n:=n) l _ i (by simpa using hi) ?_
  by_cases hc:c.toNat=i
  ·subst hc
   left
   unfold lgB
   rw[List.getD_eq_getElem?_getD,List.getElem?_set_self hi]
   rfl
  ·rcases h with h|h
   ·left
    unfold lgB at h ⊢
    rw[List.getD_eq_getElem?_getD,List.getElem?_set_ne hc,← List.getD_eq_getElem?_getD]
    exact h
   ·rcases List.mem_cons.1 h with h|h
    ·exact absurd (by omega) hc
    ·exact .inr h
theorem si{t:List Int}(h:∀ r∈t,r∈10::alS){i:Nat}(hi:i<t.length):lgB (mkS (t.length+1) (dp t)) i=true:=by
 unfold mkS
 refine yN (n:=0) _ _ i (by simp;omega) (.inr ?_)
 rw[kX h]
 unfold Bb
 rw[if_neg (by omega)]
 exact List.mem_map.2 ⟨i,List.mem_range.2 (by omega),rfl⟩
theorem zA{raw c raw' c':List Int}{bd bd':List Bool}{q q':Nat}(h1:lgI c q=lgI c' q')(h2:lgI c (q+1)=lgI c' (q'+1))(h3:lgI raw q=lgI raw' q')(h4:lgI raw (q+1)=lgI raw' (q'+1))(h5:lgB bd (q+1)=lgB bd' (q'+1))
  (h6:∀ k,k=5∨k=12∨k=14→spS c k (q+1)=spS c' k (q'+1)) (h7:lgI raw' (q'+1)≠19):ez raw c bd q=ez raw' c' bd' q':=by
 have h8:bfK raw c bd q=1:=by unfold bfK;rw[if_neg (by rw[h4];exact fun h=>h7 h.1)]
 have h9:bfK raw' c' bd' q'=1:=by unfold bfK;rw[if_neg fun h=>h7 h.1]
 unfold ez bf3 bf4 bf5 bf6 bf7 bf8 bf9 bfA bfB bfC bfD bfE bfF bfG bfH bfI bfJ
 simp only[h1,h2,h3,h4,h5,h6 5 (by simp),h6 12 (by simp),h6 14 (by simp),h8,h9]
theorem nO{t:List Int}(h:∀ r∈t,r∈10::alS){i:Nat}(hi:i<t.length):lgI (clS (cy t)) i=cLn (lgI t i)∧lgI (cy t) i=cLn (lgI t i):=by
 have hm:lgI t i∈10::alS:=by
  have:=atI (l:=t) hi
  exact h _ (List.mem_of_getElem? this)
 have hc:=qU hm
 have hr:lgI (cy t) i=cLn (lgI t i):=yI hi
 refine⟨?_,hr⟩
 rw[yG (by rw[dC];exact hi)]
 have hcm:cmS (lgI (cy t) i)=false:=by rw[hr];unfold cmS;simp[hc]
 cases i with
 | zero=>rw[clG,hcm];simpa using hr
 | succ i=>rw[clG,hcm];simpa using hr
theorem Dr{c c':List Int}{m:Nat}{k:Int}(h0:spS c k m=false):∀ j,(∀ i,i<j→lgI c (m+i)=lgI c' i)→spS c k (m+j)=spS c' k j
 | 0,_=>by rw[Nat.add_zero,h0];rfl
 | j+1,h=>by
  have h1:=h j (by omega)
  rw[show m+(j+1)=m+j+1 by omega,spS,spS,h1,Dr h0 j fun i hi=>h i (by omega)]
theorem yH{pre u post:List Int}{i:Nat}(hi:i<u.length):lgI (pre++(u++post)) (pre.length+i)=lgI u i:=by
 unfold lgI
 rw[List.getD_eq_getElem?_getD,List.getD_eq_getElem?_getD,List.getElem?_append_right (by omega),List.getElem?_append_left (by omega),show pre.length+i-pre.length=i by omega]
theorem xX{pre u post:List Int}(h:∀ r∈pre++(u++post),r∈10::alS)(h0:∀ k,k=5∨k=12∨k=14→spS (clS (cy (pre++(u++post)))) k pre.length=false){i:Nat}(hi:i+1<u.length):
  lgI (dI (pre++(u++post)) (dp (pre++(u++post)))) (pre.length+i)=lgI (dI u (dp u)) i:=by
 have hu:∀ r∈u,r∈10::alS:=fun r hr=>h r (by simp[hr])
 have hl:pre.length+i+1<(pre++(u++post)).length:=by simp;omega
 have e1:=nL (cl:=dp (pre++(u++post))) hl
 have e2:=nL (cl:=dp u) hi
 have hc:∀ j,j<u.length→lgI (clS (cy (pre++(u++post)))) (pre.length+j)=lgI (clS (cy u)) j∧lgI (cy (pre++(u++post))) (pre.length+j)=lgI (cy u) j:=fun j hj=>by
  have g1:=nO h (i:=pre.length+j) (by simp;omega)
  have g2:=nO hu hj
  rw[yH hj]at g1
  exact⟨g1.1.trans g2.1.symm,g1.2.trans g2.2.symm⟩
 have e3:∀ {l:List Int} {i:Nat} {x:Int},l[i]?=some x→lgI l i=x:=fun h=>by
  rw[lgI,List.getD_eq_getElem?_getD,h]
  rfl
 rw[e3 e1,e3 e2]
 refine zA (hc i (by omega)).1 (hc (i+1) hi).1 (hc i (by omega)).2 (hc (i+1) hi).2 ?_ (fun k hk=>Dr (h0 k hk) (i+1) fun j hj=>(hc j (by omega)).1) ?_
 ·rw[si h (by omega),si hu hi]
 ·rw[(nO hu hi).2]
  exact (qU (hu _ (List.mem_of_getElem? (atI hi)))).2.2.2.2.2.1
theorem ju{t:List Int}(h:∀ r∈t,r∈10::alS){C:List Int}{q:Nat}(hq:q<t.length):lgI (dI t C) q=2↔q+1=t.length∨lgI t q=10:=by
 have hc:=qU (h _ (List.mem_of_getElem? (atI hq)))
 rw[Bm hq]
 have:mndB (cLn (lgI t q)) (cLn (lgI t (q+1)))=true↔lgI t q=10:=by
  unfold mndB
  simp[hc]
 rw[this]
theorem lS:∀ (B1 B2:List Int) (f i:Nat),B1≠[]→(∀ q,q<B1.length→(lgI B1 q=2↔q+1=B1.length))→iJ f i (B1++B2)=(f,i+B1.length)::iJ (i+B1.length) (i+B1.length) B2
 | [],_,_,_,h,_=>absurd rfl h
 | b::B1,B2,f,i,_,h=>by
  have h0:=h 0 (by simp)
  have e0:lgI (b::B1) 0=b:=rfl
  rw[e0]at h0
  rw[List.cons_append,iJ]
  by_cases hb:B1=[]
  ·subst hb
   rw[if_pos (h0.2 rfl)]
   rfl
  ·have hl:0<B1.length:=List.length_pos_iff.2 hb
   rw[if_neg fun e=>by have:=h0.1 e;exact hb (by simpa using this),lS B1 B2 f (i+1) hb fun q hq=>by
    have:=h (q+1) (by simpa using hq)
    rw[show lgI (b::B1) (q+1)=lgI B1 q from rfl,List.length_cons]at this
    rw[this]
    omega]
   rw[List.length_cons,show i+1+B1.length=i+(B1.length+1) by omega]
def joF:Fnt:=⟨100,80,20,0,50,[],[],[]⟩
theorem Ch:A4 joF:=by constructor<;>simp[joF]
noncomputable def joT(t:List Int)(b w:Int):Txt:=⟨⟨t,[⟨0,t.length,0,20⟩],b,0,w⟩,[joF],dI t (dp t),dp t,lvZ,kL⟩
theorem Dx{pre u post:List Int}{b w:Int}(h:∀ r∈pre++(u++post),r∈10::alS)(hne:pre++(u++post)≠[])(vU:TxV (joT u b w))
  (hB:∀ i,i<u.length→lgI (dI (pre++(u++post)) (dp (pre++(u++post)))) (pre.length+i)=lgI (dI u (dp u)) i):SubT (joT (pre++(u++post)) b w) (joT u b w) pre.length joF 20:=by
 have hu:∀ r∈u,r∈10::alS:=fun r hr=>h r (by simp[hr])
 have hlen:(pre++(u++post)).length=pre.length+(u.length+post.length):=by simp
 have hsp:∀ t:List Int,(joT t b w).sp=List.replicate t.length 0:=fun t=>by simp[Txt.sp,joT,spI]
 refine { hf:=⟨rfl,rfl⟩,fv:=yo Ch,hz:=by omega,xf:=rfl,yf:=rfl,xs:=⟨_,rfl⟩,ys:=⟨_,rfl⟩,n:=?_,part:=fun a c hac hc=>?_,t:=fun i hi=>yH hi,xsp:=hsp _,ysp:=hsp _,xb:=fun i hi=>si h hi,yb:=fun i hi=>si hu hi,B:=hB,C:=?_,yc:=fun c hc=>?_,w:=rfl,a:=rfl,b:=rfl,lv:=rfl,rs:=rfl,vy:=vU }
 ·show pre.length+u.length≤(pre++(u++post)).length
  omega
 ·show ((pre++(u++post)).take (pre.length+c)).drop (pre.length+a)=(u.take c).drop a
  have hc:c≤u.length:=hc
  rw[List.take_append,List.take_of_length_le (by omega),show pre.length+c-pre.length=c by omega,List.take_append_of_le_length hc,List.drop_append,List.drop_of_length_le (by omega),List.nil_append,show pre.length+a-pre.length=a by omega]
 ·show ∃ l1 l3,dp (pre++(u++post))=l1++((dp u).map (·+(pre.length:Int))++l3)∧_∧_
  have hp:0<(pre++(u++post)).length:=List.length_pos_iff.2 hne
  rw[kX h,kX hu]
  unfold Bb
  rw[if_neg (by omega),hlen]
  by_cases h0:u.length=0
  ·rw[if_pos h0]
   refine⟨(List.range pre.length).map fun i:Nat=>(i:Int),(List.range (post.length+1)).map fun i:Nat=>((pre.length+i:Nat):Int),?_,fun c hc=>?_,fun c hc=>?_⟩
   ·rw[show pre.length+(u.length+post.length)+1=pre.length+(post.length+1) by omega,List.range_add,List.map_append,List.map_map]
    rfl
   ·obtain⟨i,hi,rfl⟩:=List.mem_map.1 hc
    have:=List.mem_range.1 hi
    omega
   ·obtain⟨i,hi,rfl⟩:=List.mem_map.1 hc
    show ((pre.length+u.length:Nat):Int)≤_
    omega
  ·rw[if_neg h0]
   refine⟨(List.range pre.length).map fun i:Nat=>(i:Int),(List.range post.length).map fun i:Nat=>((pre.length+(u.length+1)+i:Nat):Int),?_,fun c hc=>?_,fun c hc=>?_⟩
   ·rw[show pre.length+(u.length+post.length)+1=pre.length+((u.length+1)+post.length) by omega]
    simp only[List.range_add,List.map_append,List.map_map]
    congr 1
    congr 1
    ·congr 1
     ·refine List.map_congr_left fun i _=>?_
      simp only[Function.comp]
      omega
     ·refine List.map_congr_left fun i _=>?_
      simp only[Function.comp]
      omega
    ·refine List.map_congr_left fun i _=>?_
     simp only[Function.comp]
     omega
   ·obtain⟨i,hi,rfl⟩:=List.mem_map.1 hc
    have:=List.mem_range.1 hi
    omega
   ·obtain⟨i,hi,rfl⟩:=List.mem_map.1 hc
    show ((pre.length+u.length:Nat):Int)≤_
    omega
 ·have hc:c∈dp u:=hc
  rw[kX hu]at hc
  unfold Bb at hc
  split at hc
  ·cases hc
  ·obtain⟨i,_,rfl⟩:=List.mem_map.1 hc
   omega
end Bi
end Go.Ab
namespace Go.Ab
open Go.Proofs
namespace Bi
attribute [local congr] az
section
variable {prim:FuncId→Option Prim}
set_option maxHeartbeats 8000000 in
theorem pK(d:Nat)(h1:prim 6=none)(h2:prim 22=none)(h3:prim 23=none)(l:List Int):
  ∃ t:List Int,t.length≤15∧(∀ r∈t,r∈alS)∧∀ cfg h,af md (K prim (d+2)) cfg 6 [il l] h=some (rl t,h):=by
 have hc:=ik (md:=md) (prim:=prim) (n:=10000) (d:=d+1) (args:=[il l]) (Post:=fun r=>∃ t:List Int,t.length≤15∧(∀ r∈t,r∈alS)∧r=rl t) rfl h1 Tryz.func6 rfl rfl rfl (by simp) ?_
 ·obtain⟨_,⟨t,g1,g2,rfl⟩,g3⟩:=hc
  exact⟨t,g1,g2,g3⟩
 have hNw:=fun cfg h=>HY (prim:=prim) d cfg h h2 l
 have hL:(l.take 4000).length≤4000:=by simp;omega
 generalize hLL:l.take 4000=L at *
 simp(disch:=omega)[hNw]
 have hA:∀ v:Nat,v<6→∃ r,slot [V.int .i32 97,.int .i32 1488,.int .i32 32,.int .i32 49,.int .i32 40,.int .i32 19968] v=some (.int .i32 r)∧r∈alS:=fun v hv=>by
  have:v=0∨v=1∨v=2∨v=3∨v=4∨v=5:=by omega
  rcases this with rfl|rfl|rfl|rfl|rfl|rfl<;>exact⟨_,rfl,by simp⟩
 generalize hAE:[V.int .i32 97,.int .i32 1488,.int .i32 32,.int .i32 49,.int .i32 40,.int .i32 19968]=A at *
 have hAl:A.length=6:=by rw[← hAE];rfl
 have hAm:isMap A=false:=by rw[← hAE];rfl
 refine aj (fun m fr H=>∃ (i k:Nat) (tv:V) (t:List Int),i≤15∧i≤l.length∧m=15-i∧t.length=i∧(∀ r∈t,r∈alS)∧k≤L.length∧Hp H [some A,some [il L,.int .i64 k]] [(1,tv,t.map (V.int .i32))] ∧
  Slots 31 [(0,il l),(3,.sl 0 0 6 6 1),(4,.ptr 1 0),(5,tv),(6,.int .i64 i)] fr) (m:=15) (by omega) ⟨0,0,.nils,[],by omega,by omega,by omega,rfl,(fun _ h=>by cases h),by omega,by simpa using Hp.start.nil 1,by simp⟩ ?_
 rintro m fr H ⟨i,k,tv,t,hi,hil,rfl,hti,ht,hk,hhp,hs⟩
 obtain⟨j,rfl⟩:=hs.ex
 clear hs
 by_cases hlt:i<l.length∧i<15
 ·have hI1:(i:Int)<l.length:=by omega
  have hI2:(i:Int)<15:=by omega
  have hb1:ab H 1=some [il L,.int .i64 k]:=by rw[hhp.block (by simp)];simp[ab]
  obtain⟨v,k2,hv,hk2,hN⟩:=N_ok (prim:=prim) d ⟨0,[],0⟩ H h3 L k hL hk 6 (by omega) (by omega) 1 hb1 (bE (by simp))
  obtain⟨r,hr,hral⟩:=hA v (by omega)
  have hh2:=hhp.set (b:=1) (by simp) (some [il L,.int .i64 k2])
  simp only[List.set_cons_succ,List.set_cons_zero]at hh2
  have hb0:ab (H.set 1 (some [il L,.int .i64 k2])) 0=some A:=by rw[hh2.block (by simp)];simp[ab,hAm]
  generalize H.set 1 (some [il L,.int .i64 k2])=H2 at *
  have hv6:¬ (6:Int)≤v:=by omega
  have hbn:ab (H2++[some [V.int .i32 r]]) H2.length=some [V.int .i32 r]:=by rw[dG rfl];rfl
  simp(disch:=omega)[hI1,hI2,hN,hb0,hr,hbn,-getElem?_pos]
  refine bZ (m:=1) (hh2.push [some [V.int .i32 r]]) (by simp) rfl rfl (by omega) (by omega) (by simp;omega) (by simp;omega) ?_
  intro tv' H' hh3
  simp(disch:=omega)[wrap64,-getElem?_pos]
  exact ae (m':=15-(i+1)) (by omega) ⟨i+1,k2,tv',t++[r],by omega,by omega,by omega,by simp[hti],(fun x hx=>by rcases List.mem_append.1 hx with hx|hx;exact ht x hx;rw[List.mem_singleton.1 hx];exact hral),hk2,by simpa using hh3,by simp(disch:=omega)⟩
 ·have hfz:frz H 0 6 tv=some (rl t):=hhp.head.frzI (Nat.zero_le _)
  by_cases hl:i<l.length
  ·have hI1:(i:Int)<l.length:=by omega
   have hI2:¬ (i:Int)<15:=by omega
   simp(disch:=omega)[hI1,hI2,hfz]
   exact⟨t,by omega,fun r hr=>by simpa using ht r hr,rfl⟩
  ·have hI1:¬ (i:Int)<l.length:=by omega
   simp(disch:=omega)[hI1,hfz]
   exact⟨t,by omega,fun r hr=>by simpa using ht r hr,rfl⟩
end
theorem CF(cfg:Cfg)(h:Heap)(l:List Int)(b w:Int):ofC cfg [rl l,.int .i64 b,.int .i64 w] h=some (.agg (cF ⟨l,[⟨0,l.length,0,20⟩],b,0,w⟩),h):=by
 obtain⟨r,h',g1,g2⟩:=cx (P:=Tryz.prog) (md:=md) (prim:=fun _=>none) (n:=10000) (cfg:=⟨0,[],0⟩) (d:=4) (h:=[]) (args:=[rl l,.int .i64 b,.int .i64 w]) (R:=fun r h'=>frz h' 0 6 r=some (.agg (cF ⟨l,[⟨0,l.length,0,20⟩],b,0,w⟩))) rfl Tryz.func8 rfl rfl rfl (by
  simp[cF,cb,iu,ab,isMap,chunk])
 have ha:([rl l,.int .i64 b,.int .i64 w]:List V).all V.noref=true:=by simp
 simp only[ofC,af,ha,if_true,g1,g2]
end Bi
end Go.Ab
