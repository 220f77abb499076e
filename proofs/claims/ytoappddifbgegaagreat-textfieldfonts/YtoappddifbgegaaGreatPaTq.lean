/- Several texts of this proof in one. -/
import Derived.Test.YtoappddifbgegaaGreatPaRu
set_option linter.all false
set_option maxHeartbeats 8000000
namespace Go.Ab
open Go.Proofs
namespace Bi
def upto(n i:Nat):List Int:=(List.range i).map (fun x:Nat=>(x:Int))++List.replicate (n-i) 0
theorem EO(n i:Nat)(h:i<=n):(upto n i).length=n:=by simp[upto];omega
theorem EP(n i:Nat)(h:i<n):(upto n i).set i (i:Int)=upto n (i+1):=by
 unfold upto;rw[LO _ _ (by simp)];obtain⟨k,hk⟩:∃ k,n-i=k+1:=⟨n-i-1,by omega⟩;rw[hk,show n-(i+1)=k by omega];simp[MK,Oy]
theorem EN(n:Nat):upto n n=idx n:=by simp[upto,idx]
@[simp] theorem maxV_2{k k':IntKind}{a b:Int}:oN [.int k a,.int k' b]=some (.int k (max a b)):=by
 simp only[oN];congr 2;split<;>omega
@[simp] theorem minV_2{k k':IntKind}{a b:Int}:uc [.int k a,.int k' b]=some (.int k (min a b)):=by
 simp only[uc];congr 2;split<;>omega
def Cr(lv:List Int):Bool:=lv.any fun x=>decide (x<0)||decide (127<x)
def mF(lv:List Int):List Int:=if Cr lv then [] else kK lv 127 (idx lv.length)
theorem Fg{lv:List Int}{i:Nat}{x:Int}(hx:lv[i]?=some x)(h:x<0\/127<x):Cr lv=true:=by
 rw[Cr,Ot];exact⟨x,K6 hx,by simpa using h⟩
theorem Ji{lv:List Int}{i:Nat}{x:Int}(hx:lv[i]?=some x):lvl lv i=x:=by simp[lvl,hx]
structure HL(lv:List Int)(i:Nat)(hi lo:Int):Prop where
 ok:∀ (j:Nat) (x:Int),j<i->lv[j]?=some x->0<=x/\x<=127/\x<=hi/\(x%2=1->lo<=x)
 h1:0<=hi/\hi<=127
 h2:hi=0\/∃ (j:Nat),j<i/\lv[j]?=some hi
 l1:lo=129\/(1<=lo/\lo<=127/\lo%2=1/\lo<=hi)
theorem HL.zero{lv:List Int}:HL lv 0 0 129:=⟨fun j x h=>by omega,by omega,.inl rfl,.inl rfl⟩
theorem HL.step{lv:List Int}{i:Nat}{hi lo x:Int}(h:HL lv i hi lo)(hx:lv[i]?=some x)(h0:0<=x)(h1:x<=127):HL lv (i+1) (max hi x) (if x%2=1 then min lo x else lo):=by
 have ha:=h.h1;have hb:=h.l1;refine⟨fun j y hj hy=>?_,by omega,?_,?_⟩
 ·by_cases e:j=i
  ·subst e;rw[hx]at hy;cases hy;refine⟨h0,h1,by omega,fun e=>?_⟩;rw[if_pos e];omega
  ·obtain⟨a,b,c,d⟩:=h.ok j y (by omega) hy;refine⟨a,b,by omega,fun e=>?_⟩;have:=d e;split<;>omega
 ·by_cases e:hi<=x
  ·exact .inr ⟨i,by omega,by rw[hx];congr 1;omega⟩
  ·rcases h.h2 with h2|⟨j,hj,h2⟩
   ·omega
   ·exact .inr ⟨j,by omega,by rw[h2];congr 1;omega⟩
 ·split<;>omega
section
variable {prim:FuncId->Option Prim}(d:Nat) (cfg:Cfg) (h:Heap)
theorem wo(hp:prim 238=none)(hX:prim 289=none)(lv:List Int)(hn:lv.length<=2000){args:List V}(ha:args.mapM (frzA h)=some [il lv]):
  af md (K prim (d+2)) cfg 238 args h=some (il (mF lv),h):=by
 refine call3 rfl hp Tryz.func238 rfl rfl rfl (args':=[il lv]) ha ?_;generalize hN:lv.length=N at hn;have hY:¬ (2000:Int)<N:=by omega
 simp(disch:=omega)[hN,hY];refine ah (fun m fr h=>∃ (i:Nat) (hi lo:Int),i<=N/\m=N-i/\HL lv i hi lo/\h=[some ((upto N i).map (V.int .i64))] /\
  Slots 84 [(0,il lv),(3,.sl 0 0 N N 1),(4,.int .i64 hi),(5,.int .i64 lo),(17,il lv),(18,.int .i64 N),(19,.int .i64 i)] fr) (m:=N) (by omega) ⟨0,0,129,by omega,by omega,HL.zero,by simp[di,upto],by simp⟩ ?_
 rintro m fr h ⟨i,hi,lo,hZ,rfl,hf,rfl,hs⟩;obtain⟨j,rfl⟩:=hs.ex;clear hs;have g1:=EO N i hZ;by_cases h3:i<N
 ·obtain⟨x,hx⟩:∃ x,lv[i]?=some x:=⟨lv[i],K4 (by omega)⟩;have hle:i+1<=(upto N i).length:=by omega
  by_cases hb:x<0\/127<x
  ·have h4:=Fg hx hb;by_cases h0:x<0
   ·simp(disch:=omega)[h3,hx,h0,own,mF,h4,-getElem?_pos]
   ·have h1:127<x:=by omega
    simp(disch:=omega)[h3,hx,h0,h1,own,mF,h4,-getElem?_pos]
  ·have h0:¬ x<0:=by omega
   have h1:¬ 127<x:=by omega
   have hw:=hf.step hx (by omega) (by omega);simp(disch:=omega)[h3,hx,h0,h1,hle,EP,-getElem?_pos];by_cases h6:x%2=1
   ·rw[if_pos h6]at hw;have ho:x.tmod 2=1:=by rw[Mw (by omega)];exact h6
    simp[ho];exact ae (m':=N-(i+1)) (by omega) ⟨i+1,_,_,by omega,rfl,hw,rfl,by simp(disch:=omega)[wrap64]⟩
   ·rw[if_neg h6]at hw;have ho:¬ x.tmod 2=1:=by rw[Mw (by omega)];exact h6
    simp[ho];exact ae (m':=N-(i+1)) (by omega) ⟨i+1,_,_,by omega,rfl,hw,rfl,by simp(disch:=omega)[wrap64]⟩
 ·obtain rfl:i=N:=by omega
  have h4:Cr lv=false:=by
   rw[Cr,Od];intro x hx;obtain⟨j,hj,rfl⟩:=Ni.1 hx;have:=hf.ok j lv[j] (by omega) (K4 hj);simp;omega
  have hD:∀ x∈idx i,0<=x/\x<i/\0<=lvl lv x/\lvl lv x<=hi/\lvl lv x<=127/\(lvl lv x%2=1->lo<=lvl lv x):=by
   intro x hx;rw[F4]at hx;obtain⟨j,rfl⟩:=ND hx.1;have hj:lv[j]?=some lv[j]:=K4 (by omega);have:=hf.ok j _ (by omega) hj;have e:=Ji hj;rw[e];omega
  have h1:=hf.h1;have g2:lo=129->hi%2=0:=by
   intro e;rcases hf.h2 with h2|⟨j,hj,h2⟩
   ·omega
   ·have:=hf.ok j _ hj h2;omega
  have g3:=hf.l1;have hS:mF lv=kK lv 127 (idx i):=by simp[mF,h4,hN]
  rw[hS];have hg:kK lv 127 (idx i)=kK lv hi.toNat (idx i):=wj lv _ _ _ (by omega) fun x hx=>by have:=hD x hx;omega
  have hE:upto i i=idx i:=EN i;rw[hE];simp;refine ah (fun m fr h=>∃ (out:List Int) (n:Nat),m=n+1-lo.toNat/\out.length=i/\(∀ x∈out,x∈idx i)/\kK lv 127 (idx i)=kK lv n out/\(lo<=n+1\/lo=129/\n%2=0)/\n<=127/\h=[some (out.map (V.int .i64))] /\
   Slots 84 [(0,il lv),(3,.sl 0 0 i i 1),(5,.int .i64 lo),(8,.int .i64 n)] fr) (m:=hi.toNat+1-lo.toNat) (by omega) ⟨idx i,hi.toNat,rfl,F3 i,fun x hx=>hx,hg,by omega,by omega,rfl,by simp;omega⟩ ?_
  rintro m fr h ⟨out,n,rfl,hK,hL,hM,g4,hO,rfl,hs⟩;obtain⟨j,rfl⟩:=hs.ex;clear hs;by_cases hP:lo<=n
  ·simp[hP];have g0:∀ (l:List Int) (q:Nat) (x:Int),(∀ x∈l,x∈idx i)->l[q]?=some x->∃ y,0<=x/\lv[x.toNat]?=some y/\(ge lv n x=decide ((n:Int)<=y)):=by
    intro l q x hl hx;have hm:=hD x (hl x (K6 hx));have hy:lv[x.toNat]?=some lv[x.toNat]:=K4 (by omega);refine⟨_,hm.1,hy,?_⟩;simp[ge,lvl,hy]
   refine ah (fun m fr h=>∃ (dn td o:List Int) (q:Nat),o=dn++td/\m=i+1-q/\o.length=i/\rr (ge lv n) [] out=dn++rr (ge lv n) [] td/\(∀ x∈o,x∈idx i)/\(q=dn.length\/td=[]/\q=dn.length+1)/\h=[some (o.map (V.int .i64))] /\
    Slots 84 [(0,il lv),(3,.sl 0 0 i i 1),(5,.int .i64 lo),(8,.int .i64 n),(9,.int .i64 q)] fr) (m:=i+1) (by omega) ⟨[],out,out,0,rfl,by omega,hK,rfl,hL,.inl rfl,rfl,by simp⟩ ?_
   rintro m fr h ⟨dn,td,o,q,ho,rfl,hF,ht,h7,hq,rfl,hs⟩;obtain⟨j,rfl⟩:=hs.ex;clear hs;have hH:dn.length+td.length=i:=by rw[<- hF,ho];simp
   by_cases hQ:q<i
   ·obtain rfl:q=dn.length:=by
     rcases hq with hq|⟨rfl,hq⟩
     ·exact hq
     ·simp at hH;omega
    simp[hQ];refine ah (fun m fr h=>∃ (run rest:List Int),td=run++rest/\(∀ x∈run,ge lv n x=true)/\m=i-dn.length-run.length/\h=[some (o.map (V.int .i64))] /\
     Slots 84 [(0,il lv),(3,.sl 0 0 i i 1),(5,.int .i64 lo),(8,.int .i64 n),(9,.int .i64 dn.length),(10,.int .i64 (dn.length+run.length:Nat))] fr) (m:=i-dn.length) (by omega) ⟨[],td,rfl,by simp,by simp,rfl,by simp⟩ ?_
    rintro m fr h ⟨run,rest,h9,hh,rfl,rfl,hs⟩;obtain⟨j,rfl⟩:=hs.ex;clear hs;have hlen:dn.length+run.length+rest.length=i:=by rw[h9]at hH;simp at hH;omega
    have hA:o=dn++run++rest:=by rw[ho,h9];simp
    have hc:((dn.length:Int)+run.length).toNat=dn.length+run.length:=by omega
    have hR:0<run.length->∀ cap,af md (K prim (d+1)) ⟨0,[],0⟩ 289 [.sl 0 dn.length run.length cap 1] [some (o.map (V.int .i64))]=some (.tup [],[some ((dn++run.reverse++rest).map (V.int .i64))]):=by
     intro _ cap;have:=yE (prim:=prim) d ⟨0,[],0⟩ [some (o.map (V.int .i64))] hX dn run rest (by omega) 0 cap (by simp[hA]) (by simp);simpa using this
    have hr:0<run.length->wY 1 0 0 i i 1 (some dn.length) (some (dn.length+run.length))=some (.sl 0 dn.length run.length (i-dn.length) 1):=by
     intro h0;rw[ux (by omega) (by omega) (by omega)];split
     ·rename_i e;simp[e]
     ·rw[if_neg (by omega)];simp
    have hu:(dn++run.reverse++rest).length=i:=by simp;omega
    have hd:∀ x∈dn++run.reverse++rest,x∈idx i:=by
     intro x hx;refine h7 x ?_;rw[hA];simpa using hx
    rcases rest with _|⟨x,rest⟩
    ·simp at hlen;have he:0<run.length:=by omega
     have h3:¬ (dn.length:Int)+run.length<i:=by omega
     have hR:=hR he;have hr:=hr he;have hgt:(dn.length:Int)<dn.length+run.length:=by omega
     generalize hI:dn++run.reverse++[]=o2 at *;simp(disch:=omega)[h3,hr,hc,hgt,hR,-ux];refine ae (m':=i+1-(dn.length+run.length+1)) (by omega) ⟨dn++run.reverse,[],o2,dn.length+run.length+1,hI.symm,rfl,hu,?_,hd,.inr ⟨rfl,by simp⟩,rfl,by simp(disch:=omega)[wrap64]⟩;rw[ht,h9];simp[rr,Ed _ run hh]
    ·simp at hlen;have hx:o[dn.length+run.length]?=some x:=by
      rw[hA,Lg (by simp)];simp
     obtain⟨y,g5,hy,h8⟩:=g0 _ _ _ h7 hx;have h3:(dn.length:Int)+run.length<i:=by omega
     by_cases hv:(n:Int)<=y
     ·simp(disch:=omega)[h3,hc,hx,hy,hv,-getElem?_pos];refine ae (m':=i-dn.length-(run++[x]).length) (by simp;omega) ⟨run++[x],rest,by rw[h9];simp,?_,rfl,rfl,by simp(disch:=omega)[wrap64];omega⟩;intro z hz;rcases LB.1 hz with hz|hz
      ·exact hh z hz
      ·simp at hz;subst hz;rw[h8,decide_eq_true hv]
     ·rw[decide_eq_false hv]at h8;by_cases he:run=[]
      ·subst he;simp at hx h3;simp(disch:=omega)[h3,hx,hy,hv,-getElem?_pos];refine ae (m':=i+1-(dn.length+1)) (by omega) ⟨dn++[x],rest,o,dn.length+1,by rw[hA];simp,rfl,hF,?_,h7,.inl (by simp),rfl,by simp(disch:=omega)[wrap64]⟩;rw[ht,h9];simp[fl h8]
      ·have he:0<run.length:=LW.2 he;have hR:=hR he;have hr:=hr he;have hgt:(dn.length:Int)<dn.length+run.length:=by omega
       generalize hI:dn++run.reverse++x::rest=o2 at *;simp(disch:=omega)[h3,hc,hx,hy,hv,hr,hgt,hR,-ux,-getElem?_pos];refine ae (m':=i+1-(dn.length+run.length+1)) (by omega) ⟨dn++run.reverse++[x],rest,o2,dn.length+run.length+1,by rw[<- hI];simp,rfl,hu,?_,hd,.inl (by simp;omega),rfl,by simp(disch:=omega)[wrap64]⟩;rw[ht,h9,uo _ _ _ _ hh,fl h8];simp
   ·have h9:td=[]:=by
     rcases hq with rfl|⟨rfl,_⟩
     ·exact LH.1 (by omega)
     ·rfl
    subst h9;simp at ho;subst ho;simp[rr]at ht;simp[hQ];obtain⟨n',rfl⟩:∃ n',n=n'+1:=⟨n-1,by omega⟩;refine ae (m':=n'+1-lo.toNat) (by omega) ⟨o,n',rfl,hF,h7,?_,by omega,by omega,rfl,by simp(disch:=omega)[wrap64]⟩;rw[hM,kK,<- ht]
  ·have hJ:kK lv n out=out:=by
    obtain⟨k,rfl⟩:∃ k,n=2*k:=⟨n / 2,by omega⟩;refine zX lv out k fun x hx g6=>?_;have:=hD x (hL x hx);omega
   rw[hM,hJ];simp[hP];have hT:ab [some (out.map (V.int .i64))] 0=some (out.map (V.int .i64)):=by simp
   exact⟨qV (d:=4) hT,cK (d:=4) (k:=.i64) hT (LA _) hK⟩
end
end Bi
end Go.Ab
namespace Go.Ab
theorem OwnC.at{h:Heap}{lo k b n:Nat}{cs:List V}(ho:OwnC h lo k (.sl b 0 n n k) cs):lo<=b/\b<h.length/\ab h b=some cs/\cs.length=n*k:=by
 obtain⟨h1,h2⟩:=ho.blk (b:=b) rfl;rcases ho with⟨h,_⟩|⟨b',n',hv,hn,h3,h4⟩
 ·cases h
 ·simp only[V.sl.injEq]at hv;obtain⟨rfl,_,rfl,_⟩:=hv;exact⟨h1,h2,h4,hn⟩
namespace Bi
structure Lin where
 f:Int
 t:Int
 lv:Int
 x:Int
 y:Int
 w:Int
 a:Int
 d:Int
 h:Int
def bK(l:Lin)(v:V):List V:=[.int .i64 l.f,.int .i64 l.t,.int .i64 l.lv,.int .i64 l.x,.int .i64 l.y,.int .i64 l.w,.int .i64 l.a,.int .i64 l.d,.int .i64 l.h,v]
structure jl where
 l:Lin
 v:V
 gs:List Gly
def linG(x:jl):List V:=bK x.l x.v
def fu(x:jl):List V:=bK x.l (.lst (x.gs.map aq))
structure Txt where
 p:Par
 fs:List Fnt
 B:List Int
 C:List Int
 lv:List Int->Int->List Int
 rs:List Int->List Int->Int->Int->Int->List Int
def spI:Nat->List Spn->List Int
 | _,[]=>[]
 | i,s::l=>List.replicate (s.t-s.f).toNat (i:Int)++spI (i+1) l
def mT:Nat->Nat->List Int->List (Nat×Nat)
 | _,_,[]=>[]
 | f,i,b::B=>if b=2 then (f,i+1)::mT (i+1) (i+1) B else mT f (i+1) B
def nlS(r:Int):Bool:=decide (cLn r=1)||decide (cLn r=2)||decide (cLn r=3)
def vv(bd:List Bool):Nat->Int->List Int->List Int
 | _,_,[]=>[]
 | k,p,x::r=>(if lgB bd k=false then p else x)::vv bd (k+1) (if lgB bd k=false then p else x) r
def vt(bd:List Bool)(a:Nat):List Int->List Int
 | []=>[]
 | x::r=>x::vv bd (a+1) x r
def jQ(lv sp:List Int)(a i:Nat):Bool:=decide (i=0)||(!decide (lgI lv i=lgI lv (i-1))||!decide (lgI sp (a+i)=lgI sp (a+i-1)))
def bmp(l:List (Nat×Nat)):List (Nat×Nat):=l.set (l.length-1) ((l.getD (l.length-1) (0,0)).1,(l.getD (l.length-1) (0,0)).2+1)
def rnF(lv sp:List Int)(a:Nat):Nat->List (Nat×Nat)
 | 0=>[]
 | i+1=>bmp (if jQ lv sp a i=true then rnF lv sp a i++[(a+i,a+i)] else rnF lv sp a i)
def rnI(lv sp:List Int)(a i:Nat):Nat:=(rnF lv sp a (i+1)).length-1
namespace Txt
variable (X:Txt)
abbrev n:Nat:=X.p.t.length
def bd:List Bool:=mkS (X.p.t.length+1) X.C
def sp:List Int:=spI 0 X.p.s
def part(k:Nat×Nat):List Int:=(X.p.t.take k.2).drop k.1
def base(k:Nat×Nat):Int:=dw cA (X.part k) X.p.b
def levs(k:Nat×Nat):List Int:=X.lv (X.part k) X.p.b
def sec(k:Nat×Nat):List V:=[.int .i64 k.1,.int .i64 k.2,.int .i64 (X.base k),il (X.levs k)]
def secs:List (Nat×Nat):=mT 0 0 X.B++if X.p.t.length=0\/nlS (lgI X.p.t (X.p.t.length-1))=true then [(X.p.t.length,X.p.t.length)] else []
def lvls(k:Nat×Nat)(a b:Nat):List Int:=vt X.bd a (X.rs (X.part k) (X.levs k) (X.base k) ((a:Int)-k.1) ((b:Int)-k.1))
def spn(i:Nat):Spn:=X.p.s.getD (lgI X.sp i).toNat ⟨0,0,0,0⟩
def fnt(i:Nat):Fnt:=X.fs.getD (X.spn i).n.toNat ⟨0,0,0,0,0,[],[],[]⟩
def gl1(lv:List Int)(a i:Nat):List Gly:=
 let r:=(rnF lv X.sp a lv.length).getD (rnI lv X.sp a i) (0,0)
 runS X.fs (X.fnt (a+i)) (X.spn (a+i)).n (X.spn (a+i)).z X.p.t (eM X.p.t) X.bd r.1 (r.2-r.1) (decide ((lgI lv i).tmod 2=1))
def glO(lv:List Int)(a:Nat):List Bool->List Int->List Gly
 | _,[]=>[]
 | dn,i::r=>if lgB dn (rnI lv X.sp a i.toNat)=true then glO lv a dn r else X.gl1 lv a i.toNat++glO lv a (dn.set (rnI lv X.sp a i.toNat) true) r
def gls(k:Nat×Nat)(a b:Nat):List Gly:=X.glO (X.lvls k a b) a (List.replicate (rnF (X.lvls k a b) X.sp a (X.lvls k a b).length).length false) (mF (X.lvls k a b))
def wht(s:Nat):Nat->Nat
 | 0=>0
 | e+1=>if e+1<=s then e+1 else if cLn (lgI X.p.t e)=4\/nlS (lgI X.p.t e)=true then wht s e else e+1
def fit(k:Nat×Nat)(a b:Nat):Int:=(((X.gls k a b).filter fun g=>decide (g.f<(X.wht a b:Int))).map (·.a)).sum
def frc(k:Nat×Nat)(s t:Nat):Int->List Int->Int
 | best,[]=>best
 | best,c::l=>if c<=s\/(t:Int)<=c then frc k s t best l else if X.p.w<X.fit k s c.toNat then min best c else frc k s t c l
def endL(k:Nat×Nat)(s:Nat):Nat->List Nat->Nat
 | best,[]=>best
 | best,t::l=>if lgI X.B (t-1)=0 then endL k s best l else if X.fit k s t<=X.p.w then endL k s t l else if s<best then best else (X.frc k s t t X.C).toNat
def fin(k:Nat×Nat)(s:Nat):Nat:=X.endL k s s ((List.range (k.2-s)).map fun i=>s+1+i)
def asc(i:Int):Int:=pK (X.fs.getD (X.p.s.getD i.toNat ⟨0,0,0,0⟩).n.toNat ⟨0,0,0,0,0,[],[],[]⟩) (X.p.s.getD i.toNat ⟨0,0,0,0⟩).z
def des(i:Int):Int:=nk (X.fs.getD (X.p.s.getD i.toNat ⟨0,0,0,0⟩).n.toNat ⟨0,0,0,0,0,[],[],[]⟩) (X.p.s.getD i.toNat ⟨0,0,0,0⟩).z
def hei(i:Int):Int:=vK (X.fs.getD (X.p.s.getD i.toNat ⟨0,0,0,0⟩).n.toNat ⟨0,0,0,0,0,[],[],[]⟩) (X.p.s.getD i.toNat ⟨0,0,0,0⟩).z
def spans(s t:Nat):List Int:=if s<t then (X.sp.take t).drop s else [(X.p.s.length:Int)-1]
end Txt
def mx(f:Int->Int)(l:List Int):Int:=l.foldl (fun a i=>max a (f i)) 0
namespace Txt
variable (X:Txt)
def lgl(k:Nat×Nat)(s t:Nat):List Gly:=if t<k.2 then (X.gls k s t).map fun g=>if (X.wht s t:Int)<=g.f then { g with a:=0 } else g else X.gls k s t
def lwd(k:Nat×Nat)(s t:Nat):Int:=cx (X.lgl k s t)
def lx(k:Nat×Nat)(s t:Nat):Int:=if X.p.a=2 then (X.p.w-X.lwd k s t) / 2 else if X.p.a=1↔(X.base k).tmod 2=0 then X.p.w-X.lwd k s t else 0
def lin(k:Nat×Nat)(s t:Nat)(y:Int):jl:=
 ⟨⟨s,t,X.base k,X.lx k s t,y,X.lwd k s t,mx X.asc (X.spans s t),mx X.des (X.spans s t),max (mx X.hei (X.spans s t)) (mx X.asc (X.spans s t)+mx X.des (X.spans s t))⟩,.lst ((ek (X.lx k s t) (X.lgl k s t)).map aq),ek (X.lx k s t) (X.lgl k s t)⟩
def linK(k:Nat×Nat):Nat->Nat->Int->List jl
 | 0,s,y=>[X.lin k s (X.fin k s) y]
 | m+1,s,y=>X.lin k s (X.fin k s) y::if X.fin k s<k.2 then linK k m (X.fin k s) (y+(X.lin k s (X.fin k s) y).l.h) else []
def hgt(l:List jl):Int:=(l.map (·.l.h)).sum
def linA:List (Nat×Nat)->Int->List jl
 | [],_=>[]
 | k::l,y=>X.linK k (k.2-k.1) k.1 y++linA l (y+hgt (X.linK k (k.2-k.1) k.1 y))
end Txt
end Bi
end Go.Ab
namespace Go.Ab
open Go.Proofs
namespace Bi
attribute [local congr] az
def txC(X:Txt)(bv sv kv:V)(pb mw mu:Nat):List V:=
 cY X.p++[.lst (X.fs.map aG),il X.B,il X.C,bv,sv]++prC X.p.t (eM X.p.t) (.sl pb 0 (X.p.t.length+1) (X.p.t.length+1) 1) mw mu++[kv]
theorem da(X:Txt)(bv sv kv:V)(pb mw mu:Nat):
  slot (txC X bv sv kv pb mw mu) 0=some (rl X.p.t)/\slot (txC X bv sv kv pb mw mu) 1=some (.lst (X.p.s.map aR))/\slot (txC X bv sv kv pb mw mu) 2=some (.int .i64 X.p.b) /\
  slot (txC X bv sv kv pb mw mu) 3=some (.int .i64 X.p.a)/\slot (txC X bv sv kv pb mw mu) 4=some (.int .i64 X.p.w)/\slot (txC X bv sv kv pb mw mu) 5=some (.lst (X.fs.map aG)) /\
  slot (txC X bv sv kv pb mw mu) 6=some (il X.B)/\slot (txC X bv sv kv pb mw mu) 7=some (il X.C)/\slot (txC X bv sv kv pb mw mu) 8=some bv/\slot (txC X bv sv kv pb mw mu) 9=some sv /\
  slot (txC X bv sv kv pb mw mu) 15=some kv/\(txC X bv sv kv pb mw mu).length=16/\isMap (txC X bv sv kv pb mw mu)=false:=
 ⟨rfl,rfl,rfl,rfl,rfl,rfl,rfl,rfl,rfl,rfl,rfl,rfl,rfl⟩
theorem pslP(p:Par):(cY p).all V.leaf=true/\isMap (cY p)=false/\slot (cY p) 0=some (rl p.t)/\slot (cY p) 1=some (.lst (p.s.map aR))/\slot (cY p) 2=some (.int .i64 p.b)/\slot (cY p) 3=some (.int .i64 p.a)/\slot (cY p) 4=some (.int .i64 p.w) /\
  (cY p).length=5/\(cY p).take 5=cY p:=⟨rfl,rfl,rfl,rfl,rfl,rfl,rfl,rfl,rfl⟩
theorem EG(X:Txt)(bv sv kv:V)(pb mw mu:Nat):List.take 5 (List.drop 10 (txC X bv sv kv pb mw mu))=prC X.p.t (eM X.p.t) (.sl pb 0 (X.p.t.length+1) (X.p.t.length+1) 1) mw mu:=rfl
section
variable {prim:FuncId->Option Prim}(d:Nat)
theorem HQ(hp:∀ f,Np5 f->prim f=none)(cfg:Cfg)(h:Heap)(r:Int):af md (K prim (d+4)) cfg 170 [.int .i32 r] h=some (.bool (nlS r),h):=by
 refine aP rfl (hp 170 (by decide)) Tryz.func170 rfl rfl rfl (by simp) ?_;have hL:=fun cfg h r=>xK (prim:=prim) d hp cfg h r;by_cases h1:cLn r=1
 ·simp(disch:=omega)[hL,h1,nlS]
 by_cases h2:cLn r=2
 ·simp(disch:=omega)[hL,h2,nlS]
 by_cases h3:cLn r=3<;>simp(disch:=omega)[hL,h1,h2,h3,nlS]
theorem E3(hp:∀ f,Np5 f->prim f=none)(X:Txt)(ht:X.p.t.length<=2000)(cfg:Cfg)(H:Heap)(xb pb mw mu:Nat)(bv sv kv:V)(hb:ab H xb=some (txC X bv sv kv pb mw mu))(s t:Nat)(h4:s<=t)(h6:t<=X.p.t.length):
  af md (K prim (d+5)) cfg 174 [.ptr xb 0,.int .i64 s,.int .i64 t] H=some (.int .i64 (X.wht s t),H):=by
 suffices HH:∃ r h2,(∀ cfg,af md (K prim (d+5)) cfg 174 [.ptr xb 0,.int .i64 s,.int .i64 t] H=some (r,h2))/\(r=.int .i64 (X.wht s t)/\h2=H) by
  obtain⟨_,_,h,rfl,rfl⟩:=HH;exact h cfg
 refine gB (Post:=fun r h2=>r=.int .i64 (X.wht s t)/\h2=H) rfl (hp 174 (by decide)) Tryz.func174 rfl rfl rfl (by simp) ?_;obtain⟨s0,s1,s2,s3,s4,s5,s6,s7,s8,s9,s15,sl,sm⟩:=da X bv sv kv pb mw mu;have hL:=fun cfg h r=>xK (prim:=prim) (d+1) hp cfg h r;have hN:=fun cfg h r=>HQ (prim:=prim) d hp cfg h r;generalize txC X bv sv kv pb mw mu=T at *;simp(disch:=omega);refine ah (fun m fr Hc=>∃ (e:Nat),s<=e/\e<=t/\m=e/\X.wht s t=X.wht s e/\Hc=H /\
  Slots 39 [(0,.ptr xb 0),(1,.int .i64 s),(2,.int .i64 e)] fr) (m:=t) (by omega) ⟨t,h4,by omega,rfl,rfl,rfl,by simp⟩ ?_
 rintro m fr Hc ⟨e,h7,h8,hm,hw,rfl,hs⟩;replace hm:=hm.symm;subst hm;obtain⟨j,rfl⟩:=hs.ex;clear hs;rcases e with _|e
 ·obtain rfl:s=0:=by omega
  simp(disch:=omega);rw[hw];rfl
 ·by_cases h3:e+1<=s
  ·have e1:¬ ((s:Int)<(e:Int)+1):=by omega
   rw[Txt.wht,if_pos h3]at hw;simp(disch:=omega)[e1];rw[hw];omega
  ·have e1:(s:Int)<(e:Int)+1:=by omega
   have e2:(e:Int)+1-1=e:=by omega
   have e3:e<X.p.t.length:=by omega
   rw[Txt.wht,if_neg h3]at hw;simp +contextual (disch:=first|omega|(simp;done)|(simp[Le];done)|fail) [-au,cu,aw,aD,bU,wrap64,-getElem?_pos,e1,e2,hb,s0,atI,hL,hN];refine ar (fun hc=>?_) (fun hc=>?_)
   ·have h0:¬ (cLn (lgI X.p.t e)=4\/nlS (lgI X.p.t e)=true):=by
     intro h;rcases h with h|h<;>simp[h]at hc
    rw[if_neg h0]at hw;simp(disch:=omega);rw[hw];omega
   ·have h0:cLn (lgI X.p.t e)=4\/nlS (lgI X.p.t e)=true:=by
     by_cases h:cLn (lgI X.p.t e)=4
     ·exact .inl h
     ·simp[h]at hc;exact .inr hc
    rw[if_pos h0]at hw;simp(disch:=omega)[wrap64,-getElem?_pos,e2];exact ae (m':=e) (by omega) ⟨e,by omega,by omega,rfl,hw,rfl,by simp(disch:=omega)⟩
theorem Cs(hp:∀ f,Np5 f->prim f=none)(cfg:Cfg)(h:Heap)(t:List Int)(ht:t.length<=2000)(base:Int):
  af md (K prim (d+5)) cfg 235 [rl t,.int .i64 base] h=some (.int .i64 (dw cA t base),h):=by
 refine call3 rfl (hp 235 (by decide)) Tryz.func235 rfl rfl rfl (args':=[rl t,.int .i64 base]) (by simp) ?_;have hB:=fun cfg h r=>oW (prim:=prim) d cfg h hp r;by_cases h3:base=0\/base=1
 ·rcases h3 with rfl|rfl<;>simp[dw]
 ·have h0:¬ base=0:=fun e=>h3 (.inl e);have h1:¬ base=1:=fun e=>h3 (.inr e);have hC:=fun cfg h=>ly (prim:=prim) (d+2) cfg h (hp 276 (by decide)) cA hB t ht;obtain⟨M,h4,h6⟩:=jC (prim:=prim) (d+2) (hp 278 (by decide)) (hp 304 (by decide)) (t.map cA) (by simpa using ht);have hF:=fun cfg h=>qn (prim:=prim) (d+2) cfg h (hp 277 (by decide)) (hp 304 (by decide)) (t.map cA) M h6 (by simpa using ht) 0 t.length (by omega) (by simp);have e:((t.map cA).take t.length).drop 0=t.map cA:=by rw[Mo,Li (by simp)]
  rw[e]at hF;simp at hC h4 hF;simp[h0,h1,hC,h4,hF,dw]
theorem yK(hp:∀ f,Np5 f->prim f=none)(X:Txt)(ht:X.p.t.length<=2000)(hLv:∀ cfg h (t:List Int),t.length<=2000->af md (K prim (d+5)) cfg 236 [rl t,.int .i64 X.p.b] h=some (il (X.lv t X.p.b),h))
  (cfg:Cfg) (H:Heap) (xb pb mw mu:Nat) (bv sv kv:V) (hb:ab H xb=some (txC X bv sv kv pb mw mu)) (k:Nat×Nat) (h0:k.1<=k.2) (h3:k.2<=X.p.t.length):
  af md (K prim (d+6)) cfg 169 [.ptr xb 0,.int .i64 k.1,.int .i64 k.2] H=some (.agg (X.sec k),H):=by
 suffices HH:∃ r h2,(∀ cfg,af md (K prim (d+6)) cfg 169 [.ptr xb 0,.int .i64 k.1,.int .i64 k.2] H=some (r,h2))/\(r=.agg (X.sec k)/\h2=H) by
  obtain⟨_,_,h,rfl,rfl⟩:=HH;exact h cfg
 refine gB (Post:=fun r h2=>r=.agg (X.sec k)/\h2=H) rfl (hp 169 (by decide)) Tryz.func169 rfl rfl rfl (by simp) ?_;obtain⟨s0,s1,s2,s3,s4,s5,s6,s7,s8,s9,s15,sl,sm⟩:=da X bv sv kv pb mw mu;generalize txC X bv sv kv pb mw mu=T at *;have hB:=fun cfg h t ht b=>Cs (prim:=prim) d hp cfg h t ht b;have hx:=ao hb;simp(disch:=omega)[hb,s0];have ep:V.lst (List.drop k.1 (List.take k.2 (X.p.t.map fun n=>[V.int .i32 n])))=rl (X.part k):=by simp[rl,Txt.part,Om,On]
 have h4:(X.part k).length<=2000:=by unfold Txt.part;simp;omega
 have mB:md 235=3:=rfl;have mV:md 236=3:=rfl;rw[ep];refine ai 15 (by kernel_rfl) ?_;have hw:Cfg.wr ⟨H.length,[],H.length⟩ H.length=true:=by simp[Cfg.wr]
 simp(disch:=omega)[hb,s2,hB,hLv,mB,hw];rfl
end
end Bi
end Go.Ab
namespace Go.Ab
open Go.Proofs
namespace Bi
theorem Ay:∀ {l:List Spn}{i:Nat}{x:Int},x∈spI i l->(i:Int)<=x/\x<(i+l.length:Nat)
 | [],_,_,h=>by cases h
 | s::l,i,x,h=>by
  rw[spI]at h;rcases LB.1 h with h|h
  ·rw[Oq h,Lp];omega
  ·have:=Ay h;rw[Lp];omega
theorem xe:∀ {l:List Spn}{i:Nat}{s:Spn},spI i (l++[s])=spI i l++List.replicate (s.t-s.f).toNat ((i+l.length:Nat):Int)
 | [],i,s=>by simp[spI]
 | x::l,i,s=>by
  rw[LM,spI,spI,xe,Ly,Lp,show i+1+l.length=i+(l.length+1) by omega]
theorem vx(bd:List Bool):∀ (l:List Int) (k:Nat) (p:Int),(vv bd k p l).length=l.length
 | [],_,_=>rfl
 | x::r,k,p=>by rw[vv,Lp,Lp,vx bd r]
theorem vu(bd:List Bool)(a:Nat)(l:List Int):(vt bd a l).length=l.length:=by
 cases l with
 | nil=>rfl
 | cons x r=>rw[vt,Lp,Lp,vx]
theorem vw(bd:List Bool):∀ (l:List Int) (k:Nat) (p:Int) (i:Nat),i<l.length->(vv bd k p l)[i]?=some (if lgB bd (k+i)=false then (if i=0 then p else lgI (vv bd k p l) (i-1)) else lgI l i)
 | [],_,_,_,h=>absurd h (by simp)
 | x::r,k,p,0,_=>by simp[vv,lgI]
 | x::r,k,p,i+1,h=>by
  rw[vv,LG,vw bd r (k+1) _ i (by simpa using h),show k+1+i=k+(i+1) by omega];cases hb:lgB bd (k+(i+1))
  ·rcases i with _|i
   ·simp[lgI]
   ·simp[lgI]
  ·simp[lgI]
theorem C0(bd:List Bool)(a:Nat)(l:List Int)(i:Nat)(h:i<l.length):(vt bd a l)[i]?=some (if i≠0/\lgB bd (a+i)=false then lgI (vt bd a l) (i-1) else lgI l i):=by
 cases l with
 | nil=>simp at h
 | cons x r =>
  rcases i with _|i
  ·simp[vt,lgI]
  ·have hi:i<r.length:=by simpa using h
   rw[vt,LG,vw bd r (a+1) x i hi,show a+1+i=a+(i+1) by omega];cases hb:lgB bd (a+(i+1))
   ·rcases i with _|i
    ·simp[lgI]
    ·simp[lgI]
   ·simp[lgI]
theorem jS(l:List (Nat×Nat)):(bmp l).length=l.length:=by simp[bmp]
theorem Cx(l:List (Nat×Nat))(x:Nat×Nat):bmp (l++[x])=l++[(x.1,x.2+1)]:=by
 unfold bmp;simp
theorem mM{lv sp:List Int}{a:Nat}:∀ i,0<i->0<(rnF lv sp a i).length
 | 0,h=>absurd h (by omega)
 | i+1,_=>by
  rw[rnF,jS];rcases MN i with rfl|hi
  ·rw[if_pos (by simp[jQ])];simp
  ·have:=mM (lv:=lv) (sp:=sp) (a:=a) i hi;split
   ·simp
   ·exact this
theorem D8{lv sp:List Int}{a:Nat}:∀ i,(rnF lv sp a i).length<=i
 | 0=>by simp[rnF]
 | i+1=>by
  have:=D8 (lv:=lv) (sp:=sp) (a:=a) i;rw[rnF,jS];split
  ·simp;omega
  ·omega
theorem wQ{lv sp : List Int}{a i : Nat}: ∀ j, i <= j -> (rnF lv sp a i).length <= (rnF lv sp a j).length
  | 0, h => by obtain rfl : i = 0 := by omega
               exact La _
  | j + 1, h => by
    by_cases e : i = j + 1
    · rw[e];exact La _
    · have := wQ (lv := lv) (sp := sp) (a := a) (i := i) j (by omega)
      rw[show rnF lv sp a (j + 1) = _ from rfl, rnF, jS];split
      · simp;omega
      · exact this
theorem ko{lv sp:List Int}{a:Nat}:∀ i,∀ r∈rnF lv sp a i,a<=r.1/\r.1<r.2/\r.2<=a+i
 | 0,r,h=>by simp[rnF]at h
 | i+1,r,h=>by
  rw[rnF]at h;by_cases hs:jQ lv sp a i=true
  ·rw[if_pos hs,Cx]at h;rcases LB.1 h with h|h
   ·have:=ko i r h;omega
   ·simp at h;subst h;simp;omega
  ·rw[if_neg hs]at h;have hi:0<i:=by
    rcases MN i with rfl|hi
    ·exact absurd (by simp[jQ]) hs
    ·exact hi
   have hp:=mM (lv:=lv) (sp:=sp) (a:=a) i hi;unfold bmp at h;rcases MM h with h|h
   ·have:=ko i r h;omega
   ·have hm:(rnF lv sp a i).getD ((rnF lv sp a i).length-1) (0,0)∈rnF lv sp a i:=by
     rw[K9,K4 (by omega)];exact MA _
    have:=ko i _ hm;subst h;simp only;omega
theorem D9{lv sp:List Int}{a i n:Nat}(h:i<n):rnI lv sp a i<(rnF lv sp a n).length:=by
 have h1:=mM (lv:=lv) (sp:=sp) (a:=a) (i+1) (by omega);have h2:=wQ (lv:=lv) (sp:=sp) (a:=a) (i:=i+1) n (by omega);unfold rnI;omega
theorem sU{lv:List Int}:(mF lv).length<=lv.length/\∀ x∈mF lv,0<=x/\x<lv.length:=by
 unfold mF;split
 ·simp
 ·have h:=wm lv 127 (idx lv.length);refine⟨by rw[h.length_eq];simp[idx],fun x hx=>?_⟩;have:=h.mem_iff.1 hx;simp[idx]at this;obtain⟨k,hk,rfl⟩:=this;omega
structure TxV(X:Txt):Prop where
 n:X.p.t.length<=2000
 sp:X.sp.length=X.p.t.length
 sn:0<X.p.s.length/\X.p.s.length<=2000
 fn:X.fs.length<=2000
 sf:∀ s∈X.p.s,0<=s.n/\s.n<X.fs.length/\1<=s.z/\s.z<=1000
 fv:∀ f∈X.fs,bQ f=0
 w:0<=X.p.w/\X.p.w<=100000000
 bl:X.B.length=X.p.t.length
 b2:0<X.p.t.length->X.B[X.p.t.length-1]?=some 2
 cl:X.C.length<=4000/\∀ x∈X.C,0<=x/\x<=X.p.t.length
 lv:∀ t:List Int,t.length<=2000->(X.lv t X.p.b).length=t.length
 rs:∀ (t lv:List Int) (e:Int) (a b:Nat),lv.length=t.length->a<=b->b<=t.length->(X.rs t lv e a b).length=b-a
theorem TxV.spm{X:Txt}(_:TxV X):∀ x∈X.sp,0<=x/\x<X.p.s.length:=fun x h=>by
 have:=Ay h;omega
theorem TxV.spn{X:Txt}(h:TxV X){i:Nat}(hi:i<X.p.t.length):∃ q:Nat,lgI X.sp i=q/\X.p.s[q]?=some (X.spn i)/\X.fs[(X.spn i).n.toNat]?=some (X.fnt i)/\0<=(X.spn i).n/\(X.spn i).n<X.fs.length/\1<=(X.spn i).z/\(X.spn i).z<=1000/\bQ (X.fnt i)=0:=by
 have h1:=atI (l:=X.sp) (i:=i) (by rw[h.sp];exact hi);have h2:=h.spm _ (K6 h1);obtain⟨q,hq⟩:∃ q:Nat,lgI X.sp i=q:=⟨(lgI X.sp i).toNat,by omega⟩;have h3:X.p.s[q]?=some (X.spn i):=by
  unfold Txt.spn;rw[hq,Lr,K9,K4 (by omega)];rfl
 have h4:=h.sf _ (K6 h3);have h5:X.fs[(X.spn i).n.toNat]?=some (X.fnt i):=by
  unfold Txt.fnt;rw[K9,K4 (by omega)];rfl
 exact⟨q,hq,h3,h5,h4.1,h4.2.1,h4.2.2.1,h4.2.2.2,h.fv _ (K6 h5)⟩
theorem TxV.part{X:Txt}(_:TxV X){k:Nat×Nat}(h1:k.1<=k.2)(h2:k.2<=X.p.t.length):(X.part k).length=k.2-k.1:=by
 unfold Txt.part;simp;omega
theorem TxV.levs{X:Txt}(h:TxV X){k:Nat×Nat}(h1:k.1<=k.2)(h2:k.2<=X.p.t.length):(X.levs k).length=k.2-k.1:=by
 unfold Txt.levs;have:=h.part h1 h2;have:=h.n;rw[h.lv _ (by omega),h.part h1 h2]
theorem TxV.lvls{X:Txt}(h:TxV X){k:Nat×Nat}{a b:Nat}(h1:k.1<=a)(h2:a<=b)(h3:b<=k.2)(h4:k.2<=X.p.t.length):(X.lvls k a b).length=b-a:=by
 unfold Txt.lvls;have h5:=h.part (k:=k) (by omega) h4;have h6:=h.levs (k:=k) (by omega) h4;rw[vu,show (a:Int)-k.1=((a-k.1:Nat):Int) by omega,show (b:Int)-k.1=((b-k.1:Nat):Int) by omega,h.rs _ _ _ _ _ (by rw[h5,h6]) (by omega) (by rw[h5];omega)];omega
end Bi
end Go.Ab
