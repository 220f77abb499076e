/- The program: where lines may end; the classes of a text. -/
import Derived.Test.YtldfgkjmficliaaGreatPaPr
set_option linter.all false
set_option maxHeartbeats 16000000
set_option maxRecDepth 100000
namespace Go.Ab
open Go.Proofs
namespace Bi
attribute [local congr] aw
def dD(t:List Int):List Int:=t.map cLn
def clG(raw:List Int):Nat->Int
 | 0=>if cmS (lgI raw 0)=true then 0 else lgI raw 0
 | i+1=>if cmS (lgI raw (i+1))=true then (if hrS (clG raw i)=true then 0 else clG raw i) else lgI raw (i+1)
def clS(raw:List Int):List Int:=(List.range raw.length).map (clG raw)
theorem oQ{raw:List Int}:(clS raw).length=raw.length:=by simp[clS]
theorem xA{raw:List Int}{i:Nat}(h:i<raw.length):(clS raw)[i]?=some (clG raw i):=by simp[clS,h]
theorem dR{t:List Int}:(dD t).length=t.length:=by simp[dD]
theorem tS{t:List Int}{i:Nat}(h:i<t.length):(dD t)[i]?=some (cLn (lgI t i)):=by rw[dD,Ln,atI h];rfl
section
variable {prim:FuncId->Option Prim}(d:Nat)
theorem FX(hp:∀ f,Np5 f->prim f=none)(t:List Int)(ht:t.length<=2000)(cl:List Int)(hv:∀ x∈cl,0<=x/\x<=t.length)(hK:cl.length<=4000)(hC:∀ cfg h,af md (K prim (d+4)) cfg 51 [rl t] h=some (il cl,h))(cfg:Cfg)(h:Heap):
  af md (K prim (d+5)) cfg 88 [rl t] h=some (.agg (scC (dD t) (clS (dD t)) (mkS (t.length+1) cl)),h):=by
 refine aU rfl (hp 88 (by decide)) Tryz.func88 rfl rfl rfl (by simp) ?_;have hL:=fun cfg h r=>pN (prim:=prim) (d+1) hp cfg h r;have hw:=fun cfg h x=>yV (prim:=prim) (d+3) hp cfg h x;have hy:=fun cfg h x=>zh (prim:=prim) (d+3) hp cfg h x;have mL:md 93=0:=rfl;simp(disch:=omega);refine ah 12 (by kernel_rfl) ?_;simp(disch:=omega)[wrap64,nO,jS,hC];generalize hX:[V.sl 1 0 t.length t.length 1,V.sl 2 0 t.length t.length 1,V.sl 3 0 (t.length+1) (t.length+1) 1]=X at *;have x0:slot X 0=some (.sl 1 0 t.length t.length 1):=by rw[<- hX];rfl
 have x1:slot X 1=some (.sl 2 0 t.length t.length 1):=by rw[<- hX];rfl
 have x2:slot X 2=some (.sl 3 0 (t.length+1) (t.length+1) 1):=by rw[<- hX];rfl
 have x3:X.length=3:=by rw[<- hX];rfl
 have x4:X.take 3=X:=by rw[<- hX];rfl
 have x5:isMap X=false:=by rw[<- hX];rfl
 have x6:X.all V.leaf=true:=by rw[<- hX];rfl
 have x7:putAt [V.nils,.nils,.nils] 0 X=X:=by rw[<- hX];rfl
 refine ai (fun m fr Hc=>∃ (i:Nat) (bd:List Bool),i<=cl.length/\m=cl.length-i/\bd=mkS (t.length+1) (cl.take i)/\Hc=[some [V.nils,V.nils,V.nils],some ((List.replicate t.length 0).map (V.int .i64)),some ((List.replicate t.length 0).map (V.int .i64)),some (bd.map V.bool),some X] /\
  Slots 88 [(0,rl t),(2,.ptr 0 0),(3,.ptr 4 0),(20,il cl),(21,.int .i64 cl.length),(22,.int .i64 i)] fr) (m:=cl.length) (by omega) ⟨0,List.replicate (t.length+1) false,by omega,by omega,rfl,by simp,by simp⟩ ?_
 rintro m fr Hc ⟨i,bd,hi,rfl,hc,rfl,hs⟩;obtain⟨j,rfl⟩:=hs.ex;clear hs;have h9:bd.length=t.length+1:=by rw[hc,mo]
 by_cases ha:i<cl.length
 ·have hI:(i:Int)<cl.length:=by omega
  obtain⟨x,hx⟩:=atG ha;have hM:=hv x (Le hx);obtain⟨q,rfl⟩:∃ q:Nat,x=q:=⟨x.toNat,by omega⟩;have q1:q+1<=t.length+1:=by omega
  simp(disch:=omega)[hI,hx,x2,x5,q1,h9,setB,wrap64,ab,-getElem?_pos,-List.map_set,-List.map_replicate];refine ae (m':=cl.length-(i+1)) (by omega) ⟨i+1,bd.set q true,by omega,by omega,?_,by simp,by simp(disch:=omega)⟩;rw[LO,hx];simp[qG,hc]
 ·obtain rfl:i=cl.length:=by omega
  rw[LQ]at hc;have hd:(List.replicate t.length (0:Int)).length=t.length:=by simp
  generalize hz:List.replicate t.length (0:Int)=r0 at *;clear hz;have he:(dD t).length=r0.length:=by rw[dR,hd]
  have hh:(clS (dD t)).length=r0.length:=by rw[oQ,dR,hd]
  simp(disch:=omega);refine ai (fun m fr Hc=>∃ (i:Nat),i<=t.length/\m=t.length-i/\Hc=[some [V.nils,V.nils,V.nils],some (((dD t).take i++r0.drop i).map (V.int .i64)),some (((clS (dD t)).take i++r0.drop i).map (V.int .i64)),some (bd.map V.bool),some X] /\
   Slots 88 [(2,.ptr 0 0),(3,.ptr 4 0),(31,rl t),(32,.int .i64 t.length),(33,.int .i64 i)] fr) (m:=t.length) (by omega) ⟨0,by omega,by omega,by simp,by simp⟩ ?_
  rintro m fr Hc ⟨i,hi,rfl,rfl,hs⟩;obtain⟨j,rfl⟩:=hs.ex;clear hs;have hf:=@bj _ _ _ he i;have h4:=@bj _ _ _ hh i;rw[hd]at hf h4;by_cases ha:i<t.length
  ·have hI:(i:Int)<t.length:=by omega
   have q1:i+1<=t.length:=by omega
   have hr:=dp he (tS ha);have hA:=tS ha;have hj:=xA (raw:=dD t) (i:=i) (by rw[dR];exact ha);have hl:=fun x=>dp (x:=x) hh (i:=i);have hD:0<i->((clS (dD t)).take i++r0.drop i)[i-1]?=some (clG (dD t) (i-1)):=fun h0=>by
    rw[Lf (by rw[Mi,oQ,dR];omega),LR (by omega),xA (by rw[dR];omega)]
   have h6:clG (dD t) i=if cmS (cLn (lgI t i))=true then (if 0<i/\hrS (clG (dD t) (i-1))=false then clG (dD t) (i-1) else 0) else cLn (lgI t i):=by
    have e:lgI (dD t) i=cLn (lgI t i):=by rw[lgI,Lg,hA];rfl
    rcases i with _|i
    ·simp[clG,e]
    ·rw[clG,e];cases hb:hrS (clG (dD t) i)<;>simp[hb]
   have hE:=@bj _ _ _ he (i+1);rw[hd]at hE;generalize h7:(dD t).take (i+1)++r0.drop (i+1)=raw2 at *;generalize hN:(clS (dD t)).take i++r0.drop i=c0 at *;generalize (dD t).take i++r0.drop i=raw1 at *;simp(disch:=omega)[hI,atI,-getElem?_pos];refine ah 5 (by kernel_rfl) ?_;simp(disch:=omega)[x0,x5,hL,mL,hf,q1,ab,-getElem?_pos,-List.map_set];rw[hr];have w0:slot (raw2.map (V.int .i64)) i=some (.int .i64 (cLn (lgI t i))):=by rw[slot,Ln,<- hr,Lo (by omega)];rfl
   refine ah 8 (by kernel_rfl) ?_;simp(disch:=omega)[x0,x1,x5,h4,w0,q1,ab,-getElem?_pos,-List.map_set];have hF:(c0.set i (cLn (lgI t i))).length=t.length:=by rw[LS];exact h4
   simp(disch:=omega)[hw,-getElem?_pos,-List.map_set];refine aq (fun hm=>?_) (fun hm=>?_)
   ·have h8:cmS (cLn (lgI t i))=false:=by simpa using hm
    rw[if_neg (by rw[h8];simp)]at h6;simp(disch:=omega)[wrap64,-List.map_set];exact ae (m':=t.length-(i+1)) (by omega) ⟨i+1,by omega,by omega,by rw[hl _ (h6 ▸ hj),h7],by simp(disch:=omega)⟩
   have h8:cmS (cLn (lgI t i))=true:=by simpa using hm
   rw[if_pos h8]at h6;obtain⟨c3,h3⟩:∃ c3,c0.set i 0=c3:=⟨_,rfl⟩;have hH:c3.length=t.length:=by rw[<- h3,LS];exact h4
   have hJ:bz ((c0.set i (cLn (lgI t i))).map (V.int .i64)) i (.int .i64 0)=c3.map (V.int .i64):=by rw[setI,L6,h3]
   have hu:0<i->((i:Int)-1).toNat=i-1:=fun h=>by omega
   have w3:0<i->slot (c3.map (V.int .i64)) (i-1)=some (.int .i64 (clG (dD t) (i-1))):=fun h=>by rw[slot,Ln,<- h3,Li (by omega),hD h];rfl
   have w4:0<i->i-1+1<=t.length:=fun h=>by omega
   simp +contextual (disch:=first|omega|(simp;done)|(simp[Lj];done)|fail) [-ar,cC,ax,aG,cx,wrap64,-getElem?_pos,x1,x5,hF,q1,hJ,ab,hy,hu,w3,-List.map_set];refine aq (fun hb=>?_) (fun hb=>?_)
   ·have hg:0<i/\hrS (clG (dD t) (i-1))=false:=by simpa using hb
    rw[if_pos hg]at h6;have hn:=hg.1;have hq:=hu hn;have w3':=w3 hn;have w4':=w4 hn;refine ah 9 (by kernel_rfl) ?_;simp(disch:=omega)[x1,x5,hH,hq,w3',q1,ab,wrap64,-getElem?_pos,-List.map_set];exact ae (m':=t.length-(i+1)) (by omega) ⟨i+1,by omega,by omega,by rw[<- h3,L6,hl _ (h6 ▸ hj),h7],by simp(disch:=omega)⟩
   ·have hg:¬ (0<i/\hrS (clG (dD t) (i-1))=false):=by simpa using hb
    rw[if_neg hg]at h6;simp(disch:=omega)[wrap64];exact ae (m':=t.length-(i+1)) (by omega) ⟨i+1,by omega,by omega,by rw[<- h3,hl _ (h6 ▸ hj),h7],by simp(disch:=omega)⟩
  ·obtain rfl:i=t.length:=by omega
   rw[dA he (by omega),dA hh (by omega)];have hf:(dD t).length=t.length:=dR;have h4:(clS (dD t)).length=t.length:=by rw[oQ,dR]
   rw[<- hc];generalize dD t=raw at *;generalize clS raw=c at *;have f1:=dx (h:=[some X,some (raw.map (V.int .i64)),some (c.map (V.int .i64)),some (bd.map V.bool),some X]) (n:=0) (b:=1) (len:=t.length) (cap:=t.length) (d:=3) (k:=.i64) (l:=raw) (by simp[ab]) (LJ _) hf;simp(disch:=omega)[x3,x4,x5,x6,x7];have f2:=dx (h:=[some X,some (raw.map (V.int .i64)),some (c.map (V.int .i64)),some (bd.map V.bool),some X]) (n:=0) (b:=2) (len:=t.length) (cap:=t.length) (d:=3) (k:=.i64) (l:=c) (by simp[ab]) (LJ _) h4;have f3:=AW (h:=[some X,some (raw.map (V.int .i64)),some (c.map (V.int .i64)),some (bd.map V.bool),some X]) (n:=0) (b:=3) (len:=t.length+1) (cap:=t.length+1) (d:=3) (l:=bd) (by simp[ab]) (LJ _) h9;generalize [some X,some (raw.map (V.int .i64)),some (c.map (V.int .i64)),some (bd.map V.bool),some X]=HH at *;rw[<- hX];simp[f1,f2,f3]
end
end Bi
end Go.Ab
