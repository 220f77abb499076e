/- The program: the cluster boundaries of a text, exactly. -/
import Derived.Test.YtldfgkjmficliaaGreatPaKn
set_option linter.all false
set_option maxHeartbeats 8000000
set_option maxRecDepth 100000
namespace Go.Ab
open Go.Proofs
namespace Bi
attribute [local congr] aw
def ctS(x:Int):Bool:=decide (x=3)||decide (x=1)||decide (x=2)
def pcG(c:List Int):Nat->Bool
 | 0=>false
 | k+1=>if lgI c k=4 then pcG c k else decide (lgI c k=14)
def riG(c:List Int):Nat->Nat
 | 0=>0
 | k+1=>if lgI c k=6 then riG c k+1 else 0
def mX(c:List Int)(i:Nat):Bool:=
 if lgI c (i-1)=1/\lgI c i=2 then false
 else if ctS (lgI c (i-1))=true\/ctS (lgI c i)=true then true
 else if lgI c (i-1)=9/\(lgI c i=9\/lgI c i=10\/lgI c i=12\/lgI c i=13) then false
 else if (lgI c (i-1)=12\/lgI c (i-1)=10)/\(lgI c i=10\/lgI c i=11) then false
 else if (lgI c (i-1)=13\/lgI c (i-1)=11)/\lgI c i=11 then false
 else if lgI c i=4\/lgI c i=5\/lgI c i=8\/lgI c (i-1)=7 then false
 else if lgI c i=14/\(lgI c (i-1)=5/\pcG c (i-1)=true) then false
 else if lgI c (i-1)=6/\lgI c i=6 then decide (((riG c i:Nat):Int).tmod 2=0)
 else true
section
variable {prim:FuncId->Option Prim}(d:Nat)
theorem Ij(hp:∀ f,Np5 f->prim f=none)(cfg:Cfg)(h:Heap)(x:Int):af md (K prim (d+1)) cfg 127 [.int .i64 x] h=some (.bool (ctS x),h):=by
 refine aU rfl (hp 127 (by decide)) Tryz.func127 rfl rfl rfl (by simp) ?_;by_cases h1:x=3
 ·simp[h1,ctS]
 by_cases h2:x=1
 ·simp[h2,ctS]
 by_cases h3:x=2<;>simp[h1,h2,h3,ctS]
theorem Gk(hp:∀ f,Np5 f->prim f=none)(H:Heap)(b:Nat)(c:List Int)(hb:ab H b=some (c.map (V.int .i64)))(hc:c.length<=2000)(i:Nat)(h1:0<i)(hi:i<c.length)(cfg:Cfg):
  af md (K prim (d+1)) cfg 128 [.sl b 0 c.length c.length 1,.int .i64 i] H=some (.bool (decide (lgI c (i-1)=5)&&pcG c (i-1)),H):=by
 suffices HH:∃ r h2,(∀ cfg,af md (K prim (d+1)) cfg 128 [.sl b 0 c.length c.length 1,.int .i64 i] H=some (r,h2))/\(r=.bool (decide (lgI c (i-1)=5)&&pcG c (i-1))/\h2=H) by
  obtain⟨_,_,h,rfl,rfl⟩:=HH;exact h cfg
 refine er (Post:=fun r h2=>r=.bool (decide (lgI c (i-1)=5)&&pcG c (i-1))/\h2=H) rfl (hp 128 (by decide)) Tryz.func128 rfl rfl rfl (by simp) ?_;have e1:(i:Int)-1=((i-1:Nat):Int):=by omega
 have h4:i-1<c.length:=by omega
 simp +contextual (disch:=first|omega|(simp;done)|(simp[Lj];done)|fail) [-ar,wrap64,-getElem?_pos,hb,e1,atI];refine aq (fun hz=>?_) (fun hz=>?_)
 ·have h5:¬ lgI c (i-1)=5:=by simpa using hz
  simp[h5]
 have h5:lgI c (i-1)=5:=by simpa using hz
 simp(disch:=omega)[wrap64];refine ai (fun m fr H'=>∃ q:Nat,q<=i-1/\m=q/\pcG c (i-1)=pcG c q/\H'=H/\Slots 35 [(0,.sl b 0 c.length c.length 1),(5,.int .i64 ((q:Int)-1))] fr) (m:=i-1) (by omega) ⟨i-1,by omega,rfl,rfl,rfl,by simp⟩ ?_;rintro m fr H' ⟨q,hq,h3,h0,rfl,hs⟩;replace h3:=h3.symm;subst h3;obtain⟨j,rfl⟩:=hs.ex;clear hs;rcases q with _|q
 ·rw[h0];simp +contextual (disch:=first|omega|(simp;done)|(simp[Lj];done)|fail) [-ar,cC,ax,cL,cP,-getElem?_pos];exact fun _=>rfl
 ·have e2:((q+1:Nat):Int)-1=q:=by omega
  have e3:q<c.length:=by omega
  rw[pcG]at h0;simp +contextual (disch:=first|omega|(simp;done)|(simp[Lj];done)|fail) [-ar,cC,ax,aG,-getElem?_pos,hb,atI];refine aq (fun hz=>?_) (fun hz=>?_)
  ·rw[if_pos (by simpa using hz)]at h0;simp(disch:=omega)[wrap64];exact ae (m':=q) (by omega) ⟨q,by omega,rfl,h0,rfl,by simp⟩
  ·rw[if_neg (by simpa using hz)]at h0;rw[h0,h5];simp +contextual (disch:=first|omega|(simp;done)|(simp[Lj];done)|fail) [-ar,cC,ax,aG,-getElem?_pos,hb,atI]
theorem wg(hp:∀ f,Np5 f->prim f=none)(H:Heap)(b:Nat)(c:List Int)(hb:ab H b=some (c.map (V.int .i64)))(hc:c.length<=2000)(i:Nat)(h1:0<i)(hi:i<c.length)(cfg:Cfg):
  af md (K prim (d+2)) cfg 91 [.sl b 0 c.length c.length 1,.int .i64 i] H=some (.bool (mX c i),H):=by
 suffices HH:∃ r h2,(∀ cfg,af md (K prim (d+2)) cfg 91 [.sl b 0 c.length c.length 1,.int .i64 i] H=some (r,h2))/\(r=.bool (mX c i)/\h2=H) by
  obtain⟨_,_,h,rfl,rfl⟩:=HH;exact h cfg
 refine er (Post:=fun r h2=>r=.bool (mX c i)/\h2=H) rfl (hp 91 (by decide)) Tryz.func91 rfl rfl rfl (by simp) ?_;have e1:(i:Int)-1=((i-1:Nat):Int):=by omega
 have h8:i-1<c.length:=by omega
 have hx:=atI (l:=c) (i:=i-1) h8;have hy:=atI (l:=c) (i:=i) hi;have hC:=fun cfg h x=>Ij (prim:=prim) d hp cfg h x;have hP:=fun cfg=>Gk (prim:=prim) d hp H b c hb hc i h1 hi cfg;obtain⟨x,h6⟩:∃ x,lgI c (i-1)=x:=⟨_,rfl⟩;obtain⟨y,h7⟩:∃ y,lgI c i=y:=⟨_,rfl⟩;have hE:mX c i=(if x=1/\y=2 then false else if ctS x=true\/ctS y=true then true else if x=9/\(y=9\/y=10\/y=12\/y=13) then false else if (x=12\/x=10)/\(y=10\/y=11) then false else if (x=13\/x=11)/\y=11 then false else if y=4\/y=5\/y=8\/x=7 then false else if y=14/\(x=5/\pcG c (i-1)=true) then false else if x=6/\y=6 then decide (((riG c i:Nat):Int).tmod 2=0) else true):=by unfold mX;rw[h6,h7]
 rw[h6]at hx hP;rw[h7]at hy;simp;refine ah 10 (by kernel_rfl) ?_;simp +contextual (disch:=first|omega|(simp;done)|(simp[Lj];done)|fail) [-ar,cC,ax,aG,cx,wrap64,-getElem?_pos,hb,e1,hx,hy];refine aq (fun hz=>?_) (fun hz=>?_)
 ·have g:x=1/\y=2:=by simpa using hz
  rw[if_pos g]at hE;simp[hE]
 have g:¬ (x=1/\y=2):=by simpa using hz
 rw[if_neg g]at hE;simp +contextual (disch:=first|omega|(simp;done)|(simp[Lj];done)|fail) [-ar,cC,ax,aG,cr,hC];refine aq (fun hz=>?_) (fun hz=>?_)
 ·have g:ctS x=true\/ctS y=true:=by simpa using hz
  rw[if_pos g]at hE;simp[hE]
 have g:¬ (ctS x=true\/ctS y=true):=by simpa using hz
 rw[if_neg g]at hE;simp +contextual (disch:=first|omega|(simp;done)|(simp[Lj];done)|fail) [-ar,cC,HN,ax,aG,cP,cx,cr];refine aq (fun hz=>?_) (fun hz=>?_)
 ·have g:x=9/\(y=9\/y=10\/y=12\/y=13):=by simp at hz;omega
  rw[if_pos g]at hE;simp[hE]
 have g:¬ (x=9/\(y=9\/y=10\/y=12\/y=13)):=by simp at hz;omega
 rw[if_neg g]at hE;simp +contextual (disch:=first|omega|(simp;done)|(simp[Lj];done)|fail) [-ar,cC,HN,ax,aG,cx,cr];refine aq (fun hz=>?_) (fun hz=>?_)
 ·have g:(x=12\/x=10)/\(y=10\/y=11):=by simp at hz;omega
  rw[if_pos g]at hE;simp[hE]
 have g:¬ ((x=12\/x=10)/\(y=10\/y=11)):=by simp at hz;omega
 rw[if_neg g]at hE;simp +contextual (disch:=first|omega|(simp;done)|(simp[Lj];done)|fail) [-ar,cC,ax,aG,cx,cr];refine aq (fun hz=>?_) (fun hz=>?_)
 ·have g:(x=13\/x=11)/\y=11:=by simp at hz;omega
  rw[if_pos g]at hE;simp[hE]
 have g:¬ ((x=13\/x=11)/\y=11):=by simp at hz;omega
 rw[if_neg g]at hE;simp +contextual (disch:=first|omega|(simp;done)|(simp[Lj];done)|fail) [-ar,cC,ax,aG,cr];refine aq (fun hz=>?_) (fun hz=>?_)
 ·have g:y=4\/y=5\/y=8\/x=7:=by simp at hz;omega
  rw[if_pos g]at hE;simp[hE]
 have g:¬ (y=4\/y=5\/y=8\/x=7):=by simp at hz;omega
 rw[if_neg g]at hE;simp +contextual (disch:=first|omega|(simp;done)|(simp[Lj];done)|fail) [-ar,cC,ax,aG,cx,hP];refine aq (fun hz=>?_) (fun hz=>?_)
 ·have g:y=14/\(x=5/\pcG c (i-1)=true):=by simpa using hz
  rw[if_pos g]at hE;simp[hE]
 have g:¬ (y=14/\(x=5/\pcG c (i-1)=true)):=by simpa using hz
 rw[if_neg g]at hE;simp +contextual (disch:=first|omega|(simp;done)|(simp[Lj];done)|fail) [-ar,cC,ax,aG,cP,cx];refine aq (fun hz=>?_) (fun hz=>?_)
 ·have g:x=6/\y=6:=by simpa using hz
  rw[if_pos g]at hE;simp(disch:=omega)[wrap64];refine ai (fun m fr H'=>∃ (q n:Nat),q<=i/\m=q/\n+q<=i/\riG c i=n+riG c q/\H'=H/\Slots 125 [(0,.sl b 0 c.length c.length 1),(7,.int .i64 n),(8,.int .i64 ((q:Int)-1))] fr) (m:=i) (by omega) ⟨i,0,by omega,rfl,by omega,by omega,rfl,by simp⟩ ?_;rintro m fr H' ⟨q,n,hq,h3,h9,h0,rfl,hs⟩;replace h3:=h3.symm;subst h3;obtain⟨j,rfl⟩:=hs.ex;clear hs;rcases q with _|q
  ·have h4:riG c i=n:=by rw[h0];rfl
   simp +contextual (disch:=first|omega|(simp;done)|(simp[Lj];done)|fail) [-ar,cC,ax,cL,cP,-getElem?_pos];rw[hE,h4]
  ·have e2:((q+1:Nat):Int)-1=q:=by omega
   have e3:q<c.length:=by omega
   rw[riG]at h0;simp +contextual (disch:=first|omega|(simp;done)|(simp[Lj];done)|fail) [-ar,cC,ax,aG,-getElem?_pos,hb,atI];refine aq (fun hz=>?_) (fun hz=>?_)
   ·rw[if_pos (by simpa using hz)]at h0;simp(disch:=omega)[wrap64];exact ae (m':=q) (by omega) ⟨q,n+1,by omega,rfl,by omega,by omega,rfl,by simp(disch:=omega)⟩
   ·rw[if_neg (by simpa using hz),MT]at h0;simp(disch:=omega);rw[hE,h0]
 have g:¬ (x=6/\y=6):=by simpa using hz
 rw[if_neg g]at hE;simp[hE]
def eD(c:List Int):Nat->List Int
 | 0=>[0]
 | q+1=>if mX c (q+1)=true then eD c q++[((q+1:Nat):Int)] else eD c q
def cu(t:List Int):List Int:=if t=[] then [] else eD (t.map cBr) (t.length-1)++[(t.length:Int)]
theorem lX{c:List Int}:∀ q,(eD c q).length<=q+1
 | 0=>by simp[eD]
 | q+1=>by
  have:=lX (c:=c) q;rw[eD];split
  ·simp;omega
  ·omega
theorem lY(hp:∀ f,Np5 f->prim f=none)(t:List Int)(ht:t.length<=2000)(cfg:Cfg)(h:Heap):
  af md (K prim (d+4)) cfg 51 [rl t] h=some (il (cu t),h):=by
 refine aU rfl (hp 51 (by decide)) Tryz.func51 rfl rfl rfl (by simp) ?_;have hd:¬ (2000:Int)<t.length:=by omega
 by_cases h0:t=[]
 ·subst h0;simp;rfl
 have he:0<t.length:=L7.2 h0;have h1:¬ (t.length:Int)=0:=by omega
 have hB:=fun cfg h r=>xz (prim:=prim) d hp cfg h r;have hz:(List.replicate t.length (0:Int)).length=t.length:=by simp
 simp(disch:=omega)[h0,hd,jS,-List.map_replicate];generalize List.replicate t.length (0:Int)=z0 at *;have h7:(t.map cBr).length=z0.length:=by rw[hz];simp
 have hf:∀ i,i<t.length->(t.map cBr)[i]?=some (cBr (lgI t i)):=fun i hi=>by rw[Ln,atI hi];rfl
 refine ai (fun m fr H=>∃ (i:Nat),i<=t.length/\m=t.length-i/\H=[some (((t.map cBr).take i++z0.drop i).map (V.int .i64))] /\
  Slots 51 [(0,rl t),(3,.sl 0 0 t.length t.length 1),(19,rl t),(20,.int .i64 t.length),(21,.int .i64 i)] fr) (m:=t.length) (by omega) ⟨0,by omega,by omega,by simp,by simp⟩ ?_
 rintro m fr H ⟨i,hi,rfl,rfl,hs⟩;obtain⟨j,rfl⟩:=hs.ex;clear hs;have hc:=@bj _ _ _ h7 i;rw[hz]at hc;by_cases h8:i<t.length
 ·have hle:i+1<=t.length:=by omega
  have hg:=dp h7 (hf i h8);generalize hh:(t.map cBr).take (i+1)++z0.drop (i+1)=st1 at *;generalize (t.map cBr).take i++z0.drop i=st at *;simp(disch:=omega)[-List.map_set,h8,hB,atI,hc,hle,wrap64,-getElem?_pos];exact ae (m':=t.length-(i+1)) (by omega) ⟨i+1,by omega,by omega,by rw[hh,<- hg],by simp(disch:=omega)⟩
 obtain rfl:i=t.length:=by omega
 rw[dA h7 (by omega)];have hj:(t.map cBr).length=t.length:=by simp
 have h9:cu t=eD (t.map cBr) (t.length-1)++[(t.length:Int)]:=by unfold cu;rw[if_neg h0]
 generalize t.map cBr=c at *;have hl:¬ ((t.length:Int)<t.length):=by omega
 simp(disch:=omega)[hl];have g0:Hp [some (c.map (V.int .i64))] [some (c.map (V.int .i64))] []:=Hp.start;refine ai (fun m fr H=>∃ (q:Nat) (v:V),q+1<=t.length/\m=t.length-(q+1)/\Hp H [some (c.map (V.int .i64))] [(1,v,(eD c q).map (V.int .i64))] /\
  Slots 51 [(0,rl t),(3,.sl 0 0 t.length t.length 1),(6,v),(7,.int .i64 ((q:Int)+1))] fr) (m:=t.length-1) (by omega) ⟨0,.sl 1 0 1 1 1,by omega,by omega,by simpa[eD]using g0.new (cs:=[V.int .i64 0]) (n:=1) (k:=1) rfl rfl [],by simp⟩ ?_
 rintro m fr H ⟨q,v,hq,rfl,h6,hs⟩;obtain⟨j2,rfl⟩:=hs.ex;clear hs;have hn:=lX (c:=c) q;by_cases h8:q+1<t.length
 ·have hI:(q:Int)+1<t.length:=by omega
  have hm:ab H 0=some (c.map (V.int .i64)):=by rw[h6.block (by simp)];simp[ab]
  have h4:=fun cfg=>wg (prim:=prim) (d+1) hp H 0 c hm (by omega) (q+1) (by omega) (by omega) cfg;rw[hj]at h4;have e1:((q+1:Nat):Int)=(q:Int)+1:=by omega
  rw[e1]at h4;have hT:eD c (q+1)=if mX c (q+1)=true then eD c q++[((q+1:Nat):Int)] else eD c q:=rfl;cases hb:mX c (q+1)
  ·rw[hb]at h4 hT;rw[if_neg (by simp)]at hT;simp(disch:=omega)[hI,h4,wrap64];exact ae (m':=t.length-(q+1+1)) (by omega) ⟨q+1,v,by omega,by omega,by rw[hT];exact h6,by simp(disch:=omega)⟩
  ·rw[hb]at h4 hT;rw[if_pos rfl]at hT;have ha:ab (H++[some [V.int .i64 ((q:Int)+1)]]) H.length=some [V.int .i64 ((q:Int)+1)]:=by rw[bw rfl];rfl
   simp(disch:=omega)[hI,h4,ha];refine bH (m:=1) (h6.push [some [V.int .i64 ((q:Int)+1)]]) (by simp) rfl rfl (by omega) (by omega) (by simp;omega) (by simp;omega) ?_;intro v' H' h3;simp(disch:=omega)[wrap64];exact ae (m':=t.length-(q+1+1)) (by omega) ⟨q+1,v',by omega,by omega,by rw[hT];simpa using h3,by simp(disch:=omega)⟩
 ·have hI:¬ (q:Int)+1<t.length:=by omega
  obtain rfl:q=t.length-1:=by omega
  have ha:ab (H++[some [V.int .i64 (t.length:Int)]]) H.length=some [V.int .i64 (t.length:Int)]:=by rw[bw rfl];rfl
  simp(disch:=omega)[hI,ha];refine bH (m:=1) (h6.push [some [V.int .i64 (t.length:Int)]]) (by simp) rfl rfl (by omega) (by omega) (by simp;omega) (by simp;omega) ?_;intro v' H' h3;have f1:=OwnC.frzI (d:=4) (kd:=.i64) (l:=eD c (t.length-1)++[(t.length:Int)]) (n:=0) (by simpa using h3.head) (LJ _);simp(disch:=omega);rw[f1,h9]
end
end Bi
end Go.Ab
