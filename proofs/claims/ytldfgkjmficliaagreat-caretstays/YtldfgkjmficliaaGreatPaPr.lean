/- Several texts of this proof in one. -/
import Derived.Test.YtldfgkjmficliaaGreatPaCl
set_option linter.all false
set_option maxHeartbeats 16000000
set_option maxRecDepth 100000
namespace Go.Ab
open Go.Proofs Go.Proofs.Tryz
namespace Bi
attribute [local congr] aw
section
variable {prim:FuncId->Option Prim}(d:Nat)
theorem Cr(hp:∀ f,Np5 f->prim f=none)(t:List Int)(ht:t.length<=2000)(cfg:Cfg)(h:Heap)(he:cfg.lo<=h.length):
  ∃ v H,aN prog md prim 10000 (d+4) cfg 51 [rl t] h=some (v,H)/\Hp H h [(1,v,(cu t).map (V.int .i64))]:=by
 refine cw (R:=fun v H=>Hp H h [(1,v,(cu t).map (V.int .i64))]) (hp 51 (by decide)) func51 rfl rfl rfl ?_;have hf:¬ (2000:Int)<t.length:=by omega
 by_cases h0:t=[]
 ·subst h0;simp;exact Hp.start.nil 1
 have hg:0<t.length:=L7.2 h0;have hB:=fun cfg h r=>xz (prim:=prim) d hp cfg h r;have hz:(List.replicate t.length (0:Int)).length=t.length:=by simp
 have hh:cfg.wr h.length=true:=bq he;simp(disch:=omega)[h0,hf,jS,-List.map_replicate];generalize List.replicate t.length (0:Int)=z0 at *;have h9:(t.map cBr).length=z0.length:=by rw[hz];simp
 have hj:∀ i,i<t.length->(t.map cBr)[i]?=some (cBr (lgI t i)):=fun i hi=>by rw[Ln,atI hi];rfl
 refine ai (fun m fr H=>∃ (i:Nat),i<=t.length/\m=t.length-i/\H=h++[some (((t.map cBr).take i++z0.drop i).map (V.int .i64))] /\
  Slots 51 [(0,rl t),(3,.sl h.length 0 t.length t.length 1),(19,rl t),(20,.int .i64 t.length),(21,.int .i64 i)] fr) (m:=t.length) (by omega) ⟨0,by omega,by omega,by simp,by simp⟩ ?_
 rintro m fr H ⟨i,hi,rfl,rfl,hs⟩;obtain⟨j,rfl⟩:=hs.ex;clear hs;have hd:=@bj _ _ _ h9 i;rw[hz]at hd;by_cases ha:i<t.length
 ·have hle:i+1<=t.length:=by omega
  have hl:=dp h9 (hj i ha);generalize hm:(t.map cBr).take (i+1)++z0.drop (i+1)=st1 at *;generalize (t.map cBr).take i++z0.drop i=st at *;have h6:ab (h++[some (st.map (V.int .i64))]) h.length=some (st.map (V.int .i64)):=by rw[bw rfl,dN];rfl
  simp(disch:=omega)[-List.map_set,ha,hB,atI,hd,hle,hh,h6,wrap64,-getElem?_pos];exact ae (m':=t.length-(i+1)) (by omega) ⟨i+1,by omega,by omega,by rw[hm,<- hl],by simp(disch:=omega)⟩
 obtain rfl:i=t.length:=by omega
 rw[dA h9 (by omega)];have hn:(t.map cBr).length=t.length:=by simp
 have hc:cu t=eD (t.map cBr) (t.length-1)++[(t.length:Int)]:=by unfold cu;rw[if_neg h0]
 generalize t.map cBr=c at *;have hr:¬ ((t.length:Int)<t.length):=by omega
 simp(disch:=omega)[hr];have g0:Hp (h++[some (c.map (V.int .i64))]) (h++[some (c.map (V.int .i64))]) []:=Hp.start;refine ai (fun m fr H=>∃ (q:Nat) (v:V),q+1<=t.length/\m=t.length-(q+1)/\Hp H (h++[some (c.map (V.int .i64))]) [(1,v,(eD c q).map (V.int .i64))] /\
  Slots 51 [(0,rl t),(3,.sl h.length 0 t.length t.length 1),(6,v),(7,.int .i64 ((q:Int)+1))] fr) (m:=t.length-1) (by omega) ⟨0,.sl (h.length+1) 0 1 1 1,by omega,by omega,by simpa[eD]using g0.new (cs:=[V.int .i64 0]) (n:=1) (k:=1) rfl rfl [],by simp⟩ ?_
 rintro m fr H ⟨q,v,hq,rfl,h8,hs⟩;obtain⟨j2,rfl⟩:=hs.ex;clear hs;have hv:=lX (c:=c) q;by_cases ha:q+1<t.length
 ·have hI:(q:Int)+1<t.length:=by omega
  have hu:ab H h.length=some (c.map (V.int .i64)):=by rw[h8.block (by simp),bw rfl,dN];rfl
  have h4:=fun cfg=>wg (prim:=prim) (d+1) hp H h.length c hu (by omega) (q+1) (by omega) (by omega) cfg;rw[hn]at h4;have e1:((q+1:Nat):Int)=(q:Int)+1:=by omega
  rw[e1]at h4;have hT:eD c (q+1)=if mX c (q+1)=true then eD c q++[((q+1:Nat):Int)] else eD c q:=rfl;cases hb:mX c (q+1)
  ·rw[hb]at h4 hT;rw[if_neg (by simp)]at hT;simp(disch:=omega)[hI,h4,wrap64];exact ae (m':=t.length-(q+1+1)) (by omega) ⟨q+1,v,by omega,by omega,by rw[hT];exact h8,by simp(disch:=omega)⟩
  ·rw[hb]at h4 hT;rw[if_pos rfl]at hT;have h6:ab (H++[some [V.int .i64 ((q:Int)+1)]]) H.length=some [V.int .i64 ((q:Int)+1)]:=by rw[bw rfl];rfl
   simp(disch:=omega)[hI,h4,h6];refine bH (m:=1) (h8.push [some [V.int .i64 ((q:Int)+1)]]) (by simp;omega) rfl rfl (by omega) (by omega) (by simp;omega) (by simp;omega) ?_;intro v' H' h3;simp(disch:=omega)[wrap64];exact ae (m':=t.length-(q+1+1)) (by omega) ⟨q+1,v',by omega,by omega,by rw[hT];simpa using h3,by simp(disch:=omega)⟩
 ·have hI:¬ (q:Int)+1<t.length:=by omega
  obtain rfl:q=t.length-1:=by omega
  have h6:ab (H++[some [V.int .i64 (t.length:Int)]]) H.length=some [V.int .i64 (t.length:Int)]:=by rw[bw rfl];rfl
  simp(disch:=omega)[hI,h6];refine bH (m:=1) (h8.push [some [V.int .i64 (t.length:Int)]]) (by simp;omega) rfl rfl (by omega) (by omega) (by simp;omega) (by simp;omega) ?_;intro v' H' h3;have h7:=h3.cut (n:=h.length) (by simp);rw[ON]at h7;rw[hc];simp(disch:=omega);simpa using h7
end
def cmS(c:Int):Bool:=decide (c=6)||decide (c=7)
def spS(c:List Int)(k:Int):Nat->Bool
 | 0=>false
 | i+1=>if lgI c i=4 then spS c k i else decide (lgI c i=k)
def rgS(raw:List Int):Nat->Nat
 | 0=>0
 | i+1=>if lgI raw i=19 then rgS raw i+1 else 0
def hrS(c:Int):Bool:=decide (c=1)||decide (c=2)||decide (c=3)||decide (c=4)||decide (c=5)
abbrev scC(raw c:List Int)(bd:List Bool):List V:=[il raw,il c,bl bd]
section
variable {prim:FuncId->Option Prim}(d:Nat)
theorem yV(hp:∀ f,Np5 f->prim f=none)(cfg:Cfg)(h:Heap)(x:Int):af md (K prim (d+1)) cfg 121 [.int .i64 x] h=some (.bool (cmS x),h):=by
 refine aU rfl (hp 121 (by decide)) func121 rfl rfl rfl (by simp) ?_;by_cases h1:x=6<;>by_cases h2:x=7<;>simp[h1,h2,cmS]
theorem zh(hp:∀ f,Np5 f->prim f=none)(cfg:Cfg)(h:Heap)(x:Int):af md (K prim (d+1)) cfg 122 [.int .i64 x] h=some (.bool (hrS x),h):=by
 refine aU rfl (hp 122 (by decide)) func122 rfl rfl rfl (by simp) ?_;by_cases h1:x=1
 ·simp[h1,hrS]
 by_cases h2:x=2
 ·simp[h2,hrS]
 by_cases h3:x=3
 ·simp[h3,hrS]
 by_cases h4:x=4
 ·simp[h4,hrS]
 by_cases h5:x=5<;>simp[h1,h2,h3,h4,h5,hrS]
theorem BA(hp:∀ f,Np5 f->prim f=none)(cfg:Cfg)(h:Heap)(raw c:List Int)(bd:List Bool)(hc:c.length<=2000)(i:Nat)(hi:i<=c.length)(k:Int):
  af md (K prim (d+1)) cfg 124 [.agg (scC raw c bd),.int .i64 i,.int .i64 k] h=some (.bool (spS c k i),h):=by
 refine aU rfl (hp 124 (by decide)) func124 rfl rfl rfl (by simp) ?_;simp(disch:=omega)[wrap64];refine ai (fun m fr H=>∃ (q:Nat),q<=i/\m=q/\spS c k i=spS c k q/\H=[some (scC raw c bd)] /\
  Slots 32 [(1,.int .i64 ((q:Int)-1)),(2,.int .i64 k),(3,.ptr 0 0)] fr) (m:=i) (by omega) ⟨i,by omega,rfl,rfl,by simp,by simp⟩ ?_
 rintro m fr H ⟨q,hq,h3,h0,rfl,hs⟩;replace h3:=h3.symm;subst h3;obtain⟨j,rfl⟩:=hs.ex;clear hs;rcases q with _|q
 ·simp +contextual (disch:=first|omega|(simp;done)|(simp[Lj];done)|fail) [-ar,cC,ax,cL,cP,-getElem?_pos];rw[h0];rfl
 ·have e1:((q+1:Nat):Int)-1=q:=by omega
  have h4:q<c.length:=by omega
  rw[spS]at h0;simp +contextual (disch:=first|omega|(simp;done)|(simp[Lj];done)|fail) [-ar,cC,ax,aG,-getElem?_pos,atI];refine aq (fun hb=>?_) (fun hb=>?_)
  ·rw[if_pos (by simpa using hb)]at h0;simp(disch:=omega)[wrap64];exact ae (m':=q) (by omega) ⟨q,by omega,rfl,h0,rfl,by simp(disch:=omega)⟩
  ·rw[if_neg (by simpa using hb)]at h0;simp +contextual (disch:=first|omega|(simp;done)|(simp[Lj];done)|fail) [-ar,cC,ax,aG,-getElem?_pos,atI];exact h0.symm
theorem wu(hp:∀ f,Np5 f->prim f=none)(cfg:Cfg)(h:Heap)(raw c:List Int)(bd:List Bool)(hc:raw.length<=2000)(i:Nat)(hi:i<=raw.length):
  af md (K prim (d+1)) cfg 125 [.agg (scC raw c bd),.int .i64 i] h=some (.int .i64 (rgS raw i),h):=by
 refine aU rfl (hp 125 (by decide)) func125 rfl rfl rfl (by simp) ?_;simp(disch:=omega)[wrap64];refine ai (fun m fr H=>∃ (q n:Nat),q<=i/\m=q/\rgS raw i=n+rgS raw q/\n+q<=i/\H=[some (scC raw c bd)] /\
  Slots 23 [(1,.int .i64 ((q:Int)-1)),(2,.ptr 0 0),(5,.int .i64 n)] fr) (m:=i) (by omega) ⟨i,0,by omega,rfl,by simp,by omega,by simp,by simp⟩ ?_
 rintro m fr H ⟨q,n,hq,h3,h0,h4,rfl,hs⟩;replace h3:=h3.symm;subst h3;obtain⟨j,rfl⟩:=hs.ex;clear hs;rcases q with _|q
 ·simp +contextual (disch:=first|omega|(simp;done)|(simp[Lj];done)|fail) [-ar,cC,ax,cL,cP,-getElem?_pos];rw[h0];rfl
 ·have e1:((q+1:Nat):Int)-1=q:=by omega
  have h6:q<raw.length:=by omega
  rw[rgS]at h0;simp +contextual (disch:=first|omega|(simp;done)|(simp[Lj];done)|fail) [-ar,cC,ax,aG,-getElem?_pos,atI];refine aq (fun hb=>?_) (fun hb=>?_)
  ·rw[if_pos (by simpa using hb)]at h0;simp(disch:=omega)[wrap64];exact ae (m':=q) (by omega) ⟨q,n+1,by omega,rfl,by omega,by omega,rfl,by simp(disch:=omega)⟩
  ·rw[if_neg (by simpa using hb)]at h0;simp(disch:=omega);rw[h0];rfl
theorem Jk(hp:∀ f,Np5 f->prim f=none)(cfg:Cfg)(x:Int)(l:List Int)(hl:l.length<=100)(H:Heap)(b:Nat)(hb:ab H b=some (l.map (V.int .i64))):
  af md (K prim (d+1)) cfg 123 [.int .i64 x,.sl b 0 l.length l.length 1] H=some (.bool (decide (x∈l)),H):=by
 suffices HH:∃ r h2,(∀ cfg,af md (K prim (d+1)) cfg 123 [.int .i64 x,.sl b 0 l.length l.length 1] H=some (r,h2))/\(r=.bool (decide (x∈l))/\h2=H) by
  obtain⟨_,_,h,rfl,rfl⟩:=HH;exact h cfg
 refine er (Post:=fun r h2=>r=.bool (decide (x∈l))/\h2=H) rfl (hp 123 (by decide)) func123 rfl rfl rfl (by simp) ?_;simp(disch:=omega);refine ai (fun m fr Hc=>∃ (i:Nat),i<=l.length/\m=l.length-i/\x ∉ l.take i/\Hc=H /\
  Slots 17 [(0,.int .i64 x),(7,.sl b 0 l.length l.length 1),(8,.int .i64 l.length),(9,.int .i64 i)] fr) (m:=l.length) (by omega) ⟨0,by omega,by omega,by simp,rfl,by simp⟩ ?_
 rintro m fr Hc ⟨i,hi,rfl,hx,rfl,hs⟩;obtain⟨j,rfl⟩:=hs.ex;clear hs;by_cases h3:i<l.length
 ·have hI:(i:Int)<l.length:=by omega
  have w0:slot (l.map (V.int .i64)) i=some (.int .i64 (lgI l i)):=by rw[slot,Ln,atI (by omega)];rfl
  have q1:i+1<=l.length:=by omega
  have hm:=Le (atI h3);simp(disch:=omega)[hI,hb,w0,-getElem?_pos];refine aq (fun hc=>?_) (fun hc=>?_)
  ·have h0:x=lgI l i:=by simpa using hc
   simp(disch:=omega);rw[h0];exact hm
  ·have h0:¬ x=lgI l i:=by simpa using hc
   simp(disch:=omega)[wrap64];refine ae (m':=l.length-(i+1)) (by omega) ⟨i+1,by omega,by omega,?_,rfl,by simp(disch:=omega)⟩;rw[LO,atI h3];simp[hx,h0]
 ·obtain rfl:i=l.length:=by omega
  rw[LQ]at hx;simp(disch:=omega);exact hx
end
def fwS(j:Int):Bool:=decide (j=2)||decide (j=3)
def bwS(j:Int):Bool:=decide (j=1)||fwS j
def jnS(t l:List Int)(i:Nat)(f:Int):List Int:=
 if ¬ cJn (lgI t i)=1/\¬ cJn (lgI t i)=2 then l else l.set i (if ¬ lgI l i=0/\¬ lgI l i=f then 3 else f)
theorem pa{t l:List Int}{i:Nat}{f:Int}:(jnS t l i f).length=l.length:=by
 unfold jnS;split<;>simp
def fmS(t:List Int):Nat->List Int×Int
 | 0=>(List.replicate t.length 0,-1)
 | n+1=>if cJn (lgI t n)=4 then fmS t n else
  (if (0<=(fmS t n).2/\fwS (cJn (lgI t (fmS t n).2.toNat))=true)/\bwS (cJn (lgI t n))=true then jnS t (jnS t (fmS t n).1 (fmS t n).2.toNat 2) n 1 else (fmS t n).1,n)
theorem oV{t:List Int}:∀ n,(fmS t n).1.length=t.length
 | 0=>by simp[fmS]
 | n+1=>by
  have h:=oV (t:=t) n;unfold fmS;split
  ·exact h
  ·show (if _ then _ else _:List Int).length=_;split
   ·rw[pa,pa,h]
   ·exact h
theorem vn{t:List Int}:∀ n,-1<=(fmS t n).2/\(fmS t n).2<n
 | 0=>by simp[fmS]
 | n+1=>by
  have h:=vn (t:=t) n;unfold fmS;split
  ·omega
  ·show -1<=(n:Int)/\(n:Int)<(n:Int)+1;omega
def eU(t:List Int):List Int:=(fmS t t.length).1
section
variable {prim:FuncId->Option Prim}(d:Nat)
theorem CQ(hp:∀ f,Np5 f->prim f=none)(cfg:Cfg)(h:Heap)(j:Int):af md (K prim (d+1)) cfg 130 [.int .i64 j] h=some (.bool (fwS j),h):=by
 refine aU rfl (hp 130 (by decide)) func130 rfl rfl rfl (by simp) ?_;simp +contextual (disch:=first|omega|(simp;done)|(simp[Lj];done)|fail) [-ar,cC,ax,aG,cr,fwS]
theorem HZ(hp:∀ f,Np5 f->prim f=none)(cfg:Cfg)(h:Heap)(j:Int):af md (K prim (d+2)) cfg 131 [.int .i64 j] h=some (.bool (bwS j),h):=by
 refine aU rfl (hp 131 (by decide)) func131 rfl rfl rfl (by simp) ?_;have hF:=fun cfg h j=>CQ (prim:=prim) d hp cfg h j;simp +contextual (disch:=first|omega|(simp;done)|(simp[Lj];done)|fail) [-ar,cC,ax,aG,cr,hF,bwS]
theorem zr(hp:∀ f,Np5 f->prim f=none)(cfg:Cfg)(t l:List Int)(i:Nat)(f:Int)(hi:i<t.length)(hl:l.length=t.length)(H:Heap)(b cap:Nat)(hb:ab H b=some (l.map (V.int .i64)))(hw:cfg.wr b=true):
  af md (K prim (d+4)) cfg 132 [.sl b 0 l.length cap 1,rl t,.int .i64 i,.int .i64 f] H=some (.tup [],H.set b (some ((jnS t l i f).map (V.int .i64)))):=by
 have h0:(Cfg.wr ⟨cfg.lo,cfg.ex,H.length⟩ b)=true:=hw;have h3:=al hb;refine call1 rfl (hp 132 (by decide)) func132 rfl rfl rfl ?_;have hJ:=fun cfg h r=>Cm (prim:=prim) d hp cfg h r;have hI:(i:Int)<t.length:=by omega
 have w0:slot (l.map (V.int .i64)) i=some (.int .i64 (lgI l i)):=by rw[slot,Ln,atI (by omega)];rfl
 have q1:i+1<=l.length:=by omega
 simp +contextual (disch:=first|omega|(simp;done)|(simp[Lj];done)|fail) [-ar,cC,ax,aG,cx,-getElem?_pos,hJ,atI];refine aq (fun hc=>?_) (fun hc=>?_)
 ·have hj:jnS t l i f=l:=by
   unfold jnS;rw[if_pos (by simpa using hc)]
  simp[hj];exact (eR hb).symm
 simp +contextual (disch:=first|omega|(simp;done)|(simp[Lj];done)|fail) [-ar,cC,ax,aG,cx,-getElem?_pos,w0,hb,hl];have hj:∀ x,(if ¬ lgI l i=0/\¬ lgI l i=f then 3 else f)=x->jnS t l i f=l.set i x:=fun x hx=>by
  unfold jnS;rw[if_neg (by simpa using hc),hx]
 refine aq (fun hd=>?_) (fun hd=>?_)
 ·rw[hj 3 (if_pos (by simpa using hd))];simp(disch:=omega)[hb,h0,hl];rw[if_pos (by omega)];simp[MB];exact Lu (by simp)
 ·rw[hj f (if_neg (by simpa using hd))];simp(disch:=omega)[hb,h0,hl];rw[if_pos (by omega)];simp[MB];exact Lu (by simp)
theorem AP(hp:∀ f,Np5 f->prim f=none)(cfg:Cfg)(h:Heap)(t:List Int)(ht:t.length<=2000):af md (K prim (d+5)) cfg 92 [rl t] h=some (il (eU t),h):=by
 refine aU rfl (hp 92 (by decide)) func92 rfl rfl rfl (by simp) ?_;have hJ:=fun cfg h r=>Cm (prim:=prim) (d+1) hp cfg h r;have hF:=fun cfg h j=>CQ (prim:=prim) (d+3) hp cfg h j;have hB:=fun cfg h j=>HZ (prim:=prim) (d+2) hp cfg h j;have h6:¬ (2000:Int)<t.length:=by omega
 simp(disch:=omega)[h6,jS];refine ai (fun m fr H=>∃ (i:Nat),i<=t.length/\m=t.length-i/\H=[some ((fmS t i).1.map (V.int .i64))] /\
  Slots 50 [(0,rl t),(3,.sl 0 0 t.length t.length 1),(4,.int .i64 (fmS t i).2),(14,rl t),(15,.int .i64 t.length),(16,.int .i64 i)] fr) (m:=t.length) (by omega) ⟨0,by omega,by omega,by simp[fmS],by simp[fmS]⟩ ?_
 rintro m fr H ⟨i,hi,rfl,rfl,hs⟩;obtain⟨j,rfl⟩:=hs.ex;clear hs;by_cases h7:i<t.length
 ·have hI:(i:Int)<t.length:=by omega
  have hle:i+1<=t.length:=by omega
  have h8:=vn (t:=t) i;have h0:=oV (t:=t) i;simp(disch:=omega)[hI,hJ,atI,-getElem?_pos];refine aq (fun hj=>?_) (fun hj=>?_)
  ·have h1:fmS t (i+1)=fmS t i:=by rw[fmS,if_pos (by simpa using hj)]
   simp(disch:=omega)[wrap64];exact ae (m':=t.length-(i+1)) (by omega) ⟨i+1,by omega,by omega,by rw[h1],by rw[h1];simp(disch:=omega)⟩
  ·have h1:fmS t (i+1)=(if (0<=(fmS t i).2/\fwS (cJn (lgI t (fmS t i).2.toNat))=true)/\bwS (cJn (lgI t i))=true then jnS t (jnS t (fmS t i).1 (fmS t i).2.toNat 2) i 1 else (fmS t i).1,(i:Int)):=by rw[fmS,if_neg (by simpa using hj)]
   generalize (fmS t i).2=la at *;generalize (fmS t i).1=ll at *;simp +contextual (disch:=first|omega|(simp;done)|(simp[Lj];done)|fail) [-ar,cC,ax,aG,cx,-getElem?_pos,hJ,hF,hB,atI];refine aq (fun hc=>?_) (fun hc=>?_)
   ·rw[if_pos (by simpa using hc)]at h1;obtain⟨q,rfl⟩:∃ q:Nat,la=q:=⟨la.toNat,by simp at hc;omega⟩;rw[LB]at h1;have h3:=fun cfg hw=>zr (prim:=prim) d hp cfg t ll q 2 (by omega) h0 [some (ll.map (V.int .i64))] 0 t.length (by simp) hw;have h4:=fun cfg hw=>zr (prim:=prim) d hp cfg t (jnS t ll q 2) i 1 h7 (by rw[pa,h0]) [some ((jnS t ll q 2).map (V.int .i64))] 0 t.length (by simp) hw;have e2:(jnS t ll q 2).length=t.length:=by rw[pa,h0]
    rw[h0]at h3;rw[e2]at h4;simp only[Nf]at h3 h4;simp(disch:=first|omega|(simp[Cfg.wr];done)) [h3,h4,wrap64];refine ae (m':=t.length-(i+1)) (by omega) ⟨i+1,by omega,by omega,by rw[h1],by rw[h1];simp(disch:=omega)⟩
   ·rw[if_neg (by simpa using hc)]at h1;simp(disch:=omega)[wrap64];refine ae (m':=t.length-(i+1)) (by omega) ⟨i+1,by omega,by omega,by rw[h1],by rw[h1];simp(disch:=omega)⟩
 ·obtain rfl:i=t.length:=by omega
  have f1:=dx (h:=[some ((fmS t t.length).1.map (V.int .i64))]) (n:=0) (b:=0) (len:=t.length) (cap:=t.length) (d:=4) (k:=.i64) (l:=(fmS t t.length).1) (by simp) (LJ _) (oV _);simp(disch:=omega)[eU,f1]
end
def mkS(n:Nat)(cl:List Int):List Bool:=cl.foldl (fun B p=>B.set p.toNat true) (List.replicate n false)
theorem mo{n:Nat}:∀ (cl:List Int),(mkS n cl).length=n:=by
 intro cl;unfold mkS;suffices H:∀ (cl:List Int) (B:List Bool),(cl.foldl (fun B p=>B.set p.toNat true) B).length=B.length by
  rw[H,List.length_replicate]
 intro cl
 induction cl with
 | nil=>intro B;rfl
 | cons x cl ih=>intro B;rw[MP,ih,LS]
theorem qG{n:Nat}{cl:List Int}{p:Int}:mkS n (cl++[p])=(mkS n cl).set p.toNat true:=by
 unfold mkS;rw[NZ];rfl
theorem sy{P:Program}{md:FuncId->Nat}{call:aW}{cfg:Cfg}{fr:List V}{h:Heap}{t:TypeId}{n:Nat}{z:V}{α:Type}[DecidableEq α]{k:α->List V}(M:BS P t n z k):aH P md call cfg fr h (.makeMap t none)=some (.mref h.length,h++[some [.mq []]]):=by
 obtain⟨a,fs,h1,_⟩:=M.tys;have h2:=M.kinds;show dQ P h t=_;simp[dQ,h2,h1]
section
variable {prim:FuncId->Option Prim}(d:Nat)
theorem Gl(hp:∀ f,Np5 f->prim f=none)(t:List Int)(ht:t.length<=2000)(cl:List Int)(h6:∀ x∈cl,0<=x/\x<=t.length)(hf:cl.length<=4000)(hC:∀ cfg h,af md (K prim (d+5)) cfg 51 [rl t] h=some (il cl,h))(H:Heap)
  (cfg:Cfg) (hg:cfg.lo<=H.length) (h0:cfg.thr<=H.length):
  af md (K prim (d+6)) cfg 52 [rl t] H=some (.agg (prC t (eU t) (.sl (H.length+1) 0 (t.length+1) (t.length+1) 1) (H.length+2) (H.length+3)),
   H++[some (prC t (eU t) (.sl (H.length+1) 0 (t.length+1) (t.length+1) 1) (H.length+2) (H.length+3)),some ((mkS (t.length+1) cl).map V.bool),wB [],uB [],some (prC t (eU t) (.sl (H.length+1) 0 (t.length+1) (t.length+1) 1) (H.length+2) (H.length+3))]):=by
 refine call2 rfl (hp 52 (by decide)) func52 rfl rfl rfl ?_;have hF:=fun cfg h=>AP (prim:=prim) d hp cfg h t ht;have m0:md 92=0:=rfl;have hw:∀ k,(Cfg.wr cfg (H.length+k))=true:=fun k=>bq (by omega);have h7:∀ b,(V.mref b).leaf=true:=fun _=>rfl;have h8:cfg.thr<=H.length+4:=by omega
 have hh:=h0;have h9:∀ b,cellsOf (.mref b)=some [.mref b]:=fun _=>rfl;simp(disch:=omega);refine ah 11 (by kernel_rfl) ?_;simp(disch:=omega)[hF,m0,wrap64,sy mW,sy mU,h9,h7,h8,hw,nO,hC,-getElem?_pos];have hX:[V.lst (List.map (fun n=>[V.int IntKind.i32 n]) t),V.lst (List.map (fun n=>[V.int IntKind.i64 n]) (eU t)),V.sl (List.length H+1) 0 (t.length+1) (t.length+1) 1,V.mref (List.length H+2),V.mref (List.length H+3)]=prC t (eU t) (.sl (H.length+1) 0 (t.length+1) (t.length+1) 1) (H.length+2) (H.length+3):=rfl;rw[hX];obtain⟨p1,p2,p3,p4,p5,p6,p7,p8,p9⟩:=yk t (eU t) (H.length+1) (t.length+1) (t.length+1) (H.length+2) (H.length+3);have hz:putAt [V.nils,.nils,.nils,.nilm,.nilm] 0 (prC t (eU t) (.sl (H.length+1) 0 (t.length+1) (t.length+1) 1) (H.length+2) (H.length+3))=prC t (eU t) (.sl (H.length+1) 0 (t.length+1) (t.length+1) 1) (H.length+2) (H.length+3):=rfl;generalize prC t (eU t) (.sl (H.length+1) 0 (t.length+1) (t.length+1) 1) (H.length+2) (H.length+3)=X at *;refine ai (fun m fr Hc=>∃ (i:Nat),i<=cl.length/\m=cl.length-i/\Hc=H++[some [V.nils,V.nils,V.nils,V.nilm,V.nilm],some ((mkS (t.length+1) (cl.take i)).map V.bool),some [V.mq []],some [V.mq []],some X] /\
  Slots 29 [(2,.ptr H.length 0),(3,.ptr (H.length+4) 0),(17,il cl),(18,.int .i64 cl.length),(19,.int .i64 i)] fr) (m:=cl.length) (by omega) ⟨0,by omega,by omega,by simp[mkS],by simp⟩ ?_
 rintro m fr Hc ⟨i,hi,rfl,rfl,h4⟩;obtain⟨j,rfl⟩:=h4.ex;clear h4;have ha:=mo (n:=t.length+1) (cl.take i);by_cases hc:i<cl.length
 ·have hI:(i:Int)<cl.length:=by omega
  obtain⟨x,hx⟩:=atG hc;have hj:=h6 x (Le hx);have hd:mkS (t.length+1) (cl.take (i+1))=(mkS (t.length+1) (cl.take i)).set x.toNat true:=by rw[LO,hx];exact qG
  obtain⟨q,rfl⟩:∃ q:Nat,x=q:=⟨x.toNat,by omega⟩;have q1:q+1<=t.length+1:=by omega
  have h3:∀ l:List Bool,isMap (l.map V.bool)=false:=fun l=>fV;simp(disch:=omega)[hI,hx,p2,p7,q1,hw,ha,setB,h3,wrap64,-getElem?_pos,-List.map_set];refine ae (m':=cl.length-(i+1)) (by omega) ⟨i+1,by omega,by omega,by rw[hd];simp,by simp(disch:=omega)⟩
 ·obtain rfl:i=cl.length:=by omega
  have he:(Cfg.wr cfg H.length)=true:=bq (by omega);simp(disch:=omega)[p1,p2,p3,p4,hz,he,h0];exact⟨rfl,rfl⟩
end
end Bi
end Go.Ab
