/- Several texts of this proof in one. -/
import Derived.Test.YtoappddifbgegaaGreatPaKn
import Derived.Test.YtoappddifbgegaaGreatPaLb
set_option linter.all false
set_option maxHeartbeats 16000000
set_option maxRecDepth 100000
namespace Go.Ab
open Go.Proofs
namespace Bi
attribute [local congr] az
def fwS(j:Int):Bool:=decide (j=2)||decide (j=3)
def bwS(j:Int):Bool:=decide (j=1)||fwS j
def jnS(t l:List Int)(i:Nat)(f:Int):List Int:=
 if ¬ cJn (lgI t i)=1/\¬ cJn (lgI t i)=2 then l else l.set i (if ¬ lgI l i=0/\¬ lgI l i=f then 3 else f)
theorem pk{t l:List Int}{i:Nat}{f:Int}:(jnS t l i f).length=l.length:=by
 unfold jnS;split<;>simp
def fmS(t:List Int):Nat->List Int×Int
 | 0=>(List.replicate t.length 0,-1)
 | n+1=>if cJn (lgI t n)=4 then fmS t n else
  (if (0<=(fmS t n).2/\fwS (cJn (lgI t (fmS t n).2.toNat))=true)/\bwS (cJn (lgI t n))=true then jnS t (jnS t (fmS t n).1 (fmS t n).2.toNat 2) n 1 else (fmS t n).1,n)
theorem pa{t:List Int}:∀ n,(fmS t n).1.length=t.length
 | 0=>by simp[fmS]
 | n+1=>by
  have h:=pa (t:=t) n;unfold fmS;split
  ·exact h
  ·show (if _ then _ else _:List Int).length=_;split
   ·rw[pk,pk,h]
   ·exact h
theorem vB{t:List Int}:∀ n,-1<=(fmS t n).2/\(fmS t n).2<n
 | 0=>by simp[fmS]
 | n+1=>by
  have h:=vB (t:=t) n;unfold fmS;split
  ·omega
  ·show -1<=(n:Int)/\(n:Int)<(n:Int)+1;omega
def eM(t:List Int):List Int:=(fmS t t.length).1
section
variable {prim:FuncId->Option Prim}(d:Nat)
theorem Da(hp:∀ f,Np5 f->prim f=none)(cfg:Cfg)(h:Heap)(j:Int):af md (K prim (d+1)) cfg 273 [.int .i64 j] h=some (.bool (fwS j),h):=by
 refine aP rfl (hp 273 (by decide)) Tryz.func273 rfl rfl rfl (by simp) ?_;simp +contextual (disch:=first|omega|(simp;done)|(simp[Le];done)|fail) [-au,cu,aw,aD,cp,fwS]
theorem Iu(hp:∀ f,Np5 f->prim f=none)(cfg:Cfg)(h:Heap)(j:Int):af md (K prim (d+2)) cfg 274 [.int .i64 j] h=some (.bool (bwS j),h):=by
 refine aP rfl (hp 274 (by decide)) Tryz.func274 rfl rfl rfl (by simp) ?_;have hF:=fun cfg h j=>Da (prim:=prim) d hp cfg h j;simp +contextual (disch:=first|omega|(simp;done)|(simp[Le];done)|fail) [-au,cu,aw,aD,cp,hF,bwS]
theorem zN(hp:∀ f,Np5 f->prim f=none)(cfg:Cfg)(t l:List Int)(i:Nat)(f:Int)(hi:i<t.length)(hl:l.length=t.length)(H:Heap)(b cap:Nat)(hb:ab H b=some (l.map (V.int .i64)))(hw:cfg.wr b=true):
  af md (K prim (d+4)) cfg 275 [.sl b 0 l.length cap 1,rl t,.int .i64 i,.int .i64 f] H=some (.tup [],H.set b (some ((jnS t l i f).map (V.int .i64)))):=by
 have h0:(Cfg.wr ⟨cfg.lo,cfg.ex,H.length⟩ b)=true:=hw;have h3:=ao hb;refine call1 rfl (hp 275 (by decide)) Tryz.func275 rfl rfl rfl ?_;have hJ:=fun cfg h r=>CF (prim:=prim) d hp cfg h r;have hI:(i:Int)<t.length:=by omega
 have w0:slot (l.map (V.int .i64)) i=some (.int .i64 (lgI l i)):=by rw[slot,Lh,atI (by omega)];rfl
 have q1:i+1<=l.length:=by omega
 simp +contextual (disch:=first|omega|(simp;done)|(simp[Le];done)|fail) [-au,cu,aw,aD,bU,-getElem?_pos,hJ,atI];refine ar (fun hc=>?_) (fun hc=>?_)
 ·have hj:jnS t l i f=l:=by
   unfold jnS;rw[if_pos (by simpa using hc)]
  simp[hj];exact (eK hb).symm
 simp +contextual (disch:=first|omega|(simp;done)|(simp[Le];done)|fail) [-au,cu,aw,aD,bU,-getElem?_pos,w0,hb,hl];have hj:∀ x,(if ¬ lgI l i=0/\¬ lgI l i=f then 3 else f)=x->jnS t l i f=l.set i x:=fun x hx=>by
  unfold jnS;rw[if_neg (by simpa using hc),hx]
 refine ar (fun hd=>?_) (fun hd=>?_)
 ·rw[hj 3 (if_pos (by simpa using hd))];simp(disch:=omega)[hb,h0,hl];rw[if_pos (by omega)];simp[MZ];exact Li (by simp)
 ·rw[hj f (if_neg (by simpa using hd))];simp(disch:=omega)[hb,h0,hl];rw[if_pos (by omega)];simp[MZ];exact Li (by simp)
theorem A8(hp:∀ f,Np5 f->prim f=none)(cfg:Cfg)(h:Heap)(t:List Int)(ht:t.length<=2000):af md (K prim (d+5)) cfg 234 [rl t] h=some (il (eM t),h):=by
 refine aP rfl (hp 234 (by decide)) Tryz.func234 rfl rfl rfl (by simp) ?_;have hJ:=fun cfg h r=>CF (prim:=prim) (d+1) hp cfg h r;have hF:=fun cfg h j=>Da (prim:=prim) (d+3) hp cfg h j;have hB:=fun cfg h j=>Iu (prim:=prim) (d+2) hp cfg h j;have h6:¬ (2000:Int)<t.length:=by omega
 simp(disch:=omega)[h6,lM];refine ah (fun m fr H=>∃ (i:Nat),i<=t.length/\m=t.length-i/\H=[some ((fmS t i).1.map (V.int .i64))] /\
  Slots 50 [(0,rl t),(3,.sl 0 0 t.length t.length 1),(4,.int .i64 (fmS t i).2),(14,rl t),(15,.int .i64 t.length),(16,.int .i64 i)] fr) (m:=t.length) (by omega) ⟨0,by omega,by omega,by simp[fmS],by simp[fmS]⟩ ?_
 rintro m fr H ⟨i,hi,rfl,rfl,hs⟩;obtain⟨j,rfl⟩:=hs.ex;clear hs;by_cases h7:i<t.length
 ·have hI:(i:Int)<t.length:=by omega
  have hle:i+1<=t.length:=by omega
  have h8:=vB (t:=t) i;have h0:=pa (t:=t) i;simp(disch:=omega)[hI,hJ,atI,-getElem?_pos];refine ar (fun hj=>?_) (fun hj=>?_)
  ·have h1:fmS t (i+1)=fmS t i:=by rw[fmS,if_pos (by simpa using hj)]
   simp(disch:=omega)[wrap64];exact ae (m':=t.length-(i+1)) (by omega) ⟨i+1,by omega,by omega,by rw[h1],by rw[h1];simp(disch:=omega)⟩
  ·have h1:fmS t (i+1)=(if (0<=(fmS t i).2/\fwS (cJn (lgI t (fmS t i).2.toNat))=true)/\bwS (cJn (lgI t i))=true then jnS t (jnS t (fmS t i).1 (fmS t i).2.toNat 2) i 1 else (fmS t i).1,(i:Int)):=by rw[fmS,if_neg (by simpa using hj)]
   generalize (fmS t i).2=la at *;generalize (fmS t i).1=ll at *;simp +contextual (disch:=first|omega|(simp;done)|(simp[Le];done)|fail) [-au,cu,aw,aD,bU,-getElem?_pos,hJ,hF,hB,atI];refine ar (fun hc=>?_) (fun hc=>?_)
   ·rw[if_pos (by simpa using hc)]at h1;obtain⟨q,rfl⟩:∃ q:Nat,la=q:=⟨la.toNat,by simp at hc;omega⟩;rw[Lr]at h1;have h3:=fun cfg hw=>zN (prim:=prim) d hp cfg t ll q 2 (by omega) h0 [some (ll.map (V.int .i64))] 0 t.length (by simp) hw;have h4:=fun cfg hw=>zN (prim:=prim) d hp cfg t (jnS t ll q 2) i 1 h7 (by rw[pk,h0]) [some ((jnS t ll q 2).map (V.int .i64))] 0 t.length (by simp) hw;have e2:(jnS t ll q 2).length=t.length:=by rw[pk,h0]
    rw[h0]at h3;rw[e2]at h4;simp only[Nz]at h3 h4;simp(disch:=first|omega|(simp[Cfg.wr];done)) [h3,h4,wrap64];refine ae (m':=t.length-(i+1)) (by omega) ⟨i+1,by omega,by omega,by rw[h1],by rw[h1];simp(disch:=omega)⟩
   ·rw[if_neg (by simpa using hc)]at h1;simp(disch:=omega)[wrap64];refine ae (m':=t.length-(i+1)) (by omega) ⟨i+1,by omega,by omega,by rw[h1],by rw[h1];simp(disch:=omega)⟩
 ·obtain rfl:i=t.length:=by omega
  have f1:=cK (h:=[some ((fmS t t.length).1.map (V.int .i64))]) (n:=0) (b:=0) (len:=t.length) (cap:=t.length) (d:=4) (k:=.i64) (l:=(fmS t t.length).1) (by simp) (LA _) (pa _);simp(disch:=omega)[eM,f1]
end
def mkS(n:Nat)(cl:List Int):List Bool:=cl.foldl (fun B p=>B.set p.toNat true) (List.replicate n false)
theorem mo{n:Nat}:∀ (cl:List Int),(mkS n cl).length=n:=by
 intro cl;unfold mkS;suffices H:∀ (cl:List Int) (B:List Bool),(cl.foldl (fun B p=>B.set p.toNat true) B).length=B.length by
  rw[H,List.length_replicate]
 intro cl
 induction cl with
 | nil=>intro B;rfl
 | cons x cl ih=>intro B;rw[Nd,ih,LC]
theorem qL{n:Nat}{cl:List Int}{p:Int}:mkS n (cl++[p])=(mkS n cl).set p.toNat true:=by
 unfold mkS;rw[NI];rfl
theorem sJ{P:Program}{md:FuncId->Nat}{call:aF}{cfg:Cfg}{fr:List V}{h:Heap}{t:TypeId}{n:Nat}{z:V}{α:Type}[DecidableEq α]{k:α->List V}(M:Cj P t n z k):aB P md call cfg fr h (.makeMap t none)=some (.mref h.length,h++[some [.mq []]]):=by
 obtain⟨a,fs,h1,_⟩:=M.tys;have h2:=M.kinds;show dA P h t=_;simp[dA,h2,h1]
section
variable {prim:FuncId->Option Prim}(d:Nat)
theorem GD(hp:∀ f,Np5 f->prim f=none)(t:List Int)(ht:t.length<=2000)(cl:List Int)(h6:∀ x∈cl,0<=x/\x<=t.length)(hf:cl.length<=4000)(hC:∀ cfg h,af md (K prim (d+5)) cfg 72 [rl t] h=some (il cl,h))(H:Heap)
  (cfg:Cfg) (hg:cfg.lo<=H.length) (h0:cfg.thr<=H.length):
  af md (K prim (d+6)) cfg 168 [rl t] H=some (.agg (prC t (eM t) (.sl (H.length+1) 0 (t.length+1) (t.length+1) 1) (H.length+2) (H.length+3)),
   H++[some (prC t (eM t) (.sl (H.length+1) 0 (t.length+1) (t.length+1) 1) (H.length+2) (H.length+3)),some ((mkS (t.length+1) cl).map V.bool),wB [],uB [],some (prC t (eM t) (.sl (H.length+1) 0 (t.length+1) (t.length+1) 1) (H.length+2) (H.length+3))]):=by
 refine call2 rfl (hp 168 (by decide)) Tryz.func168 rfl rfl rfl ?_;have hF:=fun cfg h=>A8 (prim:=prim) d hp cfg h t ht;have m0:md 234=0:=rfl;have hw:∀ k,(Cfg.wr cfg (H.length+k))=true:=fun k=>bH (by omega);have h7:∀ b,(V.mref b).leaf=true:=fun _=>rfl;have h8:cfg.thr<=H.length+4:=by omega
 have hh:=h0;have h9:∀ b,cellsOf (.mref b)=some [.mref b]:=fun _=>rfl;simp(disch:=omega);refine ai 11 (by kernel_rfl) ?_;simp(disch:=omega)[hF,m0,wrap64,sJ mW,sJ mU,h9,h7,h8,hw,nP,hC,-getElem?_pos];have hX:[V.lst (List.map (fun n=>[V.int IntKind.i32 n]) t),V.lst (List.map (fun n=>[V.int IntKind.i64 n]) (eM t)),V.sl (List.length H+1) 0 (t.length+1) (t.length+1) 1,V.mref (List.length H+2),V.mref (List.length H+3)]=prC t (eM t) (.sl (H.length+1) 0 (t.length+1) (t.length+1) 1) (H.length+2) (H.length+3):=rfl;rw[hX];obtain⟨p1,p2,p3,p4,p5,p6,p7,p8,p9⟩:=yB t (eM t) (H.length+1) (t.length+1) (t.length+1) (H.length+2) (H.length+3);have hz:putAt [V.nils,.nils,.nils,.nilm,.nilm] 0 (prC t (eM t) (.sl (H.length+1) 0 (t.length+1) (t.length+1) 1) (H.length+2) (H.length+3))=prC t (eM t) (.sl (H.length+1) 0 (t.length+1) (t.length+1) 1) (H.length+2) (H.length+3):=rfl;generalize prC t (eM t) (.sl (H.length+1) 0 (t.length+1) (t.length+1) 1) (H.length+2) (H.length+3)=X at *;refine ah (fun m fr Hc=>∃ (i:Nat),i<=cl.length/\m=cl.length-i/\Hc=H++[some [V.nils,V.nils,V.nils,V.nilm,V.nilm],some ((mkS (t.length+1) (cl.take i)).map V.bool),some [V.mq []],some [V.mq []],some X] /\
  Slots 29 [(2,.ptr H.length 0),(3,.ptr (H.length+4) 0),(17,il cl),(18,.int .i64 cl.length),(19,.int .i64 i)] fr) (m:=cl.length) (by omega) ⟨0,by omega,by omega,by simp[mkS],by simp⟩ ?_
 rintro m fr Hc ⟨i,hi,rfl,rfl,h4⟩;obtain⟨j,rfl⟩:=h4.ex;clear h4;have ha:=mo (n:=t.length+1) (cl.take i);by_cases hc:i<cl.length
 ·have hI:(i:Int)<cl.length:=by omega
  obtain⟨x,hx⟩:=atG hc;have hj:=h6 x (K6 hx);have hd:mkS (t.length+1) (cl.take (i+1))=(mkS (t.length+1) (cl.take i)).set x.toNat true:=by rw[LD,hx];exact qL
  obtain⟨q,rfl⟩:∃ q:Nat,x=q:=⟨x.toNat,by omega⟩;have q1:q+1<=t.length+1:=by omega
  have h3:∀ l:List Bool,isMap (l.map V.bool)=false:=fun l=>fL;simp(disch:=omega)[hI,hx,p2,p7,q1,hw,ha,setB,h3,wrap64,-getElem?_pos,-List.map_set];refine ae (m':=cl.length-(i+1)) (by omega) ⟨i+1,by omega,by omega,by rw[hd];simp,by simp(disch:=omega)⟩
 ·obtain rfl:i=cl.length:=by omega
  have he:(Cfg.wr cfg H.length)=true:=bH (by omega);simp(disch:=omega)[p1,p2,p3,p4,hz,he,h0];exact⟨rfl,rfl⟩
end
def dB(t:List Int):List Int:=t.map cLn
def clG(raw:List Int):Nat->Int
 | 0=>if cmS (lgI raw 0)=true then 0 else lgI raw 0
 | i+1=>if cmS (lgI raw (i+1))=true then (if hrS (clG raw i)=true then 0 else clG raw i) else lgI raw (i+1)
def clS(raw:List Int):List Int:=(List.range raw.length).map (clG raw)
theorem oX{raw:List Int}:(clS raw).length=raw.length:=by simp[clS]
theorem CG{raw:List Int}{i:Nat}(h:i<raw.length):(clS raw)[i]?=some (clG raw i):=by simp[clS,h]
theorem eH{t:List Int}:(dB t).length=t.length:=by simp[dB]
theorem Ak{t:List Int}{i:Nat}(h:i<t.length):(dB t)[i]?=some (cLn (lgI t i)):=by rw[dB,Lh,atI h];rfl
section
variable {prim:FuncId->Option Prim}(d:Nat)
theorem Gc(hp:∀ f,Np5 f->prim f=none)(t:List Int)(ht:t.length<=2000)(cl:List Int)(hv:∀ x∈cl,0<=x/\x<=t.length)(hK:cl.length<=4000)(hC:∀ cfg h,af md (K prim (d+4)) cfg 72 [rl t] h=some (il cl,h))(cfg:Cfg)(h:Heap):
  af md (K prim (d+5)) cfg 232 [rl t] h=some (.agg (scC (dB t) (clS (dB t)) (mkS (t.length+1) cl)),h):=by
 refine aP rfl (hp 232 (by decide)) Tryz.func232 rfl rfl rfl (by simp) ?_;have hL:=fun cfg h r=>xK (prim:=prim) (d+1) hp cfg h r;have hw:=fun cfg h x=>zu (prim:=prim) (d+3) hp cfg h x;have hy:=fun cfg h x=>zH (prim:=prim) (d+3) hp cfg h x;have mL:md 70=0:=rfl;simp(disch:=omega);refine ai 12 (by kernel_rfl) ?_;simp(disch:=omega)[wrap64,nP,lM,hC];generalize hX:[V.sl 1 0 t.length t.length 1,V.sl 2 0 t.length t.length 1,V.sl 3 0 (t.length+1) (t.length+1) 1]=X at *;have x0:slot X 0=some (.sl 1 0 t.length t.length 1):=by rw[<- hX];rfl
 have x1:slot X 1=some (.sl 2 0 t.length t.length 1):=by rw[<- hX];rfl
 have x2:slot X 2=some (.sl 3 0 (t.length+1) (t.length+1) 1):=by rw[<- hX];rfl
 have x3:X.length=3:=by rw[<- hX];rfl
 have x4:X.take 3=X:=by rw[<- hX];rfl
 have x5:isMap X=false:=by rw[<- hX];rfl
 have x6:X.all V.leaf=true:=by rw[<- hX];rfl
 have x7:putAt [V.nils,.nils,.nils] 0 X=X:=by rw[<- hX];rfl
 refine ah (fun m fr Hc=>∃ (i:Nat) (bd:List Bool),i<=cl.length/\m=cl.length-i/\bd=mkS (t.length+1) (cl.take i)/\Hc=[some [V.nils,V.nils,V.nils],some ((List.replicate t.length 0).map (V.int .i64)),some ((List.replicate t.length 0).map (V.int .i64)),some (bd.map V.bool),some X] /\
  Slots 88 [(0,rl t),(2,.ptr 0 0),(3,.ptr 4 0),(20,il cl),(21,.int .i64 cl.length),(22,.int .i64 i)] fr) (m:=cl.length) (by omega) ⟨0,List.replicate (t.length+1) false,by omega,by omega,rfl,by simp,by simp⟩ ?_
 rintro m fr Hc ⟨i,bd,hi,rfl,hc,rfl,hs⟩;obtain⟨j,rfl⟩:=hs.ex;clear hs;have h9:bd.length=t.length+1:=by rw[hc,mo]
 by_cases ha:i<cl.length
 ·have hI:(i:Int)<cl.length:=by omega
  obtain⟨x,hx⟩:=atG ha;have hM:=hv x (K6 hx);obtain⟨q,rfl⟩:∃ q:Nat,x=q:=⟨x.toNat,by omega⟩;have q1:q+1<=t.length+1:=by omega
  simp(disch:=omega)[hI,hx,x2,x5,q1,h9,setB,wrap64,ab,-getElem?_pos,-List.map_set,-List.map_replicate];refine ae (m':=cl.length-(i+1)) (by omega) ⟨i+1,bd.set q true,by omega,by omega,?_,by simp,by simp(disch:=omega)⟩;rw[LD,hx];simp[qL,hc]
 ·obtain rfl:i=cl.length:=by omega
  rw[LF]at hc;have hd:(List.replicate t.length (0:Int)).length=t.length:=by simp
  generalize hz:List.replicate t.length (0:Int)=r0 at *;clear hz;have he:(dB t).length=r0.length:=by rw[eH,hd]
  have hh:(clS (dB t)).length=r0.length:=by rw[oX,eH,hd]
  simp(disch:=omega);refine ah (fun m fr Hc=>∃ (i:Nat),i<=t.length/\m=t.length-i/\Hc=[some [V.nils,V.nils,V.nils],some (((dB t).take i++r0.drop i).map (V.int .i64)),some (((clS (dB t)).take i++r0.drop i).map (V.int .i64)),some (bd.map V.bool),some X] /\
   Slots 88 [(2,.ptr 0 0),(3,.ptr 4 0),(31,rl t),(32,.int .i64 t.length),(33,.int .i64 i)] fr) (m:=t.length) (by omega) ⟨0,by omega,by omega,by simp,by simp⟩ ?_
  rintro m fr Hc ⟨i,hi,rfl,rfl,hs⟩;obtain⟨j,rfl⟩:=hs.ex;clear hs;have hf:=@bh _ _ _ he i;have h4:=@bh _ _ _ hh i;rw[hd]at hf h4;by_cases ha:i<t.length
  ·have hI:(i:Int)<t.length:=by omega
   have q1:i+1<=t.length:=by omega
   have hr:=dG he (Ak ha);have hA:=Ak ha;have hj:=CG (raw:=dB t) (i:=i) (by rw[eH];exact ha);have hl:=fun x=>dG (x:=x) hh (i:=i);have hD:0<i->((clS (dB t)).take i++r0.drop i)[i-1]?=some (clG (dB t) (i-1)):=fun h0=>by
    rw[K8 (by rw[L6,oX,eH];omega),LI (by omega),CG (by rw[eH];omega)]
   have h6:clG (dB t) i=if cmS (cLn (lgI t i))=true then (if 0<i/\hrS (clG (dB t) (i-1))=false then clG (dB t) (i-1) else 0) else cLn (lgI t i):=by
    have e:lgI (dB t) i=cLn (lgI t i):=by rw[lgI,K9,hA];rfl
    rcases i with _|i
    ·simp[clG,e]
    ·rw[clG,e];cases hb:hrS (clG (dB t) i)<;>simp[hb]
   have hE:=@bh _ _ _ he (i+1);rw[hd]at hE;generalize h7:(dB t).take (i+1)++r0.drop (i+1)=raw2 at *;generalize hN:(clS (dB t)).take i++r0.drop i=c0 at *;generalize (dB t).take i++r0.drop i=raw1 at *;simp(disch:=omega)[hI,atI,-getElem?_pos];refine ai 5 (by kernel_rfl) ?_;simp(disch:=omega)[x0,x5,hL,mL,hf,q1,ab,-getElem?_pos,-List.map_set];rw[hr];have w0:slot (raw2.map (V.int .i64)) i=some (.int .i64 (cLn (lgI t i))):=by rw[slot,Lh,<- hr,Lm (by omega)];rfl
   refine ai 8 (by kernel_rfl) ?_;simp(disch:=omega)[x0,x1,x5,h4,w0,q1,ab,-getElem?_pos,-List.map_set];have hF:(c0.set i (cLn (lgI t i))).length=t.length:=by rw[LC];exact h4
   simp(disch:=omega)[hw,-getElem?_pos,-List.map_set];refine ar (fun hm=>?_) (fun hm=>?_)
   ·have h8:cmS (cLn (lgI t i))=false:=by simpa using hm
    rw[if_neg (by rw[h8];simp)]at h6;simp(disch:=omega)[wrap64,-List.map_set];exact ae (m':=t.length-(i+1)) (by omega) ⟨i+1,by omega,by omega,by rw[hl _ (h6 ▸ hj),h7],by simp(disch:=omega)⟩
   have h8:cmS (cLn (lgI t i))=true:=by simpa using hm
   rw[if_pos h8]at h6;obtain⟨c3,h3⟩:∃ c3,c0.set i 0=c3:=⟨_,rfl⟩;have hH:c3.length=t.length:=by rw[<- h3,LC];exact h4
   have hJ:bR ((c0.set i (cLn (lgI t i))).map (V.int .i64)) i (.int .i64 0)=c3.map (V.int .i64):=by rw[setI,M0,h3]
   have hu:0<i->((i:Int)-1).toNat=i-1:=fun h=>by omega
   have w3:0<i->slot (c3.map (V.int .i64)) (i-1)=some (.int .i64 (clG (dB t) (i-1))):=fun h=>by rw[slot,Lh,<- h3,Lb (by omega),hD h];rfl
   have w4:0<i->i-1+1<=t.length:=fun h=>by omega
   simp +contextual (disch:=first|omega|(simp;done)|(simp[Le];done)|fail) [-au,cu,aw,aD,bU,wrap64,-getElem?_pos,x1,x5,hF,q1,hJ,ab,hy,hu,w3,-List.map_set];refine ar (fun hb=>?_) (fun hb=>?_)
   ·have hg:0<i/\hrS (clG (dB t) (i-1))=false:=by simpa using hb
    rw[if_pos hg]at h6;have hn:=hg.1;have hq:=hu hn;have w3':=w3 hn;have w4':=w4 hn;refine ai 9 (by kernel_rfl) ?_;simp(disch:=omega)[x1,x5,hH,hq,w3',q1,ab,wrap64,-getElem?_pos,-List.map_set];exact ae (m':=t.length-(i+1)) (by omega) ⟨i+1,by omega,by omega,by rw[<- h3,M0,hl _ (h6 ▸ hj),h7],by simp(disch:=omega)⟩
   ·have hg:¬ (0<i/\hrS (clG (dB t) (i-1))=false):=by simpa using hb
    rw[if_neg hg]at h6;simp(disch:=omega)[wrap64];exact ae (m':=t.length-(i+1)) (by omega) ⟨i+1,by omega,by omega,by rw[<- h3,hl _ (h6 ▸ hj),h7],by simp(disch:=omega)⟩
  ·obtain rfl:i=t.length:=by omega
   rw[dF he (by omega),dF hh (by omega)];have hf:(dB t).length=t.length:=eH;have h4:(clS (dB t)).length=t.length:=by rw[oX,eH]
   rw[<- hc];generalize dB t=raw at *;generalize clS raw=c at *;have f1:=cK (h:=[some X,some (raw.map (V.int .i64)),some (c.map (V.int .i64)),some (bd.map V.bool),some X]) (n:=0) (b:=1) (len:=t.length) (cap:=t.length) (d:=3) (k:=.i64) (l:=raw) (by simp[ab]) (LA _) hf;simp(disch:=omega)[x3,x4,x5,x6,x7];have f2:=cK (h:=[some X,some (raw.map (V.int .i64)),some (c.map (V.int .i64)),some (bd.map V.bool),some X]) (n:=0) (b:=2) (len:=t.length) (cap:=t.length) (d:=3) (k:=.i64) (l:=c) (by simp[ab]) (LA _) h4;have f3:=Bd (h:=[some X,some (raw.map (V.int .i64)),some (c.map (V.int .i64)),some (bd.map V.bool),some X]) (n:=0) (b:=3) (len:=t.length+1) (cap:=t.length+1) (d:=3) (l:=bd) (by simp[ab]) (LA _) h9;generalize [some X,some (raw.map (V.int .i64)),some (c.map (V.int .i64)),some (bd.map V.bool),some X]=HH at *;rw[<- hX];simp[f1,f2,f3]
end
end Bi
end Go.Ab
