/- Several texts of this proof in one. -/
import Derived.Test.YtldfgkjmficliaaGreatPaKn
set_option linter.unusedSimpArgs false
set_option linter.unusedVariables false
namespace Go.Ab
open Go.Proofs
namespace Bi
attribute [local congr] az
def fwS(j:Int):Bool:=decide (j=2)||decide (j=3)
def bwS(j:Int):Bool:=decide (j=1)||fwS j
def jnS(t l:List Int)(i:Nat)(f:Int):List Int:=
 if ¬ cJn (lgI t i)=1∧¬ cJn (lgI t i)=2 then l else l.set i (if ¬ lgI l i=0∧¬ lgI l i=f then 3 else f)
theorem nX{t l:List Int}{i:Nat}{f:Int}:(jnS t l i f).length=l.length:=by
 unfold jnS
 split<;>simp
def fmS(t:List Int):Nat→List Int×Int
 | 0=>(List.replicate t.length 0,-1)
 | n+1=>if cJn (lgI t n)=4 then fmS t n else
  (if (0≤(fmS t n).2∧fwS (cJn (lgI t (fmS t n).2.toNat))=true)∧bwS (cJn (lgI t n))=true then jnS t (jnS t (fmS t n).1 (fmS t n).2.toNat 2) n 1 else (fmS t n).1,n)
theorem nR{t:List Int}:∀ n,(fmS t n).1.length=t.length
 | 0=>by simp[fmS]
 | n+1=>by
  have h:=nR (t:=t) n
  unfold fmS
  split
  ·exact h
  ·show (if _ then _ else _:List Int).length=_
   split
   ·rw[nX,nX,h]
   ·exact h
theorem uu{t:List Int}:∀ n,-1≤(fmS t n).2∧(fmS t n).2<n
 | 0=>by simp[fmS]
 | n+1=>by
  have h:=uu (t:=t) n
  unfold fmS
  split
  ·omega
  ·show -1≤(n:Int)∧(n:Int)<(n:Int)+1
   omega
def ey(t:List Int):List Int:=(fmS t t.length).1
section
variable {prim:FuncId→Option Prim}(d:Nat)
theorem BZ(hp:∀ f,Np5 f→prim f=none)(cfg:Cfg)(h:Heap)(j:Int):af md (K prim (d+1)) cfg 130 [.int .i64 j] h=some (.bool (fwS j),h):=by
 refine bo rfl (hp 130 (by decide)) Tryz.func130 rfl rfl rfl (by simp) ?_
 simp +contextual (disch:=first|omega|(simp;done)|(simp[Decidable.imp_iff_not_or];done)|fail) [-ao,bM,aq,ax,bC,fwS]
theorem G5(hp:∀ f,Np5 f→prim f=none)(cfg:Cfg)(h:Heap)(j:Int):af md (K prim (d+2)) cfg 131 [.int .i64 j] h=some (.bool (bwS j),h):=by
 refine bo rfl (hp 131 (by decide)) Tryz.func131 rfl rfl rfl (by simp) ?_
 have hF:=fun cfg h j=>BZ (prim:=prim) d hp cfg h j
 simp +contextual (disch:=first|omega|(simp;done)|(simp[Decidable.imp_iff_not_or];done)|fail) [-ao,bM,aq,ax,bC,hF,bwS]
theorem yB(hp:∀ f,Np5 f→prim f=none)(cfg:Cfg)(t l:List Int)(i:Nat)(f:Int)(hi:i<t.length)(hl:l.length=t.length)(H:Heap)(b cap:Nat)(hb:ab H b=some (l.map (V.int .i64)))(hw:cfg.wr b=true):
  af md (K prim (d+4)) cfg 132 [.sl b 0 l.length cap 1,rl t,.int .i64 i,.int .i64 f] H=some (.tup [],H.set b (some ((jnS t l i f).map (V.int .i64)))):=by
 have hw':(Cfg.wr ⟨cfg.lo,cfg.ex,H.length⟩ b)=true:=hw
 have hbl:=aw hb
 refine call1 rfl (hp 132 (by decide)) Tryz.func132 rfl rfl rfl ?_
 have hJ:=fun cfg h r=>Bt (prim:=prim) d hp cfg h r
 have hI:(i:Int)<t.length:=by omega
 have w0:slot (l.map (V.int .i64)) i=some (.int .i64 (lgI l i)):=by rw[slot,List.getElem?_map,atI (by omega)];rfl
 have q1:i+1≤l.length:=by omega
 simp +contextual (disch:=first|omega|(simp;done)|(simp[Decidable.imp_iff_not_or];done)|fail) [-ao,bM,aq,ax,bh,-getElem?_pos,hJ,atI]
 refine ak (fun hc=>?_) (fun hc=>?_)
 ·have hj:jnS t l i f=l:=by
   unfold jnS
   rw[if_pos (by simpa using hc)]
  simp[hj]
  exact (fk hb).symm
 simp +contextual (disch:=first|omega|(simp;done)|(simp[Decidable.imp_iff_not_or];done)|fail) [-ao,bM,aq,ax,bh,-getElem?_pos,w0,hb,hl]
 have hj:∀ x,(if ¬ lgI l i=0∧¬ lgI l i=f then 3 else f)=x→jnS t l i f=l.set i x:=fun x hx=>by
  unfold jnS
  rw[if_neg (by simpa using hc),hx]
 refine ak (fun hd=>?_) (fun hd=>?_)
 ·rw[hj 3 (if_pos (by simpa using hd))]
  simp(disch:=omega)[hb,hw',hl]
  rw[if_pos (by omega)]
  simp[List.map_set]
  exact List.take_of_length_le (by simp)
 ·rw[hj f (if_neg (by simpa using hd))]
  simp(disch:=omega)[hb,hw',hl]
  rw[if_pos (by omega)]
  simp[List.map_set]
  exact List.take_of_length_le (by simp)
theorem zO(hp:∀ f,Np5 f→prim f=none)(cfg:Cfg)(h:Heap)(t:List Int)(ht:t.length≤2000):af md (K prim (d+5)) cfg 92 [rl t] h=some (il (ey t),h):=by
 refine bo rfl (hp 92 (by decide)) Tryz.func92 rfl rfl rfl (by simp) ?_
 have hJ:=fun cfg h r=>Bt (prim:=prim) (d+1) hp cfg h r
 have hF:=fun cfg h j=>BZ (prim:=prim) (d+3) hp cfg h j
 have hB:=fun cfg h j=>G5 (prim:=prim) (d+2) hp cfg h j
 have ht2:¬ (2000:Int)<t.length:=by omega
 simp(disch:=omega)[ht2,kO]
 refine aj (fun m fr H=>∃ (i:Nat),i≤t.length∧m=t.length-i∧H=[some ((fmS t i).1.map (V.int .i64))] ∧
  Slots 50 [(0,rl t),(3,.sl 0 0 t.length t.length 1),(4,.int .i64 (fmS t i).2),(14,rl t),(15,.int .i64 t.length),(16,.int .i64 i)] fr) (m:=t.length) (by omega) ⟨0,by omega,by omega,by simp[fmS],by simp[fmS]⟩ ?_
 rintro m fr H ⟨i,hi,rfl,rfl,hs⟩
 obtain⟨j,rfl⟩:=hs.ex
 clear hs
 by_cases hlt:i<t.length
 ·have hI:(i:Int)<t.length:=by omega
  have hle:i+1≤t.length:=by omega
  have hla:=uu (t:=t) i
  have hll:=nR (t:=t) i
  simp(disch:=omega)[hI,hJ,atI,-getElem?_pos]
  refine ak (fun hj=>?_) (fun hj=>?_)
  ·have h1:fmS t (i+1)=fmS t i:=by rw[fmS,if_pos (by simpa using hj)]
   simp(disch:=omega)[wrap64]
   exact ae (m':=t.length-(i+1)) (by omega) ⟨i+1,by omega,by omega,by rw[h1],by rw[h1];simp(disch:=omega)⟩
  ·have h1:fmS t (i+1)=(if (0≤(fmS t i).2∧fwS (cJn (lgI t (fmS t i).2.toNat))=true)∧bwS (cJn (lgI t i))=true then jnS t (jnS t (fmS t i).1 (fmS t i).2.toNat 2) i 1 else (fmS t i).1,(i:Int)):=by rw[fmS,if_neg (by simpa using hj)]
   generalize (fmS t i).2=la at *
   generalize (fmS t i).1=ll at *
   simp +contextual (disch:=first|omega|(simp;done)|(simp[Decidable.imp_iff_not_or];done)|fail) [-ao,bM,aq,ax,bh,-getElem?_pos,hJ,hF,hB,atI]
   refine ak (fun hc=>?_) (fun hc=>?_)
   ·rw[if_pos (by simpa using hc)]at h1
    obtain⟨q,rfl⟩:∃ q:Nat,la=q:=⟨la.toNat,by simp at hc;omega⟩
    rw[Int.toNat_natCast]at h1
    have hJ1:=fun cfg hw=>yB (prim:=prim) d hp cfg t ll q 2 (by omega) hll [some (ll.map (V.int .i64))] 0 t.length (by simp) hw
    have hJ2:=fun cfg hw=>yB (prim:=prim) d hp cfg t (jnS t ll q 2) i 1 hlt (by rw[nX,hll]) [some ((jnS t ll q 2).map (V.int .i64))] 0 t.length (by simp) hw
    have e2:(jnS t ll q 2).length=t.length:=by rw[nX,hll]
    rw[hll]at hJ1
    rw[e2]at hJ2
    simp only[List.set_cons_zero]at hJ1 hJ2
    simp(disch:=first|omega|(simp[Cfg.wr];done)) [hJ1,hJ2,wrap64]
    refine ae (m':=t.length-(i+1)) (by omega) ⟨i+1,by omega,by omega,by rw[h1],by rw[h1];simp(disch:=omega)⟩
   ·rw[if_neg (by simpa using hc)]at h1
    simp(disch:=omega)[wrap64]
    refine ae (m':=t.length-(i+1)) (by omega) ⟨i+1,by omega,by omega,by rw[h1],by rw[h1];simp(disch:=omega)⟩
 ·obtain rfl:i=t.length:=by omega
  have f1:=ek (h:=[some ((fmS t t.length).1.map (V.int .i64))]) (n:=0) (b:=0) (len:=t.length) (cap:=t.length) (d:=4) (k:=.i64) (l:=(fmS t t.length).1) (by simp) (Nat.zero_le _) (nR _)
  simp(disch:=omega)[ey,f1]
end
end Bi
end Go.Ab
namespace Go.Ab
open Go.Proofs
namespace Bi
attribute [local congr] az
def mkS(n:Nat)(cl:List Int):List Bool:=cl.foldl (fun B p=>B.set p.toNat true) (List.replicate n false)
theorem ly{n:Nat}:∀ (cl:List Int),(mkS n cl).length=n:=by
 intro cl
 unfold mkS
 suffices H:∀ (cl:List Int) (B:List Bool),(cl.foldl (fun B p=>B.set p.toNat true) B).length=B.length by
  rw[H,List.length_replicate]
 intro cl
 induction cl with
 | nil=>intro B;rfl
 | cons x cl ih=>intro B;rw[List.foldl_cons,ih,List.length_set]
theorem pN{n:Nat}{cl:List Int}{p:Int}:mkS n (cl++[p])=(mkS n cl).set p.toNat true:=by
 unfold mkS
 rw[List.foldl_append]
 rfl
theorem rD{P:Program}{md:FuncId→Nat}{call:aR}{cfg:Cfg}{fr:List V}{h:Heap}{t:TypeId}{n:Nat}{z:V}{α:Type}[DecidableEq α]{k:α→List V}(M:A6 P t n z k):aF P md call cfg fr h (.makeMap t none)=some (.mref h.length,h++[some [.mq []]]):=by
 obtain⟨a,fs,h1,_⟩:=M.tys
 have h2:=M.kinds
 show dB P h t=_
 simp[dB,h2,h1]
section
variable {prim:FuncId→Option Prim}(d:Nat)
set_option maxRecDepth 100000 in
set_option maxHeartbeats 16000000 in
theorem FC(hp:∀ f,Np5 f→prim f=none)(t:List Int)(ht:t.length≤2000)(cl:List Int)(hcl:∀ x∈cl,0≤x∧x≤t.length)(hcn:cl.length≤4000)(hC:∀ cfg h,af md (K prim (d+5)) cfg 51 [rl t] h=some (il cl,h))(H:Heap)
  (cfg:Cfg) (hlo:cfg.lo≤H.length) (hthr:cfg.thr≤H.length):
  af md (K prim (d+6)) cfg 52 [rl t] H=some (.agg (prC t (ey t) (.sl (H.length+1) 0 (t.length+1) (t.length+1) 1) (H.length+2) (H.length+3)),
   H++[some (prC t (ey t) (.sl (H.length+1) 0 (t.length+1) (t.length+1) 1) (H.length+2) (H.length+3)),some ((mkS (t.length+1) cl).map V.bool),wB [],uB [],some (prC t (ey t) (.sl (H.length+1) 0 (t.length+1) (t.length+1) 1) (H.length+2) (H.length+3))]):=by
 refine call2 rfl (hp 52 (by decide)) Tryz.func52 rfl rfl rfl ?_
 have hF:=fun cfg h=>zO (prim:=prim) d hp cfg h t ht
 have m0:md 92=0:=rfl
 have hw:∀ k,(Cfg.wr cfg (H.length+k))=true:=fun k=>bE (by omega)
 have hml:∀ b,(V.mref b).leaf=true:=fun _=>rfl
 have ht4:cfg.thr≤H.length+4:=by omega
 have ht0:=hthr
 have hcm:∀ b,cellsOf (.mref b)=some [.mref b]:=fun _=>rfl
 simp(disch:=omega)
 refine ai 11 (by kernel_rfl) ?_
 simp(disch:=omega)[hF,m0,wrap64,rD mW,rD mU,hcm,hml,ht4,hw,mQ,hC,-getElem?_pos]
 have hX:[V.lst (List.map (fun n=>[V.int IntKind.i32 n]) t),V.lst (List.map (fun n=>[V.int IntKind.i64 n]) (ey t)),V.sl (List.length H+1) 0 (t.length+1) (t.length+1) 1,V.mref (List.length H+2),V.mref (List.length H+3)]=prC t (ey t) (.sl (H.length+1) 0 (t.length+1) (t.length+1) 1) (H.length+2) (H.length+3):=rfl
 rw[hX]
 obtain⟨p1,p2,p3,p4,p5,p6,p7,p8,p9⟩:=xw t (ey t) (H.length+1) (t.length+1) (t.length+1) (H.length+2) (H.length+3)
 have hz:putAt [V.nils,.nils,.nils,.nilm,.nilm] 0 (prC t (ey t) (.sl (H.length+1) 0 (t.length+1) (t.length+1) 1) (H.length+2) (H.length+3))=prC t (ey t) (.sl (H.length+1) 0 (t.length+1) (t.length+1) 1) (H.length+2) (H.length+3):=rfl
 generalize prC t (ey t) (.sl (H.length+1) 0 (t.length+1) (t.length+1) 1) (H.length+2) (H.length+3)=X at *
 refine aj (fun m fr Hc=>∃ (i:Nat),i≤cl.length∧m=cl.length-i∧Hc=H++[some [V.nils,V.nils,V.nils,V.nilm,V.nilm],some ((mkS (t.length+1) (cl.take i)).map V.bool),some [V.mq []],some [V.mq []],some X] ∧
  Slots 29 [(2,.ptr H.length 0),(3,.ptr (H.length+4) 0),(17,il cl),(18,.int .i64 cl.length),(19,.int .i64 i)] fr) (m:=cl.length) (by omega) ⟨0,by omega,by omega,by simp[mkS],by simp⟩ ?_
 rintro m fr Hc ⟨i,hi,rfl,rfl,hs'⟩
 obtain⟨j,rfl⟩:=hs'.ex
 clear hs'
 have hmk:=ly (n:=t.length+1) (cl.take i)
 by_cases hlt:i<cl.length
 ·have hI:(i:Int)<cl.length:=by omega
  obtain⟨x,hx⟩:=atG hlt
  have hx2:=hcl x (List.mem_of_getElem? hx)
  have hsn:mkS (t.length+1) (cl.take (i+1))=(mkS (t.length+1) (cl.take i)).set x.toNat true:=by rw[List.take_add_one,hx];exact pN
  obtain⟨q,rfl⟩:∃ q:Nat,x=q:=⟨x.toNat,by omega⟩
  have q1:q+1≤t.length+1:=by omega
  have hbm2:∀ l:List Bool,isMap (l.map V.bool)=false:=fun l=>fD
  simp(disch:=omega)[hI,hx,p2,p7,q1,hw,hmk,setB,hbm2,wrap64,-getElem?_pos,-List.map_set]
  refine ae (m':=cl.length-(i+1)) (by omega) ⟨i+1,by omega,by omega,by rw[hsn];simp,by simp(disch:=omega)⟩
 ·obtain rfl:i=cl.length:=by omega
  have hw0:(Cfg.wr cfg H.length)=true:=bE (by omega)
  simp(disch:=omega)[p1,p2,p3,p4,hz,hw0,hthr]
  exact⟨rfl,rfl⟩
end
end Bi
end Go.Ab
