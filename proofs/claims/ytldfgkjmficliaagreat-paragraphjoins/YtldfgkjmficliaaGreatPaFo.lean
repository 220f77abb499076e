/- The program: where a line ends. -/
import Derived.Test.YtldfgkjmficliaaGreatPaGf
set_option linter.unusedSimpArgs false
set_option linter.unusedVariables false
namespace Go.Ab
open Go.Proofs
namespace Bi
attribute [local congr] az
structure CtxP(prim:FuncId→Option Prim)(X:Txt):Prop where
 hp:∀ f,Np5 f→prim f=none
 hG:prim 174=some (fQ 8 64)
 hV:TxV X
 hXr:X.rs=kL
 hpR:prim 67=none
 hCl:∀ (d:Nat) (cfg:Cfg) (H:Heap) (l:List Int),cfg.lo≤H.length→l≠[]→l.length≤2000→af md (K prim (d+1)) cfg 100 [il l] H=some (.sl (H.length+1) 0 l.length l.length 1,H++[none,some (l.map (V.int .i64))])
 hCn:∀ (d:Nat) (cfg:Cfg) (H:Heap),af md (K prim (d+1)) cfg 100 [.lst []] H=some (.lst [],H)
 h5:X.p.t.length≤90
section
variable {prim:FuncId→Option Prim}
theorem CtxP.fit{X:Txt}(C:CtxP prim X)(d:Nat){H:Heap}{xb bb pb mw mu:Nat}{sv kv:V}{es:fx}{eu:fL}(hT:TxH X H xb bb pb mw mu sv kv es eu){k:Nat×Nat}{a b:Nat}(h1:k.1≤a)(h2:a≤b)(h3:b≤k.2)(h4:k.2≤X.p.t.length)(cfg:Cfg)(hM:MW cfg H)(hlo:cfg.lo≤H.length):
  ∃ es' eu',WOK X.fs es'∧UOK X.fs eu'∧af md (K prim (d+13)) cfg 55 [.ptr xb 0,.agg (X.sec k),.int .i64 a,.int .i64 b] H=some (.int .i64 (X.fit k a b),(H.set mw (wB es')).set mu (uB eu')):=by
 obtain⟨r,h2,h3,rfl,es',eu',h4,h5,rfl⟩:=Hj d C.hp C.hG X C.hV C.hXr C.hpR (C.hCl (d+9)) (C.hCn (d+9)) H xb bb pb mw mu sv kv es eu hT k a b h1 h2 h3 h4 C.h5 cfg hM hlo
 exact⟨es',eu',h4,h5,h3⟩
theorem TxV.fit{X:Txt}(hV:TxV X){k:Nat×Nat}{a b:Nat}(h1:k.1≤a)(h2:a≤b)(h3:b≤k.2)(h4:k.2≤X.p.t.length)(h5:X.p.t.length≤90):0≤X.fit k a b∧X.fit k a b≤81000000000:=by
 obtain⟨hgl,hgr⟩:=hV.gls h1 h2 h3 h4 h5
 have h:=pn (w:=(X.wht a b:Int)) hgr
 have e:X.fit k a b=pk (X.wht a b) (X.gls k a b):=rfl
 rw[e]
 omega
set_option maxRecDepth 100000 in
set_option maxHeartbeats 16000000 in
theorem CtxP.frc{X:Txt}(C:CtxP prim X)(d:Nat){H:Heap}{xb bb pb mw mu:Nat}{sv kv:V}{es:fx}{eu:fL}(hT:TxH X H xb bb pb mw mu sv kv es eu){k:Nat×Nat}{s t:Nat}(h1:k.1≤s)(h2:s<t)(h3:t≤k.2)(h4:k.2≤X.p.t.length)(cfg:Cfg)(hM:MW cfg H)(hlo:cfg.lo≤H.length):
  ∃ r h2,af md (K prim (d+14)) cfg 56 [.ptr xb 0,.agg (X.sec k),.int .i64 s,.int .i64 t] H=some (r,h2) ∧
   (r=.int .i64 (X.frc k s t t X.C)∧∃ es' eu',WOK X.fs es'∧UOK X.fs eu'∧h2=(H.set mw (wB es')).set mu (uB eu')):=by
 have hV:=C.hV
 have h5:=C.h5
 refine kj (Post:=fun r h2=>r=.int .i64 (X.frc k s t t X.C)∧∃ es' eu',WOK X.fs es'∧UOK X.fs eu'∧h2=(H.set mw (wB es')).set mu (uB eu')) rfl (C.hp 56 (by decide)) Tryz.func56 rfl rfl rfl ?_
 have hM':MW ⟨cfg.lo,cfg.ex,H.length⟩ H:=fun b cs h1 h2=>hM b cs h1 h2
 generalize hcf:(⟨cfg.lo,cfg.ex,H.length⟩:Cfg)=cf at *
 have hlo':cf.lo≤H.length:=by rw[← hcf];exact hlo
 have kl:(X.sec k).length=4:=rfl
 have km:isMap (X.sec k)=false:=rfl
 have kt:(X.sec k).take 4=X.sec k:=rfl
 have kf:(∀ x∈X.sec k,x.leaf=true)=True:=eq_true (by simp[Txt.sec])
 have hcl:=hV.cl.1
 have hmwl:mw<H.length:=(List.getElem?_eq_some_iff.1 hT.hmw).1
 have hmul:mu<H.length:=(List.getElem?_eq_some_iff.1 hT.hmu).1
 obtain⟨x0,x1,x2,x3,x4,x5,x6,x7,x8,x9,x15,xl,xm⟩:=dh X (.sl bb 0 (X.p.t.length+1) (X.p.t.length+1) 1) sv kv pb mw mu
 have hxb:=hT.hx
 have hxl:=aw hxb
 simp(disch:=omega)[kf,hxb,x7]
 refine aj (fun m fr Hc=>∃ (i:Nat) (best:Nat) (es':fx) (eu':fL),i≤X.C.length∧m=X.C.length-i∧s<best∧best≤t∧WOK X.fs es'∧UOK X.fs eu'∧X.frc k s t t X.C=X.frc k s t best (X.C.drop i)∧Hc=(H.set mw (wB es')).set mu (uB eu')++[some (X.sec k)] ∧
  Slots 47 [(0,.ptr xb 0),(2,.int .i64 s),(3,.int .i64 t),(5,.ptr H.length 0),(9,.int .i64 best),(16,il X.C),(17,.int .i64 X.C.length),(18,.int .i64 i)] fr) (m:=X.C.length) (by have:=hV.cl;omega)
  ⟨0,t,es,eu,by omega,by omega,h2,Nat.le_refl _,hT.hW,hT.hU,by simp,by rw[bI hT.hmw,bI hT.hmu],by simp⟩ ?_
 rintro m fr Hc ⟨i,best,es',eu',hi,rfl,hb1,hb2,hW',hU',hfr,hHc,hs⟩
 obtain⟨j,rfl⟩:=hs.ex
 clear hs
 have hhp:Hp Hc ((H.set mw (wB es')).set mu (uB eu')++[some (X.sec k)]) []:=by rw[hHc];exact Hp.start
 have hT2:=hT.ext hhp hW' hU'
 have hM2:=hT.mw hM' hlo' hhp
 have hxb2:=hT2.hx
 have hks:ab Hc H.length=some (X.sec k):=by rw[hHc];simp[ab,km]
 have hHl:Hc.length=H.length+1:=by rw[hHc];simp
 by_cases hlt:i<X.C.length
 ·have hI:(i:Int)<X.C.length:=by omega
  obtain⟨c0,hc⟩:=atG hlt
  have hcr:=hV.cl.2 c0 (List.mem_of_getElem? hc)
  have hdrop:X.C.drop i=c0::X.C.drop (i+1):=by
   rw[List.drop_eq_getElem_cons hlt]
   rw[List.getElem?_eq_getElem hlt]at hc
   rw[Option.some.inj hc]
  rw[hdrop,Txt.frc]at hfr
  obtain⟨c,rfl⟩:∃ c:Nat,c0=c:=⟨c0.toNat,by omega⟩
  simp +contextual (disch:=first|omega|(simp;done)|(simp[Decidable.imp_iff_not_or];done)|fail) [-ao,bM,aq,ax,bC,-getElem?_pos,hI,hc]
  refine ak (fun hb=>?_) (fun hb=>?_)
  ·have hb3:(c:Int)≤s∨(t:Int)≤c:=by simp at hb;omega
   rw[if_pos hb3]at hfr
   simp(disch:=omega)[wrap64,-getElem?_pos]
   exact ae (m':=X.C.length-(i+1)) (by omega) ⟨i+1,best,es',eu',by omega,rfl,hb1,hb2,hW',hU',hfr,hHc,by simp(disch:=omega)⟩
  ·have hb3:¬ ((c:Int)≤s∨(t:Int)≤c):=by simp at hb;omega
   rw[if_neg hb3,Int.toNat_natCast]at hfr
   have hcs:s≤c∧c≤k.2:=by omega
   obtain⟨es2,eu2,hW2,hU2,hF⟩:=C.fit d hT2 (k:=k) (a:=s) (b:=c) h1 hcs.1 hcs.2 h4 ⟨Hc.length,mapsIn Hc,Hc.length⟩ MW.self (Nat.le_refl _)
   have hall:=eq_true (List.all_eq_true.1 hM2.all)
   simp only[Bool.and_eq_true,decide_eq_true_eq]at hall
   have m4:md 55=4:=rfl
   have hxb3:ab ((Hc.set mw (wB es2)).set mu (uB eu2)) xb=some (txC X (.sl bb 0 (X.p.t.length+1) (X.p.t.length+1) 1) sv kv pb mw mu):=by
    rw[ar (sj hxb2 hT2.hmu),ar (sk hxb2 hT2.hmw)];exact hxb2
   simp only[zp,ng,dF]
   refine ai 10 (by kernel_rfl) ?_
   simp(disch:=omega)[hks,kl,kt,hxb3,x4,m4,hall,hF,-getElem?_pos]
   refine⟨iy fun q hq=>?_,?_⟩
   ·simp only[List.mem_cons,List.not_mem_nil,or_false]at hq
    rcases hq with rfl|rfl
    ·exact⟨_,hxb2⟩
    ·exact⟨_,hks⟩
   have hH2:(Hc.set mw (wB es2)).set mu (uB eu2)=(H.set mw (wB es2)).set mu (uB eu2)++[some (X.sec k)]:=by rw[hHc];exact fI hmwl hmul
   rw[hH2]
   refine ak (fun hw=>?_) (fun hw=>?_)
   ·have hw2:X.p.w<X.fit k s c:=by simpa using hw
    rw[if_pos hw2]at hfr
    simp(disch:=omega)
    exact⟨by rw[hfr],es2,hW2,eu2,hU2,by rw[List.take_left' (by simp)]⟩
   ·have hw2:¬ X.p.w<X.fit k s c:=by simpa using hw
    rw[if_neg hw2]at hfr
    simp(disch:=omega)[wrap64,-getElem?_pos]
    exact ae (m':=X.C.length-(i+1)) (by omega) ⟨i+1,c,es2,eu2,by omega,rfl,by omega,by omega,hW2,hU2,hfr,rfl,by simp(disch:=omega)⟩
 ·obtain rfl:i=X.C.length:=by omega
  have hI:¬ ((X.C.length:Int)<X.C.length):=by omega
  rw[List.drop_length,Txt.frc]at hfr
  simp(disch:=omega)[hI]
  refine⟨hfr.symm,es',hW',eu',hU',?_⟩
  have:=yw hhp
  simpa using this
theorem lh{X:Txt}{k:Nat×Nat}{s t:Nat}:∀ (l:List Int) (b:Int),(s:Int)<b→b≤t→(s:Int)<X.frc k s t b l∧X.frc k s t b l≤t
 | [],b,h1,h2=>⟨h1,h2⟩
 | c::l,b,h1,h2=>by
  rw[Txt.frc]
  split
  ·exact lh l b h1 h2
  ·rename_i hc
   split
   ·omega
   ·exact lh l c (by omega) (by omega)
def tsL(s n:Nat):List Nat:=(List.range n).map fun i=>s+1+i
theorem zi{s n:Nat}:(tsL s n).length=n:=by simp[tsL]
theorem DB{s n j:Nat}(h:j<n):(tsL s n).drop j=(s+1+j)::(tsL s n).drop (j+1):=by
 rw[List.drop_eq_getElem_cons (by rw[zi];exact h)]
 simp[tsL]
set_option maxRecDepth 100000 in
set_option maxHeartbeats 16000000 in
theorem CtxP.fin{X:Txt}(C:CtxP prim X)(d:Nat){H:Heap}{xb bb pb mw mu:Nat}{sv kv:V}{es:fx}{eu:fL}(hT:TxH X H xb bb pb mw mu sv kv es eu){k:Nat×Nat}{s:Nat}(h1:k.1≤s)(h2:s≤k.2)(h4:k.2≤X.p.t.length)(cfg:Cfg)(hM:MW cfg H)(hlo:cfg.lo≤H.length):
  ∃ r h2,af md (K prim (d+15)) cfg 26 [.ptr xb 0,.agg (X.sec k),.int .i64 s] H=some (r,h2) ∧
   (r=.int .i64 (X.fin k s)∧∃ es' eu',WOK X.fs es'∧UOK X.fs eu'∧h2=(H.set mw (wB es')).set mu (uB eu')):=by
 have hV:=C.hV
 have h5:=C.h5
 refine kj (Post:=fun r h2=>r=.int .i64 (X.fin k s)∧∃ es' eu',WOK X.fs es'∧UOK X.fs eu'∧h2=(H.set mw (wB es')).set mu (uB eu')) rfl (C.hp 26 (by decide)) Tryz.func26 rfl rfl rfl ?_
 have hM':MW ⟨cfg.lo,cfg.ex,H.length⟩ H:=fun b cs h1 h2=>hM b cs h1 h2
 generalize hcf:(⟨cfg.lo,cfg.ex,H.length⟩:Cfg)=cf at *
 have hlo':cf.lo≤H.length:=by rw[← hcf];exact hlo
 have kl:(X.sec k).length=4:=rfl
 have km:isMap (X.sec k)=false:=rfl
 have kt:(X.sec k).take 4=X.sec k:=rfl
 have kf:(∀ x∈X.sec k,x.leaf=true)=True:=eq_true (by simp[Txt.sec])
 have k1:slot (X.sec k) 1=some (.int .i64 k.2):=rfl
 have hmwl:mw<H.length:=(List.getElem?_eq_some_iff.1 hT.hmw).1
 have hmul:mu<H.length:=(List.getElem?_eq_some_iff.1 hT.hmu).1
 obtain⟨x0,x1,x2,x3,x4,x5,x6,x7,x8,x9,x15,xl,xm⟩:=dh X (.sl bb 0 (X.p.t.length+1) (X.p.t.length+1) 1) sv kv pb mw mu
 have hfinE:X.fin k s=X.endL k s s ((tsL s (k.2-s)).drop 0):=rfl
 simp(disch:=omega)[kf,wrap64,-getElem?_pos]
 refine aj (fun m fr Hc=>∃ (i:Nat) (best:Nat) (es':fx) (eu':fL),i≤k.2-s∧m=k.2-s-i∧s≤best∧best≤k.2∧WOK X.fs es'∧UOK X.fs eu'∧X.fin k s=X.endL k s best ((tsL s (k.2-s)).drop i)∧Hc=(H.set mw (wB es')).set mu (uB eu')++[some (X.sec k)] ∧
  Slots 49 [(0,.ptr xb 0),(2,.int .i64 s),(4,.ptr H.length 0),(7,.int .i64 best),(8,.int .i64 ((s:Int)+1+i))] fr) (m:=k.2-s) (by omega)
  ⟨0,s,es,eu,by omega,by omega,Nat.le_refl _,h2,hT.hW,hT.hU,hfinE,by rw[bI hT.hmw,bI hT.hmu],by simp⟩ ?_
 rintro m fr Hc ⟨i,best,es',eu',hi,rfl,hb1,hb2,hW',hU',hfr,hHc,hs⟩
 obtain⟨j,rfl⟩:=hs.ex
 clear hs
 have hhp:Hp Hc ((H.set mw (wB es')).set mu (uB eu')++[some (X.sec k)]) []:=by rw[hHc];exact Hp.start
 have hT2:=hT.ext hhp hW' hU'
 have hM2:=hT.mw hM' hlo' hhp
 have hxb2:=hT2.hx
 have hks:ab Hc H.length=some (X.sec k):=by rw[hHc];simp[ab,km]
 have hHl:Hc.length=H.length+1:=by rw[hHc];simp
 by_cases hlt:i<k.2-s
 ·have hI:(s:Int)+1+i≤k.2:=by omega
  rw[DB hlt,Txt.endL]at hfr
  have e1:(s:Int)+1+i-1=((s+i:Nat):Int):=by omega
  have e2:s+1+i-1=s+i:=by omega
  rw[e2]at hfr
  have hBl:=hV.bl
  have hB:=atI (l:=X.B) (i:=s+i) (by omega)
  simp(disch:=omega)[hI,hks,k1,hxb2,x6,e1,hB,wrap64,-getElem?_pos]
  refine ak (fun hb=>?_) (fun hb=>?_)
  ·rw[if_pos (by simpa using hb)]at hfr
   simp(disch:=omega)[wrap64,-getElem?_pos]
   exact ae (m':=k.2-s-(i+1)) (by omega) ⟨i+1,best,es',eu',by omega,rfl,hb1,hb2,hW',hU',hfr,hHc,by simp(disch:=omega);omega⟩
  ·rw[if_neg (by simpa using hb)]at hfr
   have hts:s≤s+1+i∧s+1+i≤k.2:=by omega
   have eT:(((s+1+i:Nat)):Int)=(s:Int)+1+i:=by omega
   obtain⟨es2,eu2,hW2,hU2,hF⟩:=C.fit (d+1) hT2 (k:=k) (a:=s) (b:=s+1+i) h1 hts.1 hts.2 h4 ⟨Hc.length,mapsIn Hc,Hc.length⟩ MW.self (Nat.le_refl _)
   rw[eT]at hF
   have hall:=eq_true (List.all_eq_true.1 hM2.all)
   simp only[Bool.and_eq_true,decide_eq_true_eq]at hall
   have m4:md 55=4:=rfl
   have hxb3:ab ((Hc.set mw (wB es2)).set mu (uB eu2)) xb=some (txC X (.sl bb 0 (X.p.t.length+1) (X.p.t.length+1) 1) sv kv pb mw mu):=by
    rw[ar (sj hxb2 hT2.hmu),ar (sk hxb2 hT2.hmw)];exact hxb2
   simp only[zp,ng,dF]
   refine ai 10 (by kernel_rfl) ?_
   simp(disch:=omega)[hks,kl,kt,hxb3,x4,m4,hall,hF,-getElem?_pos]
   refine⟨iy fun q hq=>?_,?_⟩
   ·simp only[List.mem_cons,List.not_mem_nil,or_false]at hq
    rcases hq with rfl|rfl
    ·exact⟨_,hxb2⟩
    ·exact⟨_,hks⟩
   have hH2:(Hc.set mw (wB es2)).set mu (uB eu2)=(H.set mw (wB es2)).set mu (uB eu2)++[some (X.sec k)]:=by rw[hHc];exact fI hmwl hmul
   rw[hH2]
   refine ak (fun hw=>?_) (fun hw=>?_)
   ·have hw2:X.fit k s (s+1+i)≤X.p.w:=by simpa using hw
    rw[if_pos hw2]at hfr
    simp(disch:=omega)[wrap64,-getElem?_pos]
    exact ae (m':=k.2-s-(i+1)) (by omega) ⟨i+1,s+1+i,es2,eu2,by omega,rfl,by omega,by omega,hW2,hU2,hfr,rfl,by simp(disch:=omega);omega⟩
   ·have hw2:¬ X.fit k s (s+1+i)≤X.p.w:=by simpa using hw
    rw[if_neg hw2]at hfr
    simp(disch:=omega)
    by_cases hbs:s<best
    ·rw[if_pos hbs]at hfr
     simp(disch:=omega)[hbs]
     exact⟨by rw[hfr],es2,hW2,eu2,hU2,by rw[List.take_left' (by simp)]⟩
    ·rw[if_neg hbs]at hfr
     obtain⟨hr1,hr2⟩:=lh (X:=X) (k:=k) (s:=s) (t:=s+1+i) X.C ((s+1+i:Nat):Int) (by omega) (by omega)
     have hhp2:Hp ((H.set mw (wB es2)).set mu (uB eu2)++[some (X.sec k)]) ((H.set mw (wB es2)).set mu (uB eu2)++[some (X.sec k)]) []:=Hp.start
     have hT3:=hT.ext hhp2 hW2 hU2
     have hM3:=hT.mw hM' hlo' hhp2
     obtain⟨_,_,hFr,rfl,es3,eu3,hW3,hU3,rfl⟩:=C.frc d hT3 (k:=k) (s:=s) (t:=s+1+i) h1 (by omega) hts.2 h4 cf hM3 (by simp;omega)
     rw[eT]at hFr
     have hks3:ab ((H.set mw (wB es2)).set mu (uB eu2)++[some (X.sec k)]) H.length=some (X.sec k):=by simp[ab,km]
     rw[fI hmwl hmul]at hFr
     rw[eT]at hfr hr1 hr2
     simp(disch:=omega)[hbs,hks3,kl,kt,hFr]
     exact⟨by rw[hfr];omega,es3,hW3,eu3,hU3,by rw[List.take_left' (by simp)]⟩
 ·obtain rfl:i=k.2-s:=by omega
  have hI:¬ ((s:Int)+1+((k.2-s:Nat):Int)≤k.2):=by omega
  rw[List.drop_of_length_le (by rw[zi];omega),Txt.endL]at hfr
  simp(disch:=omega)[hI,hks,k1]
  trace_state
  refine⟨by rw[hfr],es',hW',eu',hU',?_⟩
  have:=yw hhp
  simpa using this
end
end Bi
end Go.Ab
