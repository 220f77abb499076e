/- The law ParagraphFits: walked. -/
import Derived.Test.YteddnfbjjbcmgaaGreatPaFl
set_option linter.unusedSimpArgs false
set_option linter.unusedVariables false
namespace Go.Ab
open Go.Proofs
namespace Bi
attribute [local congr] ay
set_option maxHeartbeats 16000000 in
set_option maxRecDepth 100000 in
theorem fits_ok(d:Nat)(l:List Int):∃ v h',aF Tryz.prog md pZ 10000 (d+18) ⟨0,[],0⟩ 4 [il l] []=some (v,h')∧v=.bool true:=by
 have hA:=fun cfg h=>mG (d+16) cfg h
 have hNw:=fun cfg h=>nh (prim:=pZ) (d+16) cfg h (aV _ (by decide)) l
 have hL:(l.take 4000).length≤4000:=by simp;omega
 refine cm (R:=fun r _=>r=.bool true) (aV _ (by decide)) Tryz.func4 rfl rfl rfl ?_
 generalize hLL:l.take 4000=L at *
 have r0:Rd [some [il L,.int .i64 0]] 0 L 0:=⟨rfl,by omega⟩
 obtain⟨fs,k1,hf1,hf3,hfo,hk1,c1⟩:=gW (prim:=pZ) (d+13) ⟨0,[],0⟩ [some [il L,.int .i64 0]] aV L 0 hL 0 r0 (aP (by simp)) (by simp)
 have r1:Rd (hk [some [il L,.int .i64 0]] 0 L k1) 0 L k1:=r0.set hk1
 obtain⟨p,k2,hpo,hk2,c2⟩:=ni (prim:=pZ) (d+12) ⟨0,[],0⟩ (hk [some [il L,.int .i64 0]] 0 L k1) aV L k1 hL 0 r1 (aP (by simp)) (by simp) 20 fs.length (by omega) (by omega) (by omega)
 obtain⟨Cl,hC,hC1,hC2,hCp⟩:=uI p.t (by have:=hpo.len;omega)
 have C:=lF hpo (by omega) hf1 hf3 hfo hC hC1 hC2
 have hCl:=fun cfg h=>hC (d+13) cfg h
 obtain⟨X,hXE⟩:∃ X:Txt,(⟨p,fs,dz p.t Cl,Cl,lvZ,fg⟩:Txt)=X:=⟨_,rfl⟩
 have hXp:X.p=p:=by rw[← hXE]
 have hXf:X.fs=fs:=by rw[← hXE]
 have hXC:X.C=Cl:=by rw[← hXE]
 rw[hXE]at C
 clear hXE
 have hLn:=fun cfg h=>C.lines d cfg h
 rw[hXp,hXf]at hLn
 obtain⟨hlf,hmp,s0,s1,s2,s3,s4,l5,t5⟩:=qA p
 have hlf':=eq_true (List.all_eq_true.1 hlf)
 have hp0:putAt [V.nils,.nils,.int .i64 0,.int .i64 0,.int .i64 0] 0 (bU p)=bU p:=rfl
 have hll:=C.hV.linL C.h5
 have hlm:∀ x∈X.linA X.secs 0,∃ s t:Nat,x.l.f=s∧x.l.t=t∧s≤t∧t≤p.t.length∧x.gs.length≤8100∧(∀ g∈x.gs,0≤g.a∧g.a≤10000000)∧(eL (X.wht s t) x.gs≤p.w∨∀ c∈Cl,¬ ((s:Int)<c∧c<t)):=fun x hx=>by
  have:=C.hV.fitl C.h5 (by rw[hXC];exact hCp) hx
  rw[hXp,hXC]at this
  exact this
 have hwh:∀ s e:Nat,X.wht s (e+1)=if e+1≤s then e+1 else if whS (lgI p.t e)=true then X.wht s e else e+1:=fun s e=>by
  rw[Txt.wht,hXp]
  by_cases h:e+1≤s
  ·rw[if_pos h,if_pos h]
  ·rw[if_neg h,if_neg h]
   by_cases h2:whS (lgI p.t e)=true
   ·rw[if_pos h2,if_pos ((zZ _).1 h2)]
   ·rw[if_neg h2,if_neg (fun h3=>h2 ((zZ _).2 h3))]
 have hw0:∀ s,X.wht s 0=0:=fun s=>rfl
 have htl:=hpo.len
 generalize X.wht=wht at *
 generalize X.linA X.secs 0=Ls at *
 have e14:((20:Nat):Int)=20:=rfl
 rw[e14]at c2
 simp only[hk,List.set_cons_zero]at c1 c2
 simp(disch:=omega)[hNw,c1,c2,hlf',hmp,l5,t5,hp0,hLn,s0,hCl]
 have hWh:=fun cfg h r=>IG (prim:=pZ) (d+13) aV cfg h r
 have hIn:=fun cfg h c=>yn (prim:=pZ) (d+16) cfg h aV Cl (by omega) c
 have hlk:∀ x:bV,(aL x).length=10:=fun _=>rfl
 have hlmp:∀ x:bV,isMap (aL x)=false:=fun _=>rfl
 have hlt:∀ x:bV,(aL x).take 10=aL x:=fun _=>rfl
 have hlf2:∀ x:bV,(∀ c∈aL x,c.leaf=true)=True:=fun x=>eq_true (by simp[aL,bR])
 have hlr:∀ x:bV,(∀ c∈aL x,c.rf=true)=True:=fun x=>eq_true (by simp[aL,bR])
 have hxp:∀ x:bV,putAt [V.int .i64 0,.int .i64 0,.int .i64 0,.int .i64 0,.int .i64 0,.int .i64 0,.int .i64 0,.int .i64 0,.int .i64 0,.nils] 0 (aL x)=aL x:=fun _=>rfl
 have hx0:∀ x:bV,slot (aL x) 0=some (.int .i64 x.l.f):=fun _=>rfl
 have hx1:∀ x:bV,slot (aL x) 1=some (.int .i64 x.l.t):=fun _=>rfl
 have hx9:∀ x:bV,slot (aL x) 9=some (.lst (x.gs.map ax)):=fun _=>rfl
 have hgl8:∀ g,(ax g).length=8:=fun _=>rfl
 refine ah (fun m fr H=>∃ (i:Nat) (Z:Heap),i≤Ls.length∧m=Ls.length-i∧H=some [il L,.int .i64 k2]::some (bU p)::Z ∧
  Slots 119 [(5,.ptr 1 0),(6,.lst (Ls.map aL)),(8,il Cl),(9,.int .i64 i)] fr) (m:=Ls.length) (by omega) ⟨0,[],by omega,by omega,rfl,by simp⟩ ?_
 rintro m fr H ⟨i,Z,hi,rfl,rfl,hs⟩
 obtain⟨j,rfl⟩:=hs.ex
 clear hs
 by_cases hlt2:i<Ls.length
 ·have hI:(i:Int)<Ls.length:=by omega
  obtain⟨x,hx⟩:=atG hlt2
  obtain⟨s,t,hf,ht,hst,htn,hgl,hgr,hfit⟩:=hlm x (List.mem_of_getElem? hx)
  have hwz:Cfg.wr ⟨0,[],0⟩ (Z.length+1+1)=true:=aP (by simp)
  have hbx:ab (some [il L,V.int .i64 k2]::some (bU p)::(Z++[some (aL x)])) (Z.length+1+1)=some (aL x):=by simp[ab,hlmp]
  simp(disch:=omega)[hI,-fH]
  rw[fH]
  simp(disch:=omega)[hx,hlk,hlmp,hlt,hlf2,hxp,hx1,hwz,ht,-getElem?_pos,-fH]
  generalize hHE:(some [il L,V.int .i64 k2]::some (bU p)::(Z++[some (aL x)]):Heap)=HH at *
  have hb1:ab HH 1=some (bU p):=by rw[← hHE];simp[ab,hmp]
  refine eK (fun fr' H2=>H2=HH∧Slots 119 [(5,.ptr 1 0),(6,.lst (Ls.map aL)),(8,il Cl),(9,.int .i64 i),(10,.ptr (Z.length+1+1) 0),(11,.int .i64 (wht s t))] fr') ?_ ?_
  ·rw[fH]
   refine ah (fun m fr H=>∃ (e:Nat),s≤e∧e≤t∧m=e∧wht s t=wht s e∧H=HH ∧
    Slots 119 [(5,.ptr 1 0),(6,.lst (Ls.map aL)),(8,il Cl),(9,.int .i64 i),(10,.ptr (Z.length+1+1) 0),(11,.int .i64 e)] fr) (m:=t) (by omega) ⟨t,hst,Nat.le_refl _,rfl,rfl,rfl,by simp⟩ ?_
   rintro m fr H ⟨e,he1,he2,hm,hwE,rfl,hs⟩
   replace hm:=hm.symm
   subst hm
   obtain⟨j2,rfl⟩:=hs.ex
   clear hs
   rcases e with _|e
   ·have e0:¬ (s:Int)<0:=by omega
    rw[hw0]at hwE
    simp +contextual (disch:=first|omega|(simp;done)|(simp[Decidable.imp_iff_not_or];done)|fail) [-al,bh,ao,cB,bZ,-getElem?_pos,hbx,hx0,hf,e0]
    exact bO ⟨rfl,by rw[hwE];simp⟩
   ·rw[hwh]at hwE
    have e3:e<p.t.length:=by omega
    have e2:(e:Int)+1-1=e:=by omega
    by_cases hle:e+1≤s
    ·rw[if_pos hle]at hwE
     have e0:¬ (s:Int)<(e:Int)+1:=by omega
     simp +contextual (disch:=first|omega|(simp;done)|(simp[Decidable.imp_iff_not_or];done)|fail) [-al,bh,ao,cB,bZ,-getElem?_pos,hbx,hx0,hf,e0]
     exact bO ⟨rfl,by rw[hwE];simp⟩
    ·rw[if_neg hle]at hwE
     have e0:(s:Int)<(e:Int)+1:=by omega
     simp +contextual (disch:=first|omega|(simp;done)|(simp[Decidable.imp_iff_not_or];done)|fail) [-al,bh,ao,aw,wrap64,-getElem?_pos,hbx,hx0,hf,e0,e2,hb1,s0,atI,hWh]
     refine ak (fun hb=>?_) (fun hb=>?_)
     ·rw[if_pos (by simpa using hb)]at hwE
      simp(disch:=omega)[wrap64,-getElem?_pos,e2]
      exact ae (m':=e) (by omega) ⟨e,by omega,by omega,rfl,hwE,rfl,by simp(disch:=omega)⟩
     ·rw[if_neg (by rw[show whS (lgI p.t e)=false by simpa using hb];simp)]at hwE
      simp(disch:=omega)
      exact bO ⟨rfl,by rw[hwE];simp⟩
  rintro _ HH ⟨rfl,hs⟩
  obtain⟨j2,rfl⟩:=hs.ex
  clear hs
  generalize wht s t=wv at *
  simp(disch:=omega)[-fH]
  refine eK (fun fr' H2=>H2=HH∧Slots 119 [(5,.ptr 1 0),(6,.lst (Ls.map aL)),(8,il Cl),(9,.int .i64 i),(10,.ptr (Z.length+1+1) 0),(11,.int .i64 wv),(12,.int .i64 (eL wv x.gs)),(13,.int .i64 0)] fr') ?_ ?_
  ·rw[fH]
   refine ah (fun m fr H=>∃ (q:Nat),q≤x.gs.length∧m=x.gs.length-q∧H=HH ∧
    Slots 119 [(5,.ptr 1 0),(6,.lst (Ls.map aL)),(8,il Cl),(9,.int .i64 i),(10,.ptr (Z.length+1+1) 0),(11,.int .i64 wv),(12,.int .i64 (eL wv (x.gs.take q))),(13,.int .i64 0),(14,.int .i64 q)] fr) (m:=x.gs.length) (by omega) ⟨0,by omega,by omega,rfl,by simp[eL]⟩ ?_
   rintro m fr H ⟨q,hq,rfl,rfl,hs⟩
   obtain⟨j3,rfl⟩:=hs.ex
   clear hs
   by_cases hlt3:q<x.gs.length
   ·have hQ:(q:Int)<x.gs.length:=by omega
    obtain⟨g,hg⟩:=atG hlt3
    have hgr2:=hgr g (List.mem_of_getElem? hg)
    have hN:=rM (w:=(wv:Int)) hg
    have hNr:=lJ (w:=(wv:Int)) (l:=x.gs.take q) fun g hg=>hgr g (List.mem_of_mem_take hg)
    rw[List.length_take,Nat.min_eq_left (by omega)]at hNr
    have g2:slot (ax g) 2=some (.int .i64 g.f):=rfl
    have g5:slot (ax g) 5=some (.int .i64 g.a):=rfl
    simp(disch:=omega)[hQ,hbx,hx9,hg,hgl8,g2,-getElem?_pos]
    by_cases hw:g.f<(wv:Int)
    ·rw[if_pos hw]at hN
     simp(disch:=omega)[hw,hbx,hx9,hg,hgl8,g5,wrap64,-getElem?_pos]
     exact ae (m':=x.gs.length-(q+1)) (by omega) ⟨q+1,by omega,rfl,rfl,by rw[hN];simp(disch:=omega)⟩
    ·rw[if_neg hw]at hN
     simp(disch:=omega)[hw,wrap64,-getElem?_pos]
     exact ae (m':=x.gs.length-(q+1)) (by omega) ⟨q+1,by omega,rfl,rfl,by rw[hN];simp(disch:=omega)⟩
   ·obtain rfl:q=x.gs.length:=by omega
    have hQ:¬ ((x.gs.length:Int)<x.gs.length):=by omega
    simp(disch:=omega)[hQ,hbx,hx9,-getElem?_pos]
    exact bO ⟨rfl,by simp⟩
  rintro _ HH ⟨rfl,hs⟩
  obtain⟨j3,rfl⟩:=hs.ex
  clear hs
  simp(disch:=omega)[hbx,hx0,hf,-fH]
  refine eK (fun fr' H2=>H2=HH∧∃ n:Nat,n≤2000∧((∀ c∈Cl,¬ ((s:Int)<c∧c<t))→n=0)∧Slots 119 [(5,.ptr 1 0),(6,.lst (Ls.map aL)),(8,il Cl),(9,.int .i64 i),(10,.ptr (Z.length+1+1) 0),(12,.int .i64 (eL wv x.gs)),(13,.int .i64 n)] fr') ?_ ?_
  ·rw[fH]
   refine ah (fun m fr H=>∃ (q n:Nat),s+1≤q∧q≤t+1∧m=t+1-q∧n+s+1≤q∧((∀ c∈Cl,¬ ((s:Int)<c∧c<t))→n=0)∧H=HH ∧
    Slots 119 [(5,.ptr 1 0),(6,.lst (Ls.map aL)),(8,il Cl),(9,.int .i64 i),(10,.ptr (Z.length+1+1) 0),(12,.int .i64 (eL wv x.gs)),(13,.int .i64 n),(15,.int .i64 q)] fr) (m:=t-s) (by omega) ⟨s+1,0,by omega,by omega,by omega,by omega,fun _=>rfl,rfl,by simp(disch:=omega)[wrap64]⟩ ?_
   rintro m fr H ⟨q,n,hq1,hq2,rfl,hn1,hn2,rfl,hs⟩
   obtain⟨j4,rfl⟩:=hs.ex
   clear hs
   by_cases hlt3:q<t
   ·have hQ:(q:Int)<t:=by omega
    simp(disch:=omega)[hQ,hbx,hx1,ht,hIn]
    by_cases hm:(q:Int)∈Cl
    ·simp(disch:=omega)[hm,wrap64,-getElem?_pos]
     exact ae (m':=t+1-(q+1)) (by omega) ⟨q+1,n+1,by omega,by omega,rfl,by omega,fun h=>absurd ⟨by omega,hQ⟩ (h q hm),rfl,by simp(disch:=omega)⟩
    ·simp(disch:=omega)[hm,wrap64,-getElem?_pos]
     exact ae (m':=t+1-(q+1)) (by omega) ⟨q+1,n,by omega,by omega,rfl,by omega,hn2,rfl,by simp(disch:=omega)⟩
   ·have hQ:¬ (q:Int)<t:=by omega
    simp(disch:=omega)[hQ,hbx,hx1,ht]
    exact bO ⟨rfl,n,by omega,hn2,by simp⟩
  rintro _ HH ⟨rfl,n,hn1,hn2,hs⟩
  obtain⟨j4,rfl⟩:=hs.ex
  clear hs
  have hcond:¬ (p.w<eL wv x.gs∧0<n):=by
   rintro⟨h1,h2⟩
   rcases hfit with h|h
   ·omega
   ·have:=hn2 h;omega
  have hHH:∃ Z2:Heap,HH=some [il L,V.int .i64 k2]::some (bU p)::Z2:=⟨_,hHE.symm⟩
  obtain⟨Z2,hZ2⟩:=hHH
  by_cases hw:p.w<eL wv x.gs
  ·obtain rfl:n=0:=by
    rcases Nat.eq_zero_or_pos n with h|h
    ·exact h
    ·exact absurd ⟨hw,h⟩ hcond
   simp(disch:=omega)[hb1,s4,hw,wrap64,-getElem?_pos]
   exact ae (m':=Ls.length-(i+1)) (by omega) ⟨i+1,Z2,by omega,rfl,hZ2,by simp(disch:=omega)⟩
  ·simp(disch:=omega)[hb1,s4,hw,wrap64,-getElem?_pos]
   exact ae (m':=Ls.length-(i+1)) (by omega) ⟨i+1,Z2,by omega,rfl,hZ2,by simp(disch:=omega)⟩
 ·obtain rfl:i=Ls.length:=by omega
  have hI:¬ ((Ls.length:Int)<Ls.length):=by omega
  simp(disch:=omega)[hI,hA]
end Bi
end Go.Ab
