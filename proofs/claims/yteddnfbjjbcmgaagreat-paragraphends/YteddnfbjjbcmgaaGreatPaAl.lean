/- Several texts of this proof in one. -/
import Derived.Test.YteddnfbjjbcmgaaGreatPaPm
set_option linter.unusedSimpArgs false
set_option linter.unusedVariables false
namespace Go.Ab
open Go.Proofs
namespace Bi
theorem yl{α:Type}{r:α→α→Prop}{l:List α}(h:l.Pairwise r){i j:Nat}{x y:α}(hij:i<j)(hx:l[i]?=some x)(hy:l[j]?=some y):r x y:=by
 obtain⟨h1,rfl⟩:=List.getElem?_eq_some_iff.1 hx
 obtain⟨h2,rfl⟩:=List.getElem?_eq_some_iff.1 hy
 exact (List.pairwise_iff_getElem.1 h) i j h1 h2 hij
theorem E7{f:Fnt}(h:nv f):cn f=0:=by
 have h1:=h.u
 have h2:=h.a
 have h3:=h.d
 have h4:=h.g
 have h5:=h.df
 have h6:=h.advL
 have h7:=h.kerL
 have h8:=h.ligL
 refine zT (by omega) ⟨⟨by omega,by omega,by omega,by omega,by omega,by omega,by omega,by omega,by rw[wrap64 (by omega) (by omega)];omega,by omega,by omega⟩,fun x hx=>?_,fun x hx=>?_,fun x hx=>?_⟩ ⟨fun i x hx=>?_,fun i x y hx hy=>?_,fun i x y hx hy=>?_⟩
 ·have:=h.adv x hx
  exact⟨by omega,by omega,by omega,by omega,by omega,by omega⟩
 ·have:=h.ker x hx
  exact⟨by omega,by omega,by omega,by omega,by omega,by omega⟩
 ·have:=h.lig x hx
  exact⟨by omega,by omega,by omega,by omega,by omega,by omega,by omega,by omega⟩
 ·have h9:=h.adv x (List.mem_of_getElem? hx)
  refine⟨by omega,fun y hi hy=>yl h.advA (show i-1<i by omega) hy hx⟩
 ·rw[List.getElem?_map]at hx hy
  obtain⟨x',hx',rfl⟩:=Option.map_eq_some_iff.1 hx
  obtain⟨y',hy',rfl⟩:=Option.map_eq_some_iff.1 hy
  exact yl h.kerA (Nat.lt_succ_self i) hx' hy'
 ·rw[List.getElem?_map]at hx hy
  obtain⟨x',hx',rfl⟩:=Option.map_eq_some_iff.1 hx
  obtain⟨y',hy',rfl⟩:=Option.map_eq_some_iff.1 hy
  exact yl h.ligA (Nat.lt_succ_self i) hx' hy'
theorem jN:∀ {l:List Spn}{a b:Int},Cov a b l→a≤b∧∀ s∈l,a≤s.f∧s.f<s.t∧s.t≤b
 | [],a,b,h=>⟨by have h:a=b:=h;omega,fun _ h=>by cases h⟩
 | s::l,a,b,⟨h1,h2,h3⟩=>by
  have ih:=jN h3
  refine⟨by omega,fun x hx=>?_⟩
  rcases List.mem_cons.1 hx with rfl|hx
  ·omega
  ·have:=ih.2 x hx
   omega
theorem yS:∀ {l:List Spn}{a b:Int}(i:Nat),Cov a b l→(spI i l).length=(b-a).toNat
 | [],a,b,_,h=>by have h:a=b:=h;simp[spI,h]
 | s::l,a,b,i,⟨h1,h2,h3⟩=>by
  have ih:=yS (i+1) h3
  have:=(jN h3).1
  rw[spI,List.length_append,List.length_replicate,ih]
  omega
theorem yV:∀ {fs:List Fnt},(∀ f∈fs,cn f=0)→kR fs=0
 | [],_=>rfl
 | f::r,h=>by rw[rJ,if_pos (h f (by simp)),yV fun x hx=>h x (by simp[hx])]
open Classical in
noncomputable def lvZ(t:List Int)(b:Int):List Int:=if h:t.length≤2000∧(-1≤b∧b≤1) then Classical.choose (zr t h.1 b h.2) else []
theorem C2{t:List Int}{b:Int}(ht:t.length≤2000)(hb:-1≤b∧b≤1):(∀ (d:Nat) (cfg:Cfg) (h:Heap),af md (K pZ (d+1)) cfg 81 [rl t,.int .i64 b] h=some (il (lvZ t b),h))∧(lvZ t b).length=t.length:=by
 unfold lvZ
 rw[dif_pos ⟨ht,hb⟩]
 exact Classical.choose_spec (zr t ht b hb)
theorem yO(t:List Int)(ht:t.length≤2000):∃ C:List Int,(∀ (d:Nat) (cfg:Cfg) (h:Heap),af md (K pZ (d+4)) cfg 14 [rl t] h=some (il C,h))∧C.length≤t.length+1∧∀ x∈C,0≤x∧x≤t.length:=by
 obtain⟨_,⟨C,rfl,h1,h2⟩,h3⟩:=Ce (prim:=pZ) 0 aV t ht
 refine⟨C,fun d cfg h=>?_,h1,h2⟩
 have:=pa (0+4) d (h3 cfg h)
 rw[show 0+4+d=d+4 by omega]at this
 exact this
theorem lF{p:Par}{fs:List Fnt}{n:Nat}(hP:uo p n fs.length)(hn:n≤60)(hf1:1≤fs.length)(hf3:fs.length≤3)(hF:∀ f∈fs,nv f){C:List Int}(hC:∀ (d:Nat) (cfg:Cfg) (h:Heap),af md (K pZ (d+4)) cfg 14 [rl p.t] h=some (il C,h))(hC1:C.length≤p.t.length+1)(hC2:∀ x∈C,0≤x∧x≤p.t.length):CtxA pZ ⟨p,fs,dz p.t C,C,lvZ,fg⟩:=by
 have htn:=hP.len
 have hsl:=hP.sl
 have hb:=hP.b
 have ha:=hP.a
 have hw:=hP.w
 have hsp:∀ s∈p.s,0≤s.n∧s.n<fs.length∧1≤s.z∧s.z≤1000:=fun s hs=>by have:=hP.sp s hs;omega
 have hfv:∀ f∈fs,cn f=0:=fun f hf=>E7 (hF f hf)
 have hcv:pt p.s p.t.length:=by
  unfold pt
  rcases hP.cov with⟨h1,h2⟩|⟨h1,h2⟩
  ·rw[if_pos (by rw[h1];rfl)]
   exact h2
  ·rw[if_neg (by intro e;exact h1 (List.length_eq_zero_iff.1 (by omega)))]
   exact h2
 have hs1:0<p.s.length∧(spI 0 p.s).length=p.t.length∧∀ s∈p.s,0≤s.f∧s.f≤2000∧0≤s.t∧s.t≤2000:=by
  rcases hP.cov with⟨h1,s,h2,h3,h4⟩|⟨h1,h2⟩
  ·rw[h1,h2]
   refine⟨by simp,by simp[spI,h3,h4],fun x hx=>?_⟩
   simp at hx
   subst hx
   omega
  ·have h3:=yS 0 h2
   have h4:=jN h2
   refine⟨?_,by rw[h3];omega,fun x hx=>?_⟩
   ·rcases hs:p.s with _|⟨s,ss⟩
    ·rw[hs]at h2
     have h5:(0:Int)=p.t.length:=h2
     exact absurd (List.length_eq_zero_iff.1 (by omega)) h1
    ·simp
   ·have:=h4.2 x hx
    omega
 refine { hp:=aV,hG:=F2,hV:=?_,hXr:=rfl,hpR:=I1,hCl:=fun d cfg H l=>HO d cfg H l,hCn:=EO,h5:=by show p.t.length≤90;omega,hB:=rfl,hC:=hC,hLv:=fun d cfg h t ht=>(C2 ht hb).1 d cfg h,hsb:=hs1.2.2,hVl:=fun d cfg h=>?_ }
 ·exact { n:=by show p.t.length≤2000;omega,sp:=hs1.2.1,sn:=⟨hs1.1,by show p.s.length≤2000;omega⟩,fn:=by show fs.length≤2000;omega,sf:=hsp,fv:=hfv,w:=⟨hw.1,by show p.w≤100000000;omega⟩,bl:=jn,b2:=fun h=>mK h,cl:=⟨by show C.length≤4000;omega,hC2⟩,lv:=fun t ht=>(C2 ht hb).2,rs:=fun t lv e a b h1 h2 h3=>wI h1 h2 h3 }
 ·obtain⟨_,rfl,h1,_⟩:=Bu (prim:=pZ) d aV p (by omega) (by omega) fs (by omega) fun f hf=>by have h1:=hF f hf;exact⟨by have:=h1.advL;omega,by have:=h1.kerL;omega,by have:=h1.ligL;omega⟩
  have hv:oe p fs=0:=by
   refine zU (by omega) ?_ (yV hfv) hcv
   rintro (h|⟨s,hs,h⟩)
   ·unfold qW at h;omega
   ·have:=hsp s hs
    unfold oX at h
    omega
  have:=h1 rfl cfg h
  rw[hv]at this
  exact this
theorem xC{p:Par}{fs:List Fnt}{n:Nat}(hP:uo p n fs.length)(hn:n≤60)(hf1:1≤fs.length)(hf3:fs.length≤3)(hF:∀ f∈fs,nv f):∃ X:Txt,X.p=p∧X.fs=fs∧CtxA pZ X:=by
 have htn:=hP.len
 obtain⟨C,hC,hC1,hC2⟩:=yO p.t (by omega)
 exact⟨_,rfl,rfl,lF hP hn hf1 hf3 hF hC hC1 hC2⟩
end Bi
end Go.Ab
namespace Go.Ab
open Go.Proofs
namespace Bi
attribute [local congr] ay
theorem vR{X:Txt}{k:Nat×Nat}(hk:jl X k):∀ (m s:Nat) (y:Int),k.1≤s→s≤k.2→∀ x∈X.linK k m s y,∃ s y,k.1≤s∧s≤k.2∧x=X.lin k s (X.fin k s) y
 | 0,s,y,h1,h2,x,h=>by
  rw[Txt.linK]at h
  simp at h
  exact⟨_,_,h1,h2,h⟩
 | m+1,s,y,h1,h2,x,h=>by
  rw[Txt.linK]at h
  rcases List.mem_cons.1 h with h|h
  ·exact⟨_,_,h1,h2,h⟩
  ·split at h
   ·have hf:=dB (X:=X) hk h2
    exact vR hk m _ _ (by omega) (by omega) x h
   ·cases h
theorem qb{X:Txt}:∀ (l:List (Nat×Nat)) (y:Int),(∀ k∈l,jl X k)→∀ x∈X.linA l y,∃ k∈l,jl X k∧∃ s y,k.1≤s∧s≤k.2∧x=X.lin k s (X.fin k s) y
 | [],_,_,_,h=>by cases h
 | k::l,y,hl,x,h=>by
  rw[Txt.linA]at h
  have hk:=hl k (by simp)
  rcases List.mem_append.1 h with h|h
  ·exact⟨k,by simp,hk,vR hk _ _ _ (Nat.le_refl _) hk.1 x h⟩
  ·obtain⟨k',hk,h⟩:=qb l _ (fun x hx=>hl x (by simp[hx])) x h
   exact⟨k',by simp[hk],h⟩
theorem TxV.lwd{X:Txt}(hV:TxV X)(hn:X.p.t.length≤90){k:Nat×Nat}(hk:jl X k){s:Nat}(h1:k.1≤s)(h2:s≤k.2):0≤X.lwd k s (X.fin k s)∧X.lwd k s (X.fin k s)≤81000000000:=by
 have hf:=dB (X:=X) hk h2
 obtain⟨h8,h9⟩:=hV.gls h1 hf.1 hf.2.1 hk.2.1 hn
 have hlg:(X.lgl k s (X.fin k s)).length≤8100∧∀ g∈X.lgl k s (X.fin k s),0≤g.a∧g.a≤10000000:=by
  unfold Txt.lgl
  split
  ·refine⟨by simpa using h8,fun g hg=>?_⟩
   obtain⟨g',hg',rfl⟩:=List.mem_map.1 hg
   have:=h9 g' hg'
   split
   ·simp
   ·exact this
  ·exact⟨h8,h9⟩
 have h:=gv hlg.2 _ (Nat.le_refl _)
 rw[List.take_length]at h
 unfold Txt.lwd
 omega
theorem vQ{X:Txt}{k:Nat×Nat}:∀ (m s:Nat) (y:Int),(X.linK k m s y).length≤m+1
 | 0,s,y=>by rw[Txt.linK];simp
 | m+1,s,y=>by
  rw[Txt.linK]
  split
  ·have:=vQ (X:=X) (k:=k) m (X.fin k s) (y+(X.lin k s (X.fin k s) y).l.h)
   simp only[List.length_cons];omega
  ·simp
theorem vP{X:Txt}{M:Nat}:∀ (l:List (Nat×Nat)) (y:Int),(∀ k∈l,k.2-k.1≤M)→(X.linA l y).length≤l.length*(M+1)
 | [],_,_=>by simp[Txt.linA]
 | k::l,y,h=>by
  rw[Txt.linA,List.length_append,List.length_cons,Nat.succ_mul]
  have h1:=vQ (X:=X) (k:=k) (k.2-k.1) k.1 y
  have h2:=h k (by simp)
  have h3:=vP (X:=X) l (y+Txt.hgt (X.linK k (k.2-k.1) k.1 y)) fun x hx=>h x (by simp[hx])
  omega
theorem TxV.linL{X:Txt}(hV:TxV X)(hn:X.p.t.length≤90):(X.linA X.secs 0).length≤8281:=by
 have h1:=hV.secsL
 have h2:=vP (X:=X) (M:=X.p.t.length) X.secs 0 fun k hk=>by have:=(hV.secs k hk).2.1;omega
 have h3:X.secs.length*(X.p.t.length+1)≤91*91:=Nat.mul_le_mul (by omega) (by omega)
 omega
set_option maxHeartbeats 16000000 in
set_option maxRecDepth 100000 in
theorem aligns_ok(d:Nat)(l:List Int):∃ v h',aF Tryz.prog md pZ 10000 (d+18) ⟨0,[],0⟩ 6 [il l] []=some (v,h')∧v=.bool true:=by
 have hA:=fun cfg h=>mG (d+16) cfg h
 have hNw:=fun cfg h=>nh (prim:=pZ) (d+16) cfg h (aV _ (by decide)) l
 have hL:(l.take 4000).length≤4000:=by simp;omega
 refine cm (R:=fun r _=>r=.bool true) (aV _ (by decide)) Tryz.func6 rfl rfl rfl ?_
 generalize hLL:l.take 4000=L at *
 have r0:Rd [some [il L,.int .i64 0]] 0 L 0:=⟨rfl,by omega⟩
 obtain⟨fs,k1,hf1,hf3,hfo,hk1,c1⟩:=gW (prim:=pZ) (d+13) ⟨0,[],0⟩ [some [il L,.int .i64 0]] aV L 0 hL 0 r0 (aP (by simp)) (by simp)
 have r1:Rd (hk [some [il L,.int .i64 0]] 0 L k1) 0 L k1:=r0.set hk1
 obtain⟨p,k2,hpo,hk2,c2⟩:=ni (prim:=pZ) (d+12) ⟨0,[],0⟩ (hk [some [il L,.int .i64 0]] 0 L k1) aV L k1 hL 0 r1 (aP (by simp)) (by simp) 14 fs.length (by omega) (by omega) (by omega)
 obtain⟨X,hXp,hXf,C⟩:=xC hpo (by omega) hf1 hf3 hfo
 have hLn:=fun cfg h=>C.lines d cfg h
 rw[hXp,hXf]at hLn
 obtain⟨hlf,hmp,s0,s1,s2,s3,s4,l5,t5⟩:=qA p
 have hlf':=eq_true (List.all_eq_true.1 hlf)
 have hp0:putAt [V.nils,.nils,.int .i64 0,.int .i64 0,.int .i64 0] 0 (bU p)=bU p:=rfl
 have hll:=C.hV.linL C.h5
 have hlm:∀ x∈X.linA X.secs 0,0≤x.l.w∧x.l.w≤81000000000∧0≤x.l.lv∧x.l.x=if p.a=2 then (p.w-x.l.w) / 2 else if p.a=1↔x.l.lv.tmod 2=0 then p.w-x.l.w else 0:=fun x hx=>by
  obtain⟨k,hk,hkV,s,y,h1,h2,rfl⟩:=qb (X:=X) X.secs 0 C.hV.secs x hx
  have h3:=C.hV.lwd C.h5 hkV h1 h2
  refine⟨h3.1,h3.2,baseS_rng.1,?_⟩
  rw[← hXp]
  rfl
 generalize X.linA X.secs 0=Ls at *
 have e14:((14:Nat):Int)=14:=rfl
 rw[e14]at c2
 simp only[hk,List.set_cons_zero]at c1 c2
 simp(disch:=omega)[hNw,c1,c2,hlf',hmp,l5,t5,hp0,hLn]
 have hlk:∀ x:bV,(aL x).length=10:=fun _=>rfl
 have hlmp:∀ x:bV,isMap (aL x)=false:=fun _=>rfl
 have hlt:∀ x:bV,(aL x).take 10=aL x:=fun _=>rfl
 have hlf2:∀ x:bV,(∀ c∈aL x,c.leaf=true)=True:=fun x=>eq_true (by simp[aL,bR])
 have hlr:∀ x:bV,(∀ c∈aL x,c.rf=true)=True:=fun x=>eq_true (by simp[aL,bR])
 have hxp:∀ x:bV,putAt [V.int .i64 0,.int .i64 0,.int .i64 0,.int .i64 0,.int .i64 0,.int .i64 0,.int .i64 0,.int .i64 0,.int .i64 0,.nils] 0 (aL x)=aL x:=fun _=>rfl
 have hx2:∀ x:bV,slot (aL x) 2=some (.int .i64 x.l.lv):=fun _=>rfl
 have hx3:∀ x:bV,slot (aL x) 3=some (.int .i64 x.l.x):=fun _=>rfl
 have hx5:∀ x:bV,slot (aL x) 5=some (.int .i64 x.l.w):=fun _=>rfl
 refine ah (fun m fr H=>∃ (i:Nat) (Z:Heap),i≤Ls.length∧m=Ls.length-i∧H=some [il L,.int .i64 k2]::some (bU p)::Z ∧
  Slots 92 [(5,.ptr 1 0),(6,.lst (Ls.map aL)),(8,.int .i64 i)] fr) (m:=Ls.length) (by omega) ⟨0,[],by omega,by omega,rfl,by simp⟩ ?_
 rintro m fr H ⟨i,Z,hi,rfl,rfl,hs⟩
 obtain⟨j,rfl⟩:=hs.ex
 clear hs
 by_cases hlt2:i<Ls.length
 ·have hI:(i:Int)<Ls.length:=by omega
  obtain⟨x,hx⟩:=atG hlt2
  have hxm:=hlm x (List.mem_of_getElem? hx)
  have hwz:Cfg.wr ⟨0,[],0⟩ (Z.length+1+1)=true:=aP (by simp)
  simp(disch:=omega)[hI,hx,hlk,hlmp,hlt,hlf2,hxp,hx5,hmp,s4,hwz,-getElem?_pos]
  have hpw:=hpo.w
  have hpa:=hpo.a
  obtain⟨w1,w2,w3,w4⟩:=hxm
  have hxr:-100000000000≤x.l.x∧x.l.x≤100000000000:=by
   rw[w4]
   split
   ·omega
   ·split<;>omega
  rw[wrap64 (by omega) (by omega)]
  refine ai 11 (by kernel_rfl) ?_
  simp(disch:=omega)[hlmp,hx3,hx5,hmp,s3,s4,wrap64,-getElem?_pos]
  refine ak (fun ha=>?_) (fun ha=>?_)
  ·have ha2:p.a=2:=by simpa using ha
   rw[if_pos ha2]at w4
   have hd:p.w-x.l.x-x.l.w-x.l.x=0∨p.w-x.l.x-x.l.w-x.l.x=1:=by omega
   rcases hd with hd|hd
   ·simp(disch:=omega)[hd,wrap64,-getElem?_pos]
    exact ae (m':=Ls.length-(i+1)) (by omega) ⟨i+1,Z++[some (aL x)],by omega,rfl,rfl,by simp(disch:=omega)⟩
   ·simp(disch:=omega)[hd,wrap64,-getElem?_pos]
    exact ae (m':=Ls.length-(i+1)) (by omega) ⟨i+1,Z++[some (aL x)],by omega,rfl,rfl,by simp(disch:=omega)⟩
  ·have ha2:¬ p.a=2:=by simpa using ha
   rw[if_neg ha2]at w4
   simp(disch:=omega)[hlmp,hx2,hmp,s3,-getElem?_pos]
   refine ak (fun hb=>?_) (fun hb=>?_)
   ·have hb2:¬ (p.a=1↔x.l.lv.tmod 2=0):=by
     intro h
     by_cases h0:p.a=0<;>by_cases h1:x.l.lv.tmod 2=0<;>simp[h0,h1]at hb<;>omega
    rw[if_neg hb2]at w4
    simp(disch:=omega)[w4,wrap64,-getElem?_pos]
    exact ae (m':=Ls.length-(i+1)) (by omega) ⟨i+1,Z++[some (aL x)],by omega,rfl,rfl,by simp(disch:=omega)⟩
   ·have hb2:p.a=1↔x.l.lv.tmod 2=0:=by
     by_cases h0:p.a=0<;>by_cases h1:x.l.lv.tmod 2=0<;>simp[h0,h1]at hb<;>omega
    rw[if_pos hb2]at w4
    have e1:p.w-(p.w-x.l.w)-x.l.w=0:=by omega
    simp(disch:=omega)[e1,w4,wrap64,-getElem?_pos]
    exact ae (m':=Ls.length-(i+1)) (by omega) ⟨i+1,Z++[some (aL x)],by omega,rfl,rfl,by simp(disch:=omega)⟩
 ·obtain rfl:i=Ls.length:=by omega
  have hI:¬ ((Ls.length:Int)<Ls.length):=by omega
  simp(disch:=omega)[hI,hA]
end Bi
end Go.Ab
