/- The program: a text with everything that does not depend on its width. -/
import Derived.Test.YtldfgkjmficliaaGreatPaBr
import Derived.Test.YtldfgkjmficliaaGreatPaTq
set_option linter.unusedSimpArgs false
set_option linter.unusedVariables false
namespace Go.Ab
open Go.Proofs
namespace Bi
attribute [local congr] az
theorem I6(X:Txt)(bv sv kv sv':V)(pb mw mu:Nat):bV (txC X bv sv kv pb mw mu) 9 sv'=txC X bv sv' kv pb mw mu:=rfl
theorem xP(X:Txt)(bv sv kv kv':V)(pb mw mu:Nat):bV (txC X bv sv kv pb mw mu) 15 kv'=txC X bv sv kv' pb mw mu:=rfl
theorem jI{B:Heap}{a b c:Option (List V)}:(B++[a,b]).set (B.length+1) c=B++[a,c]:=by simp
theorem vK:∀ {l:List Spn}{i j:Nat}{s:Spn},l[i]?=some s→(spI j (l.take i)).length+(s.t-s.f).toNat≤(spI j l).length
 | [],_,_,_,h=>by simp at h
 | x::l,0,j,s,h=>by
  simp at h
  subst h
  simp[spI]
 | x::l,i+1,j,s,h=>by
  have:=vK (l:=l) (i:=i) (j:=j+1) (s:=s) (by simpa using h)
  rw[List.take_succ_cons,spI,spI,List.length_append,List.length_append]
  omega
theorem gR{h:Heap}{lo k:Nat}{v:V}{cs:List V}(ho:OwnC h lo k v cs):cellsOf v=some [v]∧v.leaf=true:=by
 rcases ho with⟨rfl,rfl⟩|⟨b,n,rfl,_⟩<;>exact⟨rfl,rfl⟩
section
variable {prim:FuncId→Option Prim}(d:Nat)
set_option maxRecDepth 100000 in
set_option maxHeartbeats 16000000 in
theorem GY(hp:∀ f,Np5 f→prim f=none)(X:Txt)(hX:X.B=dI X.p.t X.C)(ht:X.p.t.length≤2000)(hcl:X.C.length≤4000∧∀ x∈X.C,0≤x∧x≤X.p.t.length)(hC:∀ cfg h,af md (K prim (d+4)) cfg 51 [rl X.p.t] h=some (il X.C,h))(hC2:∀ cfg h,af md (K prim (d+5)) cfg 51 [rl X.p.t] h=some (il X.C,h))(hC3:∀ cfg h,af md (K prim (d+6)) cfg 51 [rl X.p.t] h=some (il X.C,h))
  (hsn:X.p.s.length≤2000) (hsl:X.sp.length≤4000) (hsb:∀ s∈X.p.s,0≤s.f∧s.f≤2000∧0≤s.t∧s.t≤2000) (hLv:∀ cfg h (t:List Int),t.length≤2000→af md (K prim (d+5)) cfg 68 [rl t,.int .i64 X.p.b] h=some (il (X.lv t X.p.b),h)) (H:Heap) (cfg:Cfg) (hlo:cfg.lo≤H.length) (hthr:cfg.thr≤H.length):
  ∃ r h2,af md (K prim (d+7)) cfg 25 [.agg (cF X.p),.lst (X.fs.map aH)] H=some (r,h2) ∧
   ∃ B0 sv kv,r=.ptr (B0.length+1) 0∧Hp h2 (B0++[some (X.bd.map V.bool),some (txC X (.sl B0.length 0 (X.p.t.length+1) (X.p.t.length+1) 1) sv kv (H.length+2) (H.length+3) (H.length+4))]) [(4,kv,X.secs.flatMap X.sec),(1,sv,X.sp.map (V.int .i64))] ∧
    B0.length=H.length+6∧B0.take H.length=H∧ab B0 (H.length+2)=some (X.bd.map V.bool)∧B0[H.length+3]?=some (wB [])∧B0[H.length+4]?=some (uB []):=by
 refine su rfl (hp 25 (by decide)) Tryz.func25 rfl rfl rfl ?_
 have hB:=fun cfg h=>G4 (prim:=prim) d hp X.p.t ht X.C hcl.2 hcl.1 hC cfg h
 have hP:=fun H cfg hlo hthr=>FC (prim:=prim) d hp X.p.t ht X.C hcl.2 hcl.1 hC2 H cfg hlo hthr
 obtain⟨hlf,hmp,s0,s1,s2,s3,s4,l5,t5⟩:=pslP X.p
 simp(disch:=omega)[hlf,hmp,s0]
 have hP':∃ B0:Heap,af md (K prim (d+6)) ⟨H.length+1,[],H.length+1⟩ 52 [rl X.p.t] (H++[some (cF X.p)])=some (.agg (prC X.p.t (ey X.p.t) (.sl (H.length+2) 0 (X.p.t.length+1) (X.p.t.length+1) 1) (H.length+3) (H.length+4)),B0) ∧
   B0.length=H.length+6∧B0.take H.length=H∧ab B0 H.length=some (cF X.p)∧ab B0 (H.length+2)=some (X.bd.map V.bool)∧B0[H.length+3]?=some (wB [])∧B0[H.length+4]?=some (uB []):=by
  have h1:=hP (H++[some (cF X.p)]) ⟨H.length+1,[],H.length+1⟩ (by simp) (by simp)
  rw[List.length_append,List.length_singleton]at h1
  have hbm:isMap (List.map V.bool (mkS (X.p.t.length+1) X.C))=false:=fD
  exact⟨_,h1,by simp,by simp,by simp[ab,hmp],by simp[ab,hbm,Txt.bd],by simp,by simp⟩
 clear hP
 obtain⟨B0,hP,hBl,hBt,hBp,hBb,hBw,hBu⟩:=hP'
 refine ai 12 (by kernel_rfl) ?_
 have mB:md 50=0:=rfl
 have mC:md 51=0:=rfl
 have mP:md 52=2:=rfl
 have ht0:=hthr
 have hml:∀ b,(V.mref b).leaf=true:=fun _=>rfl
 simp only[cF,prC]at hP
 simp(disch:=omega)[hB,hC3,hP,mB,mC,mP,mQ,wrap64,cF,hml,-List.map_replicate]
 have hbl0:∀ l:List Bool,isMap (l.map V.bool)=false:=fun l=>fD
 refine aj (fun m fr Hc=>∃ (i:Nat),i≤X.C.length∧m=X.C.length-i∧Hc=B0++[some ((mkS (X.p.t.length+1) (X.C.take i)).map V.bool),some (txC X (.sl B0.length 0 (X.p.t.length+1) (X.p.t.length+1) 1) .nils .nils (H.length+2) (H.length+3) (H.length+4))] ∧
  Slots 131 [(2,.ptr H.length 0),(5,rl X.p.t),(6,.ptr (B0.length+1) 0),(34,il X.C),(35,.int .i64 X.C.length),(36,.int .i64 i)] fr) (m:=X.C.length) (by omega) ⟨0,by omega,by omega,by simp[txC,cF,prC,hX,mkS],by simp⟩ ?_
 rintro m fr Hc ⟨i,hi,rfl,rfl,hs⟩
 obtain⟨j,rfl⟩:=hs.ex
 clear hs
 have hmk:=ly (n:=X.p.t.length+1) (X.C.take i)
 have hwr:∀ k,(Cfg.wr cfg (B0.length+k))=true:=fun k=>bE (by omega)
 have hwr0:(Cfg.wr cfg B0.length)=true:=bE (by omega)
 by_cases hlt:i<X.C.length
 ·have hI:(i:Int)<X.C.length:=by omega
  obtain⟨x,hx⟩:=atG hlt
  have hx2:=hcl.2 x (List.mem_of_getElem? hx)
  have hsn:mkS (X.p.t.length+1) (X.C.take (i+1))=(mkS (X.p.t.length+1) (X.C.take i)).set x.toNat true:=by rw[List.take_add_one,hx];exact pN
  obtain⟨q,rfl⟩:∃ q:Nat,x=q:=⟨x.toNat,by omega⟩
  have q1:q+1≤X.p.t.length+1:=by omega
  obtain⟨x0,x1,x2,x3,x4,x5,x6,x7,x8,x9,x15,xl,xm⟩:=dh X (.sl B0.length 0 (X.p.t.length+1) (X.p.t.length+1) 1) .nils .nils (H.length+2) (H.length+3) (H.length+4)
  generalize txC X (.sl B0.length 0 (X.p.t.length+1) (X.p.t.length+1) 1) .nils .nils (H.length+2) (H.length+3) (H.length+4)=T at *
  generalize mkS (X.p.t.length+1) (X.C.take i)=bd1 at *
  simp(disch:=omega)[hI,hx,x8,xm,q1,hwr0,hmk,setB,hbl0,wrap64,-getElem?_pos,-List.map_set]
  refine ae (m':=X.C.length-(i+1)) (by omega) ⟨i+1,by omega,by omega,by rw[hsn];simp,by simp(disch:=omega)⟩
 obtain rfl:i=X.C.length:=by omega
 rw[List.take_length]
 clear hmk
 have hbp:∀ {Hc Z:Heap} {os:List Own},Hp Hc (B0++Z) os→ab Hc H.length=some (cF X.p):=fun h=>by rw[h.block (by simp;omega),al (by omega)];exact hBp
 have g0:Hp (B0++[some ((mkS (X.p.t.length+1) X.C).map V.bool),some (txC X (.sl B0.length 0 (X.p.t.length+1) (X.p.t.length+1) 1) .nils .nils (H.length+2) (H.length+3) (H.length+4))]) _ []:=Hp.start
 have g1:=g0.nil 1
 have hbp0:=hbp g0
 clear g0
 simp(disch:=omega)[hbp0,s1]
 refine aj (fun m fr Hc=>∃ (i:Nat) (sv:V),i≤X.p.s.length∧m=X.p.s.length-i∧Hp Hc (B0++[some ((mkS (X.p.t.length+1) X.C).map V.bool),some (txC X (.sl B0.length 0 (X.p.t.length+1) (X.p.t.length+1) 1) sv .nils (H.length+2) (H.length+3) (H.length+4))]) [(1,sv,(spI 0 (X.p.s.take i)).map (V.int .i64))] ∧
  Slots 131 [(5,rl X.p.t),(6,.ptr (B0.length+1) 0),(48,.lst (X.p.s.map cb)),(49,.int .i64 X.p.s.length),(50,.int .i64 i)] fr) (m:=X.p.s.length) (by omega) ⟨0,.nils,by omega,by omega,g1,by simp⟩ ?_
 clear g1 hbp0
 rintro m fr Hc ⟨i,sv,hi,rfl,hhp,hs⟩
 obtain⟨j,rfl⟩:=hs.ex
 clear hs
 by_cases hlt:i<X.p.s.length
 ·have hI:(i:Int)<X.p.s.length:=by omega
  obtain⟨s,hs⟩:=atG hlt
  have hsb2:=hsb s (List.mem_of_getElem? hs)
  have hsn2:spI 0 (X.p.s.take (i+1))=spI 0 (X.p.s.take i)++List.replicate (s.t-s.f).toNat (i:Int):=by
   rw[List.take_add_one,hs]
   have:=vL (l:=X.p.s.take i) (i:=0) (s:=s)
   rw[List.length_take,Nat.min_eq_left (by omega),Nat.zero_add]at this
   exact this
  have hsl4:(cb s).length=4:=rfl
  have hst4:List.take 4 (cb s)=cb s:=rfl
  have hslf:(∀ x∈cb s,x.leaf=true)=True:=eq_true (by simp[cb])
  have hsmp:isMap (cb s)=false:=rfl
  have hle:=hhp.le
  simp only[List.length_append,List.length_cons,List.length_nil]at hle
  have hwH:cfg.wr Hc.length=true:=bE (by omega)
  have hth:cfg.thr≤Hc.length:=by omega
  have hpa:putAt [V.int .i64 0,.int .i64 0,.int .i64 0,.int .i64 0] 0 (cb s)=cb s:=rfl
  have q0:slot (cb s) 0=some (.int .i64 s.f):=rfl
  have q1:slot (cb s) 1=some (.int .i64 s.t):=rfl
  simp(disch:=omega)[hI,hs,hsl4,hst4,hslf,hsmp,hwH,hth,hpa,q0,-getElem?_pos]
  have g1:=(hhp.new (cs:=cb s) (n:=1) (k:=4) hsmp hsl4 []).swap
  generalize hsbk:Hc.length=sb at *
  generalize Hc++[some (cb s)]=Hd at *
  have hsp0:=vK (l:=X.p.s) (s:=s) (i:=i) (j:=0) hs
  rw[show (spI 0 X.p.s).length=X.sp.length from rfl]at hsp0
  refine aj (fun m fr Hc=>∃ (c:Nat) (sv:V),c≤(s.t-s.f).toNat∧m=(s.t-s.f).toNat-c∧Hp Hc (B0++[some ((mkS (X.p.t.length+1) X.C).map V.bool),some (txC X (.sl B0.length 0 (X.p.t.length+1) (X.p.t.length+1) 1) sv .nils (H.length+2) (H.length+3) (H.length+4))]) [(1,sv,(spI 0 (X.p.s.take i)++List.replicate c (i:Int)).map (V.int .i64)),(4,.sl sb 0 1 1 4,cb s)] ∧
   Slots 131 [(5,rl X.p.t),(6,.ptr (B0.length+1) 0),(9,.int .i64 i),(10,.ptr sb 0),(11,.int .i64 (s.f+c)),(48,.lst (X.p.s.map cb)),(49,.int .i64 X.p.s.length),(50,.int .i64 i)] fr) (m:=(s.t-s.f).toNat) (by omega) ⟨0,sv,by omega,by omega,by simpa using g1,by simp⟩ ?_
  clear g1 hwH hth hle hsbk
  rintro m fr Hc ⟨c,sv,hc,rfl,hhp,hs'⟩
  obtain⟨j,rfl⟩:=hs'.ex
  clear hs'
  obtain⟨g1,g2,g3,g4⟩:=hhp.snd.at
  have hsb3:ab Hc sb=some (cb s):=g3
  by_cases hlc:c<(s.t-s.f).toNat
  ·have hJ:s.f+(c:Int)<s.t:=by omega
   obtain⟨x0,x1,x2,x3,x4,x5,x6,x7,x8,x9,x15,xl,xm⟩:=dh X (.sl B0.length 0 (X.p.t.length+1) (X.p.t.length+1) 1) sv .nils (H.length+2) (H.length+3) (H.length+4)
   have hbx:ab Hc (B0.length+1)=some (txC X (.sl B0.length 0 (X.p.t.length+1) (X.p.t.length+1) 1) sv .nils (H.length+2) (H.length+3) (H.length+4)):=by rw[hhp.block (by simp)];simp[ab,xm]
   simp(disch:=omega)[hJ,hsb3,q1,hbx,x9,-getElem?_pos]
   refine bZ (m:=1) (hhp.push _) (by simp;omega) rfl rfl (by omega) (by omega) (by simp;omega) (by simp;omega) ?_
   intro sv' H' hh
   have hbx2:ab H' (B0.length+1)=some (txC X (.sl B0.length 0 (X.p.t.length+1) (X.p.t.length+1) 1) sv .nils (H.length+2) (H.length+3) (H.length+4)):=by rw[hh.block (by simp)];simp[ab,xm]
   obtain⟨hv1,hv2⟩:=gR hh.head
   have hth1:cfg.thr≤B0.length+1:=by omega
   simp(disch:=omega)[hbx2,xl,hwr,I6,hv1,hth1]
   have hh2:=hh.set (b:=B0.length+1) (by simp) (some (txC X (.sl B0.length 0 (X.p.t.length+1) (X.p.t.length+1) 1) sv' .nils (H.length+2) (H.length+3) (H.length+4)))
   rw[jI]at hh2
   have hw:IntKind.i64.wrap (s.f+(c:Int)+1)=s.f+((c+1:Nat):Int):=by rw[wrap64 (by omega) (by omega)];omega
   rw[hw]
   exact ae (m':=(s.t-s.f).toNat-(c+1)) (by omega) ⟨c+1,sv',by omega,by omega,by simpa[List.replicate_succ']using hh2,by simp(disch:=omega)⟩
  ·have hJ:¬ (s.f+(c:Int)<s.t):=by omega
   have hcE:c=(s.t-s.f).toNat:=by omega
   simp(disch:=omega)[hJ,hsb3,q1,wrap64,-getElem?_pos]
   exact ae (m':=X.p.s.length-(i+1)) (by omega) ⟨i+1,sv,by omega,by omega,by rw[hsn2,← hcE];exact hhp.drop ((List.nil_sublist _).cons_cons _),by simp(disch:=omega)⟩
 obtain rfl:i=X.p.s.length:=by omega
 have hI:¬ ((X.p.s.length:Int)<X.p.s.length):=by omega
 rw[List.take_length]at hhp
 obtain⟨x0,x1,x2,x3,x4,x5,x6,x7,x8,x9,x15,xl,xm⟩:=dh X (.sl B0.length 0 (X.p.t.length+1) (X.p.t.length+1) 1) sv .nils (H.length+2) (H.length+3) (H.length+4)
 have hbx:ab Hc (B0.length+1)=some (txC X (.sl B0.length 0 (X.p.t.length+1) (X.p.t.length+1) 1) sv .nils (H.length+2) (H.length+3) (H.length+4)):=by rw[hhp.block (by simp)];simp[ab,xm]
 have hBln:X.B.length=X.p.t.length:=by rw[hX,iV]
 simp(disch:=omega)[hI,hbx,x6]
 refine aj (fun m fr Hc=>∃ (i f:Nat) (kv:V) (sc:List (Nat×Nat)),i≤X.B.length∧m=X.B.length-i∧f≤i∧sc.length≤i∧iJ 0 0 X.B=sc++iJ f i (X.B.drop i)∧Hp Hc (B0++[some ((mkS (X.p.t.length+1) X.C).map V.bool),some (txC X (.sl B0.length 0 (X.p.t.length+1) (X.p.t.length+1) 1) sv kv (H.length+2) (H.length+3) (H.length+4))]) [(4,kv,sc.flatMap X.sec),(1,sv,X.sp.map (V.int .i64))] ∧
  Slots 131 [(5,rl X.p.t),(6,.ptr (B0.length+1) 0),(12,.int .i64 f),(77,il X.B),(78,.int .i64 X.B.length),(79,.int .i64 i)] fr) (m:=X.B.length) (by omega) ⟨0,0,.nils,[],by omega,by omega,by omega,by simp,by simp,hhp.nil 4,by simp⟩ ?_
 clear hhp hbx x0 x1 x2 x3 x4 x5 x6 x7 x8 x9 x15 xl xm
 rintro m fr Hc ⟨i,f,kv,sc,hi2,rfl,hfi,hscl,hsec,hhp,hs⟩
 obtain⟨j,rfl⟩:=hs.ex
 clear hs
 obtain⟨x0,x1,x2,x3,x4,x5,x6,x7,x8,x9,x15,xl,xm⟩:=dh X (.sl B0.length 0 (X.p.t.length+1) (X.p.t.length+1) 1) sv kv (H.length+2) (H.length+3) (H.length+4)
 have hbx:ab Hc (B0.length+1)=some (txC X (.sl B0.length 0 (X.p.t.length+1) (X.p.t.length+1) 1) sv kv (H.length+2) (H.length+3) (H.length+4)):=by rw[hhp.block (by simp)];simp[ab,xm]
 have hcl:B0.length+2≤Hc.length:=by have:=hhp.le;simpa using this
 have mS:md 53=0:=rfl
 by_cases hlt:i<X.B.length
 ·have hI:(i:Int)<X.B.length:=by omega
  have hb:=atI hlt
  rw[List.drop_eq_getElem_cons hlt,iJ,show X.B[i]=lgI X.B i by rw[List.getElem?_eq_getElem hlt]at hb;exact Option.some.inj hb]at hsec
  simp(disch:=omega)[hI,hb,-getElem?_pos]
  refine ak (fun h2=>?_) (fun h2=>?_)
  ·have h3:lgI X.B i=2:=by simpa using h2
   rw[if_pos h3]at hsec
   have hS:=fun cfg H2 hb2=>xG (prim:=prim) d hp X ht hLv cfg H2 (B0.length+1) (H.length+2) (H.length+3) (H.length+4) (.sl B0.length 0 (X.p.t.length+1) (X.p.t.length+1) 1) sv kv hb2 (f,i+1) (by simp;omega) (by simp;omega)
   have eI:(((i+1:Nat)):Int)=(i:Int)+1:=by omega
   simp only[eI]at hS
   have hseL:(X.sec (f,i+1)).length=4:=rfl
   have hseM:isMap (X.sec (f,i+1))=false:=rfl
   have hseF:(∀ x∈X.sec (f,i+1),x.leaf=true)=True:=eq_true (by simp[Txt.sec])
   rw[dF]
   refine ai 11 (by kernel_rfl) ?_
   have hseT:List.take 4 (X.sec (f,i+1))=X.sec (f,i+1):=rfl
   have hfl:(sc.flatMap X.sec).length=sc.length*4:=cX (f:=X.sec) (n:=4) (fun _=>rfl) sc
   simp(disch:=omega)[hbx,x15,hS,mS,wrap64,-getElem?_pos,hseL,hseM,hseF,hseT]
   refine bZ (m:=1) (hhp.push _) (by simp;omega) (by rw[hseL]) hseM (by omega) (by omega) (by rw[hfl];omega) (by rw[hfl];omega) ?_
   intro kv' H' hh
   have hbx2:ab H' (B0.length+1)=some (txC X (.sl B0.length 0 (X.p.t.length+1) (X.p.t.length+1) 1) sv kv (H.length+2) (H.length+3) (H.length+4)):=by rw[hh.block (by simp)];simp[ab,xm]
   obtain⟨hv1,hv2⟩:=gR hh.head
   have hth1:cfg.thr≤B0.length+1:=by omega
   simp(disch:=omega)[hbx2,xl,hwr,xP,hv1,hth1,wrap64,-getElem?_pos]
   have hh2:=hh.set (b:=B0.length+1) (by simp) (some (txC X (.sl B0.length 0 (X.p.t.length+1) (X.p.t.length+1) 1) sv kv' (H.length+2) (H.length+3) (H.length+4)))
   rw[jI]at hh2
   exact ae (m':=X.B.length-(i+1)) (by omega) ⟨i+1,i+1,kv',sc++[(f,i+1)],by omega,by omega,by omega,by simp;omega,by rw[hsec];simp,by simpa using hh2,by simp(disch:=omega)⟩
  ·have h3:¬ lgI X.B i=2:=by simpa using h2
   rw[if_neg h3]at hsec
   simp(disch:=omega)[wrap64,-getElem?_pos]
   exact ae (m':=X.B.length-(i+1)) (by omega) ⟨i+1,f,kv,sc,by omega,by omega,by omega,by omega,hsec,hhp,by simp(disch:=omega)⟩
 obtain rfl:i=X.B.length:=by omega
 have hI:¬ ((X.B.length:Int)<X.B.length):=by omega
 rw[List.drop_length,iJ,List.append_nil]at hsec
 have hN:=fun cfg h r=>GD (prim:=prim) (d+2) hp cfg h r
 by_cases h0:X.p.t=[]
 ·have hcas:X.p.t.length=0∨nlS (lgI X.p.t (X.p.t.length-1))=true:=.inl (by rw[h0];rfl)
  have hIl:X.B.length=0:=by rw[hBln,h0];rfl
  have hnil:(X.p.t=[])=True:=eq_true h0
  simp(disch:=omega)[hI,hnil]
  have hS:=fun cfg H2 hb2=>xG (prim:=prim) d hp X ht hLv cfg H2 (B0.length+1) (H.length+2) (H.length+3) (H.length+4) (.sl B0.length 0 (X.p.t.length+1) (X.p.t.length+1) 1) sv kv hb2 (X.p.t.length,X.p.t.length) (by simp) (by simp)
  have hseL:(X.sec (X.p.t.length,X.p.t.length)).length=4:=rfl
  have hseM:isMap (X.sec (X.p.t.length,X.p.t.length))=false:=rfl
  have hseF:(∀ x∈X.sec (X.p.t.length,X.p.t.length),x.leaf=true)=True:=eq_true (by simp[Txt.sec])
  have hseT:List.take 4 (X.sec (X.p.t.length,X.p.t.length))=X.sec (X.p.t.length,X.p.t.length):=rfl
  have hfl:(sc.flatMap X.sec).length=sc.length*4:=cX (f:=X.sec) (n:=4) (fun _=>rfl) sc
  refine ai 12 (by kernel_rfl) ?_
  simp(disch:=omega)[hbx,x15,hS,mS,-getElem?_pos,hseL,hseM,hseF,hseT]
  refine bZ (m:=1) (hhp.push _) (by simp;omega) (by rw[hseL]) hseM (by omega) (by omega) (by rw[hfl];omega) (by rw[hfl];omega) ?_
  intro kv' H' hh
  have hbx2:ab H' (B0.length+1)=some (txC X (.sl B0.length 0 (X.p.t.length+1) (X.p.t.length+1) 1) sv kv (H.length+2) (H.length+3) (H.length+4)):=by rw[hh.block (by simp)];simp[ab,xm]
  obtain⟨hv1,hv2⟩:=gR hh.head
  have hth1:cfg.thr≤B0.length+1:=by omega
  have hh2:=hh.set (b:=B0.length+1) (by simp) (some (txC X (.sl B0.length 0 (X.p.t.length+1) (X.p.t.length+1) 1) sv kv' (H.length+2) (H.length+3) (H.length+4)))
  rw[jI]at hh2
  have hfin:X.secs=sc++[(X.p.t.length,X.p.t.length)]:=by
   unfold Txt.secs
   rw[if_pos hcas,hsec]
  simp(disch:=omega)[hbx2,xl,hwr,xP,hv1,hth1,-getElem?_pos]
  exact⟨B0,rfl,⟨sv,kv',by rw[hfin];simpa[Txt.bd]using hh2⟩,hBl,hBt,hBb,hBw,hBu⟩
 obtain⟨w,hw⟩:∃ w,X.p.t.length=w+1:=⟨X.p.t.length-1,by have:=List.length_pos_iff.2 h0;omega⟩
 have hw1:(X.p.t.length:Int)-1=w:=by omega
 have hw2:X.p.t[w]?=some (lgI X.p.t (X.p.t.length-1)):=by rw[hw];exact atI (by omega)
 simp(disch:=omega)[hI,h0,hN,hw1,hw2,wrap64,-getElem?_pos]
 refine ak (fun hb=>?_) (fun hb=>?_)
 ·have hcas:X.p.t.length=0∨nlS (lgI X.p.t (X.p.t.length-1))=true:=.inr hb
  have hS:=fun cfg H2 hb2=>xG (prim:=prim) d hp X ht hLv cfg H2 (B0.length+1) (H.length+2) (H.length+3) (H.length+4) (.sl B0.length 0 (X.p.t.length+1) (X.p.t.length+1) 1) sv kv hb2 (X.p.t.length,X.p.t.length) (by simp) (by simp)
  have hseL:(X.sec (X.p.t.length,X.p.t.length)).length=4:=rfl
  have hseM:isMap (X.sec (X.p.t.length,X.p.t.length))=false:=rfl
  have hseF:(∀ x∈X.sec (X.p.t.length,X.p.t.length),x.leaf=true)=True:=eq_true (by simp[Txt.sec])
  have hseT:List.take 4 (X.sec (X.p.t.length,X.p.t.length))=X.sec (X.p.t.length,X.p.t.length):=rfl
  have hfl:(sc.flatMap X.sec).length=sc.length*4:=cX (f:=X.sec) (n:=4) (fun _=>rfl) sc
  refine ai 12 (by kernel_rfl) ?_
  simp(disch:=omega)[hbx,x15,hS,mS,-getElem?_pos,hseL,hseM,hseF,hseT]
  refine bZ (m:=1) (hhp.push _) (by simp;omega) (by rw[hseL]) hseM (by omega) (by omega) (by rw[hfl];omega) (by rw[hfl];omega) ?_
  intro kv' H' hh
  have hbx2:ab H' (B0.length+1)=some (txC X (.sl B0.length 0 (X.p.t.length+1) (X.p.t.length+1) 1) sv kv (H.length+2) (H.length+3) (H.length+4)):=by rw[hh.block (by simp)];simp[ab,xm]
  obtain⟨hv1,hv2⟩:=gR hh.head
  have hth1:cfg.thr≤B0.length+1:=by omega
  have hh2:=hh.set (b:=B0.length+1) (by simp) (some (txC X (.sl B0.length 0 (X.p.t.length+1) (X.p.t.length+1) 1) sv kv' (H.length+2) (H.length+3) (H.length+4)))
  rw[jI]at hh2
  have hfin:X.secs=sc++[(X.p.t.length,X.p.t.length)]:=by
   unfold Txt.secs
   rw[if_pos hcas,hsec]
  simp(disch:=omega)[hbx2,xl,hwr,xP,hv1,hth1,-getElem?_pos]
  exact⟨B0,rfl,⟨sv,kv',by rw[hfin];simpa[Txt.bd]using hh2⟩,hBl,hBt,hBb,hBw,hBu⟩
 ·have hfin:X.secs=sc:=by
   unfold Txt.secs
   rw[if_neg (by rintro (h|h);omega;rw[hb]at h;cases h),hsec,List.append_nil]
  simp(disch:=omega)
  exact⟨B0,rfl,⟨sv,kv,by rw[hfin];exact hhp⟩,hBl,hBt,hBb,hBw,hBu⟩
end
end Bi
end Go.Ab
