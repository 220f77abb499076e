/- The program: the glyphs of a run. -/
import Derived.Test.YtldfgkjmficliaaGreatPaRe
import Derived.Test.YtldfgkjmficliaaGreatPaMi
set_option linter.unusedSimpArgs false
set_option linter.unusedVariables false
namespace Go.Ab
open Go.Proofs
namespace Bi
attribute [local congr] az
theorem cvr{h:Heap}{k:IntKind}{n:Int}:fc Tryz.prog h 21 3 (.int k n)=some (.int .i64 (IntKind.i64.wrap n),h):=by kernel_rfl
theorem hdc{x:Operand}:eG Tryz.prog (.convert 21 3 x)=true:=by kernel_rfl
def gl1(f:Fnt)(face size:Int)(t fo:List Int)(right:Bool)(i:Nat):Gly:=
 { i:=IntKind.i64.wrap (if right=true then mirS (lgI t i) else lgI t i),m:=lgI fo i,f:=i,t:=i+1,x:=0,a:=ki f size (lgI t i),n:=face,z:=size }
def fp(f:Fnt)(face size:Int)(t fo:List Int)(right:Bool)(a n:Nat):List Gly:=(List.range n).map fun k=>gl1 f face size t fo right (a+k)
def dU:Int→List Gly→List Gly
 | _,[]=>[]
 | x,g::l=>{ g with x:=x }::dU (x+g.a) l
def mM(fs:List Fnt)(f:Fnt)(face size:Int)(t fo:List Int)(B:List Bool)(a n:Nat)(right:Bool):List Gly:=
 dU 0 (if right=true then jl B (cL fs face size t B (ligL fs f face size t B (fp f face size t fo right a n))) else cL fs face size t B (ligL fs f face size t B (fp f face size t fo right a n)))
section
variable {f:Fnt}{face size:Int}{t fo:List Int}{right:Bool}
theorem ml{a n:Nat}:fp f face size t fo right a (n+1)=fp f face size t fo right a n++[gl1 f face size t fo right (a+n)]:=by
 unfold fp
 rw[List.range_succ,List.map_append]
 rfl
theorem Sng.snoc:∀ {l:List Gly}{a b:Int}{g:Gly},Sng a b l→g.f=b→g.t=b+1→Sng a (b+1) (l++[g])
 | [],_,_,_,h,h1,h2=>by
  have h:_=_:=h
  exact⟨by rw[h1,h],by rw[h2,h],by show _+1=_+1;rw[h]⟩
 | _::_,_,_,_,⟨h1,h2,h3⟩,g1,g2=>⟨h1,h2,h3.snoc g1 g2⟩
theorem uz{a:Nat}:∀ n:Nat,Sng (a:Int) ((a+n:Nat):Int) (fp f face size t fo right a n)
 | 0=>rfl
 | n+1=>by
  rw[ml]
  exact (uz n).snoc rfl rfl
theorem gT:∀ {l:List Gly}{x:Int},(dU x l).length=l.length
 | [],_=>rfl
 | _::l,x=>by rw[dU,List.length_cons,gT,List.length_cons]
end
def cw(l:List Gly):Int:=(l.map (·.a)).sum
theorem ic{l:List Gly}{i:Nat}{g:Gly}(h:l[i]?=some g):cw (l.take (i+1))=cw (l.take i)+g.a:=by
 unfold cw
 rw[List.take_add_one,h]
 simp[List.sum_append]
theorem gh{l:List Gly}{M:Int}(h:∀ g∈l,0≤g.a∧g.a≤M):∀ i,i≤l.length→0≤cw (l.take i)∧cw (l.take i)≤i*M
 | 0,_=>by simp[cw]
 | i+1,hi=>by
  obtain⟨g,hg⟩:=atG (show i<l.length by omega)
  have h1:=gh h i (by omega)
  have h2:=h g (List.mem_of_getElem? hg)
  rw[ic hg]
  refine⟨by omega,?_⟩
  have e:((i+1:Nat):Int)*M=i*M+M:=by rw[Int.natCast_add,Int.add_mul];simp
  omega
theorem lL:∀ {l:List Gly}{i:Nat}{g:Gly}{x:Int},l[i]?=some g→(dU x l)[i]?=some { g with x:=x+cw (l.take i) }
 | [],_,_,_,h=>by simp at h
 | y::l,0,g,x,h=>by
  simp at h
  subst h
  simp[dU,cw]
 | y::l,i+1,g,x,h=>by
  rw[dU,List.getElem?_cons_succ,lL (l:=l) (by simpa using h)]
  simp[cw]
  omega
theorem sg{f:Fnt}(hv:bJ f=0){size:Int}(hs:1≤size)(hs2:size≤1000)(r:Int):0≤ki f size r∧ki f size r≤5000000:=by
 obtain⟨_,_,_,hr,_⟩:=du hv
 have hn:=hr.1
 unfold fV at hn
 have hw:=vW (r:=r) (f:=f) (by omega) f.adv hr.2.1
 unfold ki
 split
 ·omega
 ·exact gX hn.1 hs hs2 hw.1 hw.2
theorem lu{fs:List Fnt}{f:Fnt}{face size:Int}{t:List Int}{B:List Bool}(hf:fs[face.toNat]?=some f)(hv:bJ f=0)(hs:1≤size)(hs2:size≤1000):∀ {l:List Gly},(∀ g∈l,0≤g.a∧g.a≤5000000)→∀ g∈ligL fs f face size t B l,0≤g.a∧g.a≤5000000
 | [],_,_,h=>by cases h
 | [x],hl,g,h=>hl g h
 | x::y::r,hl,g,h=>by
  obtain⟨_,_,_,hr,_⟩:=du hv
  have hn:=hr.1
  unfold fV at hn
  unfold ligL at h
  split at h
  ·rcases List.mem_cons.1 h with rfl|h
   ·have hu:=zj (k:=⟨face,0,rnA t x.f,rnA t x.t,false⟩) hf hv
    exact gX hn.1 hs hs2 hu.1 hu.2
   ·exact lu hf hv hs hs2 (fun q hq=>hl q (by simp[hq])) g h
  ·rcases List.mem_cons.1 h with rfl|h
   ·exact hl _ (by simp)
   ·exact lu hf hv hs hs2 (l:=y::r) (fun q hq=>hl q (List.mem_cons_of_mem _ hq)) g h
theorem mn{fs:List Fnt}{f:Fnt}{face size:Int}{t:List Int}{B:List Bool}(hf:fs[face.toNat]?=some f)(hv:bJ f=0)(hs:1≤size)(hs2:size≤1000):∀ {l:List Gly},(∀ g∈l,0≤g.a∧g.a≤5000000)→∀ g∈cL fs face size t B l,0≤g.a∧g.a≤10000000
 | [],_,_,h=>by cases h
 | [x],hl,g,h=>by have:=hl g h;omega
 | x::y::r,hl,g,h=>by
  rw[cL]at h
  rcases List.mem_cons.1 h with rfl|h
  ·have h1:=hl x (by simp)
   unfold kn1
   split
   ·have hk:=uM hv hs hs2 (rnA t (y.f-1)) (rnA t y.f)
    have hw:wdS fs ⟨face,size,rnA t (y.f-1),rnA t y.f,false⟩=ja f size (rnA t (y.f-1)) (rnA t y.f):=by unfold wdS;rw[hf];rfl
    show 0≤max 0 (x.a+wdS fs ⟨face,size,rnA t (y.f-1),rnA t y.f,false⟩)∧max 0 (x.a+wdS fs ⟨face,size,rnA t (y.f-1),rnA t y.f,false⟩)≤10000000
    rw[hw]
    omega
   ·omega
  ·exact mn hf hv hs hs2 (l:=y::r) (fun q hq=>hl q (List.mem_cons_of_mem _ hq)) g h
theorem vz{B:List Bool}{l:List Gly}{g:Gly}(h:g∈jl B l):g∈l:=by
 have h1:=(List.Perm.flatten (List.reverse_perm (gU B l))).mem_iff.1 h
 rwa [fG]at h1
theorem vx{B:List Bool}{l:List Gly}:(jl B l).length=l.length:=by
 have h1:=(List.Perm.flatten (List.reverse_perm (gU B l))).length_eq
 rwa [fG]at h1
section
variable {prim:FuncId→Option Prim}(d:Nat)
set_option maxRecDepth 100000 in
set_option maxHeartbeats 16000000 in
theorem I2(hp:∀ f,Np5 f→prim f=none)(hG:prim 174=some (fQ 8 64))(fs:List Fnt)(f:Fnt)(face size:Int)(hf:fs[face.toNat]?=some f)(hv:bJ f=0)(hs:1≤size)(hs2:size≤1000)(t:List Int)(ht:t.length≤2000)(B:List Bool)(hB:B.length=t.length+1)
  (H:Heap) (mw mu bb:Nat) (es:fx) (eu:fL) (hmw:H[mw]?=some (wB es)) (hmu:H[mu]?=some (uB eu)) (hne:mw≠mu) (hW:WOK fs es) (hU:UOK fs eu) (hbb:ab H bb=some (B.map V.bool)) (fo:List Int) (hfo:fo.length=t.length) (a n:Nat) (hn:0<n) (hab:a+n≤t.length) (right:Bool)
  (cfg:Cfg) (hM:MW cfg H) (hlo:cfg.lo≤H.length):
  ∃ es' eu',WOK fs es'∧UOK fs eu' ∧
   af md (K prim (d+10)) cfg 95 [.agg (prC t fo (.sl bb 0 B.length B.length 1) mw mu),.agg (aH f),.int .i64 face,.int .i64 size,.int .i64 a,.int .i64 ((a+n:Nat):Int),.bool right] H =
    some (.lst ((mM fs f face size t fo B a n right).map au),(H.set mw (wB es')).set mu (uB eu')):=by
 suffices HH:∃ r h2,af md (K prim (d+10)) cfg 95 [.agg (prC t fo (.sl bb 0 B.length B.length 1) mw mu),.agg (aH f),.int .i64 face,.int .i64 size,.int .i64 a,.int .i64 ((a+n:Nat):Int),.bool right] H=some (r,h2) ∧
   (r=.lst ((mM fs f face size t fo B a n right).map au)∧∃ es' eu',WOK fs es'∧UOK fs eu'∧h2=(H.set mw (wB es')).set mu (uB eu')) by
  obtain⟨r,h2,h3,rfl,es',eu',h4,h5,rfl⟩:=HH
  exact⟨es',eu',h4,h5,h3⟩
 refine kj (Post:=fun r h2=>r=.lst ((mM fs f face size t fo B a n right).map au)∧∃ es' eu',WOK fs es'∧UOK fs eu'∧h2=(H.set mw (wB es')).set mu (uB eu')) rfl (hp 95 (by decide)) Tryz.func95 rfl rfl rfl ?_
 have hml:=(List.getElem?_eq_some_iff.1 hmw).1
 have hul:=(List.getElem?_eq_some_iff.1 hmu).1
 have hbl:=aw hbb
 have hbm:=lC hbb hmw
 have hbm2:=lC hbb hmu
 obtain⟨p1,p2,p3,p4,p5,p6,p7,p8,p9⟩:=xw t fo bb B.length B.length mw mu
 obtain⟨f1,f2,f3,f4,f5,_⟩:=fsl f
 have hu:Tryz.prog.underlying 39=some (.slice 97):=by kernel_rfl
 have hM':MW ⟨cfg.lo,cfg.ex,H.length⟩ H:=fun b cs h1 h2=>hM b cs h1 h2
 generalize hcf:(⟨cfg.lo,cfg.ex,H.length⟩:Cfg)=cf at *
 have hlo':cf.lo≤H.length:=by rw[← hcf];exact hlo
 have hthr:cf.thr=H.length:=by rw[← hcf]
 simp(disch:=omega)[p1,f1]
 refine aj (fun m fr Hc=>∃ (i:Nat) (vo:V) (es':fx),i≤n∧m=n-i∧WOK fs es' ∧
  Hp Hc (H.set mw (wB es')++[some (prC t fo (.sl bb 0 B.length B.length 1) mw mu),some (aH f)]) [(8,vo,(fp f face size t fo right a i).flatMap au)] ∧
  Slots 101 [(2,.int .i64 face),(3,.int .i64 size),(5,.int .i64 ((a+n:Nat):Int)),(6,.bool right),(7,.ptr H.length 0),(8,.ptr (H.length+1) 0),(15,vo),(16,.int .i64 ((a+i:Nat):Int))] fr) (m:=n) (by omega)
  ⟨0,.nils,es,by omega,by omega,hW,by rw[bI hmw];exact Hp.start.nil 8,by simp⟩ ?_
 rintro m fr Hc ⟨i,vo,es',hi,rfl,hW',hhp,hs'⟩
 obtain⟨j,rfl⟩:=hs'.ex
 clear hs'
 have hHc:H.length+2≤Hc.length:=by have:=hhp.le;simpa using this
 have bX:ab Hc H.length=some (prC t fo (.sl bb 0 B.length B.length 1) mw mu):=by rw[hhp.block (by simp),show H.length=H.length+0 from rfl,ed];rfl
 have bF:ab Hc (H.length+1)=some (aH f):=by rw[hhp.block (by simp),ed];rfl
 have hcw:Hc[mw]?=some (wB es'):=by
  have h1:(Hc.take (H.set mw (wB es')++[some (prC t fo (.sl bb 0 B.length B.length 1) mw mu),some (aH f)]).length)[mw]?=some (wB es'):=by
   rw[hhp.take,List.getElem?_append_left (by simpa using hml),List.getElem?_set_self hml]
  rwa [List.getElem?_take_of_lt (by simp;omega)]at h1
 have hM2:MW cf Hc:=hM'.of hlo' hhp (by simp) fun q cs hq h1 h2=>by
  rw[List.getElem?_append_left (by simpa using hq)]at h1
  by_cases hqm:mw=q
  ·subst hqm
   exact⟨_,hmw,rfl⟩
  ·rw[List.getElem?_set_ne hqm]at h1
   exact⟨_,h1,h2⟩
 by_cases hlt:i<n
 ·have hI:((a+i:Nat):Int)<((a+n:Nat):Int):=by omega
  have hall:=eq_true (List.all_eq_true.1 hM2.all)
  simp only[Bool.and_eq_true,decide_eq_true_eq]at hall
  have hx:=atI (l:=t) (i:=a+i) (by omega)
  have hxf:=atI (l:=fo) (i:=a+i) (by omega)
  obtain⟨es2,hW2,hC⟩:=vX (prim:=prim) (d+1) hp fs f ⟨face,size,lgI t (a+i),0,true⟩ hf hv hs hs2 Hc mw mu es' hcw hW' t fo bb B.length B.length ⟨Hc.length,mapsIn Hc,Hc.length⟩ (tz hcw)
  have hwd:wdS fs ⟨face,size,lgI t (a+i),0,true⟩=ki f size (lgI t (a+i)):=by unfold wdS;rw[hf];rfl
  rw[hwd]at hC
  simp only[pkC]at hC
  have m4:md 134=4:=rfl
  have hwl:∀ k,(Cfg.wr cf (Hc.length+k))=true:=fun k=>by rw[← hcf];exact bE (by omega)
  simp(disch:=omega)[hlt]
  refine ai 29 (by kernel_rfl) ?_
  simp (maxSteps:=1000000) (disch:=omega)[bX,bF,p3,p4,p5,p6,f3,f4,hx,hxf,m4,hall,hC,cvr,hdc,wrap64,-getElem?_pos]
  refine⟨iy fun q hq=>?_,?_⟩
  ·simp only[List.mem_cons,List.not_mem_nil,or_false]at hq
   rcases hq with rfl|rfl|rfl|rfl|rfl
   ·exact⟨_,bX⟩
   ·exact⟨_,bF⟩
   ·exact⟨_,bX⟩
   ·exact⟨_,bX⟩
   ·exact⟨_,bX⟩
  obtain⟨Hd,hHd⟩:∃ Hd,Hc.set mw (wB es2)=Hd:=⟨_,rfl⟩
  have hdl:Hd.length=Hc.length:=by rw[← hHd,List.length_set]
  have hpd:Hp Hd (H.set mw (wB es2)++[some (prC t fo (.sl bb 0 B.length B.length 1) mw mu),some (aH f)]) [(8,vo,(fp f face size t fo right a i).flatMap au)]:=by
   have:=hhp.set (b:=mw) (by simp;omega) (wB es2)
   rw[hHd,List.set_append_left _ _ (by simpa using hml),List.set_set]at this
   exact this
  rw[hHd,← hdl]
  have hwl2:(Cfg.wr cf Hd.length)=true:=by rw[← hcf];exact bE (by omega)
  have bXd:ab Hd H.length=some (prC t fo (.sl bb 0 B.length B.length 1) mw mu):=by rw[hpd.block (by simp),show H.length=H.length+0 from rfl,ed];rfl
  have hMi:=fun cfg h=>Ev (prim:=prim) (d+7) cfg h hp (lgI t (a+i))
  have hmG:∀ g,isMap (au g)=false:=fun _=>rfl
  have hlG:∀ g,(au g).length=8:=fun _=>rfl
  have htG:∀ g,(au g).take 8=au g:=fun _=>rfl
  have hfG:∀ g,(∀ x∈au g,x.leaf=true)=True:=fun g=>eq_true (List.all_eq_true.1 rfl)
  have x0':∀ g z,bV (au g) 0 (.int .i64 z)=au { g with i:=z }:=fun _ _=>rfl
  have hg0:∀ i m f t x a n z:Int,[V.int .i64 i,.int .i64 m,.int .i64 f,.int .i64 t,.int .i64 x,.int .i64 a,.int .i64 n,.int .i64 z]=au ⟨i,m,f,t,x,a,n,z⟩:=fun _ _ _ _ _ _ _ _=>rfl
  have e1:bV (bV (bV (bV (bV (bV (bV (bV [V.int IntKind.i64 0,V.int IntKind.i64 0,V.int IntKind.i64 0,V.int IntKind.i64 0,V.int IntKind.i64 0,V.int IntKind.i64 0,V.int IntKind.i64 0,V.int IntKind.i64 0] 0 (V.int IntKind.i64 (IntKind.i64.wrap (lgI t (a+i))))) 1 (V.int IntKind.i64 (lgI fo (a+i)))) 2 (V.int IntKind.i64 (↑a+↑i))) 3 (V.int IntKind.i64 (↑a+↑i+1))) 4 (V.int IntKind.i64 0)) 5 (V.int IntKind.i64 (ki f size (lgI t (a+i))))) 6 (V.int IntKind.i64 face)) 7 (V.int IntKind.i64 size)=au (gl1 f face size t fo false (a+i)):=rfl
  have hz0:isMap [V.int IntKind.i64 0,V.int IntKind.i64 0,V.int IntKind.i64 0,V.int IntKind.i64 0,V.int IntKind.i64 0,V.int IntKind.i64 0,V.int IntKind.i64 0,V.int IntKind.i64 0]=false:=rfl
  simp only[tJ,hz0,Bool.false_eq_true,if_false,FM,Option.bind_some,Function.comp,List.length_cons,List.length_nil,hwl2,and_true,Nat.reduceAdd,Nat.le_refl,if_true,Option.map_some,e1]
  have hiv:((a+(i+1):Nat):Int)=(a:Int)+i+1:=by omega
  have hgl:=br (fp f face size t fo right a i)
  have hgn:(fp f face size t fo right a i).length=i:=by unfold fp;simp
  cases right with
  | false =>
   simp(disch:=omega)[hmG,hlG,htG,hfG]
   refine bZ (m:=1) (hpd.push _) (by simp;omega) rfl rfl (by omega) (by omega) (by rw[hgl,hgn,Nat.mul_div_cancel _ (by omega)];omega) (by rw[hgl,hgn,Nat.mul_div_cancel _ (by omega)];omega) ?_
   intro vo' H' hhp2
   simp(disch:=omega)[wrap64]
   refine ae (m':=n-(i+1)) (by omega) ⟨i+1,vo',es2,by omega,rfl,hW2,by rw[ml];simpa using hhp2,by simp(disch:=omega);omega⟩
  | true =>
   simp(disch:=omega)[bXd,p5,hx,hMi,cvr,hmG,hlG,htG,hfG,hwl2,x0',-getElem?_pos]
   have hgt:({ i:=IntKind.i64.wrap (mirS (lgI t (a+i))),m:=(gl1 f face size t fo false (a+i)).m,f:=(gl1 f face size t fo false (a+i)).f,t:=(gl1 f face size t fo false (a+i)).t,x:=(gl1 f face size t fo false (a+i)).x,a:=(gl1 f face size t fo false (a+i)).a,n:=(gl1 f face size t fo false (a+i)).n,z:=(gl1 f face size t fo false (a+i)).z }:Gly)=gl1 f face size t fo true (a+i):=rfl
   rw[hgt]
   refine bZ (m:=1) (hpd.push _) (by simp;omega) rfl rfl (by omega) (by omega) (by rw[hgl,hgn,Nat.mul_div_cancel _ (by omega)];omega) (by rw[hgl,hgn,Nat.mul_div_cancel _ (by omega)];omega) ?_
   intro vo' H' hhp2
   simp(disch:=omega)[wrap64]
   refine ae (m':=n-(i+1)) (by omega) ⟨i+1,vo',es2,by omega,rfl,hW2,by rw[ml];simpa using hhp2,by simp(disch:=omega);omega⟩
 ·obtain rfl:i=n:=by omega
  have hcu:Hc[mu]?=some (uB eu):=by
   have h1:(Hc.take (H.set mw (wB es')++[some (prC t fo (.sl bb 0 B.length B.length 1) mw mu),some (aH f)]).length)[mu]?=some (uB eu):=by
    rw[hhp.take,List.getElem?_append_left (by simpa using hul),List.getElem?_set_ne hne,hmu]
   rwa [List.getElem?_take_of_lt (by simp;omega)]at h1
  have bB:ab Hc bb=some (B.map V.bool):=by rw[hhp.block (by simp;omega),al (by simpa using hbl),ar (Ne.symm hbm)];exact hbb
  have hsng:=uz (f:=f) (face:=face) (size:=size) (t:=t) (fo:=fo) (right:=right) (a:=a) i
  obtain⟨eu2,v1,H1,hU2,hh1,hL⟩:=HT (prim:=prim) d hp fs f face size hf hv hs hs2 t ht B hB Hc mw mu bb eu hcu hU bB fo (fp f face size t fo right a i) a ((a+i:Nat):Int) hsng (by omega) (by omega) vo (hhp.head.lo (Nat.zero_le _)) ⟨Hc.length,mapsIn Hc,Hc.length⟩ MW.self (Nat.le_refl _)
  have hh2:Hp H1 ((H.set mw (wB es')++[some (prC t fo (.sl bb 0 B.length B.length 1) mw mu),some (aH f)]).set mu (uB eu2)) [(8,v1,(ligL fs f face size t B (fp f face size t fo right a i)).flatMap au)]:=
   ((hhp.set (b:=mu) (by simp;omega) (uB eu2)).call1 hh1).drop (by simp)
  have hchn:=pL (fs:=fs) (f:=f) (face:=face) (size:=size) (t:=t) (B:=B) hsng
  generalize hL0:ligL fs f face size t B (fp f face size t fo right a i)=L0 at *
  have hall:=eq_true (List.all_eq_true.1 hM2.all)
  simp only[Bool.and_eq_true,decide_eq_true_eq]at hall
  have m5:md 137=5:=rfl
  simp(disch:=omega)
  refine ai 10 (by kernel_rfl) ?_
  simp(disch:=omega)[bX,bF,p3,p4,f3,f4,m5,hall,hL,-getElem?_pos]
  refine⟨iy fun q hq=>?_,?_⟩
  ·simp only[List.mem_cons,List.not_mem_nil,or_false]at hq
   rcases hq with rfl|rfl|rfl|rfl
   ·exact⟨_,bF⟩
   ·exact⟨_,bX⟩
   ·exact⟨_,bF⟩
   ·exact⟨_,bX⟩
  have hg0:∀ g∈fp f face size t fo right a i,0≤g.a∧g.a≤5000000:=fun g hg=>by
   unfold fp at hg
   obtain⟨k,_,rfl⟩:=List.mem_map.1 hg
   exact sg hv hs hs2 _
  have hA0:=lu (t:=t) (B:=B) hf hv hs hs2 hg0
  rw[hL0]at hA0
  obtain⟨base,hbase⟩:∃ base,(H.set mw (wB es')++[some (prC t fo (.sl bb 0 B.length B.length 1) mw mu),some (aH f)]).set mu (uB eu2)=base:=⟨_,rfl⟩
  have hbln:base.length=H.length+2:=by rw[← hbase];simp
  have hbw:base[mw]?=some (wB es'):=by rw[← hbase,List.getElem?_set_ne (Ne.symm hne),List.getElem?_append_left (by simpa using hml),List.getElem?_set_self hml]
  have hbB:ab base bb=some (B.map V.bool):=by rw[← hbase,ar (Ne.symm hbm2),al (by simpa using hbl),ar (Ne.symm hbm)];exact hbb
  have hMb:MW cf base:=fun q cs h1 h2=>by
   by_cases hqu:mu=q
   ·subst hqu
    exact hM' _ _ hmu rfl
   ·rw[← hbase,List.getElem?_set_ne hqu]at h1
    by_cases hql:q<H.length
    ·rw[List.getElem?_append_left (by simpa using hql)]at h1
     by_cases hqm:mw=q
     ·subst hqm
      exact hM' _ _ hmw rfl
     ·rw[List.getElem?_set_ne hqm]at h1
      exact hM' _ _ h1 h2
    ·rw[← hcf]
     exact bE (by omega)
  rw[hbase]at hh2
  obtain⟨es3,H2,hW3,hh3,hK⟩:=E7 (prim:=prim) d hp fs f face size hf hv hs hs2 t ht B hB H1 base mw mu bb es' hbw hW' hbB fo L0 a ((a+i:Nat):Int) hchn (by omega) (by omega) hA0 v1 hh2 cf hMb (by omega)
  have hA1:=mn (t:=t) (B:=B) hf hv hs hs2 hA0
  have hchn1:=rp (fs:=fs) (face:=face) (size:=size) (t:=t) (B:=B) hchn
  have hln0:0<L0.length:=by
   rcases Nat.eq_zero_or_pos L0.length with h|h
   ·rw[List.eq_nil_of_length_eq_zero h]at hchn
    have:(a:Int)=((a+i:Nat):Int):=hchn
    omega
   ·exact h
  have hrs:mM fs f face size t fo B a i right=dU 0 (if right=true then jl B (cL fs face size t B L0) else cL fs face size t B L0):=by unfold mM;rw[hL0]
  have hln1:(cL fs face size t B L0).length=L0.length:=gN
  generalize cL fs face size t B L0=L1 at *
  simp(disch:=omega)[hK]
  have hL1n:=hchn1.len
  refine ak (fun hr=>?_) (fun hr=>?_)
  ·have hB2:ab H2 bb=some (B.map V.bool):=by rw[hh3.block (by simp;omega),ar (Ne.symm hbm)];exact hbB
   obtain⟨vr,H3,hR1,hR2⟩:=I0 (prim:=prim) (d+6) hp hG t ht B hB H2 mw mu bb hB2 fo L1 a ((a+i:Nat):Int) hchn1 (by omega) (by omega) (by omega) v1 (hh3.head.lo (Nat.zero_le _)) cf (by have:=hh3.le;simp at this;omega) (by have:=hh3.le;simp at this;omega)
   have hh4:=(hh3.call1 hR1).drop (os':=[(8,vr,(jl B L1).flatMap au)]) (by simp)
   have hA2:∀ g∈jl B L1,0≤g.a∧g.a≤10000000:=fun g hg=>hA1 g (vz hg)
   have hln2:(jl B L1).length≤2000:=by rw[vx];omega
   rw[if_pos hr]at hrs
   rw[hrs]
   generalize jl B L1=L2 at *
   have bX2:ab H2 H.length=some (prC t fo (.sl bb 0 B.length B.length 1) mw mu):=by
    rw[hh3.block (by simp;omega),ar (by omega),← hbase,ar (by omega),show H.length=H.length+0 from rfl,ed]
    rfl
   simp(disch:=omega)[bX2,p3,p4,hR2]
   have hln2':=hln2
   have hvl:=hh4.head.lenF aP (by omega) hu
   have hpl:=@gT L2 0
   obtain⟨base3,hb3⟩:∃ base3,base.set mw (wB es3)=base3:=⟨_,rfl⟩
   have hb3l:base3.length=H.length+2:=by rw[← hb3,List.length_set,hbln]
   have hb3t:base3.take H.length=(H.set mw (wB es3)).set mu (uB eu2):=by
    rw[← hb3,← hbase,List.take_set,List.take_set,List.take_left' (by simp),List.set_comm _ _ hne.symm,List.set_set]
   rw[hb3]at hh4
   simp(disch:=omega)[hvl]
   refine aj (fun m fr Hc=>∃ (k:Nat),k≤L2.length∧m=L2.length-k∧Hp Hc base3 [(8,vr,((dU 0 L2).take k++L2.drop k).flatMap au)] ∧
    Slots 101 [(15,vr),(18,.int .i64 (cw (L2.take k))),(83,.int .i64 L2.length),(84,.int .i64 k)] fr) (m:=L2.length) (by omega) ⟨0,by omega,by omega,by simpa using hh4,by simp[cw]⟩ ?_
   rintro m fr Hk ⟨k,hk,rfl,hhk,hs'⟩
   obtain⟨j2,rfl⟩:=hs'.ex
   clear hs'
   by_cases hkl:k<L2.length
   ·obtain⟨g,hg⟩:=atG hkl
    obtain⟨bl,hve,hbl1,hbl2,hbl3⟩:=hhk.head.posF aP (by omega) (by rw[ba hpl];omega)
    rw[ba hpl]at hve
    subst hve
    have hCg:((dU 0 L2).take k++L2.drop k)[k]?=some g:=by rw[xM hpl (Nat.le_refl _)];exact hg
    have hset:=dt (x:={ g with x:=0+cw (L2.take k) }) hpl (lL (x:=0) hg)
    rw[Int.zero_add]at hset
    have hCl:=@ba _ (dU 0 L2) L2 hpl k
    have hC2:=@ba _ (dU 0 L2) L2 hpl (k+1)
    generalize (dU 0 L2).take k++L2.drop k=C at *
    have hgl8:(C.flatMap au).length=L2.length*8:=by rw[br,hCl]
    have hwk:=gh hA2 k (by omega)
    have hga:=hA2 g (List.mem_of_getElem? hg)
    have hws:=ic hg
    have q4:k*8+4+1≤L2.length*8:=by omega
    have q5:k*8+5+1≤L2.length*8:=by omega
    have hat5:=sG (l:=C.set k { g with x:=cw (L2.take k) }) (i:=k) (List.getElem?_set_self (by omega))
    have hgl9:((C.set k { g with x:=cw (L2.take k) }).flatMap au).length=L2.length*8:=by rw[br,List.length_set,hCl]
    have hwb:(Cfg.wr cf bl)=true:=by rw[← hcf];exact bE (by omega)
    have hs4:=uA hCg (v:=cw (L2.take k))
    have hkI:(k:Int)<L2.length:=by omega
    generalize cw (L2.take k)=wk at *
    simp(disch:=omega)[hkl,hbl3,hgl8,q4,hs4,hat5,hwb,fA,wrap64,-getElem?_pos,-List.flatMap_append]
    rw[hset]
    refine ae (m':=L2.length-(k+1)) (by omega) ⟨k+1,by omega,rfl,hhk.setO (fA _) (by rw[br,hC2,hgl8]),by rw[hws];simp(disch:=omega)⟩
   ·obtain rfl:k=L2.length:=by omega
    rw[dq hpl (Nat.le_refl _)]at hhk
    have hfz:=hhk.head.frzF (m:=H.length) (d:=4) aP (by omega) (by omega) (fun _=>rfl) (fun x c hc=>by simp[au]at hc;rcases hc with rfl|rfl|rfl|rfl|rfl|rfl|rfl|rfl<;>simp)
    simp(disch:=omega)
    refine⟨_,hfz,rfl,es3,hW3,eu2,hU2,?_⟩
    rw[← hb3t,← hhk.take,List.take_take,Nat.min_eq_left (by omega)]
  ·rw[if_neg (by rw[hr];simp)]at hrs
   rw[hrs]
   have hA2:=hA1
   have hln2:L1.length≤2000:=by omega
   obtain⟨vr,hvr⟩:∃ vr,vr=v1:=⟨_,rfl⟩
   have hh4:=hh3
   rw[← hvr]at hh4 ⊢
   obtain⟨L2,hL2⟩:∃ L2,L2=L1:=⟨_,rfl⟩
   rw[← hL2]at hA2 hln2 hh4 ⊢
   have hln2':=hln2
   have hvl:=hh4.head.lenF aP (by omega) hu
   have hpl:=@gT L2 0
   obtain⟨base3,hb3⟩:∃ base3,base.set mw (wB es3)=base3:=⟨_,rfl⟩
   have hb3l:base3.length=H.length+2:=by rw[← hb3,List.length_set,hbln]
   have hb3t:base3.take H.length=(H.set mw (wB es3)).set mu (uB eu2):=by
    rw[← hb3,← hbase,List.take_set,List.take_set,List.take_left' (by simp),List.set_comm _ _ hne.symm,List.set_set]
   rw[hb3]at hh4
   simp(disch:=omega)[hvl]
   refine aj (fun m fr Hc=>∃ (k:Nat),k≤L2.length∧m=L2.length-k∧Hp Hc base3 [(8,vr,((dU 0 L2).take k++L2.drop k).flatMap au)] ∧
    Slots 101 [(15,vr),(18,.int .i64 (cw (L2.take k))),(83,.int .i64 L2.length),(84,.int .i64 k)] fr) (m:=L2.length) (by omega) ⟨0,by omega,by omega,by simpa using hh4,by simp[cw]⟩ ?_
   rintro m fr Hk ⟨k,hk,rfl,hhk,hs'⟩
   obtain⟨j2,rfl⟩:=hs'.ex
   clear hs'
   by_cases hkl:k<L2.length
   ·obtain⟨g,hg⟩:=atG hkl
    obtain⟨bl,hve,hbl1,hbl2,hbl3⟩:=hhk.head.posF aP (by omega) (by rw[ba hpl];omega)
    rw[ba hpl]at hve
    subst hve
    have hCg:((dU 0 L2).take k++L2.drop k)[k]?=some g:=by rw[xM hpl (Nat.le_refl _)];exact hg
    have hset:=dt (x:={ g with x:=0+cw (L2.take k) }) hpl (lL (x:=0) hg)
    rw[Int.zero_add]at hset
    have hCl:=@ba _ (dU 0 L2) L2 hpl k
    have hC2:=@ba _ (dU 0 L2) L2 hpl (k+1)
    generalize (dU 0 L2).take k++L2.drop k=C at *
    have hgl8:(C.flatMap au).length=L2.length*8:=by rw[br,hCl]
    have hwk:=gh hA2 k (by omega)
    have hga:=hA2 g (List.mem_of_getElem? hg)
    have hws:=ic hg
    have q4:k*8+4+1≤L2.length*8:=by omega
    have q5:k*8+5+1≤L2.length*8:=by omega
    have hat5:=sG (l:=C.set k { g with x:=cw (L2.take k) }) (i:=k) (List.getElem?_set_self (by omega))
    have hgl9:((C.set k { g with x:=cw (L2.take k) }).flatMap au).length=L2.length*8:=by rw[br,List.length_set,hCl]
    have hwb:(Cfg.wr cf bl)=true:=by rw[← hcf];exact bE (by omega)
    have hs4:=uA hCg (v:=cw (L2.take k))
    have hkI:(k:Int)<L2.length:=by omega
    generalize cw (L2.take k)=wk at *
    simp(disch:=omega)[hkl,hbl3,hgl8,q4,hs4,hat5,hwb,fA,wrap64,-getElem?_pos,-List.flatMap_append]
    rw[hset]
    refine ae (m':=L2.length-(k+1)) (by omega) ⟨k+1,by omega,rfl,hhk.setO (fA _) (by rw[br,hC2,hgl8]),by rw[hws];simp(disch:=omega)⟩
   ·obtain rfl:k=L2.length:=by omega
    rw[dq hpl (Nat.le_refl _)]at hhk
    have hfz:=hhk.head.frzF (m:=H.length) (d:=4) aP (by omega) (by omega) (fun _=>rfl) (fun x c hc=>by simp[au]at hc;rcases hc with rfl|rfl|rfl|rfl|rfl|rfl|rfl|rfl<;>simp)
    simp(disch:=omega)
    refine⟨_,hfz,rfl,es3,hW3,eu2,hU2,?_⟩
    rw[← hb3t,← hhk.take,List.take_take,Nat.min_eq_left (by omega)]
end
end Bi
end Go.Ab
