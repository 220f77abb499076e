/- The program: the glyphs of a run. -/
import Derived.Test.YtoappddifbgegaaGreatPaMi
set_option linter.all false
set_option maxHeartbeats 16000000
set_option maxRecDepth 100000
namespace Go.Ab
open Go.Proofs
namespace Bi
attribute [local congr] az
theorem cvr{h:Heap}{k:IntKind}{n:Int}:eh Tryz.prog h 21 3 (.int k n)=some (.int .i64 (IntKind.i64.wrap n),h):=by kernel_rfl
theorem hdc{x:Operand}:eF Tryz.prog (.convert 21 3 x)=true:=by kernel_rfl
def gl1(f:Fnt)(face size:Int)(t fo:List Int)(right:Bool)(i:Nat):Gly:=
 { i:=IntKind.i64.wrap (if right=true then mirS (lgI t i) else lgI t i),m:=lgI fo i,f:=i,t:=i+1,x:=0,a:=rL f size (lgI t i),n:=face,z:=size }
def gD(f:Fnt)(face size:Int)(t fo:List Int)(right:Bool)(a n:Nat):List Gly:=(List.range n).map fun k=>gl1 f face size t fo right (a+k)
def ek:Int->List Gly->List Gly
 | _,[]=>[]
 | x,g::l=>{ g with x:=x }::ek (x+g.a) l
def runS(fs:List Fnt)(f:Fnt)(face size:Int)(t fo:List Int)(B:List Bool)(a n:Nat)(right:Bool):List Gly:=
 ek 0 (if right=true then lK B (cQ fs face size t B (ligL fs f face size t B (gD f face size t fo right a n))) else cQ fs face size t B (ligL fs f face size t B (gD f face size t fo right a n)))
section
variable {f:Fnt}{face size:Int}{t fo:List Int}{right:Bool}
theorem nr{a n:Nat}:gD f face size t fo right a (n+1)=gD f face size t fo right a n++[gl1 f face size t fo right (a+n)]:=by
 unfold gD;rw[Oy,LR];rfl
theorem Sng.snoc:∀ {l:List Gly}{a b:Int}{g:Gly},Sng a b l->g.f=b->g.t=b+1->Sng a (b+1) (l++[g])
 | [],_,_,_,h,h1,h2=>by
  have h:_=_:=h;exact⟨by rw[h1,h],by rw[h2,h],by show _+1=_+1;rw[h]⟩
 | _::_,_,_,_,⟨h1,h2,h3⟩,g1,g2=>⟨h1,h2,h3.snoc g1 g2⟩
theorem vG{a:Nat}:∀ n:Nat,Sng (a:Int) ((a+n:Nat):Int) (gD f face size t fo right a n)
 | 0=>rfl
 | n+1=>by
  rw[nr];exact (vG n).snoc rfl rfl
theorem jK:∀ {l:List Gly}{x:Int},(ek x l).length=l.length
 | [],_=>rfl
 | _::l,x=>by rw[ek,Lp,jK,Lp]
end
def cx(l:List Gly):Int:=(l.map (·.a)).sum
theorem iz{l:List Gly}{i:Nat}{g:Gly}(h:l[i]?=some g):cx (l.take (i+1))=cx (l.take i)+g.a:=by
 unfold cx;rw[LD,h];simp[Ox]
theorem gy{l:List Gly}{M:Int}(h:∀ g∈l,0<=g.a/\g.a<=M):∀ i,i<=l.length->0<=cx (l.take i)/\cx (l.take i)<=i*M
 | 0,_=>by simp[cx]
 | i+1,hi=>by
  obtain⟨g,hg⟩:=atG (show i<l.length by omega);have h1:=gy h i (by omega);have h2:=h g (K6 hg);rw[iz hg];refine⟨by omega,?_⟩;have e:((i+1:Nat):Int)*M=i*M+M:=by rw[Int.natCast_add,Int.add_mul];simp
  omega
theorem mK:∀ {l:List Gly}{i:Nat}{g:Gly}{x:Int},l[i]?=some g->(ek x l)[i]?=some { g with x:=x+cx (l.take i) }
 | [],_,_,_,h=>by simp at h
 | y::l,0,g,x,h=>by
  simp at h;subst h;simp[ek,cx]
 | y::l,i+1,g,x,h=>by
  rw[ek,LG,mK (l:=l) (by simpa using h)];simp[cx];omega
theorem zh{f:Fnt}(hv:bQ f=0){size:Int}(hs:1<=size)(h0:size<=1000)(r:Int):0<=rL f size r/\rL f size r<=5000000:=by
 obtain⟨_,_,_,hr,_⟩:=dm hv;have hn:=hr.1;unfold gp at hn;have hw:=xr (r:=r) (f:=f) (by omega) f.adv hr.2.1;unfold rL;split
 ·omega
 ·exact ik hn.1 hs h0 hw.1 hw.2
theorem mi{fs:List Fnt}{f:Fnt}{face size:Int}{t:List Int}{B:List Bool}(hf:fs[face.toNat]?=some f)(hv:bQ f=0)(hs:1<=size)(h0:size<=1000):∀ {l:List Gly},(∀ g∈l,0<=g.a/\g.a<=5000000)->∀ g∈ligL fs f face size t B l,0<=g.a/\g.a<=5000000
 | [],_,_,h=>by cases h
 | [x],hl,g,h=>hl g h
 | x::y::r,hl,g,h=>by
  obtain⟨_,_,_,hr,_⟩:=dm hv;have hn:=hr.1;unfold gp at hn;unfold ligL at h;split at h
  ·rcases Lt.1 h with rfl|h
   ·have hu:=AD (k:=⟨face,0,rnA t x.f,rnA t x.t,false⟩) hf hv;exact ik hn.1 hs h0 hu.1 hu.2
   ·exact mi hf hv hs h0 (fun q hq=>hl q (by simp[hq])) g h
  ·rcases Lt.1 h with rfl|h
   ·exact hl _ (by simp)
   ·exact mi hf hv hs h0 (l:=y::r) (fun q hq=>hl q (Lc _ hq)) g h
theorem nt{fs:List Fnt}{f:Fnt}{face size:Int}{t:List Int}{B:List Bool}(hf:fs[face.toNat]?=some f)(hv:bQ f=0)(hs:1<=size)(h0:size<=1000):∀ {l:List Gly},(∀ g∈l,0<=g.a/\g.a<=5000000)->∀ g∈cQ fs face size t B l,0<=g.a/\g.a<=10000000
 | [],_,_,h=>by cases h
 | [x],hl,g,h=>by have:=hl g h;omega
 | x::y::r,hl,g,h=>by
  rw[cQ]at h;rcases Lt.1 h with rfl|h
  ·have h1:=hl x (by simp);unfold kn1;split
   ·have hk:=vT hv hs h0 (rnA t (y.f-1)) (rnA t y.f);have hw:wdS fs ⟨face,size,rnA t (y.f-1),rnA t y.f,false⟩=kJ f size (rnA t (y.f-1)) (rnA t y.f):=by unfold wdS;rw[hf];rfl
    show 0<=max 0 (x.a+wdS fs ⟨face,size,rnA t (y.f-1),rnA t y.f,false⟩)/\max 0 (x.a+wdS fs ⟨face,size,rnA t (y.f-1),rnA t y.f,false⟩)<=10000000;rw[hw];omega
   ·omega
  ·exact nt hf hv hs h0 (l:=y::r) (fun q hq=>hl q (Lc _ hq)) g h
theorem wP{B:List Bool}{l:List Gly}{g:Gly}(h:g∈lK B l):g∈l:=by
 have h1:=(Oe (Og (iW B l))).mem_iff.1 h;rwa [fP]at h1
theorem wN{B:List Bool}{l:List Gly}:(lK B l).length=l.length:=by
 have h1:=(Oe (Og (iW B l))).length_eq;rwa [fP]at h1
section
variable {prim:FuncId->Option Prim}(d:Nat)
theorem JO(hp:∀ f,Np5 f->prim f=none)(hG:prim 329=some (gj 8 64))(fs:List Fnt)(f:Fnt)(face size:Int)(hf:fs[face.toNat]?=some f)(hv:bQ f=0)(hs:1<=size)(hH:size<=1000)(t:List Int)(ht:t.length<=2000)(B:List Bool)(hB:B.length=t.length+1)
  (H:Heap) (mw mu bb:Nat) (es:fG) (eu:fV) (hmw:H[mw]?=some (wB es)) (hmu:H[mu]?=some (uB eu)) (hne:mw≠mu) (hW:WOK fs es) (hU:UOK fs eu) (hN:ab H bb=some (B.map V.bool)) (fo:List Int) (hfo:fo.length=t.length) (a n:Nat) (hn:0<n) (hab:a+n<=t.length) (right:Bool)
  (cfg:Cfg) (hM:MW cfg H) (hlo:cfg.lo<=H.length):
  ∃ es' eu',WOK fs es'/\UOK fs eu' /\
   af md (K prim (d+10)) cfg 239 [.agg (prC t fo (.sl bb 0 B.length B.length 1) mw mu),.agg (aG f),.int .i64 face,.int .i64 size,.int .i64 a,.int .i64 ((a+n:Nat):Int),.bool right] H =
    some (.lst ((runS fs f face size t fo B a n right).map aq),(H.set mw (wB es')).set mu (uB eu')):=by
 suffices HH:∃ r h2,af md (K prim (d+10)) cfg 239 [.agg (prC t fo (.sl bb 0 B.length B.length 1) mw mu),.agg (aG f),.int .i64 face,.int .i64 size,.int .i64 a,.int .i64 ((a+n:Nat):Int),.bool right] H=some (r,h2) /\
   (r=.lst ((runS fs f face size t fo B a n right).map aq)/\∃ es' eu',WOK fs es'/\UOK fs eu'/\h2=(H.set mw (wB es')).set mu (uB eu')) by
  obtain⟨r,h2,h3,rfl,es',eu',h4,h5,rfl⟩:=HH;exact⟨es',eu',h4,h5,h3⟩
 refine lp (Post:=fun r h2=>r=.lst ((runS fs f face size t fo B a n right).map aq)/\∃ es' eu',WOK fs es'/\UOK fs eu'/\h2=(H.set mw (wB es')).set mu (uB eu')) rfl (hp 239 (by decide)) Tryz.func239 rfl rfl rfl ?_;have hO:=(K5.1 hmw).1;have hul:=(K5.1 hmu).1;have w7:=ao hN;have g3:=my hN hmw;have g4:=my hN hmu;obtain⟨p1,p2,p3,p4,p5,p6,p7,p8,p9⟩:=yB t fo bb B.length B.length mw mu;obtain⟨f1,f2,f3,f4,f5,_⟩:=fsl f;have hu:Tryz.prog.underlying 160=some (.slice 225):=by kernel_rfl
 have hZ:MW ⟨cfg.lo,cfg.ex,H.length⟩ H:=fun b cs h1 h2=>hM b cs h1 h2;generalize hw:(⟨cfg.lo,cfg.ex,H.length⟩:Cfg)=cf at *;have g5:cf.lo<=H.length:=by rw[<- hw];exact hlo
 have hthr:cf.thr=H.length:=by rw[<- hw]
 simp(disch:=omega)[p1,f1];refine ah (fun m fr Hc=>∃ (i:Nat) (vo:V) (es':fG),i<=n/\m=n-i/\WOK fs es' /\
  Hp Hc (H.set mw (wB es')++[some (prC t fo (.sl bb 0 B.length B.length 1) mw mu),some (aG f)]) [(8,vo,(gD f face size t fo right a i).flatMap aq)] /\
  Slots 101 [(2,.int .i64 face),(3,.int .i64 size),(5,.int .i64 ((a+n:Nat):Int)),(6,.bool right),(7,.ptr H.length 0),(8,.ptr (H.length+1) 0),(15,vo),(16,.int .i64 ((a+i:Nat):Int))] fr) (m:=n) (by omega)
  ⟨0,.nils,es,by omega,by omega,hW,by rw[bE hmw];exact Hp.start.nil 8,by simp⟩ ?_
 rintro m fr Hc ⟨i,vo,es',hi,rfl,w8,hd,hl⟩;obtain⟨j,rfl⟩:=hl.ex;clear hl;have hHc:H.length+2<=Hc.length:=by have:=hd.le;simpa using this
 have bX:ab Hc H.length=some (prC t fo (.sl bb 0 B.length B.length 1) mw mu):=by rw[hd.block (by simp),show H.length=H.length+0 from rfl,er];rfl
 have bF:ab Hc (H.length+1)=some (aG f):=by rw[hd.block (by simp),er];rfl
 have w9:Hc[mw]?=some (wB es'):=by
  have h1:(Hc.take (H.set mw (wB es')++[some (prC t fo (.sl bb 0 B.length B.length 1) mw mu),some (aG f)]).length)[mw]?=some (wB es'):=by
   rw[hd.take,K8 (by simpa using hO),Lm hO]
  rwa [LI (by simp;omega)]at h1
 have z0:MW cf Hc:=hZ.of g5 hd (by simp) fun q cs hq h1 h2=>by
  rw[K8 (by simpa using hq)]at h1;by_cases hP:mw=q
  ·subst hP;exact⟨_,hmw,rfl⟩
  ·rw[Lb hP]at h1;exact⟨_,h1,h2⟩
 by_cases hlt:i<n
 ·have hI:((a+i:Nat):Int)<((a+n:Nat):Int):=by omega
  have h7:=eq_true (Lk.1 z0.all);simp only[Ld,decide_eq_true_eq]at h7;have hx:=atI (l:=t) (i:=a+i) (by omega);have hxf:=atI (l:=fo) (i:=a+i) (by omega);obtain⟨es2,z1,hC⟩:=xt (prim:=prim) (d+1) hp fs f ⟨face,size,lgI t (a+i),0,true⟩ hf hv hs hH Hc mw mu es' w9 w8 t fo bb B.length B.length ⟨Hc.length,mapsIn Hc,Hc.length⟩ (uG w9);have hwd:wdS fs ⟨face,size,lgI t (a+i),0,true⟩=rL f size (lgI t (a+i)):=by unfold wdS;rw[hf];rfl
  rw[hwd]at hC;simp only[pkC]at hC;have m4:md 290=4:=rfl;have hwl:∀ k,(Cfg.wr cf (Hc.length+k))=true:=fun k=>by rw[<- hw];exact bH (by omega)
  simp(disch:=omega)[hlt];refine ai 29 (by kernel_rfl) ?_;simp (maxSteps:=1000000) (disch:=omega)[bX,bF,p3,p4,p5,p6,f3,f4,hx,hxf,m4,h7,hC,cvr,hdc,wrap64,-getElem?_pos];refine⟨iK fun q hq=>?_,?_⟩
  ·simp only[Lt,MB,or_false]at hq;rcases hq with rfl|rfl|rfl|rfl|rfl
   ·exact⟨_,bX⟩
   ·exact⟨_,bF⟩
   ·exact⟨_,bX⟩
   ·exact⟨_,bX⟩
   ·exact⟨_,bX⟩
  obtain⟨Hd,g6⟩:∃ Hd,Hc.set mw (wB es2)=Hd:=⟨_,rfl⟩;have hdl:Hd.length=Hc.length:=by rw[<- g6,LC]
  have g7:Hp Hd (H.set mw (wB es2)++[some (prC t fo (.sl bb 0 B.length B.length 1) mw mu),some (aG f)]) [(8,vo,(gD f face size t fo right a i).flatMap aq)]:=by
   have:=hd.set (b:=mw) (by simp;omega) (wB es2);rw[g6,LY _ _ (by simpa using hO),M0]at this;exact this
  rw[g6,<- hdl];have hQ:(Cfg.wr cf Hd.length)=true:=by rw[<- hw];exact bH (by omega)
  have bXd:ab Hd H.length=some (prC t fo (.sl bb 0 B.length B.length 1) mw mu):=by rw[g7.block (by simp),show H.length=H.length+0 from rfl,er];rfl
  have hMi:=fun cfg h=>FD (prim:=prim) (d+7) cfg h hp (lgI t (a+i));have z2:∀ g,isMap (aq g)=false:=fun _=>rfl;have z3:∀ g,(aq g).length=8:=fun _=>rfl;have z4:∀ g,(aq g).take 8=aq g:=fun _=>rfl;have z5:∀ g,(∀ x∈aq g,x.leaf=true)=True:=fun g=>eq_true (Lk.1 rfl);have x0':∀ g z,bR (aq g) 0 (.int .i64 z)=aq { g with i:=z }:=fun _ _=>rfl;have z6:∀ i m f t x a n z:Int,[V.int .i64 i,.int .i64 m,.int .i64 f,.int .i64 t,.int .i64 x,.int .i64 a,.int .i64 n,.int .i64 z]=aq ⟨i,m,f,t,x,a,n,z⟩:=fun _ _ _ _ _ _ _ _=>rfl;have e1:bR (bR (bR (bR (bR (bR (bR (bR [V.int IntKind.i64 0,V.int IntKind.i64 0,V.int IntKind.i64 0,V.int IntKind.i64 0,V.int IntKind.i64 0,V.int IntKind.i64 0,V.int IntKind.i64 0,V.int IntKind.i64 0] 0 (V.int IntKind.i64 (IntKind.i64.wrap (lgI t (a+i))))) 1 (V.int IntKind.i64 (lgI fo (a+i)))) 2 (V.int IntKind.i64 (↑a+↑i))) 3 (V.int IntKind.i64 (↑a+↑i+1))) 4 (V.int IntKind.i64 0)) 5 (V.int IntKind.i64 (rL f size (lgI t (a+i))))) 6 (V.int IntKind.i64 face)) 7 (V.int IntKind.i64 size)=aq (gl1 f face size t fo false (a+i)):=rfl;have hz0:isMap [V.int IntKind.i64 0,V.int IntKind.i64 0,V.int IntKind.i64 0,V.int IntKind.i64 0,V.int IntKind.i64 0,V.int IntKind.i64 0,V.int IntKind.i64 0,V.int IntKind.i64 0]=false:=rfl;simp only[uS,hz0,Lv,if_false,GQ,Md,Function.comp,Lp,L3,hQ,and_true,Nat.reduceAdd,La,if_true,LX,e1];have hiv:((a+(i+1):Nat):Int)=(a:Int)+i+1:=by omega
  have g0:=bq (gD f face size t fo right a i);have g1:(gD f face size t fo right a i).length=i:=by unfold gD;simp
  cases right with
  | false =>
   simp(disch:=omega)[z2,z3,z4,z5];refine cg (m:=1) (g7.push _) (by simp;omega) rfl rfl (by omega) (by omega) (by rw[g0,g1,Lw _ (by omega)];omega) (by rw[g0,g1,Lw _ (by omega)];omega) ?_;intro vo' H' hy;simp(disch:=omega)[wrap64];refine ae (m':=n-(i+1)) (by omega) ⟨i+1,vo',es2,by omega,rfl,z1,by rw[nr];simpa using hy,by simp(disch:=omega);omega⟩
  | true =>
   simp(disch:=omega)[bXd,p5,hx,hMi,cvr,z2,z3,z4,z5,hQ,x0',-getElem?_pos];have hgt:({ i:=IntKind.i64.wrap (mirS (lgI t (a+i))),m:=(gl1 f face size t fo false (a+i)).m,f:=(gl1 f face size t fo false (a+i)).f,t:=(gl1 f face size t fo false (a+i)).t,x:=(gl1 f face size t fo false (a+i)).x,a:=(gl1 f face size t fo false (a+i)).a,n:=(gl1 f face size t fo false (a+i)).n,z:=(gl1 f face size t fo false (a+i)).z }:Gly)=gl1 f face size t fo true (a+i):=rfl;rw[hgt];refine cg (m:=1) (g7.push _) (by simp;omega) rfl rfl (by omega) (by omega) (by rw[g0,g1,Lw _ (by omega)];omega) (by rw[g0,g1,Lw _ (by omega)];omega) ?_;intro vo' H' hy;simp(disch:=omega)[wrap64];refine ae (m':=n-(i+1)) (by omega) ⟨i+1,vo',es2,by omega,rfl,z1,by rw[nr];simpa using hy,by simp(disch:=omega);omega⟩
 ·obtain rfl:i=n:=by omega
  have hcu:Hc[mu]?=some (uB eu):=by
   have h1:(Hc.take (H.set mw (wB es')++[some (prC t fo (.sl bb 0 B.length B.length 1) mw mu),some (aG f)]).length)[mu]?=some (uB eu):=by
    rw[hd.take,K8 (by simpa using hul),Lb hne,hmu]
   rwa [LI (by simp;omega)]at h1
  have bB:ab Hc bb=some (B.map V.bool):=by rw[hd.block (by simp;omega),aj (by simpa using w7),ak (Ne.symm g3)];exact hN
  have hR:=vG (f:=f) (face:=face) (size:=size) (t:=t) (fo:=fo) (right:=right) (a:=a) i;obtain⟨eu2,v1,H1,z7,hh1,hL⟩:=Jg (prim:=prim) d hp fs f face size hf hv hs hH t ht B hB Hc mw mu bb eu hcu hU bB fo (gD f face size t fo right a i) a ((a+i:Nat):Int) hR (by omega) (by omega) vo (hd.head.lo (LA _)) ⟨Hc.length,mapsIn Hc,Hc.length⟩ MW.self (La _);have z8:Hp H1 ((H.set mw (wB es')++[some (prC t fo (.sl bb 0 B.length B.length 1) mw mu),some (aG f)]).set mu (uB eu2)) [(8,v1,(ligL fs f face size t B (gD f face size t fo right a i)).flatMap aq)]:=
   ((hd.set (b:=mu) (by simp;omega) (uB eu2)).call1 hh1).drop (by simp)
  have he:=qI (fs:=fs) (f:=f) (face:=face) (size:=size) (t:=t) (B:=B) hR;generalize z9:ligL fs f face size t B (gD f face size t fo right a i)=L0 at *;have h7:=eq_true (Lk.1 z0.all);simp only[Ld,decide_eq_true_eq]at h7;have m5:md 293=5:=rfl;simp(disch:=omega);refine ai 10 (by kernel_rfl) ?_;simp(disch:=omega)[bX,bF,p3,p4,f3,f4,m5,h7,hL,-getElem?_pos];refine⟨iK fun q hq=>?_,?_⟩
  ·simp only[Lt,MB,or_false]at hq;rcases hq with rfl|rfl|rfl|rfl
   ·exact⟨_,bF⟩
   ·exact⟨_,bX⟩
   ·exact⟨_,bF⟩
   ·exact⟨_,bX⟩
  have z6:∀ g∈gD f face size t fo right a i,0<=g.a/\g.a<=5000000:=fun g hg=>by
   unfold gD at hg;obtain⟨k,_,rfl⟩:=Me.1 hg;exact zh hv hs hH _
  have g8:=mi (t:=t) (B:=B) hf hv hs hH z6;rw[z9]at g8;obtain⟨base,h0⟩:∃ base,(H.set mw (wB es')++[some (prC t fo (.sl bb 0 B.length B.length 1) mw mu),some (aG f)]).set mu (uB eu2)=base:=⟨_,rfl⟩;have hS:base.length=H.length+2:=by rw[<- h0];simp
  have hbw:base[mw]?=some (wB es'):=by rw[<- h0,Lb (Ne.symm hne),K8 (by simpa using hO),Lm hO]
  have hbB:ab base bb=some (B.map V.bool):=by rw[<- h0,ak (Ne.symm g4),aj (by simpa using w7),ak (Ne.symm g3)];exact hN
  have hMb:MW cf base:=fun q cs h1 h2=>by
   by_cases hqu:mu=q
   ·subst hqu;exact hZ _ _ hmu rfl
   ·rw[<- h0,Lb hqu]at h1;by_cases hql:q<H.length
    ·rw[K8 (by simpa using hql)]at h1;by_cases hP:mw=q
     ·subst hP;exact hZ _ _ hmw rfl
     ·rw[Lb hP]at h1;exact hZ _ _ h1 h2
    ·rw[<- hw];exact bH (by omega)
  rw[h0]at z8;obtain⟨es3,H2,hW3,hz,hK⟩:=F9 (prim:=prim) d hp fs f face size hf hv hs hH t ht B hB H1 base mw mu bb es' hbw w8 hbB fo L0 a ((a+i:Nat):Int) he (by omega) (by omega) g8 v1 z8 cf hMb (by omega);have hA1:=nt (t:=t) (B:=B) hf hv hs hH g8;have hm:=sD (fs:=fs) (face:=face) (size:=size) (t:=t) (B:=B) he;have hln0:0<L0.length:=by
   rcases MN L0.length with h|h
   ·rw[Ml h]at he;have:(a:Int)=((a+i:Nat):Int):=he;omega
   ·exact h
  have g2:runS fs f face size t fo B a i right=ek 0 (if right=true then lK B (cQ fs face size t B L0) else cQ fs face size t B L0):=by unfold runS;rw[z9]
  have hln1:(cQ fs face size t B L0).length=L0.length:=gW;generalize cQ fs face size t B L0=L1 at *;simp(disch:=omega)[hK];have hL1n:=hm.len;refine ar (fun hr=>?_) (fun hr=>?_)
  ·have hB2:ab H2 bb=some (B.map V.bool):=by rw[hz.block (by simp;omega),ak (Ne.symm g3)];exact hbB
   obtain⟨vr,H3,hR1,hR2⟩:=JM (prim:=prim) (d+6) hp hG t ht B hB H2 mw mu bb hB2 fo L1 a ((a+i:Nat):Int) hm (by omega) (by omega) (by omega) v1 (hz.head.lo (LA _)) cf (by have:=hz.le;simp at this;omega) (by have:=hz.le;simp at this;omega);have hh:=(hz.call1 hR1).drop (os':=[(8,vr,(lK B L1).flatMap aq)]) (by simp);have hJ:∀ g∈lK B L1,0<=g.a/\g.a<=10000000:=fun g hg=>hA1 g (wP hg);have hj:(lK B L1).length<=2000:=by rw[wN];omega
   rw[if_pos hr]at g2;rw[g2];generalize lK B L1=L2 at *;have bX2:ab H2 H.length=some (prC t fo (.sl bb 0 B.length B.length 1) mw mu):=by
    rw[hz.block (by simp;omega),ak (by omega),<- h0,ak (by omega),show H.length=H.length+0 from rfl,er];rfl
   simp(disch:=omega)[bX2,p3,p4,hR2];have hT:=hj;have g9:=hh.head.lenF aO (by omega) hu;have h6:=@jK L2 0;obtain⟨base3,hA⟩:∃ base3,base.set mw (wB es3)=base3:=⟨_,rfl⟩;have k0:base3.length=H.length+2:=by rw[<- hA,LC,hS]
   have hD:base3.take H.length=(H.set mw (wB es3)).set mu (uB eu2):=by
    rw[<- hA,<- h0,Nx,Nx,Mz (by simp),NR _ _ hne.symm,M0]
   rw[hA]at hh;simp(disch:=omega)[g9];refine ah (fun m fr Hc=>∃ (k:Nat),k<=L2.length/\m=L2.length-k/\Hp Hc base3 [(8,vr,((ek 0 L2).take k++L2.drop k).flatMap aq)] /\
    Slots 101 [(15,vr),(18,.int .i64 (cx (L2.take k))),(83,.int .i64 L2.length),(84,.int .i64 k)] fr) (m:=L2.length) (by omega) ⟨0,by omega,by omega,by simpa using hh,by simp[cx]⟩ ?_
   rintro m fr Hk ⟨k,hk,rfl,h8,hl⟩;obtain⟨j2,rfl⟩:=hl.ex;clear hl;by_cases hX:k<L2.length
   ·obtain⟨g,hg⟩:=atG hX;obtain⟨bl,hY,k1,k2,hE⟩:=h8.head.posF aO (by omega) (by rw[bh h6];omega);rw[bh h6]at hY;subst hY;have k3:((ek 0 L2).take k++L2.drop k)[k]?=some g:=by rw[yY h6 (La _)];exact hg
    have h9:=dG (x:={ g with x:=0+cx (L2.take k) }) h6 (mK (x:=0) hg);rw[Int.zero_add]at h9;have hCl:=@bh _ (ek 0 L2) L2 h6 k;have k4:=@bh _ (ek 0 L2) L2 h6 (k+1);generalize (ek 0 L2).take k++L2.drop k=C at *;have ha:(C.flatMap aq).length=L2.length*8:=by rw[bq,hCl]
    have hwk:=gy hJ k (by omega);have hga:=hJ g (K6 hg);have k5:=iz hg;have q4:k*8+4+1<=L2.length*8:=by omega
    have q5:k*8+5+1<=L2.length*8:=by omega
    have hF:=tO (l:=C.set k { g with x:=cx (L2.take k) }) (i:=k) (Lm (by omega));have k6:((C.set k { g with x:=cx (L2.take k) }).flatMap aq).length=L2.length*8:=by rw[bq,LC,hCl]
    have k7:(Cfg.wr cf bl)=true:=by rw[<- hw];exact bH (by omega)
    have k8:=vH k3 (v:=cx (L2.take k));have hkI:(k:Int)<L2.length:=by omega
    generalize cx (L2.take k)=wk at *;simp(disch:=omega)[hX,hE,ha,q4,k8,hF,k7,fI,wrap64,-getElem?_pos,-List.flatMap_append];rw[h9];refine ae (m':=L2.length-(k+1)) (by omega) ⟨k+1,by omega,rfl,h8.setO (fI _) (by rw[bq,k4,ha]),by rw[k5];simp(disch:=omega)⟩
   ·obtain rfl:k=L2.length:=by omega
    rw[dF h6 (La _)]at h8;have k9:=h8.head.frzF (m:=H.length) (d:=4) aO (by omega) (by omega) (fun _=>rfl) (fun x c hc=>by simp[aq]at hc;rcases hc with rfl|rfl|rfl|rfl|rfl|rfl|rfl|rfl<;>simp);simp(disch:=omega);refine⟨_,k9,rfl,es3,hW3,eu2,z7,?_⟩;rw[<- hD,<- h8.take,NK,MD (by omega)]
  ·rw[if_neg (by rw[hr];simp)]at g2;rw[g2];have hJ:=hA1;have hj:L1.length<=2000:=by omega
   obtain⟨vr,hvr⟩:∃ vr,vr=v1:=⟨_,rfl⟩;have hh:=hz;rw[<- hvr]at hh ⊢;obtain⟨L2,hL2⟩:∃ L2,L2=L1:=⟨_,rfl⟩;rw[<- hL2]at hJ hj hh ⊢;have hT:=hj;have g9:=hh.head.lenF aO (by omega) hu;have h6:=@jK L2 0;obtain⟨base3,hA⟩:∃ base3,base.set mw (wB es3)=base3:=⟨_,rfl⟩;have k0:base3.length=H.length+2:=by rw[<- hA,LC,hS]
   have hD:base3.take H.length=(H.set mw (wB es3)).set mu (uB eu2):=by
    rw[<- hA,<- h0,Nx,Nx,Mz (by simp),NR _ _ hne.symm,M0]
   rw[hA]at hh;simp(disch:=omega)[g9];refine ah (fun m fr Hc=>∃ (k:Nat),k<=L2.length/\m=L2.length-k/\Hp Hc base3 [(8,vr,((ek 0 L2).take k++L2.drop k).flatMap aq)] /\
    Slots 101 [(15,vr),(18,.int .i64 (cx (L2.take k))),(83,.int .i64 L2.length),(84,.int .i64 k)] fr) (m:=L2.length) (by omega) ⟨0,by omega,by omega,by simpa using hh,by simp[cx]⟩ ?_
   rintro m fr Hk ⟨k,hk,rfl,h8,hl⟩;obtain⟨j2,rfl⟩:=hl.ex;clear hl;by_cases hX:k<L2.length
   ·obtain⟨g,hg⟩:=atG hX;obtain⟨bl,hY,k1,k2,hE⟩:=h8.head.posF aO (by omega) (by rw[bh h6];omega);rw[bh h6]at hY;subst hY;have k3:((ek 0 L2).take k++L2.drop k)[k]?=some g:=by rw[yY h6 (La _)];exact hg
    have h9:=dG (x:={ g with x:=0+cx (L2.take k) }) h6 (mK (x:=0) hg);rw[Int.zero_add]at h9;have hCl:=@bh _ (ek 0 L2) L2 h6 k;have k4:=@bh _ (ek 0 L2) L2 h6 (k+1);generalize (ek 0 L2).take k++L2.drop k=C at *;have ha:(C.flatMap aq).length=L2.length*8:=by rw[bq,hCl]
    have hwk:=gy hJ k (by omega);have hga:=hJ g (K6 hg);have k5:=iz hg;have q4:k*8+4+1<=L2.length*8:=by omega
    have q5:k*8+5+1<=L2.length*8:=by omega
    have hF:=tO (l:=C.set k { g with x:=cx (L2.take k) }) (i:=k) (Lm (by omega));have k6:((C.set k { g with x:=cx (L2.take k) }).flatMap aq).length=L2.length*8:=by rw[bq,LC,hCl]
    have k7:(Cfg.wr cf bl)=true:=by rw[<- hw];exact bH (by omega)
    have k8:=vH k3 (v:=cx (L2.take k));have hkI:(k:Int)<L2.length:=by omega
    generalize cx (L2.take k)=wk at *;simp(disch:=omega)[hX,hE,ha,q4,k8,hF,k7,fI,wrap64,-getElem?_pos,-List.flatMap_append];rw[h9];refine ae (m':=L2.length-(k+1)) (by omega) ⟨k+1,by omega,rfl,h8.setO (fI _) (by rw[bq,k4,ha]),by rw[k5];simp(disch:=omega)⟩
   ·obtain rfl:k=L2.length:=by omega
    rw[dF h6 (La _)]at h8;have k9:=h8.head.frzF (m:=H.length) (d:=4) aO (by omega) (by omega) (fun _=>rfl) (fun x c hc=>by simp[aq]at hc;rcases hc with rfl|rfl|rfl|rfl|rfl|rfl|rfl|rfl<;>simp);simp(disch:=omega);refine⟨_,k9,rfl,es3,hW3,eu2,z7,?_⟩;rw[<- hD,<- h8.take,NK,MD (by omega)]
end
end Bi
end Go.Ab
