/- Several texts of this proof in one. -/
import Derived.Test.YtldfgkjmficliaaGreatPaQd
set_option linter.all false
set_option maxHeartbeats 16000000
set_option maxRecDepth 100000
namespace Go.Ab
open Go.Proofs Go.Proofs.Tryz
namespace Bi
attribute [local congr] aw
noncomputable def celQ:Prim:=fun cfg args h=>aN prog md pQ 10000 40 cfg 12 args h
noncomputable def pR(f:FuncId):Option Prim:=
 if f=12 then some celQ
 else if f=51\/f=93\/f=11\/f=17 then some (rN f) else none
theorem pR_ok:∀ f p,pR f=some p->cM prog f p:=by
 intro f p h;unfold pR at h;split at h
 ·rename_i hf;rw[<- Option.some.inj h,hf];intro cfg args h r h' hx;exact ee hfol hnam pQ_ok 40 _ _ _ _ _ _ hx
 ·split at h
  ·rw[<- Option.some.inj h];exact pn _
  ·cases h
theorem toR{f:FuncId}{args:List V}{r:V}(d:Nat)(hq:pR f=some (rN f))(hm:md f=0)(ha:args.all V.noref=true)(hc:∀ cfg h,af md (K pZ 40) cfg f args h=some (r,h))(cfg:Cfg)(h:Heap):af md (K pR (d+1)) cfg f args h=some (r,h):=by
 rw[jV (md':=md) (call':=K pZ 40) hm hm ha (dq hq _ _ _)];exact hc cfg h
structure CC(X:Txt)(Ls:List cn)(cs:Nat->List Cel):Prop where
 tl:X.p.t.length<=90
 ln:Ls.length<=8300
 li:∀ (i:Nat) (x:cn),Ls[i]?=some x->∃ f e:Nat,x.l.f=f/\x.l.t=e/\f<=e/\e<=X.p.t.length/\(f=0\/(f:Int)∈cu X.p.t)/\(0<e->(e:Int)∈cu X.p.t)/\(∀ (j:Nat) (z:cn),j<i->Ls[j]?=some z->z.l.t<=f) /\
  (∀ z∈cs i,∃ c,xj X.p.t f e c/\z.f=c.1/\z.t=c.2)/\(cs i).length<=2000/\((cs i).map fun z=>(z.f,z.t)).Nodup /\
  ∀ d cfg h,af md (K pR (d+1)) cfg 12 [.agg (aO X.p),.agg (az x)] h=some (.lst ((cs i).map cG),h)
def mte(en:Bool)(z:Cel):Int:=if en=true then z.t else z.f
def ev(z:Cel):Bool:=decide (z.lv.tmod 2=0)
def jJ(i g x:Int)(cs:List Cel):V:=.agg [.int .i64 i,.int .i64 g,.int .i64 x,.lst (cs.map cG)]
def EdgR(i:Nat)(cs:List Cel)(o:Int)(en:Bool)(r:V):Prop:=
 (∃ (k:Nat) (z:Cel),cs[k]?=some z/\mte en z=o/\(∀ (j:Nat) (y:Cel),j<k->cs[j]?=some y->mte en y≠o)/\r=.tup [jJ i (if en=ev z then k+1 else k) (if en=ev z then z.r else z.l) cs,.bool true]) \/
 ((∀ y∈cs,mte en y≠o)/\r=.tup [jJ 0 0 0 [],.bool false])
theorem te(z:Cel):(cG z).length=5/\isMap (cG z)=false/\(∀ c∈cG z,c.leaf=true)/\(cG z).take 5=cG z/\slot (cG z) 0=some (.int .i64 z.f)/\slot (cG z) 1=some (.int .i64 z.t)/\slot (cG z) 2=some (.int .i64 z.l)/\slot (cG z) 3=some (.int .i64 z.r)/\slot (cG z) 4=some (.int .i64 z.lv)/\putAt [V.int .i64 0,.int .i64 0,.int .i64 0,.int .i64 0,.int .i64 0] 0 (cG z)=cG z:=
 ⟨rfl,rfl,by simp[cG],rfl,rfl,rfl,rfl,rfl,rfl,rfl⟩
theorem Ff(d:Nat){X:Txt}{Ls:List cn}{cs:Nat->List Cel}(C:CC X Ls cs)(i:Nat)(hi:i<Ls.length)(o:Int)(en:Bool):
  ∃ r,EdgR i (cs i) o en r/\∀ cfg h,af md (K pR (d+2)) cfg 78 [.agg (aO X.p),.lst (Ls.map az),.int .i64 i,.int .i64 o,.bool en] h=some (r,h):=by
 obtain⟨x,hx⟩:=atG hi;obtain⟨f,e,hf,he,hA,hD,-,-,-,-,hE,-,hC⟩:=C.li i x hx;have hF:=C.ln;have hC:=fun cfg h=>hC d cfg h;generalize cs i=L at *;obtain⟨hd,hg,s0,s1,s2,s3,s4,l5,t5⟩:=oJ X.p;have ha:=eq_true (Lp.1 hd);have hl:(Ls.map az)[i]?=some (az x):=by rw[Ln,hx];rfl
 obtain⟨hr,ht,h8,hu,hH,hJ,hK⟩:=xR x f e hf he;have h8:=eq_true h8;have hv:¬ (i:Int)<0:=by omega
 refine gn (md:=md) (prim:=pR) (n:=10000) (d:=d+1) (Post:=EdgR i L o en) rfl rfl func78 rfl rfl rfl (by simp[aO]) ?_;simp(disch:=omega)[ha,hv];refine ah 5 (by kernel_rfl) ?_;simp(disch:=omega)[hg,l5,t5,hl,hr,hu,hC,-getElem?_pos];obtain⟨Z0,h9⟩:∃ Z0:List V,Z0=[.int .i64 0,.int .i64 0,.int .i64 0,.nils]:=⟨_,rfl⟩;refine ai (fun m fr H=>∃ j:Nat,j<=L.length/\m=L.length-j/\(∀ (q:Nat) (y:Cel),q<j->L[q]?=some y->mte en y≠o)/\Hp H [some (aO X.p),some Z0] [] /\
  Slots 69 [(2,.int .i64 i),(3,.int .i64 o),(4,.bool en),(10,.ptr 1 0),(12,.lst (L.map cG)),(24,.lst (L.map cG)),(25,.int .i64 L.length),(26,.int .i64 j)] fr) (m:=L.length) (by omega)
  ⟨0,by omega,by omega,fun q y h=>by omega,by rw[h9];exact Hp.start,by simp⟩ ?_
 rintro m fr H ⟨j,hj,rfl,hc,hh,hs⟩;obtain⟨q,rfl⟩:=hs.ex;clear hs;have zl:Z0.length=4:=by rw[h9];rfl
 have zs:∀ a b c e,bz (bz (bz (bz Z0 0 a) 1 b) 2 c) 3 e=[a,b,c,e]:=fun _ _ _ _=>by rw[h9];rfl
 have h0:∀ {H:Heap},Hp H [some (aO X.p),some Z0] []->ab H 1=some Z0:=fun hh=>by
  rw[hh.block (by simp)];rw[h9];rfl
 by_cases hw:j<L.length
 ·have hI:(j:Int)<L.length:=by omega
  obtain⟨z,hz⟩:=atG hw;obtain⟨cl,zm,zf,zt,z0,z1,z2,z3,z4,zp⟩:=te z;have zf':=eq_true zf;have h6:ab (H++[some (cG z)]) H.length=some (cG z):=by rw[bw rfl,zm];rfl
  have hp:=hh.push [some (cG z)];have h0:=h0 hp;have h3:∀ v:Int×Int,mte en z=o->v=(if en=ev z then ((j:Int)+1,z.r) else ((j:Int),z.l))->EdgR i L o en (.tup [jJ i v.1 v.2 L,.bool true]):=fun v h1 h2=>by
   refine .inl ⟨j,z,hz,h1,hc,?_⟩;subst h2;split<;>rfl
  have hle:=hp.le;simp only[Lx,Me]at hle;have h7:∀ (a b c:Int) (e:V),ab ((H++[some (cG z)]).set 1 (some [.int .i64 a,.int .i64 b,.int .i64 c,e])) 1=some [.int .i64 a,.int .i64 b,.int .i64 c,e]:=fun a b c e=>by
   rw[du (by omega)];rfl
  by_cases hm:mte en z=o
  ·cases en
   ·have h4:z.f=o:=hm;by_cases he:z.lv.tmod 2=0
    ·simp(disch:=omega)[hI,hz,cl,zf',zt,z0,z2,z4,zp,h6,h4,he,h0,zl,zs,h7,-getElem?_pos];exact h3 (j,z.l) hm (by simp[ev,he])
    ·simp(disch:=omega)[hI,hz,cl,zf',zt,z0,z3,z4,zp,h6,h4,he,h0,zl,zs,h7,wrap64,-getElem?_pos];exact h3 (j+1,z.r) hm (by simp[ev,he])
   ·have h4:z.t=o:=hm;by_cases he:z.lv.tmod 2=0
    ·simp(disch:=omega)[hI,hz,cl,zf',zt,z1,z3,z4,zp,h6,h4,he,h0,zl,zs,h7,wrap64,-getElem?_pos];exact h3 (j+1,z.r) hm (by simp[ev,he])
    ·simp(disch:=omega)[hI,hz,cl,zf',zt,z1,z2,z4,zp,h6,h4,he,h0,zl,zs,h7,-getElem?_pos];exact h3 (j,z.l) hm (by simp[ev,he])
  ·have hn:∀ (q:Nat) (y:Cel),q<j+1->L[q]?=some y->mte en y≠o:=fun q y hq hy=>by
    by_cases e:q=j
    ·subst e;rw[hz]at hy;cases hy;exact hm
    ·exact hc q y (by omega) hy
   cases en
   ·have h4:¬ z.f=o:=hm;simp(disch:=omega)[hI,hz,cl,zf',zt,z0,zp,h6,h4,wrap64,-getElem?_pos];exact ae (m':=L.length-(j+1)) (by omega) ⟨j+1,by omega,rfl,hn,hp,by simp(disch:=omega)⟩
   ·have h4:¬ z.t=o:=hm;simp(disch:=omega)[hI,hz,cl,zf',zt,z1,zp,h6,h4,wrap64,-getElem?_pos];exact ae (m':=L.length-(j+1)) (by omega) ⟨j+1,by omega,rfl,hn,hp,by simp(disch:=omega)⟩
 ·obtain rfl:j=L.length:=by omega
  have hI:¬ (L.length:Int)<L.length:=by omega
  have h0:=h0 hh;have hle:=hh.le;simp only[Lx,Me]at hle;have h7:∀ (a b c:Int) (e:V),ab (H.set 1 (some [.int .i64 a,.int .i64 b,.int .i64 c,e])) 1=some [.int .i64 a,.int .i64 b,.int .i64 c,e]:=fun a b c e=>by
   rw[du (by omega)];rfl
  simp(disch:=omega)[hI,h0,zl,zs,h7];exact .inr ⟨fun y hy=>by
   obtain⟨q,hq⟩:=NF hy;exact hc q y (Ld.1 hq).1 hq,rfl⟩
theorem Jh(d:Nat)(cfg:Cfg)(h:Heap)(r:Int):af md (K pR (d+2)) cfg 73 [.int .i32 r] h=some (.bool (nlS r),h):=by
 refine aU rfl rfl func73 rfl rfl rfl (by simp) ?_;have hL:=fun cfg h=>toR (f:=93) d (by rfl) rfl rfl (fun cfg h=>pN (prim:=pZ) 37 cH cfg h r) cfg h;by_cases h1:cLn r=1
 ·simp[hL,h1,nlS]
 by_cases h2:cLn r=2
 ·simp[hL,h2,nlS]
 by_cases h3:cLn r=3<;>simp[hL,h1,h2,h3,nlS]
theorem Ig(d:Nat)(t:List Int)(ht:t.length<=2000)(cfg:Cfg)(h:Heap):af md (K pR (d+1)) cfg 51 [rl t] h=some (il (cu t),h):=
 toR d (by rfl) rfl (by simp) (fun cfg h=>lY (prim:=pZ) 36 cH t ht cfg h) cfg h
theorem IZ(d:Nat)(l:List Int)(hl:l.length<=4000)(v:Int):∃ n:Int,(0<=n↔v∈l)/\∀ cfg h,af md (K pR (d+1)) cfg 116 [il l,.int .i64 v] h=some (.int .i64 n,h):=by
 obtain⟨_,⟨n,rfl,hn⟩,hc⟩:=gn (md:=md) (prim:=pR) (n:=10000) (d:=d) (args:=[il l,.int .i64 v]) (Post:=fun r=>∃ n:Int,r=.int .i64 n/\(0<=n↔v∈l)) rfl rfl func116 rfl rfl rfl (by simp) (by
  simp(disch:=omega);refine ai (fun m fr H=>∃ i:Nat,i<=l.length/\m=l.length-i/\v ∉ l.take i/\H=[]/\Slots 19 [(0,il l),(1,.int .i64 v),(7,.int .i64 l.length),(8,.int .i64 i)] fr) (m:=l.length) (by omega) ⟨0,by omega,by omega,by simp,rfl,by simp⟩ ?_;rintro m fr H ⟨i,hi,rfl,hv,rfl,hs⟩;obtain⟨j,rfl⟩:=hs.ex;clear hs;by_cases h0:i<l.length
  ·have hI:(i:Int)<l.length:=by omega
   have h3:l.take (i+1)=l.take i++[lgI l i]:=by rw[LO,atI h0];rfl
   by_cases hb:v=lgI l i
   ·have h4:v∈l:=by rw[hb];exact Le (atI h0)
    simp(disch:=omega)[hI,atI h0,<- hb,h4,-getElem?_pos]
   ·simp(disch:=omega)[hI,atI h0,hb,wrap64,-getElem?_pos];exact ae (m':=l.length-(i+1)) (by omega) ⟨i+1,by omega,by omega,by rw[h3];simp[hv,hb],rfl,by simp(disch:=omega)⟩
  ·obtain rfl:i=l.length:=by omega
   have hI:¬ ((l.length:Int)<l.length):=by omega
   rw[LQ]at hv;simp(disch:=omega)[hI,hv])
 exact⟨n,hn,hc⟩
theorem Ii(d:Nat)(l:List Int)(hl:l.length<=4000)(v:Int)(cfg:Cfg)(h:Heap):af md (K pR (d+2)) cfg 76 [il l,.int .i64 v] h=some (.bool (decide (v∈l)),h):=by
 refine aU rfl rfl func76 rfl rfl rfl (by simp) ?_;obtain⟨n,hn,hI⟩:=IZ d l hl v;by_cases hv:v∈l
 ·have:=hn.2 hv;simp[hI,this,hv]
 ·have:¬ 0<=n:=fun h=>hv (hn.1 h);simp[hI,this,hv]
theorem I4(d:Nat)(x:cn)(o:Int)(h:Heap)(b:Nat)(hb:ab h b=some [.int .i64 o]):∀ cfg,af md (K pR (d+1)) cfg 80 [.agg (az x),.ptr b 0] h=some (.bool (decide (x.l.f<o)&&decide (o<=x.l.t)),h):=by
 have ha:(az x).length=10:=rfl;have h4:isMap (az x)=false:=rfl;have h0:(∀ c∈az x,c.leaf=true)=True:=eq_true (by simp[az,bA]);have h6:slot (az x) 0=some (.int .i64 x.l.f):=rfl;have h9:slot (az x) 1=some (.int .i64 x.l.t):=rfl;have h7:ab (h++[some (az x)]) h.length=some (az x):=by rw[bw rfl,h4];rfl
 have h8:ab (h++[some (az x)]) b=some [.int .i64 o]:=by rw[aj (al hb)];exact hb
 obtain⟨r,h2,h3,rfl,rfl⟩:=er (md':=md) (prim:=pR) (n:=10000) (d:=d) (h:=h) (args:=[.agg (az x),.ptr b 0]) (Post:=fun r h2=>r=.bool (decide (x.l.f<o)&&decide (o<=x.l.t))/\h2=h) rfl rfl func80 rfl rfl rfl (by simp) (by
  by_cases h1:x.l.f<o
  ·simp(disch:=omega)[h0,h6,h9,h7,h8,h1]
  ·simp(disch:=omega)[h0,h6,h7,h8,h1])
 exact h3
theorem I5(d:Nat)(x:cn)(o:Int)(h:Heap)(b:Nat)(hb:ab h b=some [.int .i64 o]):∀ cfg,af md (K pR (d+1)) cfg 82 [.agg (az x),.ptr b 0] h=some (.bool (decide (x.l.f<=o)&&decide (o<x.l.t)),h):=by
 have ha:(az x).length=10:=rfl;have h4:isMap (az x)=false:=rfl;have h0:(∀ c∈az x,c.leaf=true)=True:=eq_true (by simp[az,bA]);have h6:slot (az x) 0=some (.int .i64 x.l.f):=rfl;have h9:slot (az x) 1=some (.int .i64 x.l.t):=rfl;have h7:ab (h++[some (az x)]) h.length=some (az x):=by rw[bw rfl,h4];rfl
 have h8:ab (h++[some (az x)]) b=some [.int .i64 o]:=by rw[aj (al hb)];exact hb
 obtain⟨r,h2,h3,rfl,rfl⟩:=er (md':=md) (prim:=pR) (n:=10000) (d:=d) (h:=h) (args:=[.agg (az x),.ptr b 0]) (Post:=fun r h2=>r=.bool (decide (x.l.f<=o)&&decide (o<x.l.t))/\h2=h) rfl rfl func82 rfl rfl rfl (by simp) (by
  by_cases h1:x.l.f<=o
  ·simp(disch:=omega)[h0,h6,h9,h7,h8,h1]
  ·simp(disch:=omega)[h0,h6,h7,h8,h1])
 exact h3
theorem IB(d:Nat)(g:FuncId)(Ls:List cn)(hl:Ls.length<=9000)(b:Nat)(h:Heap)(Q:cn->Bool)(hG:∀ x cfg,af md (K pR (d+1)) cfg g [.agg (az x),.ptr b 0] h=some (.bool (Q x),h)):
  ∃ n:Int,((n=-1/\∀ x∈Ls,Q x=false)\/∃ (i:Nat) (x:cn),n=i/\Ls[i]?=some x/\Q x=true/\∀ (j:Nat) (y:cn),j<i->Ls[j]?=some y->Q y=false)/\∀ cfg,af md (K pR (d+2)) cfg 79 [.lst (Ls.map az),.func (.func g) [] [.ptr b 0]] h=some (.int .i64 n,h):=by
 obtain⟨r,h2,h3,n,rfl,rfl,h4⟩:=er (md':=md) (prim:=pR) (n:=10000) (d:=d+1) (h:=h) (args:=[.lst (Ls.map az),.func (.func g) [] [.ptr b 0]]) (Post:=fun r h2=>∃ n:Int,r=.int .i64 n/\h2=h/\((n=-1/\∀ x∈Ls,Q x=false)\/∃ (i:Nat) (x:cn),n=i/\Ls[i]?=some x/\Q x=true/\∀ (j:Nat) (y:cn),j<i->Ls[j]?=some y->Q y=false)) rfl rfl func79 rfl rfl rfl (by simp;rfl) (by
  simp(disch:=omega);refine ai (fun m fr H=>∃ i:Nat,i<=Ls.length/\m=Ls.length-i/\(∀ (j:Nat) (y:cn),j<i->Ls[j]?=some y->Q y=false)/\H=h/\Slots 19 [(0,.lst (Ls.map az)),(1,.func (.func g) [] [.ptr b 0]),(7,.int .i64 Ls.length),(8,.int .i64 i)] fr) (m:=Ls.length) (by omega) ⟨0,by omega,by omega,fun j y h=>by omega,rfl,by simp⟩ ?_;rintro m fr H ⟨i,hi,rfl,h6,rfl,hs⟩;obtain⟨q,rfl⟩:=hs.ex;clear hs;by_cases h8:i<Ls.length
  ·have hI:(i:Int)<Ls.length:=by omega
   obtain⟨x,hx⟩:=atG h8;have h7:(az x).length=10:=rfl;have h0:(az x).take 10=az x:=rfl;cases hQ:Q x
   ·simp(disch:=omega)[hI,hx,h7,h0,hG,hQ,wrap64,-getElem?_pos];exact ae (m':=Ls.length-(i+1)) (by omega) ⟨i+1,by omega,by omega,fun j y hj hy=>by
     by_cases e:j=i
     ·subst e;rw[hx]at hy;cases hy;exact hQ
     ·exact h6 j y (by omega) hy,rfl,by simp(disch:=omega)⟩
   ·simp(disch:=omega)[hI,hx,h7,h0,hG,hQ,-getElem?_pos];exact h6
  ·obtain rfl:i=Ls.length:=by omega
   have hI:¬ ((Ls.length:Int)<Ls.length):=by omega
   simp(disch:=omega)[hI];intro x hx;obtain⟨q,hq⟩:=NF hx;exact h6 q x (Ld.1 hq).1 hq)
 exact⟨n,h4,h3⟩
def eb(rt:Bool)(z:Cel):Bool:=rt==ev z
def dK(rt:Bool)(z:Cel):List V:=[.int .i64 (mte (eb rt z) z),.bool (eb rt z)]
theorem G8{α:Type}{rt:Bool}{z:Cel}{a b:α}:(if eb rt z=ev z then a else b)=if rt=true then a else b:=by
 unfold eb;cases rt<;>cases ev z<;>rfl
theorem CA{X:Txt}{Ls:List cn}{cs:Nat->List Cel}(C:CC X Ls cs){i:Nat}{x:cn}(hx:Ls[i]?=some x){k:Nat}{z:Cel}(hz:(cs i)[k]?=some z){en:Bool}{r:V}(h:EdgR i (cs i) (mte en z) en r):
  r=.tup [jJ i (if en=ev z then k+1 else k) (if en=ev z then z.r else z.l) (cs i),.bool true]:=by
 obtain⟨f,e,-,-,-,-,-,-,-,h0,-,h4,-⟩:=C.li i x hx;rcases h with⟨q,y,h1,h2,h3,rfl⟩|⟨h1,-⟩
 ·have e1:q=k:=by
   obtain⟨c,hc,c1,c2⟩:=h0 z (Le hz);obtain⟨c',h6,c1',c2'⟩:=h0 y (Le h1);have h7:c=c':=by
    cases en
    ·have h2:y.f=z.f:=h2;exact H9 hc h6 (by omega)
    ·have h2:y.t=z.t:=h2;exact Ia hc h6 (by omega)
   subst h7;have g1:((cs i).map fun z=>(z.f,z.t))[q]?=some ((c.1:Int),(c.2:Int)):=by rw[Ln,h1,<- c1',<- c2'];rfl
   have g2:((cs i).map fun z=>(z.f,z.t))[k]?=some ((c.1:Int),(c.2:Int)):=by rw[Ln,hz,<- c1,<- c2];rfl
   rcases Mk q k with h|h|h
   ·exact absurd rfl (jL h4 h g1 g2)
   ·exact h
   ·exact absurd rfl (jL h4 h g2 g1)
  subst e1;rw[hz]at h1;cases h1;rfl
 ·exact absurd rfl (h1 z (Le hz))
theorem C7(d:Nat){X:Txt}{Ls:List cn}{cs:Nat->List Cel}(C:CC X Ls cs){i:Nat}{x:cn}(hx:Ls[i]?=some x){g:FuncId}{H:Heap}(Q:cn->Bool)(h4:∀ (j:Nat) (y:cn),j<i->Ls[j]?=some y->¬ Q y=true)(h0:Q x=true)
  (hG:∀ x cfg,af md (K pR (d+1)) cfg g [.agg (az x),.ptr 4 0] H=some (.bool (Q x),H)):
  ∀ cfg,af md (K pR (d+2)) cfg 79 [.lst (Ls.map az),.func (.func g) [] [.ptr 4 0]] H=some (.int .i64 i,H):=by
 obtain⟨n,hn,h⟩:=IB d g Ls (by have:=C.ln;omega) 4 H Q hG;rcases hn with⟨-,hn⟩|⟨j,y,rfl,h1,h2,h3⟩
 ·rw[hn x (Le hx)]at h0;cases h0
 ·have:j=i:=by
   rcases Mk j i with g|g|g
   ·exact absurd h2 (h4 j y g h1)
   ·exact g
   ·rw[h3 i x g hx]at h0;cases h0
  subst this;exact h
theorem Im(d:Nat){X:Txt}{Ls:List cn}{cs:Nat->List Cel}(C:CC X Ls cs){i:Nat}{x:cn}(hx:Ls[i]?=some x)(o:Int)(h6:∀ (j:Nat) (y:cn),j<i->Ls[j]?=some y->¬ (y.l.f<o/\o<=y.l.t))(h4:x.l.f<o/\o<=x.l.t)(H:Heap)
  (h7:ab H 0=some (aO X.p)) (h8:ab H 1=some [.lst (Ls.map az)]) (h0:ab H 4=some [.int .i64 o]) {a b c:Int} {L:List Cel} {ok:Bool}
  (hE:∀ cfg h,af md (K pR (d+2)) cfg 78 [.agg (aO X.p),.lst (Ls.map az),.int .i64 i,.int .i64 o,.bool true] h=some (.tup [jJ a b c L,.bool ok],h)):
  ∀ cfg,af md (K pR (d+3)) cfg 77 [.ptr 0 0,.ptr 1 0,.ptr 4 0] H=some (.tup [jJ a b c L,.bool ok],H):=by
 have hI:∀ (T:Heap) cfg,af md (K pR (d+2)) cfg 79 [.lst (Ls.map az),.func (.func 80) [] [.ptr 4 0]] (H++T)=some (.int .i64 i,H++T):=fun T =>
  C7 d C hx _ (fun j y hj hy=>by simpa using h6 j y hj hy) (by simp[h4.1,h4.2]) fun x=>I4 d x o (H++T) 4 (by rw[aj (al h0)];exact h0)
 obtain⟨h9,hc,s0,s1,s2,s3,s4,l5,t5⟩:=oJ X.p;have ha:=eq_true (Lp.1 h9);obtain⟨r,h2,h3,rfl,rfl⟩:=er (md':=md) (prim:=pR) (n:=10000) (d:=d+2) (h:=H) (args:=[.ptr 0 0,.ptr 1 0,.ptr 4 0]) (Post:=fun r h2=>r=.tup [jJ a b c L,.bool ok]/\h2=H) rfl rfl func77 rfl rfl rfl (by simp) (by
  have hd:=al h0;have b0:∀ T,ab (H++T) 0=some (aO X.p):=fun T=>by rw[aj (by omega)];exact h7
  have b1:∀ T,ab (H++T) 1=some [.lst (Ls.map az)]:=fun T=>by rw[aj (by omega)];exact h8
  have b4:∀ T,ab (H++T) 4=some [.int .i64 o]:=fun T=>by rw[aj (by omega)];exact h0
  simp(disch:=omega);refine ah 6 (by kernel_rfl) ?_;have mI:md 79=0:=rfl;simp(disch:=omega)[l5,t5,b0,b1,b4,mI,hI,hE,jJ,bq,-getElem?_pos])
 exact h3
theorem Jb(d:Nat){X:Txt}{Ls:List cn}{cs:Nat->List Cel}(C:CC X Ls cs){i:Nat}{x:cn}(hx:Ls[i]?=some x){k:Nat}{z:Cel}(hz:(cs i)[k]?=some z)(en:Bool)(cfg:Cfg)(h:Heap):
  af md (K pR (d+4)) cfg 41 [.agg (aO X.p),.lst (Ls.map az),.agg [.int .i64 (mte en z),.bool en]] h=some (.tup [jJ i (if en=ev z then k+1 else k) (if en=ev z then z.r else z.l) (cs i),.bool true],h):=by
 obtain⟨f,e,hf,he,hL,hh,hw,hA,hl,hD,hM,hN,-⟩:=C.li i x hx;obtain⟨c,hc,c1,c2⟩:=hD z (Le hz);have hO:=C.tl;have hP:=C.ln;have hF:=(Ld.1 hx).1;obtain⟨k1,k2,k3,k4,k5,-,-⟩:=id hc;obtain⟨o,ho,hQ,h4,hm⟩:∃ o:Nat,mte (en) z=o/\o<=X.p.t.length/\(0<o->(o:Int)∈cu X.p.t)/\((en=true->o=c.2)/\(en=false->o=c.1)):=by
  cases en
  ·refine⟨c.1,c1,by omega,fun h0=>?_,fun h=>(by cases h),fun _=>rfl⟩;rcases k4 with g|g|g
   ·exact g
   ·rw[g]at h0 ⊢;exact hw.resolve_left (by omega)
   ·omega
  ·refine⟨c.2,c2,by omega,fun h0=>?_,fun _=>rfl,fun h=>(by cases h)⟩;rcases k5 with g|g|g
   ·exact g
   ·omega
   ·rw[g]at h0 ⊢;exact hA h0
 have hE:∀ d cfg h,af md (K pR (d+2)) cfg 78 [.agg (aO X.p),.lst (Ls.map az),.int .i64 i,.int .i64 (o:Int),.bool en] h=some (.tup [jJ i (if en=ev z then k+1 else k) (if en=ev z then z.r else z.l) (cs i),.bool true],h):=fun d=>by
  obtain⟨r,hr,hE⟩:=Ff d C i hF o en;rw[<- ho]at hr;have hr:=CA C hx hz hr;subst hr;exact hE
 have hn:=fun cfg h=>Ig (d+2) X.p.t (by omega) cfg h;have ht:=fun cfg h=>Ii (d+1) (cu X.p.t) (by have:=(@cluS_rng X.p.t).2;omega) o cfg h;have h9:=fun r cfg h=>Jh (d+1) cfg h r;have ha:¬ Ls.length=0:=by omega
 have hu:¬ (i:Int)<0:=by omega
 have hd:¬ (o:Int)<0:=by omega
 have h3:¬ (X.p.t.length:Int)<o:=by omega
 obtain⟨hH,h7,s0,s1,s2,s3,s4,l5,t5⟩:=oJ X.p;have hg:=eq_true (Lp.1 hH);have mC:md 51=0:=rfl;have mT:md 76=0:=rfl;rw[ho];generalize (if en=ev z then (k:Int)+1 else k)=g at *;generalize (if en=ev z then z.r else z.l)=xx at *;refine aU rfl rfl func41 rfl rfl rfl (by simp[aO]) ?_;simp(disch:=omega)[hg];refine ah 6 (by kernel_rfl) ?_;simp(disch:=omega)[h7,s0,-getElem?_pos];refine ah 20 (by kernel_rfl) ?_;cases en
 ·obtain rfl:=hm.2 rfl;have hv:¬ (c.1:Int)=X.p.t.length:=by omega
  have h8:=Ch hc hh c.1 (Lh _) k2;have hI:∀ a b e f cfg,af md (K pR (d+3)) cfg 79 [.lst (Ls.map az),.func (.func 82) [] [.ptr 4 0]] [a,b,e,f,some [.int .i64 (c.1:Int)]]=some (.int .i64 i,[a,b,e,f,some [.int .i64 (c.1:Int)]]):=fun a b e f cfg =>
   C7 (d+1) C hx _ (fun j y hj hy=>by have:=hl j y hj hy;simp;omega) (by simp;omega) (fun x=>I5 (d+1) x c.1 _ 4 rfl) cfg
  have h6:=atI (l:=X.p.t) (i:=c.1) (by omega);by_cases h0:0<c.1
  ·have h4:=h4 h0;simp(disch:=omega)[ha,hu,hd,h3,h0,mC,hn,ht,h4,hv,hI,h6,h9,h8,hE,jJ,h7,l5,t5,-getElem?_pos]
  ·simp(disch:=omega)[ha,hu,hd,h3,h0,hv,hI,h6,h9,h8,hE,jJ,h7,l5,t5,-getElem?_pos]
 ·obtain rfl:=hm.1 rfl;have h0:0<c.2:=by omega
  have h4:=h4 h0;obtain⟨q,hq⟩:∃ q:Nat,(c.2:Int)-1=q:=⟨c.2-1,by omega⟩;have h8:=Ch hc hh q (by omega) (by omega);have hJ:=atI (l:=X.p.t) (i:=q) (by omega);have hK:∀ a b cfg,af md (K pR (d+3)) cfg 77 [.ptr 0 0,.ptr 1 0,.ptr 4 0] [some (aO X.p),some [.lst (Ls.map az)],a,b,some [.int .i64 (c.2:Int)]]=some (.tup [jJ i g xx (cs i),.bool true],[some (aO X.p),some [.lst (Ls.map az)],a,b,some [.int .i64 (c.2:Int)]]):=fun a b cfg =>
   Im d C hx c.2 (fun j y hj hy=>by have:=hl j y hj hy;omega) (by omega) _ (by simp[ab,h7]) rfl rfl (hE d) cfg
  simp(disch:=omega)[ha,hd,h3,h0,mC,hn,ht,h4,hq,hJ,h9,h8,hK,jJ,wrap64,-getElem?_pos]
theorem Dk(d:Nat){X:Txt}{Ls:List cn}{cs:Nat->List Cel}(C:CC X Ls cs){i:Nat}{x:cn}(hx:Ls[i]?=some x){k:Nat}{z:Cel}(hz:(cs i)[k]?=some z)(rt:Bool)(cfg:Cfg)(h:Heap):
  af md (K pR (d+4)) cfg 41 [.agg (aO X.p),.lst (Ls.map az),.agg (dK rt z)] h=some (.tup [jJ i (if rt=true then k+1 else k) (if rt=true then z.r else z.l) (cs i),.bool true],h):=by
 have:=Jb d C hx hz (eb rt z) cfg h;rw[G8,G8]at this;exact this
theorem DP(d:Nat)(z:Cel)(cfg:Cfg)(h:Heap):af md (K pR (d+1)) cfg 42 [.agg (cG z)] h=some (.agg (dK true z),h):=by
 refine aU rfl rfl func42 rfl rfl rfl (by simp[cG]) ?_;obtain⟨zl,zm,zf,zt,z0,z1,z2,z3,z4,zp⟩:=te z;have zf':=eq_true zf;by_cases he:z.lv.tmod 2=0<;>simp(disch:=omega)[zm,zf',z0,z1,z4,he,dK,eb,ev,mte,-getElem?_pos]
theorem JZ(d:Nat)(z:Cel)(cfg:Cfg)(h:Heap):af md (K pR (d+1)) cfg 16 [.agg (cG z)] h=some (.agg (dK true z),h):=by
 refine aU rfl rfl func16 rfl rfl rfl (by simp[cG]) ?_;obtain⟨zl,zm,zf,zt,z0,z1,z2,z3,z4,zp⟩:=te z;have zf':=eq_true zf;by_cases he:z.lv.tmod 2=0<;>simp(disch:=omega)[zm,zf',z0,z1,z4,he,dK,eb,ev,mte,-getElem?_pos]
theorem JX(d:Nat)(z:Cel)(cfg:Cfg)(h:Heap):af md (K pR (d+1)) cfg 13 [.agg (cG z)] h=some (.agg (dK false z),h):=by
 refine aU rfl rfl func13 rfl rfl rfl (by simp[cG]) ?_;obtain⟨zl,zm,zf,zt,z0,z1,z2,z3,z4,zp⟩:=te z;have zf':=eq_true zf;by_cases he:z.lv.tmod 2=0<;>simp(disch:=omega)[zm,zf',z0,z1,z4,he,dK,eb,ev,mte,-getElem?_pos]
theorem cc_ex{X:Txt}(C:CtxA pZ X)(h8:X.C=cu X.p.t)(hb:-1<=X.p.b/\X.p.b<=1):∃ cs,CC X (X.linA X.secs 0) cs:=by
 have hV:=C.hV;have hn:=C.h5;obtain⟨h9,-⟩:=hV.chn hn;have hd:=hV.linL hn;have H:∀ i:Nat,∃ L:List Cel,∀ x:cn,(X.linA X.secs 0)[i]?=some x->∃ f e:Nat,x.l.f=f/\x.l.t=e/\f<=e/\e<=X.p.t.length/\(f=0\/(f:Int)∈cu X.p.t)/\(0<e->(e:Int)∈cu X.p.t)/\(∀ (j:Nat) (z:cn),j<i->(X.linA X.secs 0)[j]?=some z->z.l.t<=f) /\
   (∀ z∈L,∃ c,xj X.p.t f e c/\z.f=c.1/\z.t=c.2)/\L.length<=2000/\(L.map fun z=>(z.f,z.t)).Nodup /\
   ∀ d cfg h,af md (K pR (d+1)) cfg 12 [.agg (aO X.p),.agg (az x)] h=some (.lst (L.map cG),h):=fun i=>by
  cases hx:(X.linA X.secs 0)[i]? with
  | none=>exact⟨[],fun x h=>by cases h⟩
  | some x =>
   have hm:=Le hx;obtain⟨f,e,h1,h2,h3,h4,h5,h6,h7⟩:=Dd h9 i x hx;have hE:∀ z∈X.linA X.secs 0,∀ t:Nat,z.l.t=t->0<t->(t:Int)∈cu X.p.t:=fun z hz t ht h0=>by
    obtain⟨u,g1,g2,g3,-⟩:=hV.ends C.hB h8 hz;have:u=t:=by omega
    subst this;rw[<- h8];exact g3 h0
   obtain⟨L,k1,k2,k3,k4⟩:=xS 37 hV hn hb hm f e h1 h2 h4 h5;refine⟨L,fun y hy=>?_⟩;cases hy;refine⟨f,e,h1,h2,h4,h5,?_,hE x hm e h2,h6,k1,k2,k3,fun d cfg h=>?_⟩
   ·rcases h7 with h7|⟨z,hz,h7⟩
    ·exact .inl h7
    ·by_cases h0:f=0
     ·exact .inl h0
     ·exact .inr (hE z hz f h7 (by omega))
   ·have hq:pR 12=some celQ:=if_pos rfl;have ha:[V.agg (aO X.p),.agg (az x)].all V.noref=true:=by simp[az,bA,aO]
    rw[jV (md:=md) (md':=md) (call':=K pQ 40) rfl rfl ha (dq hq _ _ _)];exact k4 cfg h
 obtain⟨cs,hc⟩:=Classical.axiomOfChoice H;exact⟨cs,hn,by omega,hc⟩
theorem nu(rt:Bool)(z:Cel):(dK rt z).length=2/\isMap (dK rt z)=false/\(∀ c∈dK rt z,c.leaf=true)/\(dK rt z).take 2=dK rt z/\putAt [V.int .i64 0,.bool false] 0 (dK rt z)=dK rt z/\(dK rt z).all V.noref=true/\(dK rt z).all V.rf=true/\∀ c∈dK rt z,c≠.nils:=
 ⟨rfl,rfl,by simp[dK],rfl,rfl,by simp[dK],by simp[dK],by simp[dK]⟩
theorem It(d:Nat){X:Txt}{Ls:List cn}{cs:Nat->List Cel}(C:CC X Ls cs){i:Nat}{x:cn}(hx:Ls[i]?=some x){k:Nat}{z:Cel}(hz:(cs i)[k]?=some z)(rt:Bool)(cfg:Cfg)(h:Heap):
  af md (K pR (d+5)) cfg 15 [.agg (aO X.p),.lst (Ls.map az),.agg (dK rt z)] h=some (.tup [.int .i64 i,.int .i64 (if rt=true then z.r else z.l),.bool true],h):=by
 have hL:=fun cfg h=>Dk d C hx hz rt cfg h;obtain⟨h3,h4,s0,s1,s2,s3,s4,l5,t5⟩:=oJ X.p;have h0:=eq_true (Lp.1 h3);obtain⟨e2,em,ef,et,ep,-,en,-⟩:=nu rt z;have ef:=eq_true ef;generalize dK rt z=E at *;refine aU rfl rfl func15 rfl rfl rfl (by simpa[az,bA,aO]using en) ?_;simp(disch:=omega)[h0,h4,l5,t5,e2,em,ef,et,hL,jJ,-getElem?_pos];refine ah 6 (by kernel_rfl) ?_;simp(disch:=omega)[-getElem?_pos]
 trace_state
theorem DT(d:Nat){X:Txt}{Ls:List cn}{cs:Nat->List Cel}(C:CC X Ls cs){i:Nat}{x:cn}(hx:Ls[i]?=some x){k:Nat}{z y:Cel}(hz:(cs i)[k]?=some z)(rt:Bool)(hy:(cs i)[if rt=true then k+1 else k]?=some y)(cfg:Cfg)(h:Heap):
  af md (K pR (d+5)) cfg 14 [.agg (aO X.p),.lst (Ls.map az),.agg (dK rt z)] h=some (.agg (dK true y),h):=by
 have hL:=fun cfg h=>Dk d C hx hz rt cfg h;obtain⟨f,e,hf,he,h8,h9,ha,hc,hd,hg,hh,hj,-⟩:=C.li i x hx;have hR:=fun cfg h=>DP (d+3) y cfg h;obtain⟨h3,h4,s0,s1,s2,s3,s4,l5,t5⟩:=oJ X.p;have h0:=eq_true (Lp.1 h3);obtain⟨e2,em,ef,et,ep,-,en,-⟩:=nu rt z;have ef:=eq_true ef;generalize dK rt z=E at *;obtain⟨f2,fm,ff,ft,fp,-,fr,fnn⟩:=nu true y;have ff:=eq_true ff;have y5:=jv y;have yt:(cG y).take 5=cG y:=rfl;generalize dK true y=F at *;rw[show (if rt=true then (k:Int)+1 else k)=((if rt=true then k+1 else k:Nat):Int) by split<;>rfl]at hL;generalize (if rt=true then k+1 else k)=g at *;have hl:=(Ld.1 hy).1;have h6:(g:Int)<(cs i).length:=by omega
 have h7:((cs i).map cG)[g]?=some (cG y):=by rw[Ln,hy];rfl
 refine aU rfl rfl func14 rfl rfl rfl (by simpa[az,bA,aO]using en) ?_;simp(disch:=omega)[h0,h4,l5,t5,e2,em,ef,et,hL,jJ,h6,h7,y5,yt,f2,fm,ff,ft,fp,hR,-getElem?_pos];rw[fG (d:=4) fr fnn]
theorem walks_ok(d:Nat)(l:List Int):∃ v h',aN prog md pR 10000 (d+8) ⟨0,[],0⟩ 4 [il l] []=some (v,h')/\v=.bool true:=by
 obtain⟨X,C0,h9,ha,hc,h3⟩:=Ce l;obtain⟨cs,C⟩:=cc_ex C0 h9 hc;have hd:=fun cfg h=>toR (f:=11) (d+6) (by rfl) rfl (by simp) h3 cfg h;have hA:=fun cfg h=>toR (f:=17) (d+6) (by rfl) rfl rfl (fun cfg h=>HU 39 cfg h) cfg h;have hJ:=C.ln;generalize X.linA X.secs 0=Ls at *;refine cw (R:=fun r _=>r=.bool true) rfl func4 rfl rfl rfl ?_;obtain⟨hg,h7,s0,s1,s2,s3,s4,l5,t5⟩:=oJ X.p;have h4:=eq_true (Lp.1 hg);have hh:putAt [V.nils,.nils,.int .i64 0,.int .i64 0,.int .i64 0] 0 (aO X.p)=aO X.p:=rfl;simp(disch:=omega)[hd,h4,l5,hh];refine ai (fun m fr H=>∃ (i:Nat) (Z:Heap),i<=Ls.length/\m=Ls.length-i/\H=some (aO X.p)::Z /\
  Slots 103 [(3,.ptr 0 0),(4,.lst (Ls.map az)),(5,.int .i64 i)] fr) (m:=Ls.length) (by omega) ⟨0,[],by omega,by omega,rfl,by simp⟩ ?_
 rintro m fr H ⟨i,Z,hi,rfl,rfl,hs⟩;obtain⟨j,rfl⟩:=hs.ex;clear hs;by_cases hj:i<Ls.length
 ·have hI:(i:Int)<Ls.length:=by omega
  obtain⟨x,hx⟩:=atG hj;obtain⟨f,e,hf,he,hL,hM,hN,hO,hP,hQ,hS,hT,hC⟩:=C.li i x hx;have hCl:=fun cfg h=>hC (d+6) cfg h;have hl:=fun {k:Nat} {z:Cel} (hz:(cs i)[k]?=some z) cfg h=>It (d+2) C hx hz true cfg h;have hm:=fun {k:Nat} {z y:Cel} (hz:(cs i)[k]?=some z) rt hy cfg h=>DT (d+2) C hx (y:=y) hz rt hy cfg h;obtain⟨hn,hr,h0,ht,hX,hY,hZ⟩:=xR x f e hf he;have h0:=eq_true h0;generalize cs i=L at *;simp(disch:=omega)[hI];refine ah 5 (by kernel_rfl) ?_;simp(disch:=omega)[h7,l5,t5,hx,hn,ht,hCl,-getElem?_pos];by_cases h6:L=[]
  ·simp(disch:=omega)[h6];exact ae (m':=Ls.length-(i+1)) (by omega) ⟨i+1,Z,by omega,rfl,rfl,by simp(disch:=omega)[wrap64]⟩
  ·have hu:=L7.2 h6;obtain⟨z0,h8⟩:=atG hu;obtain⟨e2,em,ef,et,ep,en,-⟩:=nu false z0;have ef:=eq_true ef;have hle:=fun cfg h=>JX (d+6) z0 cfg h;have y5:=jv z0;have yt:(cG z0).take 5=cG z0:=rfl;simp(disch:=omega)[h6,h8,y5,yt,hle,e2,ef,ep,-getElem?_pos];refine ai (fun m fr H=>∃ (k q:Nat) (rt:Bool) (z:Cel) (Y:Heap),k<=L.length/\m=L.length-k/\L[q]?=some z/\(if rt=true then q+1 else q)=k/\H=some (aO X.p)::(Z++some (dK rt z)::Y) /\
    Slots 103 [(3,.ptr 0 0),(4,.lst (Ls.map az)),(5,.int .i64 i),(6,.lst (L.map cG)),(7,.ptr (Z.length+1) 0),(8,.int .i64 k)] fr) (m:=L.length) (by omega)
    ⟨0,0,false,z0,[],by omega,by omega,h8,rfl,rfl,by simp⟩ ?_
   rintro m fr H ⟨k,q,rt,z,Y,hk,rfl,hq,hv,rfl,hs⟩;obtain⟨j2,rfl⟩:=hs.ex;clear hs;by_cases hw:k<L.length
   ·have hK:(k:Int)<L.length:=by omega
    obtain⟨y,hy⟩:=atG hw;have hR:=hm hq rt (hv ▸ hy);have hF:=hl hy;have hE:=fun cfg h=>JZ (d+6) y cfg h;obtain⟨e2,em,ef,et,ep,en,-⟩:=nu rt z;have ef:=eq_true ef;obtain⟨f2,fm,ff,ft,fp,fn,-⟩:=nu true y;have ff:=eq_true ff;have y5:=jv y;have yt:(cG y).take 5=cG y:=rfl;have y3:slot (cG y) 3=some (.int .i64 y.r):=rfl;have hD:putAt (dK rt z) 0 (dK true y)=dK true y:=rfl;generalize dK rt z=E at *;simp(disch:=omega)[hK,h7,l5,t5,e2,em,et,f2,fm,ff,ft,fp,hR,hF,-getElem?_pos];refine ah 23 (by kernel_rfl) ?_;have hH:flatK [LK.int,LK.bool] (dK true y) (dK true y)=some true:=by simp[dK,flatK]
    have mE:md 16=0:=rfl;simp(disch:=omega)[hy,y5,yt,y3,f2,fm,ff,ft,mE,hE,hH,em,e2,hD,wrap64,-getElem?_pos];exact ae (m':=L.length-(k+1)) (by omega) ⟨k+1,k,true,y,Y++[some (dK true y)],by omega,rfl,hy,rfl,rfl,by simp(disch:=omega)⟩
   ·obtain rfl:k=L.length:=by omega
    have hK:¬ (L.length:Int)<L.length:=by omega
    simp(disch:=omega)[hK,wrap64,-getElem?_pos];exact ae (m':=Ls.length-(i+1)) (by omega) ⟨i+1,_,by omega,rfl,rfl,by simp(disch:=omega)⟩
 ·obtain rfl:i=Ls.length:=by omega
  have hI:¬ (Ls.length:Int)<Ls.length:=by omega
  simp(disch:=omega)[hI,hA]
end Bi
end Go.Ab
