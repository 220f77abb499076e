/- Several texts of this proof in one. -/
import Derived.Test.YtldfgkjmficliaaGreatPaQd
set_option linter.all false
set_option maxHeartbeats 16000000
set_option maxRecDepth 100000
namespace Go.Ab
open Go.Proofs Go.Proofs.Tryz
namespace Bi
theorem Pc{lv sp:List Int}{a:Nat}:∀ i,∃ e l,rnF lv sp a (i+1)=(a,e)::l
 | 0=>⟨a+1,[],by simp[rnF,bmp,jQ]⟩
 | i+1=>by
  obtain⟨e,l,h⟩:=Pc (lv:=lv) (sp:=sp) (a:=a) i;have hb:∀ (e:Nat) (l:List (Nat×Nat)),∃ e' l',bmp ((a,e)::l)=(a,e')::l':=fun e l=>by
   unfold bmp;cases l with
   | nil=>exact⟨_,_,rfl⟩
   | cons y l=>exact⟨_,_,rfl⟩
  rw[rnF];split
  ·rw[h];exact hb e _
  ·rw[h];exact hb e l
theorem OW{X:Txt}{lv:List Int}{a:Nat}:∀ (l:List Int) (dn:List Bool),lgB dn 0=false->(∃ i∈l,rnI lv X.sp a i.toNat=0)->∃ i,rnI lv X.sp a i=0/\∀ g∈X.gl1 lv a i,g∈X.glO lv a dn l
 | [],_,_,⟨_,h,_⟩=>by cases h
 | i::l,dn,h0,⟨j,hj,h3⟩=>by
  by_cases hi:rnI lv X.sp a i.toNat=0
  ·refine⟨i.toNat,hi,fun g hg=>?_⟩;rw[Txt.glO,if_neg (by rw[hi,h0];simp)];exact Nb _ hg
  ·have h4:∃ j∈l,rnI lv X.sp a j.toNat=0:=by
    rcases Ly.1 hj with rfl|hj
    ·exact absurd h3 hi
    ·exact⟨j,hj,h3⟩
   rw[Txt.glO];split
   ·exact OW l dn h0 h4
   ·have h1:lgB (dn.set (rnI lv X.sp a i.toNat) true) 0=false:=by
     unfold lgB at h0 ⊢;rw[Lg,Li hi,<- List.getD_eq_getElem?_getD];exact h0
    obtain⟨q,g1,g2⟩:=OW l _ h1 h4;exact⟨q,g1,fun g hg=>List.mem_append_right _ (g2 g hg)⟩
theorem Pa:∀ {l:List Gly}{x:Int}{g:Gly},g∈l->∃ g'∈eE x l,g'.f=g.f/\g'.t=g.t
 | y::l,x,g,h=>by
  rw[eE];rcases Ly.1 h with rfl|h
  ·exact⟨_,Lv ..,rfl,rfl⟩
  ·obtain⟨g',h1,h2⟩:=Pa (x:=x+y.a) h;exact⟨g',Lm _ h1,h2⟩
theorem Pn{fs:List Fnt}{f:Fnt}{face size:Int}{t fo:List Int}{B:List Bool}{a n:Nat}{right:Bool}(hn:0<n):
  ∃ g∈runS fs f face size t fo B a n right,g.f=a/\g.t<=((a+n:Nat):Int)/\(a:Int)<g.t:=by
 have hc:=si (fs:=fs) (face:=face) (size:=size) (t:=t) (B:=B) (qE (fs:=fs) (f:=f) (face:=face) (size:=size) (t:=t) (B:=B) (vx (f:=f) (face:=face) (size:=size) (t:=t) (fo:=fo) (right:=right) (a:=a) n));unfold runS;generalize cX fs face size t B (ligL fs f face size t B (gM f face size t fo right a n))=L at *;rcases L with _|⟨g,L⟩
 ·have hc:(a:Int)=((a+n:Nat):Int):=hc;omega
 ·obtain⟨h1,h2,h3⟩:=hc;have h4:=h3.le;have hm:g∈(if right=true then lL B (g::L) else g::L):=by
   split
   ·unfold lL;have:=fY (B:=B) (g::L);have hg:g∈(jc B (g::L)).flatten:=by rw[this];simp
    rw[N4]at hg ⊢;obtain⟨l,hl,hg⟩:=hg;exact⟨l,List.mem_reverse.2 hl,hg⟩
   ·simp
  obtain⟨g',k1,k2,k3⟩:=Pa (x:=0) hm;exact⟨g',k1,by omega,by omega,by omega⟩
theorem Pq{X:Txt}(hV:TxV X){k:Nat×Nat}{s t:Nat}(h1:k.1<=s)(h2:s<t)(h3:t<=k.2)(h4:k.2<=X.p.t.length)(hr:∀ x∈X.lvls k s t,0<=x/\x<=127):∃ g∈X.gls k s t,g.f=s/\g.t<=t/\(s:Int)<g.t:=by
 have hl:=hV.lvls h1 (Nat.le_of_lt h2) h3 h4;unfold Txt.gls;generalize X.lvls k s t=lv at *;have h0:(0:Int)∈mJ lv:=by
  unfold mJ;rw[if_neg]
  ·rw[(wa lv 127 (idx lv.length)).mem_iff];unfold idx;rw[Mp];exact⟨0,NY.2 (by omega),rfl⟩
  ·intro hb;rw[B6,N3]at hb;obtain⟨x,hx,hb⟩:=hb;have:=hr x hx;simp at hb;omega
 have h6:rnI lv X.sp s 0=0:=by
  obtain⟨e,l,h⟩:=Pc (lv:=lv) (sp:=X.sp) (a:=s) 0;have hle:=DU (lv:=lv) (sp:=X.sp) (a:=s) 1;show (rnF lv X.sp s 1).length-1=0;omega
 obtain⟨i,hi,hg⟩:=OW (X:=X) (lv:=lv) (a:=s) (mJ lv) (List.replicate (rnF lv X.sp s lv.length).length false) (by unfold lgB;simp[Lg,Ns];split<;>rfl) ⟨0,h0,h6⟩;obtain⟨e,l,hf⟩:=Pc (lv:=lv) (sp:=X.sp) (a:=s) (lv.length-1);rw[show lv.length-1+1=lv.length by omega]at hf;have hm:=ky (lv:=lv) (sp:=X.sp) (a:=s) lv.length (s,e) (by rw[hf];simp);simp only at hm;obtain⟨g,k1,k2,k3,k4⟩:=Pn (fs:=X.fs) (f:=X.fnt (s+i)) (face:=(X.spn (s+i)).n) (size:=(X.spn (s+i)).z) (t:=X.p.t) (fo:=eU X.p.t) (B:=X.bd) (a:=s) (n:=e-s) (right:=decide ((lgI lv i).tmod 2=1)) (by omega);refine⟨g,hg g ?_,k2,by omega,k4⟩;unfold Txt.gl1;rw[hi,hf];exact k1
theorem Pd{bd:List Bool}:∀ (l:List Int) (k:Nat) (p:Int),∀ x∈vf bd k p l,x=p\/x∈l
 | [],_,_,x,h=>by cases h
 | y::l,k,p,x,h=>by
  rw[vf]at h;rcases Ly.1 h with h|h
  ·split at h
   ·exact .inl h
   ·exact .inr (by simp[h])
  ·rcases Pd l _ _ x h with h|h
   ·split at h
    ·exact .inl h
    ·exact .inr (by simp[h])
   ·exact .inr (by simp[h])
theorem Pv{bd:List Bool}{a:Nat}{l:List Int}:∀ x∈vc bd a l,x∈l:=by
 cases l with
 | nil=>intro x h;cases h
 | cons y l =>
  intro x h;rw[vc]at h;rcases Ly.1 h with h|h
  ·simp[h]
  ·rcases Pd l _ _ x h with h|h
   ·simp[h]
   ·simp[h]
theorem Pe{o:List Int}{e:Int}{f:Nat}:∀ (m:Nat) (lv:List Int),∀ x∈tX o e f m lv,x=e\/x∈lv
 | 0,lv,x,h=>.inr h
 | m+1,lv,x,h=>by
  unfold tX at h;split at h
  ·rcases Pe m _ x h with h|h
   ·exact .inl h
   ·rcases Nk h with h|h
    ·exact .inr h
    ·exact .inl h
  ·exact .inr h
theorem Pk{X:Txt}(hV:TxV X)(hX:X.lv=lvZ/\X.rs=kO){x:cn}(hx:x∈X.linA X.secs 0)(h:x.l.f<x.l.t):∃ g∈x.gs,g.f=x.l.f/\g.t<=x.l.t/\x.l.f<g.t:=by
 obtain⟨k,hk,h0,s,y,h1,h2,rfl⟩:=vQ X.secs 0 hV.secs x hx;have hf:=dZ (X:=X) h0 h2;have h:(s:Int)<(X.fin k s:Int):=h;have hr:∀ x∈X.lvls k s (X.fin k s),0<=x/\x<=127:=fun x hx=>by
  unfold Txt.lvls at hx;have hx:=Pv x hx;rw[hX.2]at hx;unfold kO at hx;rcases Pe _ _ x hx with rfl|hx
  ·have:=@Ay cD (X.part k) X.p.b;unfold Txt.base;omega
  ·have hx:=Mz (N9 hx);unfold Txt.levs at hx;rw[hX.1]at hx;exact PB x hx
 obtain⟨g,g1,g2,g3,g4⟩:=Pq hV h1 (by omega) hf.2.1 h0.2.1 hr;have hl:∃ g'∈X.lgl k s (X.fin k s),g'.f=g.f/\g'.t=g.t:=by
  unfold Txt.lgl;split
  ·refine⟨_,Nd g1,?_⟩;split<;>exact⟨rfl,rfl⟩
  ·exact⟨g,g1,rfl,rfl⟩
 obtain⟨g',k1,k2,k3⟩:=hl;obtain⟨g'',m1,m2,m3⟩:=Pa (x:=X.lx k s (X.fin k s)) k1;exact⟨g'',m1,by show g''.f=(s:Int);omega,by show g''.t<=(X.fin k s:Int);omega,by show (s:Int)<g''.t;omega⟩
theorem Pr{X:Txt}(hV:TxV X){x:cn}(hx:x∈X.linA X.secs 0)(h:x.l.f=x.l.t):X.p.t.length=0\/nlS (lgI X.p.t (X.p.t.length-1))=true:=by
 obtain⟨k,hk,h0,s,y,h1,h2,h3,rfl⟩:=su X.secs 0 hV.secs x hx;have hf:=dZ (X:=X) h0 h2;have h:(s:Int)=(X.fin k s:Int):=h;have h4:k.1=k.2:=by
  rcases LX s k.2 with g|g
  ·have:=hf.2.2 h1 g;omega
  ·omega
 unfold Txt.secs at hk;rcases LA.1 hk with hk|hk
 ·have:=tY (X:=X) _ _ _ (Lh _) k hk;omega
 ·split at hk
  ·assumption
  ·cases hk
attribute [local congr] aw
noncomputable def celQ:Prim:=fun cfg args h=>aN prog md pQ 10000 40 cfg 12 args h
noncomputable def pR(f:FuncId):Option Prim:=
 if f=12 then some celQ
 else if f=51\/f=93\/f=11\/f=17 then some (rN f) else none
theorem pR_ok:∀ f p,pR f=some p->cM prog f p:=by
 intro f p h;unfold pR at h;split at h
 ·rename_i hf;rw[<- Option.some.inj h,hf];intro cfg args h r h' hx;exact ee hfol hnam pQ_ok 40 _ _ _ _ _ _ hx
 ·split at h
  ·rw[<- Option.some.inj h];exact pn _
  ·cases h
theorem toR{f:FuncId}{args:List V}{r:V}(d:Nat)(hq:pR f=some (rN f))(hm:md f=0)(ha:args.all V.noref=true)(hc:∀ cfg h,af md (K pZ 40) cfg f args h=some (r,h))(cfg:Cfg)(h:Heap):af md (K pR (d+1)) cfg f args h=some (r,h):=by
 rw[jV (md':=md) (call':=K pZ 40) hm hm ha (dq hq _ _ _)];exact hc cfg h
structure CC(X:Txt)(Ls:List cn)(cs:Nat->List Cel):Prop where
 tl:X.p.t.length<=90
 ln:Ls.length<=8300
 li:∀ (i:Nat) (x:cn),Ls[i]?=some x->∃ f e:Nat,x.l.f=f/\x.l.t=e/\f<=e/\e<=X.p.t.length/\(f=0\/(f:Int)∈cu X.p.t)/\(0<e->(e:Int)∈cu X.p.t)/\(∀ (j:Nat) (z:cn),j<i->Ls[j]?=some z->z.l.t<=f) /\
  (∀ z∈cs i,∃ c,xj X.p.t f e c/\z.f=c.1/\z.t=c.2)/\(cs i).length<=2000/\((cs i).map fun z=>(z.f,z.t)).Nodup /\
  ∀ d cfg h,af md (K pR (d+1)) cfg 12 [.agg (aO X.p),.agg (az x)] h=some (.lst ((cs i).map cG),h)
 ne:Ls≠[]
 fc:∀ (i:Nat) (x:cn) (f e:Nat),Ls[i]?=some x->x.l.f=f->x.l.t=e->(f<e->nlS (lgI X.p.t f)=false->∃ z∈cs i,z.f=f)/\(f=e->f=X.p.t.length/\i+1=Ls.length/\(f=0\/nlS (lgI X.p.t (f-1))=true))
def mte(en:Bool)(z:Cel):Int:=if en=true then z.t else z.f
def ev(z:Cel):Bool:=decide (z.lv.tmod 2=0)
def jJ(i g x:Int)(cs:List Cel):V:=.agg [.int .i64 i,.int .i64 g,.int .i64 x,.lst (cs.map cG)]
def EdgR(i:Nat)(cs:List Cel)(o:Int)(en:Bool)(r:V):Prop:=
 (∃ (k:Nat) (z:Cel),cs[k]?=some z/\mte en z=o/\(∀ (j:Nat) (y:Cel),j<k->cs[j]?=some y->mte en y≠o)/\r=.tup [jJ i (if en=ev z then k+1 else k) (if en=ev z then z.r else z.l) cs,.bool true]) \/
 ((∀ y∈cs,mte en y≠o)/\r=.tup [jJ 0 0 0 [],.bool false])
theorem te(z:Cel):(cG z).length=5/\isMap (cG z)=false/\(∀ c∈cG z,c.leaf=true)/\(cG z).take 5=cG z/\slot (cG z) 0=some (.int .i64 z.f)/\slot (cG z) 1=some (.int .i64 z.t)/\slot (cG z) 2=some (.int .i64 z.l)/\slot (cG z) 3=some (.int .i64 z.r)/\slot (cG z) 4=some (.int .i64 z.lv)/\putAt [V.int .i64 0,.int .i64 0,.int .i64 0,.int .i64 0,.int .i64 0] 0 (cG z)=cG z:=
 ⟨rfl,rfl,by simp[cG],rfl,rfl,rfl,rfl,rfl,rfl,rfl⟩
theorem Ff(d:Nat){X:Txt}{Ls:List cn}{cs:Nat->List Cel}(C:CC X Ls cs)(i:Nat)(hi:i<Ls.length)(o:Int)(en:Bool):
  ∃ r,EdgR i (cs i) o en r/\∀ cfg h,af md (K pR (d+2)) cfg 78 [.agg (aO X.p),.lst (Ls.map az),.int .i64 i,.int .i64 o,.bool en] h=some (r,h):=by
 obtain⟨x,hx⟩:=atG hi;obtain⟨f,e,hf,he,hA,hD,-,-,-,-,hE,-,hC⟩:=C.li i x hx;have hF:=C.ln;have hC:=fun cfg h=>hC d cfg h;generalize cs i=L at *;obtain⟨hd,hg,s0,s1,s2,s3,s4,l5,t5⟩:=oJ X.p;have ha:=eq_true (Lp.1 hd);have hl:(Ls.map az)[i]?=some (az x):=by rw[Ln,hx];rfl
 obtain⟨hr,ht,h8,hu,hH,hJ,hK⟩:=xR x f e hf he;have h8:=eq_true h8;have hv:¬ (i:Int)<0:=by omega
 refine gn (md:=md) (prim:=pR) (n:=10000) (d:=d+1) (Post:=EdgR i L o en) rfl rfl func78 rfl rfl rfl (by simp[aO]) ?_;simp(disch:=omega)[ha,hv];refine ah 5 (by kernel_rfl) ?_;simp(disch:=omega)[hg,l5,t5,hl,hr,hu,hC,-getElem?_pos];obtain⟨Z0,h9⟩:∃ Z0:List V,Z0=[.int .i64 0,.int .i64 0,.int .i64 0,.nils]:=⟨_,rfl⟩;refine ai (fun m fr H=>∃ j:Nat,j<=L.length/\m=L.length-j/\(∀ (q:Nat) (y:Cel),q<j->L[q]?=some y->mte en y≠o)/\Hp H [some (aO X.p),some Z0] [] /\
  Slots 69 [(2,.int .i64 i),(3,.int .i64 o),(4,.bool en),(10,.ptr 1 0),(12,.lst (L.map cG)),(24,.lst (L.map cG)),(25,.int .i64 L.length),(26,.int .i64 j)] fr) (m:=L.length) (by omega)
  ⟨0,by omega,by omega,fun q y h=>by omega,by rw[h9];exact Hp.start,by simp⟩ ?_
 rintro m fr H ⟨j,hj,rfl,hc,hh,hs⟩;obtain⟨q,rfl⟩:=hs.ex;clear hs;have zl:Z0.length=4:=by rw[h9];rfl
 have zs:∀ a b c e,bz (bz (bz (bz Z0 0 a) 1 b) 2 c) 3 e=[a,b,c,e]:=fun _ _ _ _=>by rw[h9];rfl
 have h0:∀ {H:Heap},Hp H [some (aO X.p),some Z0] []->ab H 1=some Z0:=fun hh=>by
  rw[hh.block (by simp)];rw[h9];rfl
 by_cases hw:j<L.length
 ·have hI:(j:Int)<L.length:=by omega
  obtain⟨z,hz⟩:=atG hw;obtain⟨cl,zm,zf,zt,z0,z1,z2,z3,z4,zp⟩:=te z;have zf':=eq_true zf;have h6:ab (H++[some (cG z)]) H.length=some (cG z):=by rw[bw rfl,zm];rfl
  have hp:=hh.push [some (cG z)];have h0:=h0 hp;have h3:∀ v:Int×Int,mte en z=o->v=(if en=ev z then ((j:Int)+1,z.r) else ((j:Int),z.l))->EdgR i L o en (.tup [jJ i v.1 v.2 L,.bool true]):=fun v h1 h2=>by
   refine .inl ⟨j,z,hz,h1,hc,?_⟩;subst h2;split<;>rfl
  have hle:=hp.le;simp only[Lx,Me]at hle;have h7:∀ (a b c:Int) (e:V),ab ((H++[some (cG z)]).set 1 (some [.int .i64 a,.int .i64 b,.int .i64 c,e])) 1=some [.int .i64 a,.int .i64 b,.int .i64 c,e]:=fun a b c e=>by
   rw[du (by omega)];rfl
  by_cases hm:mte en z=o
  ·cases en
   ·have h4:z.f=o:=hm;by_cases he:z.lv.tmod 2=0
    ·simp(disch:=omega)[hI,hz,cl,zf',zt,z0,z2,z4,zp,h6,h4,he,h0,zl,zs,h7,-getElem?_pos];exact h3 (j,z.l) hm (by simp[ev,he])
    ·simp(disch:=omega)[hI,hz,cl,zf',zt,z0,z3,z4,zp,h6,h4,he,h0,zl,zs,h7,wrap64,-getElem?_pos];exact h3 (j+1,z.r) hm (by simp[ev,he])
   ·have h4:z.t=o:=hm;by_cases he:z.lv.tmod 2=0
    ·simp(disch:=omega)[hI,hz,cl,zf',zt,z1,z3,z4,zp,h6,h4,he,h0,zl,zs,h7,wrap64,-getElem?_pos];exact h3 (j+1,z.r) hm (by simp[ev,he])
    ·simp(disch:=omega)[hI,hz,cl,zf',zt,z1,z2,z4,zp,h6,h4,he,h0,zl,zs,h7,-getElem?_pos];exact h3 (j,z.l) hm (by simp[ev,he])
  ·have hn:∀ (q:Nat) (y:Cel),q<j+1->L[q]?=some y->mte en y≠o:=fun q y hq hy=>by
    by_cases e:q=j
    ·subst e;rw[hz]at hy;cases hy;exact hm
    ·exact hc q y (by omega) hy
   cases en
   ·have h4:¬ z.f=o:=hm;simp(disch:=omega)[hI,hz,cl,zf',zt,z0,zp,h6,h4,wrap64,-getElem?_pos];exact ae (m':=L.length-(j+1)) (by omega) ⟨j+1,by omega,rfl,hn,hp,by simp(disch:=omega)⟩
   ·have h4:¬ z.t=o:=hm;simp(disch:=omega)[hI,hz,cl,zf',zt,z1,zp,h6,h4,wrap64,-getElem?_pos];exact ae (m':=L.length-(j+1)) (by omega) ⟨j+1,by omega,rfl,hn,hp,by simp(disch:=omega)⟩
 ·obtain rfl:j=L.length:=by omega
  have hI:¬ (L.length:Int)<L.length:=by omega
  have h0:=h0 hh;have hle:=hh.le;simp only[Lx,Me]at hle;have h7:∀ (a b c:Int) (e:V),ab (H.set 1 (some [.int .i64 a,.int .i64 b,.int .i64 c,e])) 1=some [.int .i64 a,.int .i64 b,.int .i64 c,e]:=fun a b c e=>by
   rw[du (by omega)];rfl
  simp(disch:=omega)[hI,h0,zl,zs,h7];exact .inr ⟨fun y hy=>by
   obtain⟨q,hq⟩:=NF hy;exact hc q y (Ld.1 hq).1 hq,rfl⟩
theorem Jh(d:Nat)(cfg:Cfg)(h:Heap)(r:Int):af md (K pR (d+2)) cfg 73 [.int .i32 r] h=some (.bool (nlS r),h):=by
 refine aU rfl rfl func73 rfl rfl rfl (by simp) ?_;have hL:=fun cfg h=>toR (f:=93) d (by rfl) rfl rfl (fun cfg h=>pN (prim:=pZ) 37 cH cfg h r) cfg h;by_cases h1:cLn r=1
 ·simp[hL,h1,nlS]
 by_cases h2:cLn r=2
 ·simp[hL,h2,nlS]
 by_cases h3:cLn r=3<;>simp[hL,h1,h2,h3,nlS]
theorem Ig(d:Nat)(t:List Int)(ht:t.length<=2000)(cfg:Cfg)(h:Heap):af md (K pR (d+1)) cfg 51 [rl t] h=some (il (cu t),h):=
 toR d (by rfl) rfl (by simp) (fun cfg h=>lY (prim:=pZ) 36 cH t ht cfg h) cfg h
theorem IZ(d:Nat)(l:List Int)(hl:l.length<=4000)(v:Int):∃ n:Int,(0<=n↔v∈l)/\∀ cfg h,af md (K pR (d+1)) cfg 116 [il l,.int .i64 v] h=some (.int .i64 n,h):=by
 obtain⟨_,⟨n,rfl,hn⟩,hc⟩:=gn (md:=md) (prim:=pR) (n:=10000) (d:=d) (args:=[il l,.int .i64 v]) (Post:=fun r=>∃ n:Int,r=.int .i64 n/\(0<=n↔v∈l)) rfl rfl func116 rfl rfl rfl (by simp) (by
  simp(disch:=omega);refine ai (fun m fr H=>∃ i:Nat,i<=l.length/\m=l.length-i/\v ∉ l.take i/\H=[]/\Slots 19 [(0,il l),(1,.int .i64 v),(7,.int .i64 l.length),(8,.int .i64 i)] fr) (m:=l.length) (by omega) ⟨0,by omega,by omega,by simp,rfl,by simp⟩ ?_;rintro m fr H ⟨i,hi,rfl,hv,rfl,hs⟩;obtain⟨j,rfl⟩:=hs.ex;clear hs;by_cases h0:i<l.length
  ·have hI:(i:Int)<l.length:=by omega
   have h3:l.take (i+1)=l.take i++[lgI l i]:=by rw[LO,atI h0];rfl
   by_cases hb:v=lgI l i
   ·have h4:v∈l:=by rw[hb];exact Le (atI h0)
    simp(disch:=omega)[hI,atI h0,<- hb,h4,-getElem?_pos]
   ·simp(disch:=omega)[hI,atI h0,hb,wrap64,-getElem?_pos];exact ae (m':=l.length-(i+1)) (by omega) ⟨i+1,by omega,by omega,by rw[h3];simp[hv,hb],rfl,by simp(disch:=omega)⟩
  ·obtain rfl:i=l.length:=by omega
   have hI:¬ ((l.length:Int)<l.length):=by omega
   rw[LQ]at hv;simp(disch:=omega)[hI,hv])
 exact⟨n,hn,hc⟩
theorem Ii(d:Nat)(l:List Int)(hl:l.length<=4000)(v:Int)(cfg:Cfg)(h:Heap):af md (K pR (d+2)) cfg 76 [il l,.int .i64 v] h=some (.bool (decide (v∈l)),h):=by
 refine aU rfl rfl func76 rfl rfl rfl (by simp) ?_;obtain⟨n,hn,hI⟩:=IZ d l hl v;by_cases hv:v∈l
 ·have:=hn.2 hv;simp[hI,this,hv]
 ·have:¬ 0<=n:=fun h=>hv (hn.1 h);simp[hI,this,hv]
theorem I4(d:Nat)(x:cn)(o:Int)(h:Heap)(b:Nat)(hb:ab h b=some [.int .i64 o]):∀ cfg,af md (K pR (d+1)) cfg 80 [.agg (az x),.ptr b 0] h=some (.bool (decide (x.l.f<o)&&decide (o<=x.l.t)),h):=by
 have ha:(az x).length=10:=rfl;have h4:isMap (az x)=false:=rfl;have h0:(∀ c∈az x,c.leaf=true)=True:=eq_true (by simp[az,bA]);have h6:slot (az x) 0=some (.int .i64 x.l.f):=rfl;have h9:slot (az x) 1=some (.int .i64 x.l.t):=rfl;have h7:ab (h++[some (az x)]) h.length=some (az x):=by rw[bw rfl,h4];rfl
 have h8:ab (h++[some (az x)]) b=some [.int .i64 o]:=by rw[aj (al hb)];exact hb
 obtain⟨r,h2,h3,rfl,rfl⟩:=er (md':=md) (prim:=pR) (n:=10000) (d:=d) (h:=h) (args:=[.agg (az x),.ptr b 0]) (Post:=fun r h2=>r=.bool (decide (x.l.f<o)&&decide (o<=x.l.t))/\h2=h) rfl rfl func80 rfl rfl rfl (by simp) (by
  by_cases h1:x.l.f<o
  ·simp(disch:=omega)[h0,h6,h9,h7,h8,h1]
  ·simp(disch:=omega)[h0,h6,h7,h8,h1])
 exact h3
theorem I5(d:Nat)(x:cn)(o:Int)(h:Heap)(b:Nat)(hb:ab h b=some [.int .i64 o]):∀ cfg,af md (K pR (d+1)) cfg 82 [.agg (az x),.ptr b 0] h=some (.bool (decide (x.l.f<=o)&&decide (o<x.l.t)),h):=by
 have ha:(az x).length=10:=rfl;have h4:isMap (az x)=false:=rfl;have h0:(∀ c∈az x,c.leaf=true)=True:=eq_true (by simp[az,bA]);have h6:slot (az x) 0=some (.int .i64 x.l.f):=rfl;have h9:slot (az x) 1=some (.int .i64 x.l.t):=rfl;have h7:ab (h++[some (az x)]) h.length=some (az x):=by rw[bw rfl,h4];rfl
 have h8:ab (h++[some (az x)]) b=some [.int .i64 o]:=by rw[aj (al hb)];exact hb
 obtain⟨r,h2,h3,rfl,rfl⟩:=er (md':=md) (prim:=pR) (n:=10000) (d:=d) (h:=h) (args:=[.agg (az x),.ptr b 0]) (Post:=fun r h2=>r=.bool (decide (x.l.f<=o)&&decide (o<x.l.t))/\h2=h) rfl rfl func82 rfl rfl rfl (by simp) (by
  by_cases h1:x.l.f<=o
  ·simp(disch:=omega)[h0,h6,h9,h7,h8,h1]
  ·simp(disch:=omega)[h0,h6,h7,h8,h1])
 exact h3
theorem IB(d:Nat)(g:FuncId)(Ls:List cn)(hl:Ls.length<=9000)(b:Nat)(h:Heap)(Q:cn->Bool)(hG:∀ x cfg,af md (K pR (d+1)) cfg g [.agg (az x),.ptr b 0] h=some (.bool (Q x),h)):
  ∃ n:Int,((n=-1/\∀ x∈Ls,Q x=false)\/∃ (i:Nat) (x:cn),n=i/\Ls[i]?=some x/\Q x=true/\∀ (j:Nat) (y:cn),j<i->Ls[j]?=some y->Q y=false)/\∀ cfg,af md (K pR (d+2)) cfg 79 [.lst (Ls.map az),.func (.func g) [] [.ptr b 0]] h=some (.int .i64 n,h):=by
 obtain⟨r,h2,h3,n,rfl,rfl,h4⟩:=er (md':=md) (prim:=pR) (n:=10000) (d:=d+1) (h:=h) (args:=[.lst (Ls.map az),.func (.func g) [] [.ptr b 0]]) (Post:=fun r h2=>∃ n:Int,r=.int .i64 n/\h2=h/\((n=-1/\∀ x∈Ls,Q x=false)\/∃ (i:Nat) (x:cn),n=i/\Ls[i]?=some x/\Q x=true/\∀ (j:Nat) (y:cn),j<i->Ls[j]?=some y->Q y=false)) rfl rfl func79 rfl rfl rfl (by simp;rfl) (by
  simp(disch:=omega);refine ai (fun m fr H=>∃ i:Nat,i<=Ls.length/\m=Ls.length-i/\(∀ (j:Nat) (y:cn),j<i->Ls[j]?=some y->Q y=false)/\H=h/\Slots 19 [(0,.lst (Ls.map az)),(1,.func (.func g) [] [.ptr b 0]),(7,.int .i64 Ls.length),(8,.int .i64 i)] fr) (m:=Ls.length) (by omega) ⟨0,by omega,by omega,fun j y h=>by omega,rfl,by simp⟩ ?_;rintro m fr H ⟨i,hi,rfl,h6,rfl,hs⟩;obtain⟨q,rfl⟩:=hs.ex;clear hs;by_cases h8:i<Ls.length
  ·have hI:(i:Int)<Ls.length:=by omega
   obtain⟨x,hx⟩:=atG h8;have h7:(az x).length=10:=rfl;have h0:(az x).take 10=az x:=rfl;cases hQ:Q x
   ·simp(disch:=omega)[hI,hx,h7,h0,hG,hQ,wrap64,-getElem?_pos];exact ae (m':=Ls.length-(i+1)) (by omega) ⟨i+1,by omega,by omega,fun j y hj hy=>by
     by_cases e:j=i
     ·subst e;rw[hx]at hy;cases hy;exact hQ
     ·exact h6 j y (by omega) hy,rfl,by simp(disch:=omega)⟩
   ·simp(disch:=omega)[hI,hx,h7,h0,hG,hQ,-getElem?_pos];exact h6
  ·obtain rfl:i=Ls.length:=by omega
   have hI:¬ ((Ls.length:Int)<Ls.length):=by omega
   simp(disch:=omega)[hI];intro x hx;obtain⟨q,hq⟩:=NF hx;exact h6 q x (Ld.1 hq).1 hq)
 exact⟨n,h4,h3⟩
def eb(rt:Bool)(z:Cel):Bool:=rt==ev z
def dK(rt:Bool)(z:Cel):List V:=[.int .i64 (mte (eb rt z) z),.bool (eb rt z)]
theorem G8{α:Type}{rt:Bool}{z:Cel}{a b:α}:(if eb rt z=ev z then a else b)=if rt=true then a else b:=by
 unfold eb;cases rt<;>cases ev z<;>rfl
theorem CA{X:Txt}{Ls:List cn}{cs:Nat->List Cel}(C:CC X Ls cs){i:Nat}{x:cn}(hx:Ls[i]?=some x){k:Nat}{z:Cel}(hz:(cs i)[k]?=some z){en:Bool}{r:V}(h:EdgR i (cs i) (mte en z) en r):
  r=.tup [jJ i (if en=ev z then k+1 else k) (if en=ev z then z.r else z.l) (cs i),.bool true]:=by
 obtain⟨f,e,-,-,-,-,-,-,-,h0,-,h4,-⟩:=C.li i x hx;rcases h with⟨q,y,h1,h2,h3,rfl⟩|⟨h1,-⟩
 ·have e1:q=k:=by
   obtain⟨c,hc,c1,c2⟩:=h0 z (Le hz);obtain⟨c',h6,c1',c2'⟩:=h0 y (Le h1);have h7:c=c':=by
    cases en
    ·have h2:y.f=z.f:=h2;exact H9 hc h6 (by omega)
    ·have h2:y.t=z.t:=h2;exact Ia hc h6 (by omega)
   subst h7;have g1:((cs i).map fun z=>(z.f,z.t))[q]?=some ((c.1:Int),(c.2:Int)):=by rw[Ln,h1,<- c1',<- c2'];rfl
   have g2:((cs i).map fun z=>(z.f,z.t))[k]?=some ((c.1:Int),(c.2:Int)):=by rw[Ln,hz,<- c1,<- c2];rfl
   rcases Mk q k with h|h|h
   ·exact absurd rfl (jL h4 h g1 g2)
   ·exact h
   ·exact absurd rfl (jL h4 h g2 g1)
  subst e1;rw[hz]at h1;cases h1;rfl
 ·exact absurd rfl (h1 z (Le hz))
theorem C7(d:Nat){X:Txt}{Ls:List cn}{cs:Nat->List Cel}(C:CC X Ls cs){i:Nat}{x:cn}(hx:Ls[i]?=some x){g:FuncId}{H:Heap}(Q:cn->Bool)(h4:∀ (j:Nat) (y:cn),j<i->Ls[j]?=some y->¬ Q y=true)(h0:Q x=true)
  (hG:∀ x cfg,af md (K pR (d+1)) cfg g [.agg (az x),.ptr 4 0] H=some (.bool (Q x),H)):
  ∀ cfg,af md (K pR (d+2)) cfg 79 [.lst (Ls.map az),.func (.func g) [] [.ptr 4 0]] H=some (.int .i64 i,H):=by
 obtain⟨n,hn,h⟩:=IB d g Ls (by have:=C.ln;omega) 4 H Q hG;rcases hn with⟨-,hn⟩|⟨j,y,rfl,h1,h2,h3⟩
 ·rw[hn x (Le hx)]at h0;cases h0
 ·have:j=i:=by
   rcases Mk j i with g|g|g
   ·exact absurd h2 (h4 j y g h1)
   ·exact g
   ·rw[h3 i x g hx]at h0;cases h0
  subst this;exact h
theorem Im(d:Nat){X:Txt}{Ls:List cn}(n o:Int)(H:Heap)(h4:ab H 0=some (aO X.p))(h6:ab H 1=some [.lst (Ls.map az)])(h0:ab H 4=some [.int .i64 o]){a b c:Int}{L:List Cel}{ok:Bool}
  (hI:∀ (T:Heap) cfg,af md (K pR (d+2)) cfg 79 [.lst (Ls.map az),.func (.func 80) [] [.ptr 4 0]] (H++T)=some (.int .i64 n,H++T))
  (hE:∀ cfg h,af md (K pR (d+2)) cfg 78 [.agg (aO X.p),.lst (Ls.map az),.int .i64 n,.int .i64 o,.bool true] h=some (.tup [jJ a b c L,.bool ok],h)):
  ∀ cfg,af md (K pR (d+3)) cfg 77 [.ptr 0 0,.ptr 1 0,.ptr 4 0] H=some (.tup [jJ a b c L,.bool ok],H):=by
 obtain⟨h7,h9,s0,s1,s2,s3,s4,l5,t5⟩:=oJ X.p;have h8:=eq_true (Lp.1 h7);obtain⟨r,h2,h3,rfl,rfl⟩:=er (md':=md) (prim:=pR) (n:=10000) (d:=d+2) (h:=H) (args:=[.ptr 0 0,.ptr 1 0,.ptr 4 0]) (Post:=fun r h2=>r=.tup [jJ a b c L,.bool ok]/\h2=H) rfl rfl func77 rfl rfl rfl (by simp) (by
  have ha:=al h0;have b0:∀ T,ab (H++T) 0=some (aO X.p):=fun T=>by rw[aj (by omega)];exact h4
  have b1:∀ T,ab (H++T) 1=some [.lst (Ls.map az)]:=fun T=>by rw[aj (by omega)];exact h6
  have b4:∀ T,ab (H++T) 4=some [.int .i64 o]:=fun T=>by rw[aj (by omega)];exact h0
  simp(disch:=omega);refine ah 6 (by kernel_rfl) ?_;have mI:md 79=0:=rfl;simp(disch:=omega)[l5,t5,b0,b1,b4,mI,hI,hE,jJ,bq,-getElem?_pos])
 exact h3
theorem Jb(d:Nat){X:Txt}{Ls:List cn}{cs:Nat->List Cel}(C:CC X Ls cs){i:Nat}{x:cn}(hx:Ls[i]?=some x){k:Nat}{z:Cel}(hz:(cs i)[k]?=some z)(en:Bool)(cfg:Cfg)(h:Heap):
  af md (K pR (d+4)) cfg 41 [.agg (aO X.p),.lst (Ls.map az),.agg [.int .i64 (mte en z),.bool en]] h=some (.tup [jJ i (if en=ev z then k+1 else k) (if en=ev z then z.r else z.l) (cs i),.bool true],h):=by
 obtain⟨f,e,hf,he,hL,hh,hw,hA,hl,hD,hM,hN,-⟩:=C.li i x hx;obtain⟨c,hc,c1,c2⟩:=hD z (Le hz);have hO:=C.tl;have hP:=C.ln;have hF:=(Ld.1 hx).1;obtain⟨k1,k2,k3,k4,k5,-,-⟩:=id hc;obtain⟨o,ho,hQ,h4,hm⟩:∃ o:Nat,mte (en) z=o/\o<=X.p.t.length/\(0<o->(o:Int)∈cu X.p.t)/\((en=true->o=c.2)/\(en=false->o=c.1)):=by
  cases en
  ·refine⟨c.1,c1,by omega,fun h0=>?_,fun h=>(by cases h),fun _=>rfl⟩;rcases k4 with g|g|g
   ·exact g
   ·rw[g]at h0 ⊢;exact hw.resolve_left (by omega)
   ·omega
  ·refine⟨c.2,c2,by omega,fun h0=>?_,fun _=>rfl,fun h=>(by cases h)⟩;rcases k5 with g|g|g
   ·exact g
   ·omega
   ·rw[g]at h0 ⊢;exact hA h0
 have hE:∀ d cfg h,af md (K pR (d+2)) cfg 78 [.agg (aO X.p),.lst (Ls.map az),.int .i64 i,.int .i64 (o:Int),.bool en] h=some (.tup [jJ i (if en=ev z then k+1 else k) (if en=ev z then z.r else z.l) (cs i),.bool true],h):=fun d=>by
  obtain⟨r,hr,hE⟩:=Ff d C i hF o en;rw[<- ho]at hr;have hr:=CA C hx hz hr;subst hr;exact hE
 have hn:=fun cfg h=>Ig (d+2) X.p.t (by omega) cfg h;have ht:=fun cfg h=>Ii (d+1) (cu X.p.t) (by have:=(@cluS_rng X.p.t).2;omega) o cfg h;have h9:=fun r cfg h=>Jh (d+1) cfg h r;have ha:¬ Ls.length=0:=by omega
 have hu:¬ (i:Int)<0:=by omega
 have hd:¬ (o:Int)<0:=by omega
 have h3:¬ (X.p.t.length:Int)<o:=by omega
 obtain⟨hH,h7,s0,s1,s2,s3,s4,l5,t5⟩:=oJ X.p;have hg:=eq_true (Lp.1 hH);have mC:md 51=0:=rfl;have mT:md 76=0:=rfl;rw[ho];generalize (if en=ev z then (k:Int)+1 else k)=g at *;generalize (if en=ev z then z.r else z.l)=xx at *;refine aU rfl rfl func41 rfl rfl rfl (by simp[aO]) ?_;simp(disch:=omega)[hg];refine ah 6 (by kernel_rfl) ?_;simp(disch:=omega)[h7,s0,-getElem?_pos];refine ah 20 (by kernel_rfl) ?_;cases en
 ·obtain rfl:=hm.2 rfl;have hv:¬ (c.1:Int)=X.p.t.length:=by omega
  have h8:=Ch hc hh c.1 (Lh _) k2;have hI:∀ a b e f cfg,af md (K pR (d+3)) cfg 79 [.lst (Ls.map az),.func (.func 82) [] [.ptr 4 0]] [a,b,e,f,some [.int .i64 (c.1:Int)]]=some (.int .i64 i,[a,b,e,f,some [.int .i64 (c.1:Int)]]):=fun a b e f cfg =>
   C7 (d+1) C hx _ (fun j y hj hy=>by have:=hl j y hj hy;simp;omega) (by simp;omega) (fun x=>I5 (d+1) x c.1 _ 4 rfl) cfg
  have h6:=atI (l:=X.p.t) (i:=c.1) (by omega);by_cases h0:0<c.1
  ·have h4:=h4 h0;simp(disch:=omega)[ha,hu,hd,h3,h0,mC,hn,ht,h4,hv,hI,h6,h9,h8,hE,jJ,h7,l5,t5,-getElem?_pos]
  ·simp(disch:=omega)[ha,hu,hd,h3,h0,hv,hI,h6,h9,h8,hE,jJ,h7,l5,t5,-getElem?_pos]
 ·obtain rfl:=hm.1 rfl;have h0:0<c.2:=by omega
  have h4:=h4 h0;obtain⟨q,hq⟩:∃ q:Nat,(c.2:Int)-1=q:=⟨c.2-1,by omega⟩;have h8:=Ch hc hh q (by omega) (by omega);have hJ:=atI (l:=X.p.t) (i:=q) (by omega);have hK:∀ a b cfg,af md (K pR (d+3)) cfg 77 [.ptr 0 0,.ptr 1 0,.ptr 4 0] [some (aO X.p),some [.lst (Ls.map az)],a,b,some [.int .i64 (c.2:Int)]]=some (.tup [jJ i g xx (cs i),.bool true],[some (aO X.p),some [.lst (Ls.map az)],a,b,some [.int .i64 (c.2:Int)]]):=fun a b cfg =>
   Im d i c.2 _ (by simp[ab,h7]) rfl rfl (fun T=>C7 d C hx _ (fun j y hj hy=>by have:=hl j y hj hy;simp;omega) (by simp;omega) fun x=>I4 d x c.2 _ 4 rfl) (hE d) cfg
  simp(disch:=omega)[ha,hd,h3,h0,mC,hn,ht,h4,hq,hJ,h9,h8,hK,jJ,wrap64,-getElem?_pos]
theorem Dk(d:Nat){X:Txt}{Ls:List cn}{cs:Nat->List Cel}(C:CC X Ls cs){i:Nat}{x:cn}(hx:Ls[i]?=some x){k:Nat}{z:Cel}(hz:(cs i)[k]?=some z)(rt:Bool)(cfg:Cfg)(h:Heap):
  af md (K pR (d+4)) cfg 41 [.agg (aO X.p),.lst (Ls.map az),.agg (dK rt z)] h=some (.tup [jJ i (if rt=true then k+1 else k) (if rt=true then z.r else z.l) (cs i),.bool true],h):=by
 have:=Jb d C hx hz (eb rt z) cfg h;rw[G8,G8]at this;exact this
theorem DP(d:Nat)(z:Cel)(cfg:Cfg)(h:Heap):af md (K pR (d+1)) cfg 42 [.agg (cG z)] h=some (.agg (dK true z),h):=by
 refine aU rfl rfl func42 rfl rfl rfl (by simp[cG]) ?_;obtain⟨zl,zm,zf,zt,z0,z1,z2,z3,z4,zp⟩:=te z;have zf':=eq_true zf;by_cases he:z.lv.tmod 2=0<;>simp(disch:=omega)[zm,zf',z0,z1,z4,he,dK,eb,ev,mte,-getElem?_pos]
theorem cc_ex{X:Txt}(C:CtxA pZ X)(h9:X.C=cu X.p.t)(hb:-1<=X.p.b/\X.p.b<=1)(hd:X.lv=lvZ/\X.rs=kO):∃ cs,CC X (X.linA X.secs 0) cs:=by
 have hV:=C.hV;have hn:=C.h5;obtain⟨hg,hne⟩:=hV.chn hn;have hh:=hV.linL hn;have H:∀ i:Nat,∃ L:List Cel,∀ x:cn,(X.linA X.secs 0)[i]?=some x->∃ f e:Nat,x.l.f=f/\x.l.t=e/\f<=e/\e<=X.p.t.length/\(f=0\/(f:Int)∈cu X.p.t)/\(0<e->(e:Int)∈cu X.p.t)/\(∀ (j:Nat) (z:cn),j<i->(X.linA X.secs 0)[j]?=some z->z.l.t<=f) /\
   (∀ z∈L,∃ c,xj X.p.t f e c/\z.f=c.1/\z.t=c.2)/\L.length<=2000/\(L.map fun z=>(z.f,z.t)).Nodup /\
   (∀ d cfg h,af md (K pR (d+1)) cfg 12 [.agg (aO X.p),.agg (az x)] h=some (.lst (L.map cG),h))/\(f<e->nlS (lgI X.p.t f)=false->∃ z∈L,z.f=f)/\(f=e->f=X.p.t.length/\i+1=(X.linA X.secs 0).length/\(f=0\/nlS (lgI X.p.t (f-1))=true)):=fun i=>by
  cases hx:(X.linA X.secs 0)[i]? with
  | none=>exact⟨[],fun x h=>by cases h⟩
  | some x =>
   have hm:=Le hx;obtain⟨f,e,h1,h2,h3,h4,h5,h6,h7,h8⟩:=Dd hg i x hx;have hE:∀ z∈X.linA X.secs 0,∀ t:Nat,z.l.t=t->0<t->(t:Int)∈cu X.p.t:=fun z hz t ht h0=>by
    obtain⟨u,g1,g2,g3,-⟩:=hV.ends C.hB h9 hz;have:u=t:=by omega
    subst this;rw[<- h9];exact g3 h0
   obtain⟨L,k1,k2,k5,k3,k4⟩:=xS 37 hV hn hb hm f e h1 h2 h4 h5;refine⟨L,fun y hy=>?_⟩;cases hy;refine⟨f,e,h1,h2,h4,h5,?_,hE x hm e h2,h6,k1,k2,k3,fun d cfg h=>?_,fun g1 g2=>k5 g1 g2 (by have:=Pk hV hd hm (by omega);rw[h1,h2]at this;exact this),fun g=>?_⟩
   ·rcases h7 with h7|⟨z,hz,h7⟩
    ·exact .inl h7
    ·by_cases h0:f=0
     ·exact .inl h0
     ·exact .inr (hE z hz f h7 (by omega))
   ·have hq:pR 12=some celQ:=if_pos rfl;have ha:[V.agg (aO X.p),.agg (az x)].all V.noref=true:=by simp[az,bA,aO]
    rw[jV (md:=md) (md':=md) (call':=K pQ 40) rfl rfl ha (dq hq _ _ _)];exact k4 cfg h
   ·have hl:=Pr hV hm (by omega);obtain⟨g1,g2⟩:=h8.resolve_left (by omega);have:f=X.p.t.length:=by omega
    subst this;exact⟨rfl,g1,hl⟩
 obtain⟨cs,hc⟩:=Classical.axiomOfChoice H;refine⟨cs,hn,by omega,fun i x hx=>?_,hne,fun i x f e hx hf he=>?_⟩
 ·obtain⟨f,e,g1,g2,g3,g4,g5,g6,g7,g8,g9,g10,g11,-⟩:=hc i x hx;exact⟨f,e,g1,g2,g3,g4,g5,g6,g7,g8,g9,g10,g11⟩
 ·obtain⟨f',e',g1,g2,-,-,-,-,-,-,-,-,-,g12⟩:=hc i x hx;obtain rfl:f'=f:=by omega
  obtain rfl:e'=e:=by omega
  exact g12
def O7(E:List V):Prop:=E.length=2/\isMap E=false/\(∀ c∈E,c.leaf=true)/\E.take 2=E/\putAt [V.int .i64 0,.bool false] 0 E=E/\E.all V.rf=true/\∀ c∈E,c≠.nils
theorem OQ(o:Int)(b:Bool):O7 [.int .i64 o,.bool b]:=⟨rfl,rfl,by simp,rfl,rfl,by simp,by simp⟩
theorem nu(rt:Bool)(z:Cel):O7 (dK rt z):=OQ _ _
theorem OV(d:Nat){X:Txt}{Ls:List cn}{E:List V}(hE:O7 E){a g x:Int}{L:List Cel}{ok:Bool}
  (hL:∀ cfg h,af md (K pR (d+4)) cfg 41 [.agg (aO X.p),.lst (Ls.map az),.agg E] h=some (.tup [jJ a g x L,.bool ok],h)) (cfg:Cfg) (h:Heap):
  af md (K pR (d+5)) cfg 15 [.agg (aO X.p),.lst (Ls.map az),.agg E] h=some (.tup [.int .i64 a,.int .i64 x,.bool ok],h):=by
 obtain⟨h3,h4,s0,s1,s2,s3,s4,l5,t5⟩:=oJ X.p;have h0:=eq_true (Lp.1 h3);obtain⟨e2,em,ef,et,-,erq,-⟩:=hE;have ef:=eq_true ef;refine aU rfl rfl func15 rfl rfl rfl (by simpa[az,bA,aO]using erq) ?_;simp(disch:=omega)[h0,h4,l5,t5,e2,em,ef,et,hL,jJ,-getElem?_pos];refine ah 6 (by kernel_rfl) ?_;simp(disch:=omega)[-getElem?_pos]
theorem It(d:Nat){X:Txt}{Ls:List cn}{cs:Nat->List Cel}(C:CC X Ls cs){i:Nat}{x:cn}(hx:Ls[i]?=some x){k:Nat}{z:Cel}(hz:(cs i)[k]?=some z)(rt:Bool)(cfg:Cfg)(h:Heap):
  af md (K pR (d+5)) cfg 15 [.agg (aO X.p),.lst (Ls.map az),.agg (dK rt z)] h=some (.tup [.int .i64 i,.int .i64 (if rt=true then z.r else z.l),.bool true],h):=
 OV d (nu rt z) (fun cfg h=>Dk d C hx hz rt cfg h) cfg h
def LocP(Ls:List cn)(cs:Nat->List Cel)(r:V):Prop:=
 r=.tup [jJ 0 0 0 [],.bool false]\/∃ (i:Nat) (g x:Int),i<Ls.length/\0<=g/\g<=(cs i).length/\r=.tup [jJ i g x (cs i),.bool true]
theorem EdgR.loc{Ls:List cn}{cs:Nat->List Cel}{i:Nat}(hi:i<Ls.length){o:Int}{en:Bool}{r:V}(h:EdgR i (cs i) o en r):LocP Ls cs r:=by
 rcases h with⟨k,z,h1,-,-,h4⟩|⟨-,h⟩
 ·have hk:=(Ld.1 h1).1;exact .inr ⟨i,_,_,hi,by split<;>omega,by split<;>omega,h4⟩
 ·exact .inl h
theorem O3(d:Nat){X:Txt}{Ls:List cn}{cs:Nat->List Cel}(C:CC X Ls cs)(i:Nat)(hi:i<Ls.length):
  ∃ r,(∃ g x:Int,0<=g/\g<=(cs i).length/\r=jJ i g x (cs i))/\∀ cfg h,af md (K pR (d+2)) cfg 81 [.agg (aO X.p),.lst (Ls.map az),.int .i64 i] h=some (r,h):=by
 obtain⟨x,hx⟩:=atG hi;obtain⟨f,e,hf,he,hg,hh,-,-,-,-,hj,-,hC⟩:=C.li i x hx;have hC:=fun cfg h=>hC d cfg h;generalize cs i=L at *;obtain⟨h6,h7,s0,s1,s2,s3,s4,l5,t5⟩:=oJ X.p;have h0:=eq_true (Lp.1 h6);obtain⟨h3,h8,h9,ha,hl,hm,hn⟩:=xR x f e hf he;have h4:slot (az x) 2=some (.int .i64 x.l.lv):=rfl;have hc:slot (az x) 3=some (.int .i64 x.l.x):=rfl;have hd:slot (az x) 5=some (.int .i64 x.l.w):=rfl;have mC:md 12=0:=rfl;refine gn (md:=md) (prim:=pR) (n:=10000) (d:=d+1) (Post:=fun r=>∃ g x:Int,0<=g/\g<=L.length/\r=jJ i g x L) rfl rfl func81 rfl rfl rfl (by simp[aO]) ?_;simp(disch:=omega)[h0];refine ah 14 (by kernel_rfl) ?_;simp(disch:=omega)[h7,l5,t5,hx,h3,ha,hc,mC,hC,bq,-getElem?_pos];by_cases hv:x.l.lv.tmod 2=0
 ·simp(disch:=omega)[h4,hv,bq,-getElem?_pos];exact⟨0,by omega,by omega,x.l.x,rfl⟩
 ·simp(disch:=omega)[h4,hv,-getElem?_pos];refine ah 7 (by kernel_rfl) ?_;simp(disch:=omega)[hx,h3,hd,bq,-getElem?_pos];exact⟨L.length,by omega,by omega,_,rfl⟩
def IdxP(Q:cn->Bool)(Ls:List cn)(n:Int):Prop:=(n=-1/\∀ x∈Ls,Q x=false)\/∃ (i:Nat) (x:cn),n=i/\Ls[i]?=some x/\Q x=true/\∀ (j:Nat) (y:cn),j<i->Ls[j]?=some y->Q y=false
theorem IdxP.uniq{Q:cn->Bool}{Ls:List cn}{n m:Int}(h:IdxP Q Ls n)(h':IdxP Q Ls m):n=m:=by
 rcases h with⟨rfl,h⟩|⟨i,x,rfl,h1,h2,h3⟩<;>rcases h' with⟨rfl,h'⟩|⟨j,y,rfl,g1,g2,g3⟩
 ·rfl
 ·rw[h y (Le g1)]at g2;cases g2
 ·rw[h' x (Le h1)]at h2;cases h2
 ·rcases Mk i j with g|g|g
  ·rw[g3 i x g h1]at h2;cases h2
  ·rw[g]
  ·rw[h3 j y g g1]at g2;cases g2
theorem Pw(d:Nat)(g:FuncId)(Ls:List cn)(hl:Ls.length<=9000)(Q:cn->Bool)(o:Int)(hG:∀ h,ab h 4=some [.int .i64 o]->∀ x cfg,af md (K pR (d+1)) cfg g [.agg (az x),.ptr 4 0] h=some (.bool (Q x),h)):
  ∃ n:Int,IdxP Q Ls n/\∀ h cfg,ab h 4=some [.int .i64 o]->af md (K pR (d+2)) cfg 79 [.lst (Ls.map az),.func (.func g) [] [.ptr 4 0]] h=some (.int .i64 n,h):=by
 obtain⟨n,hn,-⟩:=IB d g Ls hl 4 [none,none,none,none,some [.int .i64 o]] Q (hG _ rfl);refine⟨n,hn,fun h cfg hb=>?_⟩;obtain⟨m,hm,hc⟩:=IB d g Ls hl 4 h Q (hG h hb);rw[IdxP.uniq hn hm];exact hc cfg
theorem Pu(d:Nat){X:Txt}{Ls:List cn}(o:Int)(en:Bool)(cfg:Cfg)(h:Heap):af md (K pR (d+1)) cfg 78 [.agg (aO X.p),.lst (Ls.map az),.int .i64 (-1),.int .i64 o,.bool en] h=some (.tup [jJ 0 0 0 [],.bool false],h):=by
 obtain⟨h3,h4,s0,s1,s2,s3,s4,l5,t5⟩:=oJ X.p;have h0:=eq_true (Lp.1 h3);refine aU rfl rfl func78 rfl rfl rfl (by simp[aO]) ?_;simp(disch:=omega)[h0,bq,jJ]
theorem O8(d:Nat){X:Txt}{Ls:List cn}{cs:Nat->List Cel}(C:CC X Ls cs){Q:cn->Bool}{n:Int}(hn:IdxP Q Ls n)(o:Int)(en:Bool):
  ∃ r,LocP Ls cs r/\∀ cfg h,af md (K pR (d+2)) cfg 78 [.agg (aO X.p),.lst (Ls.map az),.int .i64 n,.int .i64 o,.bool en] h=some (r,h):=by
 rcases hn with⟨rfl,-⟩|⟨i,x,rfl,h1,-,-⟩
 ·exact⟨_,.inl rfl,fun cfg h=>Pu (d+1) o en cfg h⟩
 ·have hi:=(Ld.1 h1).1;obtain⟨r,h2,h3⟩:=Ff d C i hi o en;exact⟨r,h2.loc hi,h3⟩
theorem LocP.tup{Ls:List cn}{cs:Nat->List Cel}{r:V}(h:LocP Ls cs r):∃ a b c L ok,r=.tup [jJ a b c L,.bool ok]:=by
 rcases h with rfl|⟨i,g,x,-,-,-,rfl⟩<;>exact⟨_,_,_,_,_,rfl⟩
theorem PA(d:Nat){X:Txt}{Ls:List cn}{cs:Nat->List Cel}(C:CC X Ls cs)(o:Int)(bfq:Bool):
  ∃ r,LocP Ls cs r/\∀ cfg h,af md (K pR (d+4)) cfg 41 [.agg (aO X.p),.lst (Ls.map az),.agg [.int .i64 o,.bool bfq]] h=some (r,h):=by
 have hO:=C.tl;have hP:=C.ln;have hQ:=L7.2 C.ne;obtain⟨hz,h6,s0,s1,s2,s3,s4,l5,t5⟩:=oJ X.p;have hd:=eq_true (Lp.1 hz);have hm:=fun cfg h=>Ig (d+2) X.p.t (by omega) cfg h;have hn:=fun (o:Int) cfg h=>Ii (d+1) (cu X.p.t) (by have:=(@cluS_rng X.p.t).2;omega) o cfg h;have h7:=fun r cfg h=>Jh (d+1) cfg h r;have h8:¬ Ls.length=0:=by omega
 have mC:md 51=0:=rfl;have mT:md 76=0:=rfl;obtain⟨nAq,hA,hD⟩:=Pw d 80 Ls (by omega) _ o fun h hb x=>I4 d x o h 4 hb;obtain⟨nBq,he,hE⟩:=Pw (d+1) 82 Ls (by omega) _ o fun h hb x=>I5 (d+1) x o h 4 hb;obtain⟨rAq,hf,hF⟩:=O8 d C hA o true;obtain⟨rBq,hr,hH⟩:=O8 (d+1) C he o false;obtain⟨rDq,ht,hu⟩:=O8 (d+1) C he o true;obtain⟨_,⟨gZq,xZq,hI,hJ,rfl⟩,hg⟩:=O3 (d+1) C (Ls.length-1) (by omega);have e1:((Ls.length-1:Nat):Int)=(Ls.length:Int)-1:=by omega
 rw[e1]at hg;have hw:LocP Ls cs (.tup [jJ ((Ls.length:Int)-1) gZq xZq (cs (Ls.length-1)),.bool true]):=.inr ⟨Ls.length-1,gZq,xZq,by omega,hI,hJ,by rw[e1]⟩;have h0:∀ a b e f cfg,af md (K pR (d+3)) cfg 79 [.lst (Ls.map az),.func (.func 82) [] [.ptr 4 0]] [a,b,e,f,some [.int .i64 o]]=some (.int .i64 nBq,[a,b,e,f,some [.int .i64 o]]):=fun a b e f cfg=>hE _ cfg rfl;obtain⟨a1,a2,a3,aLq,aok,rfl⟩:=hf.tup;have hy:∀ a b cfg,af md (K pR (d+3)) cfg 77 [.ptr 0 0,.ptr 1 0,.ptr 4 0] [some (aO X.p),some [.lst (Ls.map az)],a,b,some [.int .i64 o]]=some (.tup [jJ a1 a2 a3 aLq,.bool aok],[some (aO X.p),some [.lst (Ls.map az)],a,b,some [.int .i64 o]]):=fun a b cfg =>
  Im d nAq o _ (by simp[ab,h6]) rfl rfl (fun T cfg=>hD _ cfg (by rw[aj (by simp)];rfl)) hF cfg
 obtain⟨Z,hZ⟩:∃ Z:List V,Z=[.int .i64 0,.int .i64 0,.int .i64 0,.nils]:=⟨_,rfl⟩;obtain⟨B,hB⟩:∃ B:List V,B=[.int .i64 o,.bool bfq]:=⟨_,rfl⟩;refine gn (md:=md) (prim:=pR) (n:=10000) (d:=d+3) (Post:=LocP Ls cs) rfl rfl func41 rfl rfl rfl (by simp[aO]) ?_;simp(disch:=omega)[hd];refine ah 6 (by kernel_rfl) ?_;simp(disch:=omega)[h6,s0,-getElem?_pos];refine OS (fun fr H=>∃ bad:Bool,(bad=false->0<=o/\o<=X.p.t.length)/\H=[some (aO X.p),some [.lst (Ls.map az)],some [.int .i64 o,.bool bfq],some [.int .i64 0,.int .i64 0,.int .i64 0,.nils],some [.int .i64 o]] /\
  Slots 129 [(3,.ptr 0 0),(4,.ptr 1 0),(5,.ptr 2 0),(6,.ptr 3 0),(7,.bool false),(8,rl X.p.t),(9,.ptr 4 0),(41,.bool bad)] fr) ?_ ?_
 ·refine ah 20 (by kernel_rfl) ?_;by_cases h1:o<0
  ·simp(disch:=omega)[h8,h1,-getElem?_pos];exact ch ⟨true,fun h=>(by cases h),rfl,by simp⟩
  by_cases h2:(X.p.t.length:Int)<o
  ·simp(disch:=omega)[h8,h1,h2,-getElem?_pos];exact ch ⟨true,fun h=>(by cases h),rfl,by simp⟩
  by_cases h3:0<o
  ·by_cases h4:o∈cu X.p.t
   ·simp(disch:=omega)[h8,h1,h2,h3,h4,mC,hm,hn,-getElem?_pos];exact ch ⟨false,fun _=>(by omega),rfl,by simp⟩
   ·simp(disch:=omega)[h8,h1,h2,h3,h4,mC,hm,hn,-getElem?_pos];exact ch ⟨true,fun h=>(by cases h),rfl,by simp⟩
  ·simp(disch:=omega)[h8,h1,h2,h3,-getElem?_pos];exact ch ⟨false,fun _=>(by omega),rfl,by simp⟩
 rintro fr H ⟨bad,h9,rfl,hs⟩;obtain⟨j,rfl⟩:=hs.ex;clear hs;cases bad
 case true =>
  simp(disch:=omega);exact .inl rfl
 obtain⟨h1,h2⟩:=h9 rfl;clear h9;refine OS (fun fr H=>H=[some (aO X.p),some [.lst (Ls.map az)],some [.int .i64 o,.bool bfq],some [.int .i64 0,.int .i64 0,.int .i64 0,.nils],some [.int .i64 o]] /\
  Slots 129 [(3,.ptr 0 0),(4,.ptr 1 0),(5,.ptr 2 0),(6,.ptr 3 0),(7,.bool false),(8,rl X.p.t),(9,.ptr 4 0)] fr) (by simp;exact ch ⟨rfl,by simp⟩) ?_
 rintro fr H ⟨rfl,hs⟩;obtain⟨j,rfl⟩:=hs.ex;clear hs;rw[dU];refine OS (fun fr H=>H=[some (aO X.p),some [.lst (Ls.map az)],some [.int .i64 o,.bool bfq],some [.int .i64 0,.int .i64 0,.int .i64 0,.nils],some [.int .i64 o]] /\
  Slots 129 [(3,.ptr 0 0),(4,.ptr 1 0),(5,.ptr 2 0),(6,.ptr 3 0),(7,.bool false),(8,rl X.p.t),(9,.ptr 4 0),(10,.func (.func 77) [] [.ptr 0 0,.ptr 1 0,.ptr 4 0])] fr) (by simp;exact ch ⟨rfl,by simp⟩) ?_
 rintro fr H ⟨rfl,hs⟩;obtain⟨j,rfl⟩:=hs.ex;clear hs
 try rw[dU]
 refine ji (fun fr H=>o<X.p.t.length/\H=[some (aO X.p),some [.lst (Ls.map az)],some [.int .i64 o,.bool bfq],some [.int .i64 0,.int .i64 0,.int .i64 0,.nils],some [.int .i64 o]] /\
  Slots 129 [(3,.ptr 0 0),(4,.ptr 1 0),(6,.ptr 3 0),(7,.bool false),(8,rl X.p.t),(9,.ptr 4 0)] fr) ?_ ?_
 ·rw[Px,dU];have hq:0<o->∃ q:Nat,o-1=q/\X.p.t[q]?=some (lgI X.p.t q):=fun h=>⟨(o-1).toNat,by omega,atI (by omega)⟩;refine OS (fun fr H=>∃ b1:Bool,H=[some (aO X.p),some [.lst (Ls.map az)],some [.int .i64 o,.bool bfq],some [.int .i64 0,.int .i64 0,.int .i64 0,.nils],some [.int .i64 o]] /\
   Slots 129 [(3,.ptr 0 0),(4,.ptr 1 0),(5,.ptr 2 0),(6,.ptr 3 0),(7,.bool false),(8,rl X.p.t),(9,.ptr 4 0),(10,.func (.func 77) [] [.ptr 0 0,.ptr 1 0,.ptr 4 0]),(44,.bool b1)] fr) ?_ ?_
  ·cases bfq
   ·simp(disch:=omega);exact ch ⟨false,rfl,by simp⟩
   ·by_cases h3:0<o
    ·obtain⟨q,ha,hc⟩:=hq h3;simp(disch:=omega)[h3,ha,hc,h7,wrap64,-getElem?_pos];exact ch ⟨!nlS (lgI X.p.t q),rfl,by simp⟩
    ·simp(disch:=omega)[h3];exact ch ⟨false,rfl,by simp⟩
  rintro fr H ⟨b1,rfl,hs⟩;obtain⟨j,rfl⟩:=hs.ex;clear hs;cases b1
  case true =>
   simp(disch:=omega)[hy,jJ];exact hf
  by_cases h4:o=X.p.t.length
  ·have hh:=eq_true h4;by_cases h5:o=0
   ·have hK:=eq_true h5;simp(disch:=omega)[hh,hK,h6,l5,t5,hg,jJ,wrap64,-getElem?_pos];exact hw
   ·obtain⟨q,ha,hc⟩:=hq (by omega);cases hv:nlS (lgI X.p.t q)
    ·simp(disch:=omega)[hh,h5,ha,hc,h7,hv,hy,jJ,wrap64,-getElem?_pos];exact hf
    ·simp(disch:=omega)[hh,h5,ha,hc,h7,hv,h6,l5,t5,hg,jJ,wrap64,-getElem?_pos];exact hw
  ·simp(disch:=omega)[h4];exact ch ⟨by omega,rfl,by simp⟩
 rintro fr H ⟨h3,rfl,hs⟩;obtain⟨j,rfl⟩:=hs.ex;clear hs;obtain⟨q,rfl⟩:∃ q:Nat,o=q:=⟨o.toNat,by omega⟩;have hj:=atI (l:=X.p.t) (i:=q) (by omega);rcases he with⟨rfl,-⟩|⟨i,x,rfl,hx,-,-⟩
 ·simp(disch:=omega)[h0,-getElem?_pos];exact .inl rfl
 have hi:=(Ld.1 hx).1;have hl:¬ (i:Int)<0:=by omega
 obtain⟨_,⟨gSq,xSq,hL,hM,rfl⟩,hN⟩:=O3 (d+1) C i hi;obtain⟨b1,b2,b3,bL,bok,rfl⟩:=hr.tup;obtain⟨d1,d2,d3,dLq,dok,rfl⟩:=ht.tup;cases hv:nlS (lgI X.p.t q)
 ·simp(disch:=omega)[h0,hl,hj,h7,hv,h6,l5,t5,hH,jJ,-getElem?_pos];exact hr
 ·cases dok
  ·simp(disch:=omega)[h0,hl,hj,h7,hv,h6,l5,t5,hu,hN,jJ,-getElem?_pos];exact .inr ⟨i,gSq,xSq,hi,hL,hM,rfl⟩
  ·simp(disch:=omega)[h0,hl,hj,h7,hv,h6,l5,t5,hu,jJ,-getElem?_pos];exact ht
theorem OZ{f:FuncId}{args:List V}{r:V}{D:Nat}(h:∀ cfg h,af md (K pR D) cfg f args h=some (r,h))(d:Nat)(cfg:Cfg)(H:Heap):af md (K pR (d+D)) cfg f args H=some (r,H):=by
 have:=Pg D d (h cfg H);rw[Nat.add_comm]at this;exact this
theorem PG{X:Txt}{Ls:List cn}{cs:Nat->List Cel}(C:CC X Ls cs)(o:Int)(bfq:Bool):
  ∃ r,LocP Ls cs r/\∀ d cfg h,af md (K pR (d+4)) cfg 41 [.agg (aO X.p),.lst (Ls.map az),.agg [.int .i64 o,.bool bfq]] h=some (r,h):=by
 obtain⟨r,h1,h2⟩:=PA 0 C o bfq;exact⟨r,h1,OZ h2⟩
theorem Pz{X:Txt}{Ls:List cn}{cs:Nat->List Cel}(C:CC X Ls cs){i:Nat}{x:cn}(hx:Ls[i]?=some x){f:Nat}(hf:x.l.f=f):
  ∃ g x',∀ d cfg h,af md (K pR (d+4)) cfg 41 [.agg (aO X.p),.lst (Ls.map az),.agg [.int .i64 f,.bool false]] h=some (.tup [jJ i g x' (cs i),.bool true],h):=by
 obtain⟨f',e,hP,he,hQ,hR,hu,hS,hF,hT,hX,hY,-⟩:=C.li i x hx;obtain rfl:f'=f:=by omega
 obtain⟨hH,hJ⟩:=C.fc i x f' e hx hf he;have hZ:=C.tl;have g0:=C.ln;have hv:=(Ld.1 hx).1;suffices HH:∃ r,(∃ g x',r=.tup [jJ i g x' (cs i),.bool true])/\∀ cfg h,af md (K pR 4) cfg 41 [.agg (aO X.p),.lst (Ls.map az),.agg [.int .i64 f',.bool false]] h=some (r,h) by
  obtain⟨_,⟨g,x',rfl⟩,h⟩:=HH;exact⟨g,x',OZ h⟩
 by_cases hn:f'<e/\nlS (lgI X.p.t f')=false
 ·obtain⟨z,hz,hK⟩:=hH hn.1 hn.2;obtain⟨k,hk⟩:=NF hz;have:=fun cfg h=>Jb 0 C hx hk false cfg h;rw[show mte false z=f' from hK]at this;exact⟨_,⟨_,_,rfl⟩,this⟩
 have hw:=fun cfg h=>Ig 2 X.p.t (by omega) cfg h;have hA:=fun cfg h=>Ii 1 (cu X.p.t) (by have:=(@cluS_rng X.p.t).2;omega) f' cfg h;have hh:=fun r cfg h=>Jh 1 cfg h r;have ha:¬ Ls.length=0:=by omega
 have hD:¬ (i:Int)<0:=by omega
 have hc:¬ (f':Int)<0:=by omega
 have h4:¬ (X.p.t.length:Int)<f':=by omega
 obtain⟨hL,h6,s0,s1,s2,s3,s4,l5,t5⟩:=oJ X.p;have hl:=eq_true (Lp.1 hL);have mC:md 51=0:=rfl;have mT:md 76=0:=rfl;obtain⟨_,⟨gSq,xSq,-,-,rfl⟩,hd⟩:=O3 1 C i hv;obtain⟨r,hr,hE⟩:=Ff 1 C i hv f' true;refine gn (md:=md) (prim:=pR) (n:=10000) (d:=3) (Post:=fun r=>∃ g x',r=.tup [jJ i g x' (cs i),.bool true]) rfl rfl func41 rfl rfl rfl (by simp[aO]) ?_;simp(disch:=omega)[hl];refine ah 6 (by kernel_rfl) ?_;simp(disch:=omega)[h6,s0,-getElem?_pos];refine ah 20 (by kernel_rfl) ?_;by_cases hM:f'<e
 ·have hg:nlS (lgI X.p.t f')=true:=by
   cases h:nlS (lgI X.p.t f')
   ·exact absurd ⟨hM,h⟩ hn
   ·rfl
  have h7:¬ (f':Int)=X.p.t.length:=by omega
  have hI:∀ a b e f cfg,af md (K pR 3) cfg 79 [.lst (Ls.map az),.func (.func 82) [] [.ptr 4 0]] [a,b,e,f,some [.int .i64 (f':Int)]]=some (.int .i64 i,[a,b,e,f,some [.int .i64 (f':Int)]]):=fun a b e f cfg =>
   C7 1 C hx _ (fun j y hj hy=>by have:=hF j y hj hy;simp;omega) (by simp;omega) (fun x=>I5 1 x f' _ 4 rfl) cfg
  have h8:=atI (l:=X.p.t) (i:=f') (by omega);have hN:∃ b c ok,r=.tup [if ok=true then jJ i b c (cs i) else jJ 0 0 0 [],.bool ok]:=by
   rcases hr with⟨k,z,-,-,-,h⟩|⟨-,h⟩
   ·exact⟨_,_,true,h⟩
   ·exact⟨0,0,false,h⟩
  obtain⟨a2,a3,ok,rfl⟩:=hN;by_cases h0:0<f'
  ·have hm:=hu.resolve_left (by omega);cases ok<;>simp(disch:=omega)[ha,hD,hc,h4,h0,mC,hw,hA,hm,h7,hI,h8,hh,hg,hE,hd,jJ,h6,l5,t5,-getElem?_pos]
  ·cases ok<;>simp(disch:=omega)[ha,hD,hc,h4,h0,h7,hI,h8,hh,hg,hE,hd,jJ,h6,l5,t5,-getElem?_pos]
 ·obtain⟨h1,h2,h3⟩:=hJ (by omega);have h7:=eq_true (show (f':Int)=X.p.t.length by omega);have h9:(Ls.length:Int)-1=i:=by omega
  by_cases h0:0<f'
  ·have hm:=hu.resolve_left (by omega);obtain⟨q,hq⟩:∃ q:Nat,(f':Int)-1=q:=⟨f'-1,by omega⟩;have hO:=atI (l:=X.p.t) (i:=q) (by omega);have hg:nlS (lgI X.p.t q)=true:=by
    have:=h3.resolve_left (by omega);rw[show q=f'-1 by omega];exact this
   have ht:¬ f'=0:=by omega
   simp(disch:=omega)[ha,hc,h4,h0,ht,mC,hw,hA,hm,h7,hq,hO,hh,hg,h9,hd,jJ,h6,l5,t5,wrap64,-getElem?_pos]
  ·have ht:=eq_true (show f'=0 by omega);simp(disch:=omega)[ha,hc,h4,h0,ht,h7,h9,hd,jJ,h6,l5,t5,wrap64,-getElem?_pos]
def Fnd(X:Txt)(Ls:List cn)(E:List V)(i:Nat):Prop:=∃ x:Int,∀ d cfg h,af md (K pR (d+5)) cfg 15 [.agg (aO X.p),.lst (Ls.map az),.agg E] h=some (.tup [.int .i64 i,.int .i64 x,.bool true],h)
def MvC(X:Txt)(Ls:List cn)(E:List V):Prop:=O7 E/\∃ i,Fnd X Ls E i
section
variable {X:Txt}{Ls:List cn}{cs:Nat->List Cel}(C:CC X Ls cs) {i:Nat}{x:cn}(hx:Ls[i]?=some x)
include C hx
theorem O0{z:Cel}(hz:z∈cs i)(rt:Bool):MvC X Ls (dK rt z):=by
 obtain⟨k,hk⟩:=NF hz;exact⟨nu rt z,i,_,fun d cfg h=>It d C hx hk rt cfg h⟩
theorem Py{z:Cel}(hz:z∈cs i):Fnd X Ls [.int .i64 z.t,.bool true] i:=by
 obtain⟨k,hk⟩:=NF hz;exact⟨_,fun d cfg h=>OV d (OQ z.t true) (fun cfg h=>Jb d C hx hk true cfg h) cfg h⟩
theorem O1:Fnd X Ls [.int .i64 x.l.f,.bool false] i:=by
 obtain⟨f,e,hf,-⟩:=C.li i x hx;obtain⟨g,x',h⟩:=Pz C hx hf;rw[hf];exact⟨_,fun d cfg H=>OV d (OQ f false) (fun cfg h'=>h d cfg h') cfg H⟩
theorem O9:MvC X Ls [.int .i64 x.l.f,.bool false]:=⟨OQ _ _,i,O1 C hx⟩
end
theorem O2(d:Nat)(z:Cel)(cfg:Cfg)(h:Heap):af md (K pR (d+1)) cfg 44 [.agg (cG z)] h=some (.agg (dK false z),h):=by
 refine aU rfl rfl func44 rfl rfl rfl (by simp[cG]) ?_;obtain⟨zl,zm,zf,zt,z0,z1,z2,z3,z4,zp⟩:=te z;have zf':=eq_true zf;by_cases he:z.lv.tmod 2=0<;>simp(disch:=omega)[zm,zf',z0,z1,z4,he,dK,eb,ev,mte,-getElem?_pos]
theorem Pm(d:Nat)(Ls:List cn)(hl:Ls.length<=9000)(i:Nat)(hi:i<Ls.length)(afq:Bool):
  ∃ n:Int,(n=-1\/∃ j:Nat,n=j/\j<Ls.length)/\∀ cfg h,af md (K pR (d+1)) cfg 43 [.lst (Ls.map az),.int .i64 i,.bool afq] h=some (.int .i64 n,h):=by
 obtain⟨_,⟨n,rfl,hn⟩,hc⟩:=gn (md:=md) (prim:=pR) (n:=10000) (d:=d) (args:=[.lst (Ls.map az),.int .i64 i,.bool afq]) (Post:=fun r=>∃ n:Int,r=.int .i64 n/\(n=-1\/∃ j:Nat,n=j/\j<Ls.length)) rfl rfl func43 rfl rfl rfl (by simp) (by
  cases afq
  ·simp(disch:=omega)[wrap64,-getElem?_pos];by_cases h0:i=0
   ·exact .inl (by omega)
   ·exact .inr ⟨i-1,by omega,by omega⟩
  ·by_cases h1:(i:Int)+1<Ls.length
   ·simp(disch:=omega)[h1,wrap64,-getElem?_pos];exact .inr ⟨i+1,by omega,by omega⟩
   ·simp(disch:=omega)[h1,wrap64,-getElem?_pos])
 exact⟨n,hn,hc⟩
section
variable {X:Txt}{Ls:List cn}{cs:Nat->List Cel}(C:CC X Ls cs) {E:List V}(hE:O7 E) {i:Nat}{x:cn}(hx:Ls[i]?=some x) {g x':Int}
 (hL:∀ d cfg h,af md (K pR (d+4)) cfg 41 [.agg (aO X.p),.lst (Ls.map az),.agg E] h=some (.tup [jJ i g x' (cs i),.bool true],h))
include C hE hx hL
theorem homeM(d:Nat)(cfg:Cfg)(h:Heap):af md (K pR (d+5)) cfg 18 [.agg (aO X.p),.lst (Ls.map az),.agg E] h=some (.agg [.int .i64 x.l.f,.bool false],h):=by
 have hL:=hL d;obtain⟨e2,em,ef,et,ep,erq,-⟩:=hE;have ef:=eq_true ef;obtain⟨h3,h4,s0,s1,s2,s3,s4,l5,t5⟩:=oJ X.p;have h0:=eq_true (Lp.1 h3);have h8:=(Ld.1 hx).1;have h6:slot (az x) 0=some (.int .i64 x.l.f):=rfl;have h7:(az x).length=10:=rfl;refine aU rfl rfl func18 rfl rfl rfl (by simpa[az,bA,aO]using erq) ?_;simp(disch:=omega)[h0,h4,l5,t5,e2,em,ef,et,hL,jJ,hx,h6,h7,-getElem?_pos]
theorem endM:∃ F,((F=[.int .i64 x.l.f,.bool false])\/∃ z∈cs i,F=[.int .i64 z.t,.bool true])/\∀ d cfg h,af md (K pR (d+5)) cfg 19 [.agg (aO X.p),.lst (Ls.map az),.agg E] h=some (.agg F,h):=by
 obtain⟨f,e,hf,he,ht,hu,-,-,-,-,hv,-,hC⟩:=C.li i x hx;have hL:=hL 0;have hC:=fun cfg h=>hC 3 cfg h;generalize cs i=L at *;obtain⟨e2,em,ef,et,ep,erq,-⟩:=hE;have ef:=eq_true ef;obtain⟨h9,ha,s0,s1,s2,s3,s4,l5,t5⟩:=oJ X.p;have h3:=eq_true (Lp.1 h9);have hw:=(Ld.1 hx).1;obtain⟨hd,h4,h0,hg,hl,hy,hD⟩:=xR x f e hf he;have h0:=eq_true h0;have hm:putAt [V.int .i64 0,.int .i64 0,.int .i64 0,.int .i64 0,.int .i64 0,.int .i64 0,.int .i64 0,.int .i64 0,.int .i64 0,.nils] 0 (az x)=az x:=rfl;suffices HH:∃ r,(∃ F,r=V.agg F/\((F=[.int .i64 x.l.f,.bool false])\/∃ z∈L,F=[.int .i64 z.t,.bool true]))/\∀ cfg h,af md (K pR 5) cfg 19 [.agg (aO X.p),.lst (Ls.map az),.agg E] h=some (r,h) by
  obtain⟨_,⟨F,rfl,hF⟩,h⟩:=HH;exact⟨F,hF,OZ h⟩
 refine gn (md:=md) (prim:=pR) (n:=10000) (d:=4) (Post:=fun r=>∃ F,r=V.agg F/\((F=[.int .i64 x.l.f,.bool false])\/∃ z∈L,F=[.int .i64 z.t,.bool true])) rfl rfl func19 rfl rfl rfl (by simpa[az,bA,aO]using erq) ?_;simp(disch:=omega)[h3,ha,l5,t5,e2,em,ef,et,hL,jJ,hx,hl,hd,h4,h0,hg,hm,hC,-getElem?_pos];obtain⟨A,hA⟩:∃ A:List V,A=[.int .i64 i,.int .i64 g,.int .i64 x',.lst (L.map cG)]:=⟨_,rfl⟩;rw[<- hA];refine ai (fun m fr H=>∃ (j:Nat) (o:Int) (b:Bool),j<=L.length/\m=L.length-j/\(o=f/\b=false\/∃ z∈L,o=z.t/\b=true)/\Hp H [some (aO X.p),some E,some [.int .i64 0,.bool false],some A,some (az x),some [.int .i64 o,.bool b]] [] /\
  Slots 49 [(6,.ptr 2 0),(10,.ptr 5 0),(33,.lst (L.map cG)),(34,.int .i64 L.length),(35,.int .i64 j)] fr) (m:=L.length) (by omega) ⟨0,f,false,by omega,by omega,.inl ⟨rfl,rfl⟩,Hp.start,by simp⟩ ?_
 rintro m fr H ⟨j,o,b,hj,rfl,ho,hh,hs⟩;obtain⟨q,rfl⟩:=hs.ex;clear hs;have h7:∀ {H:Heap},Hp H [some (aO X.p),some E,some [.int .i64 0,.bool false],some A,some (az x),some [.int .i64 o,.bool b]] []->ab H 5=some [.int .i64 o,.bool b]:=fun hh=>by rw[hh.block (by simp)];rfl
 by_cases hn:j<L.length
 ·have hI:(j:Int)<L.length:=by omega
  obtain⟨z,hz⟩:=atG hn;obtain⟨cl,zm,zf,zt,z0,z1,z2,z3,z4,zp⟩:=te z;have zf':=eq_true zf;have h8:ab (H++[some (cG z)]) H.length=some (cG z):=by rw[bw rfl,zm];rfl
  have hp:=hh.push [some (cG z)];have hb:=h7 hp;by_cases hc:o<z.t
  ·simp(disch:=omega)[hI,hz,cl,zf',zt,z1,zp,h8,hb,hc,bq,wrap64,-getElem?_pos];have hq:=hp.set (b:=5) (by simp) (some [.int .i64 z.t,.bool true]);exact ae (m':=L.length-(j+1)) (by omega) ⟨j+1,z.t,true,by omega,rfl,.inr ⟨z,Le hz,rfl,rfl⟩,hq,by simp(disch:=omega)⟩
  ·simp(disch:=omega)[hI,hz,cl,zf',zt,z1,zp,h8,hb,hc,bq,wrap64,-getElem?_pos];exact ae (m':=L.length-(j+1)) (by omega) ⟨j+1,o,b,by omega,rfl,ho,hp,by simp(disch:=omega)⟩
 ·obtain rfl:j=L.length:=by omega
  have hI:¬ (L.length:Int)<L.length:=by omega
  have hb:=h7 hh;have hr:ab H 2=some [.int .i64 0,.bool false]:=by rw[hh.block (by simp)];rfl
  have hle:=hh.le;simp only[Lx,Me]at hle;have h6:ab (H.set 2 (some [.int .i64 o,.bool b])) 2=some [.int .i64 o,.bool b]:=by rw[du (by omega)];rfl
  simp(disch:=omega)[hI,hb,hr,h6,bq,-getElem?_pos];exact ho.imp (fun h=>⟨by omega,h.2⟩) id
theorem leftM:0<=g/\g<=(cs i).length->∃ F,(F=E\/MvC X Ls F)/\∀ d cfg h,af md (K pR (d+5)) cfg 20 [.agg (aO X.p),.lst (Ls.map az),.agg E] h=some (.agg F,h):=by
 intro hg;obtain⟨f,e,hf,he,hI,hJ,-,-,-,-,hK,-,-⟩:=C.li i x hx;have hN:=C.ln;have hL:=hL 0;have hr:=fun {z} hz=>O0 C hx (z:=z) hz;generalize cs i=L at *;have hP:=hE;obtain⟨e2,em,ef,et,ep,erq,en⟩:=hE;have ef:=eq_true ef;obtain⟨ht,h3,s0,s1,s2,s3,s4,l5,t5⟩:=oJ X.p;have h0:=eq_true (Lp.1 ht);have hu:=(Ld.1 hx).1;obtain⟨hd,hv,hw,hQ,hR,hS,hT⟩:=xR x f e hf he;have hh:slot (az x) 2=some (.int .i64 x.l.lv):=rfl;have mOq:md 43=0:=rfl;suffices HH:∃ r,(∃ F,r=V.agg F/\(F=E\/MvC X Ls F))/\∀ cfg h,af md (K pR 5) cfg 20 [.agg (aO X.p),.lst (Ls.map az),.agg E] h=some (r,h) by
  obtain⟨_,⟨F,rfl,hF⟩,h⟩:=HH;exact⟨F,hF,OZ h⟩
 refine gn (md:=md) (prim:=pR) (n:=10000) (d:=4) (Post:=fun r=>∃ F,r=V.agg F/\(F=E\/MvC X Ls F)) rfl rfl func20 rfl rfl rfl (by simpa[az,bA,aO]using erq) ?_;by_cases h4:0<g
 ·obtain⟨q,hq⟩:∃ q:Nat,g-1=q:=⟨(g-1).toNat,by omega⟩;obtain⟨z,hz⟩:=atG (show q<L.length by omega);have h6:∀ y,(cG y).length=5:=fun _=>rfl;have h7:∀ y,(cG y).take 5=cG y:=fun _=>rfl;have h8:=fun cfg h=>O2 3 z cfg h;obtain⟨f2,fm,ff,ft,fp,fr,fnn⟩:=nu false z;have ff:=eq_true ff;have h9:=hr (Le hz) false;generalize dK false z=F at *;simp(disch:=omega)[h0,h3,l5,t5,e2,em,ef,et,hL,jJ,h4,hq,hz,h6,h7,h8,f2,fm,ff,ft,fp,bq,wrap64,-getElem?_pos];rw[fG (d:=4) fr fnn];exact⟨_,⟨_,rfl,rfl⟩,F,rfl,.inr h9⟩
 obtain⟨n,hn,hO⟩:=Pm 3 Ls (by omega) i hu (!decide (x.l.lv.tmod 2=0));rcases hn with rfl|⟨j,rfl,hj⟩
 ·simp(disch:=omega)[h0,h3,l5,t5,e2,em,ef,et,hL,jJ,h4,-getElem?_pos];refine ah 11 (by kernel_rfl) ?_;simp(disch:=omega)[hx,hd,hh,hO,e2,em,ef,et,ep,bq,-getElem?_pos];rw[fG (d:=4) erq en];exact⟨_,⟨_,rfl,rfl⟩,E,rfl,.inl rfl⟩
 obtain⟨y,hy⟩:=atG hj;have hA:¬ (j:Int)<0:=by omega
 obtain⟨f',e',hl,hD,-,-,-,-,-,-,hH,-,ha⟩:=C.li j y hy;have ha:=fun cfg h=>ha 3 cfg h;have mC:md 12=0:=rfl;obtain⟨ylk,-,-,ytk,y0,-,-⟩:=xR y f' e' hl hD;have hc:=fun {z} hz=>O0 C hy (z:=z) hz;have hm:=O9 C hy;rw[hl]at hm;generalize cs j=M at *;simp(disch:=omega)[h0,h3,l5,t5,e2,em,ef,et,hL,jJ,h4,-getElem?_pos];refine ah 11 (by kernel_rfl) ?_;simp(disch:=omega)[hx,hd,hh,hO,hA,-getElem?_pos];refine ah 5 (by kernel_rfl) ?_;simp(disch:=omega)[h3,l5,t5,hy,ylk,ytk,ha,-getElem?_pos];by_cases hM:M=[]
 ·simp(disch:=omega)[hM,hy,ylk,y0,bq,-getElem?_pos];exact .inr hm
 ·have hX:=L7.2 hM;obtain⟨q,hq⟩:∃ q:Nat,(M.length:Int)-1=q:=⟨M.length-1,by omega⟩;obtain⟨z,hz⟩:=atG (show q<M.length by omega);have h6:∀ y,(cG y).length=5:=fun _=>rfl;have h7:∀ y,(cG y).take 5=cG y:=fun _=>rfl;have h8:=fun cfg h=>DP 3 z cfg h;obtain⟨f2,fm,ff,ft,fp,fr,fnn⟩:=nu true z;have ff:=eq_true ff;have h9:=hc (Le hz) true;generalize dK true z=F at *;simp(disch:=omega)[hM,hq,hz,h6,h7,h8,f2,fm,ff,ft,fp,bq,wrap64,-getElem?_pos];rw[fG (d:=4) fr fnn];exact⟨_,⟨_,rfl,rfl⟩,F,rfl,.inr h9⟩
theorem PH:0<=g/\g<=(cs i).length->∃ F,(F=E\/MvC X Ls F)/\∀ d cfg h,af md (K pR (d+5)) cfg 14 [.agg (aO X.p),.lst (Ls.map az),.agg E] h=some (.agg F,h):=by
 intro hg;obtain⟨f,e,hf,he,hI,hJ,-,-,-,-,hK,-,-⟩:=C.li i x hx;have hN:=C.ln;have hL:=hL 0;have hq:=fun {z} hz=>O0 C hx (z:=z) hz;generalize cs i=L at *;have hP:=hE;obtain⟨e2,em,ef,et,ep,erq,en⟩:=hE;have ef:=eq_true ef;obtain⟨hr,h3,s0,s1,s2,s3,s4,l5,t5⟩:=oJ X.p;have h0:=eq_true (Lp.1 hr);have ht:=(Ld.1 hx).1;obtain⟨hd,hu,hv,hQ,hR,hS,hT⟩:=xR x f e hf he;have hh:slot (az x) 2=some (.int .i64 x.l.lv):=rfl;have mOq:md 43=0:=rfl;suffices HH:∃ r,(∃ F,r=V.agg F/\(F=E\/MvC X Ls F))/\∀ cfg h,af md (K pR 5) cfg 14 [.agg (aO X.p),.lst (Ls.map az),.agg E] h=some (r,h) by
  obtain⟨_,⟨F,rfl,hF⟩,h⟩:=HH;exact⟨F,hF,OZ h⟩
 refine gn (md:=md) (prim:=pR) (n:=10000) (d:=4) (Post:=fun r=>∃ F,r=V.agg F/\(F=E\/MvC X Ls F)) rfl rfl func14 rfl rfl rfl (by simpa[az,bA,aO]using erq) ?_;by_cases h4:g<L.length
 ·obtain⟨q,rfl⟩:∃ q:Nat,g=q:=⟨g.toNat,by omega⟩;obtain⟨z,hz⟩:=atG (show q<L.length by omega);have h6:∀ y,(cG y).length=5:=fun _=>rfl;have h7:∀ y,(cG y).take 5=cG y:=fun _=>rfl;have h8:=fun cfg h=>DP 3 z cfg h;obtain⟨f2,fm,ff,ft,fp,fr,fnn⟩:=nu true z;have ff:=eq_true ff;have h9:=hq (Le hz) true;generalize dK true z=F at *;simp(disch:=omega)[h0,h3,l5,t5,e2,em,ef,et,hL,jJ,h4,hz,h6,h7,h8,f2,fm,ff,ft,fp,bq,-getElem?_pos];rw[fG (d:=4) fr fnn];exact⟨_,⟨_,rfl,rfl⟩,F,rfl,.inr h9⟩
 obtain⟨n,hn,hO⟩:=Pm 3 Ls (by omega) i ht (decide (x.l.lv.tmod 2=0));rcases hn with rfl|⟨j,rfl,hj⟩
 ·simp(disch:=omega)[h0,h3,l5,t5,e2,em,ef,et,hL,jJ,h4,-getElem?_pos];refine ah 11 (by kernel_rfl) ?_;simp(disch:=omega)[hx,hd,hh,hO,e2,em,ef,et,ep,bq,-getElem?_pos];rw[fG (d:=4) erq en];exact⟨_,⟨_,rfl,rfl⟩,E,rfl,.inl rfl⟩
 obtain⟨y,hy⟩:=atG hj;have hw:¬ (j:Int)<0:=by omega
 obtain⟨f',e',hl,hA,-,-,-,-,-,-,hD,-,ha⟩:=C.li j y hy;have ha:=fun cfg h=>ha 3 cfg h;have mC:md 12=0:=rfl;obtain⟨ylk,-,-,ytk,y0,-,-⟩:=xR y f' e' hl hA;have hc:=fun {z} hz=>O0 C hy (z:=z) hz;have hm:=O9 C hy;rw[hl]at hm;generalize cs j=M at *;simp(disch:=omega)[h0,h3,l5,t5,e2,em,ef,et,hL,jJ,h4,-getElem?_pos];refine ah 11 (by kernel_rfl) ?_;simp(disch:=omega)[hx,hd,hh,hO,hw,-getElem?_pos];refine ah 5 (by kernel_rfl) ?_;simp(disch:=omega)[h3,l5,t5,hy,ylk,ytk,ha,-getElem?_pos];by_cases hM:M=[]
 ·simp(disch:=omega)[hM,hy,ylk,y0,bq,-getElem?_pos];exact .inr hm
 ·have hH:=L7.2 hM;obtain⟨z,hz⟩:=atG hH;have h6:∀ y,(cG y).length=5:=fun _=>rfl;have h7:∀ y,(cG y).take 5=cG y:=fun _=>rfl;have h8:=fun cfg h=>O2 3 z cfg h;obtain⟨f2,fm,ff,ft,fp,fr,fnn⟩:=nu false z;have ff:=eq_true ff;have h9:=hc (Le hz) false;generalize dK false z=F at *;simp(disch:=omega)[hM,hz,h6,h7,h8,f2,fm,ff,ft,fp,bq,-getElem?_pos];rw[fG (d:=4) fr fnn];exact⟨_,⟨_,rfl,rfl⟩,F,rfl,.inr h9⟩
end
theorem PC(d:Nat)(x:cn)(a o:Int)(h:Heap)(hb:ab h 1=some [.int .i64 a,.int .i64 o]):∀ cfg,af md (K pR (d+1)) cfg 83 [.agg (az x),.ptr 1 0] h=some (.bool (decide (x.l.y<=o)&&decide (o<IntKind.i64.wrap (x.l.y+x.l.h))),h):=by
 have ha:(az x).length=10:=rfl;have h0:isMap (az x)=false:=rfl;have h4:(∀ c∈az x,c.leaf=true)=True:=eq_true (by simp[az,bA]);have h6:slot (az x) 4=some (.int .i64 x.l.y):=rfl;have h7:slot (az x) 8=some (.int .i64 x.l.h):=rfl;have h8:ab (h++[some (az x)]) h.length=some (az x):=by rw[bw rfl,h0];rfl
 have h9:ab (h++[some (az x)]) 1=some [.int .i64 a,.int .i64 o]:=by rw[aj (al hb)];exact hb
 obtain⟨r,h2,h3,rfl,rfl⟩:=er (md':=md) (prim:=pR) (n:=10000) (d:=d) (h:=h) (args:=[.agg (az x),.ptr 1 0]) (Post:=fun r h2=>r=.bool (decide (x.l.y<=o)&&decide (o<IntKind.i64.wrap (x.l.y+x.l.h)))/\h2=h) rfl rfl func83 rfl rfl rfl (by simp) (by
  by_cases h1:x.l.y<=o<;>simp(disch:=omega)[h4,h6,h7,h8,h9,h1])
 exact h3
theorem PD(d:Nat)(z:Cel)(a o:Int)(h:Heap)(hb:ab h 1=some [.int .i64 a,.int .i64 o]):∀ cfg,af md (K pR (d+1)) cfg 85 [.agg (cG z),.ptr 1 0] h=some (.bool (decide (z.l<=a)),h):=by
 obtain⟨cl,zm,zf,zt,z0,z1,z2,z3,z4,zp⟩:=te z;have zf':=eq_true zf;have h0:ab (h++[some (cG z)]) h.length=some (cG z):=by rw[bw rfl,zm];rfl
 have h4:ab (h++[some (cG z)]) 1=some [.int .i64 a,.int .i64 o]:=by rw[aj (al hb)];exact hb
 obtain⟨r,h2,h3,rfl,rfl⟩:=er (md':=md) (prim:=pR) (n:=10000) (d:=d) (h:=h) (args:=[.agg (cG z),.ptr 1 0]) (Post:=fun r h2=>r=.bool (decide (z.l<=a))/\h2=h) rfl rfl func85 rfl rfl rfl (by simp) (by
  simp(disch:=omega)[zf',z2,h0,h4])
 exact h3
theorem PF(d:Nat)(L:List Cel)(hl:L.length<=9000)(h:Heap)(Q:Cel->Bool)(hG:∀ z cfg,af md (K pR (d+1)) cfg 85 [.agg (cG z),.ptr 1 0] h=some (.bool (Q z),h)):
  ∃ n:Int,∀ cfg,af md (K pR (d+2)) cfg 117 [.lst (L.map cG),.func (.func 85) [] [.ptr 1 0]] h=some (.int .i64 n,h):=by
 obtain⟨r,h2,h3,n,rfl,rfl⟩:=er (md':=md) (prim:=pR) (n:=10000) (d:=d+1) (h:=h) (args:=[.lst (L.map cG),.func (.func 85) [] [.ptr 1 0]]) (Post:=fun r h2=>∃ n:Int,r=.int .i64 n/\h2=h) rfl rfl func117 rfl rfl rfl (by simp;rfl) (by
  simp(disch:=omega);refine ai (fun m fr H=>∃ i:Nat,i<=L.length/\m=L.length-i/\H=h/\Slots 19 [(0,.lst (L.map cG)),(1,.func (.func 85) [] [.ptr 1 0]),(7,.int .i64 L.length),(8,.int .i64 i)] fr) (m:=L.length) (by omega) ⟨0,by omega,by omega,rfl,by simp⟩ ?_;rintro m fr H ⟨i,hi,rfl,rfl,hs⟩;obtain⟨q,rfl⟩:=hs.ex;clear hs;by_cases h6:i<L.length
  ·have hI:(i:Int)<L.length:=by omega
   obtain⟨z,hz⟩:=atG h6;have h4:(cG z).length=5:=rfl;have h0:(cG z).take 5=cG z:=rfl;cases hQ:Q z
   ·simp(disch:=omega)[hI,hz,h4,h0,hG,hQ,wrap64,-getElem?_pos];exact ae (m':=L.length-(i+1)) (by omega) ⟨i+1,by omega,by omega,rfl,by simp(disch:=omega)⟩
   ·simp(disch:=omega)[hI,hz,h4,h0,hG,hQ,-getElem?_pos]
  ·obtain rfl:i=L.length:=by omega
   have hI:¬ ((L.length:Int)<L.length):=by omega
   simp(disch:=omega)[hI])
 exact⟨n,h3⟩
theorem PE(d:Nat)(L:List Cel)(hl:L.length<=9000)(h:Heap)(a o:Int)(hb:ab h 1=some [.int .i64 a,.int .i64 o]):
  ∃ b:Bool,∀ cfg,af md (K pR (d+3)) cfg 84 [.lst (L.map cG),.func (.func 85) [] [.ptr 1 0]] h=some (.bool b,h):=by
 obtain⟨n,hn⟩:=PF d L hl h _ fun z=>PD d z a o h hb;obtain⟨r,h2,h3,n,rfl,rfl⟩:=er (md':=md) (prim:=pR) (n:=10000) (d:=d+2) (h:=h) (args:=[.lst (L.map cG),.func (.func 85) [] [.ptr 1 0]]) (Post:=fun r h2=>∃ b:Bool,r=.bool b/\h2=h) rfl rfl func84 rfl rfl rfl (by simp;rfl) (by
  simp(disch:=omega)[hn];omega)
 exact⟨n,h3⟩
theorem at_ex{X:Txt}{Ls:List cn}{cs:Nat->List Cel}(C:CC X Ls cs)(a o:Int):∃ F,MvC X Ls F/\∀ d cfg h,af md (K pR (d+4)) cfg 46 [.agg (aO X.p),.lst (Ls.map az),.agg [.int .i64 a,.int .i64 o]] h=some (.agg F,h):=by
 have hN:=C.ln;have ht:=L7.2 C.ne;obtain⟨hu,hv,s0,s1,s2,s3,s4,l5,t5⟩:=oJ X.p;have h9:=eq_true (Lp.1 hu);suffices HH:∃ r,(∃ F,r=V.agg F/\MvC X Ls F)/\∀ cfg h,af md (K pR 4) cfg 46 [.agg (aO X.p),.lst (Ls.map az),.agg [.int .i64 a,.int .i64 o]] h=some (r,h) by
  obtain⟨_,⟨F,rfl,hF⟩,h⟩:=HH;exact⟨F,hF,OZ h⟩
 obtain⟨n,hn,hI⟩:=IB 1 83 Ls (by omega) 1 [some (aO X.p),some [.int .i64 a,.int .i64 o],some [.int .i64 0,.bool false]] _ fun x=>PC 1 x a o _ rfl;have hA:¬ Ls.length=0:=by omega
 refine gn (md:=md) (prim:=pR) (n:=10000) (d:=3) (Post:=fun r=>∃ F,r=V.agg F/\MvC X Ls F) rfl rfl func46 rfl rfl rfl (by simp[aO]) ?_;rw[dU];refine OS (fun fr H=>H=[some (aO X.p),some [.int .i64 a,.int .i64 o],some [.int .i64 0,.bool false]]/\Slots 92 [(1,.lst (Ls.map az)),(3,.ptr 0 0),(5,.ptr 1 0),(6,.ptr 2 0)] fr) (by simp(disch:=omega)[h9];exact ch ⟨rfl,by simp⟩) ?_;rintro fr H ⟨rfl,hs⟩;obtain⟨j,rfl⟩:=hs.ex;clear hs;rw[dU];refine OS (fun fr H=>H=[some (aO X.p),some [.int .i64 a,.int .i64 o],some [.int .i64 0,.bool false]]/\Slots 92 [(1,.lst (Ls.map az)),(3,.ptr 0 0),(5,.ptr 1 0),(6,.ptr 2 0)] fr) (by simp(disch:=omega)[hA];exact ch ⟨rfl,by simp⟩) ?_;rintro fr H ⟨rfl,hs⟩;obtain⟨j,rfl⟩:=hs.ex;clear hs;rw[dU];refine OS (fun fr H=>H=[some (aO X.p),some [.int .i64 a,.int .i64 o],some [.int .i64 0,.bool false]]/\Slots 92 [(1,.lst (Ls.map az)),(3,.ptr 0 0),(5,.ptr 1 0),(6,.ptr 2 0),(7,.int .i64 n)] fr) (by simp(disch:=omega)[hI];exact ch ⟨rfl,by simp⟩) ?_;rintro fr H ⟨rfl,hs⟩;obtain⟨j,rfl⟩:=hs.ex;clear hs;rw[dU];refine OS (fun fr H=>∃ j:Nat,j<Ls.length/\H=[some (aO X.p),some [.int .i64 a,.int .i64 o],some [.int .i64 0,.bool false]]/\Slots 92 [(1,.lst (Ls.map az)),(3,.ptr 0 0),(5,.ptr 1 0),(6,.ptr 2 0),(7,.int .i64 j)] fr) ?_ ?_
 ·rcases hn with⟨rfl,-⟩|⟨i,x,rfl,hx,-,-⟩
  ·obtain⟨y,hy⟩:=atG ht;obtain⟨m,hm⟩:∃ m:Nat,(Ls.length:Int)-1=m:=⟨Ls.length-1,by omega⟩;have he:(az y).length=10:=rfl;have hf:slot (az y) 4=some (.int .i64 y.l.y):=rfl;simp(disch:=omega)[hm,wrap64,-getElem?_pos];refine ah 6 (by kernel_rfl) ?_;by_cases hc:o<y.l.y
   ·simp(disch:=omega)[hy,he,hf,hc,-getElem?_pos];exact ch ⟨0,by omega,rfl,by simp⟩
   ·simp(disch:=omega)[hy,he,hf,hc,-getElem?_pos];exact ch ⟨m,by omega,rfl,by simp⟩
  ·have hi:=(Ld.1 hx).1;have hD:¬ (i:Int)<0:=by omega
   simp(disch:=omega)[hD];exact ch ⟨i,hi,rfl,by simp⟩
 clear hI hn;rintro fr H ⟨i,hi,rfl,hs⟩;obtain⟨j,rfl⟩:=hs.ex;clear hs;obtain⟨y,hy⟩:=atG hi;obtain⟨f',e',hg,hE,-,-,-,-,-,-,hH,-,ha⟩:=C.li i y hy;have ha:=fun cfg h=>ha 2 cfg h;have mC:md 12=0:=rfl;obtain⟨ylk,-,-,ytk,y0,-,-⟩:=xR y f' e' hg hE;have hd:=fun {z} hz=>O0 C hy (z:=z) hz;have hj:=O9 C hy;rw[hg]at hj;generalize cs i=M at *;obtain⟨cbq,hl⟩:=PE 0 M (by omega) [some (aO X.p),some [.int .i64 a,.int .i64 o],some [.int .i64 0,.bool false]] a o rfl;rw[dU];refine OS (fun fr H=>H=[some (aO X.p),some [.int .i64 a,.int .i64 o],some [.int .i64 0,.bool false]]/\Slots 92 [(1,.lst (Ls.map az)),(3,.ptr 0 0),(5,.ptr 1 0),(6,.ptr 2 0),(8,.lst (M.map cG)),(7,.int .i64 i)] fr) (by
  refine ah 5 (by kernel_rfl) ?_;simp(disch:=omega)[hv,l5,t5,hy,ylk,ytk,ha,-getElem?_pos];exact ch ⟨rfl,by simp⟩) ?_
 rintro fr H ⟨rfl,hs⟩;obtain⟨j,rfl⟩:=hs.ex;clear hs;by_cases hM:M=[]
 ·simp(disch:=omega)[hM,hy,ylk,y0,bq,-getElem?_pos];exact hj
 have hJ:=L7.2 hM;have hL:=fun z cfg h=>O2 2 z cfg h;have hR:=fun z cfg h=>DP 2 z cfg h;have h0:∀ (H:Heap) (rt:Bool) (z:Cel),z∈M->∃ r,(∃ a,List.mapM (frz H 0 5) (dK rt z)=some a/\V.agg a=r)/\∃ F,r=V.agg F/\MvC X Ls F:=fun H rt z hz=>by
  obtain⟨-,-,-,-,-,fr,fnn⟩:=nu rt z;rw[fG (d:=4) fr fnn];exact⟨_,⟨_,rfl,rfl⟩,_,rfl,hd hz rt⟩
 have c5:∀ y,(cG y).length=5:=fun _=>rfl;have ct:∀ y,(cG y).take 5=cG y:=fun _=>rfl;have f2:∀ rt z,(dK rt z).length=2:=fun _ _=>rfl;have fm:∀ rt z,isMap (dK rt z)=false:=fun _ _=>rfl;have ff:∀ rt z,(∀ c∈dK rt z,c.leaf=true)=True:=fun rt z=>eq_true (nu rt z).2.2.1;have ft:∀ rt z,(dK rt z).take 2=dK rt z:=fun _ _=>rfl;have fp:∀ rt z,putAt [V.int .i64 0,.bool false] 0 (dK rt z)=dK rt z:=fun _ _=>rfl;obtain⟨z0,hq⟩:=atG hJ;cases cbq
 ·simp(disch:=omega)[hM,hl,hq,c5,ct,hL,f2,fm,ff,ft,fp,bq,-getElem?_pos];exact h0 _ _ _ (Le hq)
 simp(disch:=omega)[hM,hl,-getElem?_pos];refine ai (fun m fr H=>∃ k:Nat,k<=M.length/\m=M.length-k/\Hp H [some (aO X.p),some [.int .i64 a,.int .i64 o],some [.int .i64 0,.bool false]] [] /\
  Slots 92 [(5,.ptr 1 0),(6,.ptr 2 0),(8,.lst (M.map cG)),(53,.lst (M.map cG)),(54,.int .i64 M.length),(55,.int .i64 k)] fr) (m:=M.length) (by omega) ⟨0,by omega,by omega,Hp.start,by simp⟩ ?_
 rintro m fr H ⟨k,hk,rfl,hh,hs⟩;obtain⟨q,rfl⟩:=hs.ex;clear hs;have hr:∀ {H:Heap},Hp H [some (aO X.p),some [.int .i64 a,.int .i64 o],some [.int .i64 0,.bool false]] []->ab H 1=some [.int .i64 a,.int .i64 o]/\ab H 2=some [.int .i64 0,.bool false]/\∀ rt z,ab (H.set 2 (some (dK rt z))) 2=some (dK rt z):=fun hh=>by
  have hle:=hh.le;simp only[Lx,Me]at hle;refine⟨by rw[hh.block (by simp)];rfl,by rw[hh.block (by simp)];rfl,fun rt z=>?_⟩;rw[du (by omega),fm];rfl
 by_cases hK:k<M.length
 ·have hI:(k:Int)<M.length:=by omega
  obtain⟨z,hz⟩:=atG hK;obtain⟨-,zm,zf,zt,z0,z1,z2,z3,z4,zp⟩:=te z;have zf':=eq_true zf;have h4:ab (H++[some (cG z)]) H.length=some (cG z):=by rw[bw rfl,zm];rfl
  have hp:=hh.push [some (cG z)];obtain⟨h6,h7,h8⟩:=hr hp;by_cases h1:z.l<=a/\a<z.r
  ·have h2:=h1.2;have h1:=h1.1;simp(disch:=omega)[hI,hz,c5,zf',zt,z2,z3,zp,h4,h6,h1,h2,-getElem?_pos];refine aq (fun h3=>?_) (fun h3=>?_)
   ·simp(disch:=omega)[h4,c5,ct,hL,f2,ff,ft,fp,h7,h8,bq,-getElem?_pos];exact h0 _ _ _ (Le hz)
   ·simp(disch:=omega)[h4,c5,ct,hR,f2,ff,ft,fp,h7,h8,bq,-getElem?_pos];exact h0 _ _ _ (Le hz)
  ·by_cases h2:z.l<=a
   ·have h3:¬ a<z.r:=fun h=>h1 ⟨h2,h⟩;simp(disch:=omega)[hI,hz,c5,zf',zt,z2,z3,zp,h4,h6,h2,h3,wrap64,-getElem?_pos];exact ae (m':=M.length-(k+1)) (by omega) ⟨k+1,by omega,rfl,hp,by simp(disch:=omega)⟩
   ·simp(disch:=omega)[hI,hz,c5,zf',zt,z2,zp,h4,h6,h2,wrap64,-getElem?_pos];exact ae (m':=M.length-(k+1)) (by omega) ⟨k+1,by omega,rfl,hp,by simp(disch:=omega)⟩
 ·obtain rfl:k=M.length:=by omega
  have hI:¬ (M.length:Int)<M.length:=by omega
  obtain⟨h6,h7,h8⟩:=hr hh;obtain⟨w,hw⟩:∃ w:Nat,(M.length:Int)-1=w:=⟨M.length-1,by omega⟩;obtain⟨z,hz⟩:=atG (show w<M.length by omega);simp(disch:=omega)[hI,hw,hz,c5,ct,hR,f2,ff,ft,fp,h7,h8,bq,wrap64,-getElem?_pos];exact h0 _ _ _ (Le hz)
section
variable {X:Txt}{Ls:List cn}{cs:Nat->List Cel}(C:CC X Ls cs) {E:List V}(hE:O7 E) {i:Nat}{x:cn}(hx:Ls[i]?=some x) {g x':Int}
 (hL:∀ d cfg h,af md (K pR (d+4)) cfg 41 [.agg (aO X.p),.lst (Ls.map az),.agg E] h=some (.tup [jJ i g x' (cs i),.bool true],h))
include C hE hx hL
theorem verM(a:Int):∃ F,(F=E\/MvC X Ls F)/\O7 F/\∀ cfg h,af md (K pR 5) cfg 47 [.agg (aO X.p),.lst (Ls.map az),.agg E,.int .i64 a,.bool false] h=some (.agg F,h):=by
 have hc:=C.ln;have hL:=hL 0;have h4:=hE;obtain⟨e2,em,ef,et,ep,erq,en⟩:=hE;have ef:=eq_true ef;obtain⟨h6,h3,s0,s1,s2,s3,s4,l5,t5⟩:=oJ X.p;have h0:=eq_true (Lp.1 h6);have h7:=(Ld.1 hx).1;suffices HH:∃ r,(∃ F,r=V.agg F/\(F=E\/MvC X Ls F)/\O7 F)/\∀ cfg h,af md (K pR 5) cfg 47 [.agg (aO X.p),.lst (Ls.map az),.agg E,.int .i64 a,.bool false] h=some (r,h) by
  obtain⟨_,⟨F,rfl,hF⟩,h⟩:=HH;exact⟨F,hF.1,hF.2,h⟩
 refine gn (md:=md) (prim:=pR) (n:=10000) (d:=4) (Post:=fun r=>∃ F,r=V.agg F/\(F=E\/MvC X Ls F)/\O7 F) rfl rfl func47 rfl rfl rfl (by simpa[az,bA,aO]using erq) ?_;obtain⟨n,hn,hO⟩:=Pm 3 Ls (by omega) i h7 false;rcases hn with rfl|⟨j,rfl,hj⟩
 ·simp(disch:=omega)[h0,h3,l5,t5,e2,em,ef,et,ep,hL,jJ,hO,bq,-getElem?_pos];rw[fG (d:=4) erq en];exact⟨_,⟨_,rfl,rfl⟩,E,rfl,.inl rfl,h4⟩
 obtain⟨y,hy⟩:=atG hj;have h8:¬ (j:Int)<0:=by omega
 have h9:(az y).length=10:=rfl;have ha:slot (az y) 4=some (.int .i64 y.l.y):=rfl;have mA:md 46=0:=rfl;obtain⟨F,hF,hA⟩:=at_ex C a y.l.y;have hA:=hA 0;obtain⟨f2,fm,ff,ft,fp,fr,fnn⟩:=hF.1;have ff:=eq_true ff;simp(disch:=omega)[h0,h3,l5,t5,e2,em,ef,et,hL,jJ,hO,h8,-getElem?_pos];refine ah 9 (by kernel_rfl) ?_;simp(disch:=omega)[h3,l5,t5,hy,h9,ha,hA,f2,fm,ff,ft,fp,bq,-getElem?_pos];rw[fG (d:=4) fr fnn];exact⟨_,⟨_,rfl,rfl⟩,F,rfl,.inr hF,hF.1⟩
theorem upM(a:Int):∃ F,(F=E\/MvC X Ls F)/\∀ d cfg h,af md (K pR (d+6)) cfg 21 [.agg (aO X.p),.lst (Ls.map az),.agg E,.int .i64 a] h=some (.agg F,h):=by
 obtain⟨F,hF,h3,hV⟩:=verM C hE hx hL a;obtain⟨e2,em,ef,et,ep,erq,-⟩:=hE;have ef:=eq_true ef;obtain⟨f2,fm,ff,ft,fp,fr,fnn⟩:=h3;have ff:=eq_true ff;obtain⟨h4,h6,s0,s1,s2,s3,s4,l5,t5⟩:=oJ X.p;have h0:=eq_true (Lp.1 h4);refine⟨F,hF,OZ (D:=6) fun cfg h=>?_⟩;refine aU rfl rfl func21 rfl rfl rfl (by simpa[az,bA,aO]using erq) ?_;simp(disch:=omega)[h0,h6,l5,t5,e2,em,ef,et,hV,f2,fm,ff,ft,fp,bq,-getElem?_pos];rw[fG (d:=4) fr fnn]
end
end Bi
end Go.Ab
