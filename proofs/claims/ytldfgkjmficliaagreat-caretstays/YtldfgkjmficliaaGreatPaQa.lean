/- caret.Cells, walked. -/
import Derived.Test.YtldfgkjmficliaaGreatPaPz
set_option linter.all false
set_option maxHeartbeats 16000000
set_option maxRecDepth 100000
namespace Go.Ab
open Go.Proofs
namespace Bi
attribute [local congr] aw
theorem Fm(a:Int):∃ n:Int,∀ cfg h,af md (K pZ 40) cfg 40 [.int .i64 a,.int .i64 2] h=some (.int .i64 n,h):=by
 by_cases hr:-1152921504606846976<=a/\a<=1152921504606846976
 ·exact⟨a / 2,fun cfg h=>qg (prim:=pZ) 38 cfg h cH a hr.1 hr.2⟩
 refine⟨0,fun cfg h=>?_⟩;refine aU rfl (cH _ (by decide)) Tryz.func40 rfl rfl rfl (by simp) ?_;have hk:=fun cfg h=>xJ (prim:=pZ) 38 cfg h cH a 2;simp(disch:=omega)[hk];refine aq (fun _=>?_) (fun hz=>?_)
 ·simp
 ·exact absurd (by simpa using hz) hr
structure Cel where
 f:Int
 t:Int
 l:Int
 r:Int
 lv:Int
def cG(z:Cel):List V:=[.int .i64 z.f,.int .i64 z.t,.int .i64 z.l,.int .i64 z.r,.int .i64 z.lv]
theorem jv(z:Cel):(cG z).length=5:=rfl
theorem xR(x:cn)(f e:Nat)(hf:x.l.f=f)(he:x.l.t=e):(az x).length=10/\isMap (az x)=false/\(∀ c∈az x,c.leaf=true)/\(az x).take 10=az x/\slot (az x) 0=some (.int .i64 f)/\slot (az x) 1=some (.int .i64 e)/\slot (az x) 9=some (.lst (x.gs.map ao)):=
 ⟨rfl,rfl,by simp[az,bA],rfl,by rw[<- hf];rfl,by rw[<- he];rfl,rfl⟩
theorem uU:∀ n:Nat,br [V.int .i64 0,.int .i64 0,.bool false,.bool false] n=(List.replicate n (⟨0,0,false,false⟩:Ext)).flatMap eN
 | 0=>rfl
 | n+1=>by
  have:=uU n;simp only[br,MH,L4]at this ⊢;rw[this];rfl
theorem Ai:∀ n:Nat,un (List.replicate n (⟨0,0,false,false⟩:Ext))=n
 | 0=>rfl
 | n+1=>by
  rw[MH,un,Ai n];simp;omega
theorem Ord.start(n:Nat):Ord (List.replicate n (⟨0,0,false,false⟩:Ext)) []:=
 ⟨List.nodup_nil,fun k=>⟨fun h=>absurd h M0,fun ⟨x,h1,h2⟩=>by
  rw[Ns]at h1;split at h1
  ·cases h1;cases h2
  ·cases h1⟩,fun _ h=>absurd h M0,by simp[Ai]⟩
theorem Iw(g:Gly):(ao g).length=8/\isMap (ao g)=false/\(∀ c∈ao g,c.leaf=true)/\(ao g).take 8=ao g/\slot (ao g) 2=some (.int .i64 g.f)/\slot (ao g) 3=some (.int .i64 g.t)/\slot (ao g) 4=some (.int .i64 g.x)/\slot (ao g) 5=some (.int .i64 g.a)/\putAt [V.int .i64 0,.int .i64 0,.int .i64 0,.int .i64 0,.int .i64 0,.int .i64 0,.int .i64 0,.int .i64 0] 0 (ao g)=ao g:=
 ⟨rfl,rfl,by simp[ao],rfl,rfl,rfl,rfl,rfl,rfl⟩
theorem Ci(d:Nat)(p:Par)(ht:p.t.length<=2000)(x:cn)(f e:Nat)(hf:x.l.f=f)(he:x.l.t=e)(z3:f<=e)(z4:e<=p.t.length)(hgs:x.gs.length<=9000)
  (lv:List Int) (z5:lv.length=e-f) (hLv:∀ cfg h,af md (K pQ (d+2)) cfg 36 [.agg (aO p),.agg (az x)] h=some (il lv,h))
  (CS:List (Nat×Nat)) (OF:List Int) (z6:∀ cfg h,af md (K pQ (d+2)) cfg 37 [.agg (aO p),.agg (az x)] h=some (.tup [.lst (CS.map dX),il OF],h))
  (hOF:OF.length=e-f) (hOr:∀ k∈OF,k<CS.length) (hCn:CS.Nodup) (hCl:CS.length<=2000) (z7:∀ c∈CS,f<=c.1/\c.1<e):
  ∃ L:List Cel,(∀ z∈L,∃ c∈CS,z.f=c.1/\z.t=c.2)/\L.length<=2000/\(∀ g∈x.gs,(f:Int)<=g.f->g.t<=e->g.f<g.t->∀ A:Nat,g.f-f=A->∀ n:Nat,lgI OF A=n->∀ c,CS[n]?=some c->∃ z∈L,z.f=c.1/\z.t=c.2)/\(L.map fun z=>(z.f,z.t)).Nodup/\∀ cfg h,af md (K pQ (d+3)) cfg 12 [.agg (aO p),.agg (az x)] h=some (.lst (L.map cG),h):=by
 have hIn:=fun cfg h=>insQ (d+1) p.t x f e hf he z3 z4 cfg h;obtain⟨z8,z9,s0,s1,s2,s3,s4,l5,t5⟩:=oJ p;have hP:=eq_true (Lp.1 z8);obtain⟨hlk,hQ,hj,htk,h8,hF,hx9⟩:=xR x f e hf he;have hj:=eq_true hj;have hef:(e:Int)-f=((e-f:Nat):Int):=by omega
 have ht2:¬ (2000:Int)<p.t.length:=by omega
 obtain⟨_,⟨L,rfl,h1,h3,h4,h2⟩,hc⟩:=gn (md:=md) (prim:=pQ) (n:=10000) (d:=d+2) (args:=[.agg (aO p),.agg (az x)]) (Post:=fun r=>∃ L:List Cel,r=.lst (L.map cG)/\(∀ z∈L,∃ c∈CS,z.f=c.1/\z.t=c.2)/\L.length<=2000/\(∀ g∈x.gs,(f:Int)<=g.f->g.t<=e->g.f<g.t->∀ A:Nat,g.f-f=A->∀ n:Nat,lgI OF A=n->∀ c,CS[n]?=some c->∃ z∈L,z.f=c.1/\z.t=c.2)/\(L.map fun z=>(z.f,z.t)).Nodup) rfl rfl Tryz.func12 rfl rfl rfl (by simp[az,bA,aO]) (by
  simp(disch:=omega)[hP,z9,l5,t5,hlk,hQ,hj,htk,h8,hF,hx9,s0,hIn,ht2,hLv,z5,z6,hef,wrap64];rw[uU];have h9:(List.replicate CS.length (⟨0,0,false,false⟩:Ext)).length=CS.length:=by simp
  have k0:=Ord.start CS.length;generalize List.replicate CS.length (⟨0,0,false,false⟩:Ext)=E0 at *;have k4:Hp (b5 (some (aO p)) (some (az x)) E0 .nils) (b5 (some (aO p)) (some (az x)) E0 .nils) [(1,.nils,([]:List Int).map (V.int .i64))]:=Hp.start.nil 1;have hl:=k4;rw[b5,h9]at hl;refine ai (fun m fr H=>∃ (i:Nat) (E:List Ext) (v:V) (o:List Int),i<=x.gs.length/\m=x.gs.length-i/\E.length=CS.length/\Ord E o/\(∀ (q:Nat) (g:Gly),q<i->x.gs[q]?=some g->(f:Int)<=g.f->g.t<=e->g.f<g.t->∀ A:Nat,g.f-f=A->0<=lgI OF A->lgI OF A∈o)/\Hp H (b5 (some (aO p)) (some (az x)) E v) [(1,v,o.map (V.int .i64))] /\
   Slots 209 [(2,.ptr 0 0),(3,.ptr 1 0),(4,.nils),(5,il lv),(6,.lst (CS.map dX)),(7,il OF),(8,.ptr 3 0),(9,.ptr 4 0),(10,.func (.func 38) [] [.ptr 3 0,.ptr 4 0]),(53,.lst (x.gs.map ao)),(54,.int .i64 x.gs.length),(55,.int .i64 i)] fr) (m:=x.gs.length) (by omega)
   ⟨0,E0,.nils,[],by omega,by omega,h9,k0,fun q g h=>by omega,by rw[b5,h9];exact hl,by simp⟩ ?_
  clear k4 hl k0 h9 E0;rintro m fr H ⟨i,E,v,o,hi,rfl,hR,hO,hy,hh,hs⟩;obtain⟨j,rfl⟩:=hs.ex;clear hs;have hS:∀ {H:Heap} {E:List Ext} {v:V} {os:List Own},Hp H (b5 (some (aO p)) (some (az x)) E v) os->ab H 1=some (az x)/\5<=H.length:=fun hh=>by
   refine⟨?_,hh.le⟩;rw[hh.block (by simp[b5])];rfl
  by_cases hT:i<x.gs.length
  ·have hI:(i:Int)<x.gs.length:=by omega
   obtain⟨g,hg⟩:=atG hT;obtain⟨gl,gm,gf,gt,g2,g3,g4,g5,gp⟩:=Iw g;have gf':=eq_true gf;have hd:ab (H++[some (ao g)]) H.length=some (ao g):=by rw[bw rfl,gm];rfl
   have hr:=(hS (hh.push [some (ao g)])).1;have hH:(x.gs.map ao)[i]?=some (ao g):=by rw[Ln,hg];rfl
   by_cases k1:g.f<f
   ·simp(disch:=omega)[hI,hH,gl,gt,gf',gp,hd,hr,h8,g2,k1,wrap64];exact ae (m':=x.gs.length-(i+1)) (by omega) ⟨i+1,E,v,o,by omega,rfl,hR,hO,fun q g' hq h6 a1 a2 a3=>by
     by_cases e:q=i
     ·subst e;rw[hg]at h6;cases h6;omega
     ·exact hy q g' (by omega) h6 a1 a2 a3,hh.push _,by simp(disch:=omega)⟩
   by_cases k2:(e:Int)<g.t
   ·simp(disch:=omega)[hI,hH,gl,gt,gf',gp,hd,hr,h8,hF,g2,g3,k1,k2,wrap64];exact ae (m':=x.gs.length-(i+1)) (by omega) ⟨i+1,E,v,o,by omega,rfl,hR,hO,fun q g' hq h6 a1 a2 a3=>by
     by_cases e:q=i
     ·subst e;rw[hg]at h6;cases h6;omega
     ·exact hy q g' (by omega) h6 a1 a2 a3,hh.push _,by simp(disch:=omega)⟩
   by_cases k3:g.t<=g.f
   ·simp(disch:=omega)[hI,hH,gl,gt,gf',gp,hd,hr,h8,hF,g2,g3,k1,k2,k3,wrap64];exact ae (m':=x.gs.length-(i+1)) (by omega) ⟨i+1,E,v,o,by omega,rfl,hR,hO,fun q g' hq h6 a1 a2 a3=>by
     by_cases e:q=i
     ·subst e;rw[hg]at h6;cases h6;omega
     ·exact hy q g' (by omega) h6 a1 a2 a3,hh.push _,by simp(disch:=omega)⟩
   obtain⟨A,hA⟩:∃ A:Nat,g.f-f=A:=⟨_,(MX (by omega)).symm⟩;obtain⟨B,hB⟩:∃ B:Nat,g.t-1-f=B:=⟨_,(MX (by omega)).symm⟩;have k5:=atI (l:=OF) (i:=A) (by omega);have k6:=atI (l:=OF) (i:=B) (by omega);have hAr:=hOr _ (Le k5);have hBr:=hOr _ (Le k6);have k7:=atI (l:=lv) (i:=A) (by omega);obtain⟨q,hq0⟩:=Fm g.a;have hq:=fun cfg h=>toQ (d+1) (by rfl) rfl (by simp) hq0 cfg h;generalize hka:lgI OF A=ka at *;generalize lgI OF B=kb at *;generalize lgI lv A=ll at *;have hu:∀ o3:List Int,(∀ j∈o,j∈o3)->(0<=ka->ka∈o3)->∀ (q:Nat) (g:Gly),q<i+1->x.gs[q]?=some g->(f:Int)<=g.f->g.t<=e->g.f<g.t->∀ A:Nat,g.f-f=A->0<=lgI OF A->lgI OF A∈o3:=fun o3 m1 m2 q g' hq h6 a1 a2 a3 A' hA' h0=>by
    by_cases e:q=i
    ·subst e;rw[hg]at h6;cases h6;have:A'=A:=by omega
     subst this;rw[hka]at h0 ⊢;exact m2 h0
    ·exact m1 _ (hy q g' (by omega) h6 a1 a2 a3 A' hA' h0)
   simp(disch:=omega)[hI,hH,gl,gt,gf',gp,hd,hr,h8,hF,g2,g3,k1,k2,k3];refine ah 18 (by kernel_rfl) ?_;simp(disch:=omega)[hd,hr,h8,g2,g3,g5,hA,hB,k5,k6,hq,wrap64,-getElem?_pos];have hJ:=(hh.new (cs:=ao g) (n:=1) (k:=8) gm rfl []).swap;obtain⟨gb,hgb⟩:∃ gb,gb=H.length:=⟨_,rfl⟩;have k8:∀ {H:Heap} {E:List Ext} {v:V} {o:List V},Hp H (b5 (some (aO p)) (some (az x)) E v) [(1,v,o),(8,.sl gb 0 1 1 8,ao g)]->ab H gb=some (ao g):=fun hh=>by
    rcases hh.snd with⟨h,_⟩|⟨b,n,h,_,_,h2⟩
    ·cases h
    ·rw[(V.sl.inj h).1];exact h2
   rw[<- hgb]at hd hJ ⊢;generalize H++[some (ao g)]=H1 at *;by_cases hw:ka=kb
   ·obtain⟨u,H2,E2,v2,o2,hC,h7,k9,hD,hE,hK⟩:=lU d (some (aO p)) (some (az x)) H1 E (by omega) v o _ hO hJ kb (by omega) g.x (IntKind.i64.wrap (g.x+g.a));simp(disch:=omega)[hw,hd,g4,g5,hC,wrap64,-getElem?_pos];exact ae (m':=x.gs.length-(i+1)) (by omega) ⟨i+1,E2,v2,o2,by omega,rfl,by omega,hD,hu o2 hE (fun h=>by rw[hw]at h ⊢;exact hK h),h7.swap.tail,by simp(disch:=omega)⟩
   by_cases w7:ll.tmod 2=0
   ·obtain⟨u,H2,E2,v2,o2,hC,h7,k9,hD,hE,hK⟩:=lU d (some (aO p)) (some (az x)) H1 E (by omega) v o _ hO hJ ka (by omega) g.x (IntKind.i64.wrap (g.x+q));simp(disch:=omega)[hw,w7,hd,hr,h8,g2,g4,hA,k7,hC,wrap64,-getElem?_pos];have hX:=k8 h7;obtain⟨u2,H3,E3,v3,o3,hY,hZ,hl3,g0,hM,w8⟩:=lU d (some (aO p)) (some (az x)) H2 E2 (by omega) v2 o2 _ hD h7 kb (by omega) (IntKind.i64.wrap (g.x+q)) (IntKind.i64.wrap (g.x+g.a));simp(disch:=omega)[hX,g4,g5,hY,wrap64,-getElem?_pos];exact ae (m':=x.gs.length-(i+1)) (by omega) ⟨i+1,E3,v3,o3,by omega,rfl,by omega,g0,hu o3 (fun j h=>hM j (hE j h)) (fun h=>hM _ (hK h)),hZ.swap.tail,by simp(disch:=omega)⟩
   ·obtain⟨u,H2,E2,v2,o2,hC,h7,k9,hD,hE,hK⟩:=lU d (some (aO p)) (some (az x)) H1 E (by omega) v o _ hO hJ kb (by omega) g.x (IntKind.i64.wrap (IntKind.i64.wrap (g.x+g.a)-q));simp(disch:=omega)[hw,w7,hd,hr,h8,g2,g4,g5,hA,k7,hC,wrap64,-getElem?_pos];have hX:=k8 h7;obtain⟨u2,H3,E3,v3,o3,hY,hZ,hl3,g0,hM,w8⟩:=lU d (some (aO p)) (some (az x)) H2 E2 (by omega) v2 o2 _ hD h7 ka (by omega) (IntKind.i64.wrap (IntKind.i64.wrap (g.x+g.a)-q)) (IntKind.i64.wrap (g.x+g.a));simp(disch:=omega)[hX,g4,g5,hY,wrap64,-getElem?_pos];exact ae (m':=x.gs.length-(i+1)) (by omega) ⟨i+1,E3,v3,o3,by omega,rfl,by omega,g0,hu o3 (fun j h=>hM j (hE j h)) w8,hZ.swap.tail,by simp(disch:=omega)⟩
  ·obtain rfl:i=x.gs.length:=by omega
   have hI:¬ (x.gs.length:Int)<x.gs.length:=by omega
   have hvl:dy Tryz.prog 22 v=some (.int .i64 o.length):=by
    have:=OwnC.len1 (show Tryz.prog.underlying 22=some (.slice 3) by kernel_rfl) hh.head;simpa using this
   have w9:ab H 4=some [v]:=by
    rw[hh.block (by simp[b5])];rcases hh.head with⟨rfl,_⟩|⟨b,n,rfl,_⟩<;>rfl
   have hol:o.length<=2000:=by have:=hO.len;omega
   have hon:∀ {k:Nat} {y:Int},o[k]?=some y->∃ (n:Nat) (z:Ext) (c:Nat×Nat),y=n/\E[n]?=some z/\CS[n]?=some c:=fun hk=>by
    have hm:=Le hk;obtain⟨n,rfl⟩:∃ n:Nat,_=(n:Int):=⟨_,(MX (hO.pos _ hm)).symm⟩;obtain⟨z,hz,-⟩:=(hO.mem n).1 hm;have hn:=(Ld.1 hz).1;obtain⟨c,hc⟩:=atG (l:=CS) (i:=n) (by omega);exact⟨n,z,c,rfl,hz,hc⟩
   simp(disch:=omega)[hI,w9,hvl];refine ai (fun m fr H=>∃ (i:Nat) (w:V) (L:List Cel),i<=o.length/\m=o.length-i/\L.length=i/\(∀ (k:Nat) (z:Cel),L[k]?=some z->∃ (n:Nat) (c:Nat×Nat),o[k]?=some (n:Int)/\CS[n]?=some c/\z.f=c.1/\z.t=c.2) /\
    Hp H (b5 (some (aO p)) (some (az x)) E v) [(1,v,o.map (V.int .i64)),(5,w,L.flatMap cG)] /\
    Slots 209 [(2,.ptr 0 0),(3,.ptr 1 0),(4,.nils),(5,il lv),(6,.lst (CS.map dX)),(8,.ptr 3 0),(16,w),(172,v),(173,.int .i64 o.length),(174,.int .i64 i)] fr) (m:=o.length) (by omega)
    ⟨0,.nils,[],by omega,by omega,rfl,fun k z h=>(by simp at h),(hh.nil 5).swap,by simp⟩ ?_
   clear hh w9;rintro m fr H ⟨i,w,L,hi,rfl,z0,hL,hh,hs⟩;obtain⟨j,rfl⟩:=hs.ex;clear hs;by_cases hT:i<o.length
   ·have hI:(i:Int)<o.length:=by omega
    obtain⟨b,hv,hvlo,hvlt,hbv⟩:=hh.head.ints (by omega);have hN:=atI hT;obtain⟨n,ez,c,hn,g6,hc⟩:=hon hN;rw[hn]at hN;have hcr:=z7 c (Le hc);have hcx:(CS.map dX)[n]?=some (dX c):=by rw[Ln,hc];rfl
    have hnl:=(Ld.1 hc).1;subst hv;have hz5:putAt [V.int .i64 0,.int .i64 0,.int .i64 0,.int .i64 0,.int .i64 0] 0 (dX c)=dX c:=rfl;have z1:(dX c).length=5:=rfl;have hcm:isMap (dX c)=false:=rfl;have g7:∀ y∈dX c,y.leaf=true:=by simp[dX]
    have g7:=eq_true g7;have hct:(dX c).take 5=dX c:=rfl;simp(disch:=omega)[hI,hbv,hN,hcx,hz5,z1,g7,hct,-getElem?_pos];refine EA (by kernel_rfl) ?_;have g8:=hh.push [some (dX c)];obtain⟨z2,hH5⟩:=hS hh;have z2:=(hS g8).1;have hb2:ab (H++[some (dX c)]) 2=some (E.flatMap eN):=by
     rw[g8.block (by simp[b5])];show (if isMap (E.flatMap eN)=true then none else some _)=_;rw[tn];rfl
    have hb3:ab (H++[some (dX c)]) 3=some [.sl 2 0 E.length E.length 4]:=by rw[g8.block (by simp[b5])];rfl
    have hbc:ab (H++[some (dX c)]) H.length=some (dX c):=by rw[bw rfl,hcm];rfl
    have e0:=lz di (by omega) g6;have e1:=cT (k:=1) di (by omega) g6;have x0:slot (eN ez) 0=some (.int .i64 ez.l):=rfl;have x1:slot (eN ez) 1=some (.int .i64 ez.r):=rfl;have hEf:(E.flatMap eN).length=E.length*4:=bJ di E;have c0:slot (dX c) 0=some (.int .i64 c.1):=rfl;obtain⟨C1,hC1⟩:∃ C1:Nat,(c.1:Int)-f=C1:=⟨_,(MX (by omega)).symm⟩;have hlc:=atI (l:=lv) (i:=C1) (by omega);have hnE:=(Ld.1 g6).1;have hwl:Cfg.wr ⟨0,[],0⟩ H.length=true:=bq (LJ _);have i2:∀ v,isMap (bz (dX c) 2 v)=false:=fun _=>rfl;have i3:∀ v w,isMap (bz (bz (dX c) 2 v) 3 w)=false:=fun _ _=>rfl;have g9:∀ a b y:Int,bz (bz (bz (dX c) 2 (.int .i64 a)) 3 (.int .i64 b)) 4 (.int .i64 y)=cG ⟨c.1,c.2,a,b,y⟩:=fun _ _ _=>rfl;have cm:∀ z,isMap (cG z)=false:=fun _=>rfl;have cl5:∀ z,(cG z).length=5:=fun _=>rfl;have ct5:∀ z,(cG z).take 5=cG z:=fun _=>rfl;have clf:∀ z,(∀ y∈cG z,y.leaf=true)=True:=fun z=>eq_true (by simp[cG]);have n1:¬ H.length=1:=by omega
    have n2:¬ H.length=2:=by omega
    have n3:¬ H.length=3:=by omega
    have n1':¬ 1=H.length:=by omega
    have n2':¬ 2=H.length:=by omega
    have n3':¬ 3=H.length:=by omega
    simp(disch:=omega)[z2,hb2,hb3,hbc,e0,e1,x0,x1,c0,hC1,hlc,hwl,n1,n2,n3,n1',h8,z1,jG,i2,i3,g9,cm,cl5,ct5,clf,wrap64,-getElem?_pos];have hfl:=bJ jv L;refine bH (m:=1) (hh.push _).swap (LJ _) rfl rfl (by omega) (by omega) (by omega) (by omega) ?_;intro w' H' h7;obtain⟨z,hz⟩:∃ z,z=(⟨c.1,c.2,ez.l,ez.r,lgI lv C1⟩:Cel):=⟨_,rfl⟩;rw[<- hz]at h7;have hfm:L.flatMap cG++cG z=(L++[z]).flatMap cG:=by simp
    rw[hfm]at h7;simp(disch:=omega)[wrap64,-getElem?_pos];exact ae (m':=o.length-(i+1)) (by omega) ⟨i+1,w',L++[z],by omega,rfl,by simp[z0],fun k y hk=>by
     rcases LX k L.length with h|h
     ·rw[Lf h]at hk;exact hL k y hk
     ·rw[Lk h]at hk;obtain rfl:k=i:=by
       have:=(Ld.1 hk).1;simp at this;omega
      rw[z0,Nx]at hk;cases hk;exact⟨n,c,hN,hc,by rw[hz],by rw[hz]⟩,h7.swap,by simp(disch:=omega)⟩
   ·obtain rfl:i=o.length:=by omega
    have hI:¬ (o.length:Int)<o.length:=by omega
    simp(disch:=omega)[hI];refine⟨_,OwnC.frzF (d:=4) jv (by omega) hh.snd (LJ _) (fun _=>rfl) (fun g c hc=>by simp[cG]at hc;rcases hc with rfl|rfl|rfl|rfl|rfl<;>simp),L,rfl,fun z hz=>?_,by omega,fun g hg a1 a2 a3 A hA n hn _ _ hc=>?_,?_⟩
    ·obtain⟨k,hk⟩:=NF hz;obtain⟨n,c,-,h2,h3,h4⟩:=hL k z hk;exact⟨c.1,c.2,Le h2,h3,h4⟩
    ·obtain⟨q,hq⟩:=NF hg;have hm:=hy q g (Ld.1 hq).1 hq a1 a2 a3 A hA (by omega);rw[hn]at hm;obtain⟨k,hk⟩:=NF hm;have hkl:=(Ld.1 hk).1;obtain⟨z,hz⟩:=atG (show k<L.length by omega);obtain⟨n',c',g1,g2,g3,g4⟩:=hL k z hz;rw[hk]at g1;have:n'=n:=by have:=Mq g1;omega
     subst this;rw[hc]at g2;cases g2;exact⟨z,Le hz,g3,g4⟩
    ·refine Mo.2 fun a b ha hb hw he=>?_;simp only[MQ]at ha hb;simp only[List.getElem_map,LL]at he;obtain⟨n,c,g1,g2,g3,g4⟩:=hL a _ (Lc ha);obtain⟨n',c',g1',g2',g3',g4'⟩:=hL b _ (Lc hb);have g9:c=c':=OL (by omega) (by omega);subst g9;have hnn:n=n':=by
      rcases Mk n n' with h|h|h
      ·exact absurd rfl (jL hCn h g2 g2')
      ·exact h
      ·exact absurd rfl (jL hCn h g2' g2)
     subst hnn;exact jL hO.nd hw g1 g1' rfl)
 exact⟨L,h1,h3,h4,h2,hc⟩
end Bi
end Go.Ab
