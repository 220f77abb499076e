/- caret.Cells, walked. -/
import Derived.Test.YtldfgkjmficliaaGreatPaPz
set_option linter.all false
set_option maxHeartbeats 16000000
set_option maxRecDepth 100000
namespace Go.Ab
open Go.Proofs
namespace Bi
attribute [local congr] aw
theorem Fm(a:Int):∃ n:Int,∀ cfg h,af md (K pZ 40) cfg 40 [.int .i64 a,.int .i64 2] h=some (.int .i64 n,h):=by
 by_cases hr:-1152921504606846976<=a/\a<=1152921504606846976
 ·exact⟨a / 2,fun cfg h=>qg (prim:=pZ) 38 cfg h cH a hr.1 hr.2⟩
 refine⟨0,fun cfg h=>?_⟩;refine aU rfl (cH _ (by decide)) Tryz.func40 rfl rfl rfl (by simp) ?_;have hk:=fun cfg h=>xJ (prim:=pZ) 38 cfg h cH a 2;simp(disch:=omega)[hk];refine aq (fun _=>?_) (fun hz=>?_)
 ·simp
 ·exact absurd (by simpa using hz) hr
structure Cel where
 f:Int
 t:Int
 l:Int
 r:Int
 lv:Int
def cG(z:Cel):List V:=[.int .i64 z.f,.int .i64 z.t,.int .i64 z.l,.int .i64 z.r,.int .i64 z.lv]
theorem jv(z:Cel):(cG z).length=5:=rfl
theorem xR(x:cn)(f e:Nat)(hf:x.l.f=f)(he:x.l.t=e):(az x).length=10/\isMap (az x)=false/\(∀ c∈az x,c.leaf=true)/\(az x).take 10=az x/\slot (az x) 0=some (.int .i64 f)/\slot (az x) 1=some (.int .i64 e)/\slot (az x) 9=some (.lst (x.gs.map ao)):=
 ⟨rfl,rfl,by simp[az,bA],rfl,by rw[<- hf];rfl,by rw[<- he];rfl,rfl⟩
theorem uU:∀ n:Nat,br [V.int .i64 0,.int .i64 0,.bool false,.bool false] n=(List.replicate n (⟨0,0,false,false⟩:Ext)).flatMap eN
 | 0=>rfl
 | n+1=>by
  have:=uU n;simp only[br,MH,L4]at this ⊢;rw[this];rfl
theorem Ai:∀ n:Nat,un (List.replicate n (⟨0,0,false,false⟩:Ext))=n
 | 0=>rfl
 | n+1=>by
  rw[MH,un,Ai n];simp;omega
theorem Ord.start(n:Nat):Ord (List.replicate n (⟨0,0,false,false⟩:Ext)) []:=
 ⟨List.nodup_nil,fun k=>⟨fun h=>absurd h M0,fun ⟨x,h1,h2⟩=>by
  rw[Ns]at h1;split at h1
  ·cases h1;cases h2
  ·cases h1⟩,fun _ h=>absurd h M0,by simp[Ai]⟩
theorem Iw(g:Gly):(ao g).length=8/\isMap (ao g)=false/\(∀ c∈ao g,c.leaf=true)/\(ao g).take 8=ao g/\slot (ao g) 2=some (.int .i64 g.f)/\slot (ao g) 3=some (.int .i64 g.t)/\slot (ao g) 4=some (.int .i64 g.x)/\slot (ao g) 5=some (.int .i64 g.a)/\putAt [V.int .i64 0,.int .i64 0,.int .i64 0,.int .i64 0,.int .i64 0,.int .i64 0,.int .i64 0,.int .i64 0] 0 (ao g)=ao g:=
 ⟨rfl,rfl,by simp[ao],rfl,rfl,rfl,rfl,rfl,rfl⟩
theorem Ci(d:Nat)(p:Par)(ht:p.t.length<=2000)(x:cn)(f e:Nat)(hf:x.l.f=f)(he:x.l.t=e)(k8:f<=e)(k9:e<=p.t.length)(hgs:x.gs.length<=9000)
  (lv:List Int) (w7:lv.length=e-f) (hLv:∀ cfg h,af md (K pQ (d+2)) cfg 36 [.agg (aO p),.agg (az x)] h=some (il lv,h))
  (CS:List (Nat×Nat)) (OF:List Int) (w8:∀ cfg h,af md (K pQ (d+2)) cfg 37 [.agg (aO p),.agg (az x)] h=some (.tup [.lst (CS.map dX),il OF],h))
  (hOF:OF.length=e-f) (hOr:∀ k∈OF,k<CS.length) (hCn:CS.Nodup) (hCl:CS.length<=2000) (w9:∀ c∈CS,f<=c.1/\c.1<e):
  ∃ L:List Cel,(∀ z∈L,∃ c∈CS,z.f=c.1/\z.t=c.2)/\L.length<=2000/\(L.map fun z=>(z.f,z.t)).Nodup/\∀ cfg h,af md (K pQ (d+3)) cfg 12 [.agg (aO p),.agg (az x)] h=some (.lst (L.map cG),h):=by
 have hIn:=fun cfg h=>insQ (d+1) p.t x f e hf he k8 k9 cfg h;obtain⟨z0,z1,s0,s1,s2,s3,s4,l5,t5⟩:=oJ p;have hE:=eq_true (Lp.1 z0);obtain⟨z2,hF,h9,z3,h6,hu,z4⟩:=xR x f e hf he;have h9:=eq_true h9;have z5:(e:Int)-f=((e-f:Nat):Int):=by omega
 have z6:¬ (2000:Int)<p.t.length:=by omega
 obtain⟨_,⟨L,rfl,h1,h3,h2⟩,hc⟩:=gn (md:=md) (prim:=pQ) (n:=10000) (d:=d+2) (args:=[.agg (aO p),.agg (az x)]) (Post:=fun r=>∃ L:List Cel,r=.lst (L.map cG)/\(∀ z∈L,∃ c∈CS,z.f=c.1/\z.t=c.2)/\L.length<=2000/\(L.map fun z=>(z.f,z.t)).Nodup) rfl rfl Tryz.func12 rfl rfl rfl (by simp[az,bA,aO]) (by
  simp(disch:=omega)[hE,z1,l5,t5,z2,hF,h9,z3,h6,hu,z4,s0,hIn,z6,hLv,w7,w8,z5,wrap64];rw[uU];have h7:(List.replicate CS.length (⟨0,0,false,false⟩:Ext)).length=CS.length:=by simp
  have hY:=Ord.start CS.length;generalize List.replicate CS.length (⟨0,0,false,false⟩:Ext)=E0 at *;have hZ:Hp (b5 (some (aO p)) (some (az x)) E0 .nils) (b5 (some (aO p)) (some (az x)) E0 .nils) [(1,.nils,([]:List Int).map (V.int .i64))]:=Hp.start.nil 1;have hd:=hZ;rw[b5,h7]at hd;refine ai (fun m fr H=>∃ (i:Nat) (E:List Ext) (v:V) (o:List Int),i<=x.gs.length/\m=x.gs.length-i/\E.length=CS.length/\Ord E o/\Hp H (b5 (some (aO p)) (some (az x)) E v) [(1,v,o.map (V.int .i64))] /\
   Slots 209 [(2,.ptr 0 0),(3,.ptr 1 0),(4,.nils),(5,il lv),(6,.lst (CS.map dX)),(7,il OF),(8,.ptr 3 0),(9,.ptr 4 0),(10,.func (.func 38) [] [.ptr 3 0,.ptr 4 0]),(53,.lst (x.gs.map ao)),(54,.int .i64 x.gs.length),(55,.int .i64 i)] fr) (m:=x.gs.length) (by omega)
   ⟨0,E0,.nils,[],by omega,by omega,h7,hY,by rw[b5,h7];exact hd,by simp⟩ ?_
  clear hZ hd hY h7 E0;rintro m fr H ⟨i,E,v,o,hi,rfl,hH,hO,hh,hs⟩;obtain⟨j,rfl⟩:=hs.ex;clear hs;have hJ:∀ {H:Heap} {E:List Ext} {v:V} {os:List Own},Hp H (b5 (some (aO p)) (some (az x)) E v) os->ab H 1=some (az x)/\5<=H.length:=fun hh=>by
   refine⟨?_,hh.le⟩;rw[hh.block (by simp[b5])];rfl
  by_cases hK:i<x.gs.length
  ·have hI:(i:Int)<x.gs.length:=by omega
   obtain⟨g,hg⟩:=atG hK;obtain⟨gl,gm,gf,gt,g2,g3,g4,g5,gp⟩:=Iw g;have gf':=eq_true gf;have h8:ab (H++[some (ao g)]) H.length=some (ao g):=by rw[bw rfl,gm];rfl
   have hj:=(hJ (hh.push [some (ao g)])).1;have hw:(x.gs.map ao)[i]?=some (ao g):=by rw[Ln,hg];rfl
   by_cases k1:g.f<f
   ·simp(disch:=omega)[hI,hw,gl,gt,gf',gp,h8,hj,h6,g2,k1,wrap64];exact ae (m':=x.gs.length-(i+1)) (by omega) ⟨i+1,E,v,o,by omega,rfl,hH,hO,hh.push _,by simp(disch:=omega)⟩
   by_cases k2:(e:Int)<g.t
   ·simp(disch:=omega)[hI,hw,gl,gt,gf',gp,h8,hj,h6,hu,g2,g3,k1,k2,wrap64];exact ae (m':=x.gs.length-(i+1)) (by omega) ⟨i+1,E,v,o,by omega,rfl,hH,hO,hh.push _,by simp(disch:=omega)⟩
   by_cases k3:g.t<=g.f
   ·simp(disch:=omega)[hI,hw,gl,gt,gf',gp,h8,hj,h6,hu,g2,g3,k1,k2,k3,wrap64];exact ae (m':=x.gs.length-(i+1)) (by omega) ⟨i+1,E,v,o,by omega,rfl,hH,hO,hh.push _,by simp(disch:=omega)⟩
   obtain⟨A,hA⟩:∃ A:Nat,g.f-f=A:=⟨_,(MX (by omega)).symm⟩;obtain⟨B,hB⟩:∃ B:Nat,g.t-1-f=B:=⟨_,(MX (by omega)).symm⟩;have g0:=atI (l:=OF) (i:=A) (by omega);have g6:=atI (l:=OF) (i:=B) (by omega);have hAr:=hOr _ (Le g0);have hBr:=hOr _ (Le g6);have g7:=atI (l:=lv) (i:=A) (by omega);obtain⟨q,z7⟩:=Fm g.a;have hq:=fun cfg h=>toQ (d+1) (by rfl) rfl (by simp) z7 cfg h;generalize lgI OF A=ka at *;generalize lgI OF B=kb at *;generalize lgI lv A=ll at *;simp(disch:=omega)[hI,hw,gl,gt,gf',gp,h8,hj,h6,hu,g2,g3,k1,k2,k3];refine ah 18 (by kernel_rfl) ?_;simp(disch:=omega)[h8,hj,h6,g2,g3,g5,hA,hB,g0,g6,hq,wrap64,-getElem?_pos];have hy:=(hh.new (cs:=ao g) (n:=1) (k:=8) gm rfl []).swap;obtain⟨gb,z8⟩:∃ gb,gb=H.length:=⟨_,rfl⟩;have g8:∀ {H:Heap} {E:List Ext} {v:V} {o:List V},Hp H (b5 (some (aO p)) (some (az x)) E v) [(1,v,o),(8,.sl gb 0 1 1 8,ao g)]->ab H gb=some (ao g):=fun hh=>by
    rcases hh.snd with⟨h,_⟩|⟨b,n,h,_,_,h2⟩
    ·cases h
    ·rw[(V.sl.inj h).1];exact h2
   rw[<- z8]at h8 hy ⊢;generalize H++[some (ao g)]=H1 at *;by_cases hl:ka=kb
   ·obtain⟨u,H2,E2,v2,o2,hC,h0,g9,hr⟩:=lU d (some (aO p)) (some (az x)) H1 E (by omega) v o _ hO hy kb (by omega) g.x (IntKind.i64.wrap (g.x+g.a));simp(disch:=omega)[hl,h8,g4,g5,hC,wrap64,-getElem?_pos];exact ae (m':=x.gs.length-(i+1)) (by omega) ⟨i+1,E2,v2,o2,by omega,rfl,by omega,hr,h0.swap.tail,by simp(disch:=omega)⟩
   by_cases k0:ll.tmod 2=0
   ·obtain⟨u,H2,E2,v2,o2,hC,h0,g9,hr⟩:=lU d (some (aO p)) (some (az x)) H1 E (by omega) v o _ hO hy ka (by omega) g.x (IntKind.i64.wrap (g.x+q));simp(disch:=omega)[hl,k0,h8,hj,h6,g2,g4,hA,g7,hC,wrap64,-getElem?_pos];have hM:=g8 h0;obtain⟨u2,H3,E3,v3,o3,hN,hP,z9,hQ⟩:=lU d (some (aO p)) (some (az x)) H2 E2 (by omega) v2 o2 _ hr h0 kb (by omega) (IntKind.i64.wrap (g.x+q)) (IntKind.i64.wrap (g.x+g.a));simp(disch:=omega)[hM,g4,g5,hN,wrap64,-getElem?_pos];exact ae (m':=x.gs.length-(i+1)) (by omega) ⟨i+1,E3,v3,o3,by omega,rfl,by omega,hQ,hP.swap.tail,by simp(disch:=omega)⟩
   ·obtain⟨u,H2,E2,v2,o2,hC,h0,g9,hr⟩:=lU d (some (aO p)) (some (az x)) H1 E (by omega) v o _ hO hy kb (by omega) g.x (IntKind.i64.wrap (IntKind.i64.wrap (g.x+g.a)-q));simp(disch:=omega)[hl,k0,h8,hj,h6,g2,g4,g5,hA,g7,hC,wrap64,-getElem?_pos];have hM:=g8 h0;obtain⟨u2,H3,E3,v3,o3,hN,hP,z9,hQ⟩:=lU d (some (aO p)) (some (az x)) H2 E2 (by omega) v2 o2 _ hr h0 ka (by omega) (IntKind.i64.wrap (IntKind.i64.wrap (g.x+g.a)-q)) (IntKind.i64.wrap (g.x+g.a));simp(disch:=omega)[hM,g4,g5,hN,wrap64,-getElem?_pos];exact ae (m':=x.gs.length-(i+1)) (by omega) ⟨i+1,E3,v3,o3,by omega,rfl,by omega,hQ,hP.swap.tail,by simp(disch:=omega)⟩
  ·obtain rfl:i=x.gs.length:=by omega
   have hI:¬ (x.gs.length:Int)<x.gs.length:=by omega
   have hvl:dy Tryz.prog 22 v=some (.int .i64 o.length):=by
    have:=OwnC.len1 (show Tryz.prog.underlying 22=some (.slice 3) by kernel_rfl) hh.head;simpa using this
   have k4:ab H 4=some [v]:=by
    rw[hh.block (by simp[b5])];rcases hh.head with⟨rfl,_⟩|⟨b,n,rfl,_⟩<;>rfl
   have hol:o.length<=2000:=by have:=hO.len;omega
   have hon:∀ {k:Nat} {y:Int},o[k]?=some y->∃ (n:Nat) (z:Ext) (c:Nat×Nat),y=n/\E[n]?=some z/\CS[n]?=some c:=fun hk=>by
    have hm:=Le hk;obtain⟨n,rfl⟩:∃ n:Nat,_=(n:Int):=⟨_,(MX (hO.pos _ hm)).symm⟩;obtain⟨z,hz,-⟩:=(hO.mem n).1 hm;have hn:=(Ld.1 hz).1;obtain⟨c,hc⟩:=atG (l:=CS) (i:=n) (by omega);exact⟨n,z,c,rfl,hz,hc⟩
   simp(disch:=omega)[hI,k4,hvl];refine ai (fun m fr H=>∃ (i:Nat) (w:V) (L:List Cel),i<=o.length/\m=o.length-i/\L.length=i/\(∀ (k:Nat) (z:Cel),L[k]?=some z->∃ (n:Nat) (c:Nat×Nat),o[k]?=some (n:Int)/\CS[n]?=some c/\z.f=c.1/\z.t=c.2) /\
    Hp H (b5 (some (aO p)) (some (az x)) E v) [(1,v,o.map (V.int .i64)),(5,w,L.flatMap cG)] /\
    Slots 209 [(2,.ptr 0 0),(3,.ptr 1 0),(4,.nils),(5,il lv),(6,.lst (CS.map dX)),(8,.ptr 3 0),(16,w),(172,v),(173,.int .i64 o.length),(174,.int .i64 i)] fr) (m:=o.length) (by omega)
    ⟨0,.nils,[],by omega,by omega,rfl,fun k z h=>(by simp at h),(hh.nil 5).swap,by simp⟩ ?_
   clear hh k4;rintro m fr H ⟨i,w,L,hi,rfl,k5,hL,hh,hs⟩;obtain⟨j,rfl⟩:=hs.ex;clear hs;by_cases hK:i<o.length
   ·have hI:(i:Int)<o.length:=by omega
    obtain⟨b,hv,hvlo,hvlt,hbv⟩:=hh.head.ints (by omega);have hD:=atI hK;obtain⟨n,ez,c,hn,hR,hc⟩:=hon hD;rw[hn]at hD;have hcr:=w9 c (Le hc);have hcx:(CS.map dX)[n]?=some (dX c):=by rw[Ln,hc];rfl
    have hnl:=(Ld.1 hc).1;subst hv;have hz5:putAt [V.int .i64 0,.int .i64 0,.int .i64 0,.int .i64 0,.int .i64 0] 0 (dX c)=dX c:=rfl;have k6:(dX c).length=5:=rfl;have hcm:isMap (dX c)=false:=rfl;have hS:∀ y∈dX c,y.leaf=true:=by simp[dX]
    have hS:=eq_true hS;have hct:(dX c).take 5=dX c:=rfl;simp(disch:=omega)[hI,hbv,hD,hcx,hz5,k6,hS,hct,-getElem?_pos];refine EA (by kernel_rfl) ?_;have hT:=hh.push [some (dX c)];obtain⟨k7,hH5⟩:=hJ hh;have k7:=(hJ hT).1;have hb2:ab (H++[some (dX c)]) 2=some (E.flatMap eN):=by
     rw[hT.block (by simp[b5])];show (if isMap (E.flatMap eN)=true then none else some _)=_;rw[tn];rfl
    have hb3:ab (H++[some (dX c)]) 3=some [.sl 2 0 E.length E.length 4]:=by rw[hT.block (by simp[b5])];rfl
    have hbc:ab (H++[some (dX c)]) H.length=some (dX c):=by rw[bw rfl,hcm];rfl
    have e0:=lz di (by omega) hR;have e1:=cT (k:=1) di (by omega) hR;have x0:slot (eN ez) 0=some (.int .i64 ez.l):=rfl;have x1:slot (eN ez) 1=some (.int .i64 ez.r):=rfl;have hEf:(E.flatMap eN).length=E.length*4:=bJ di E;have c0:slot (dX c) 0=some (.int .i64 c.1):=rfl;obtain⟨C1,hC1⟩:∃ C1:Nat,(c.1:Int)-f=C1:=⟨_,(MX (by omega)).symm⟩;have hlc:=atI (l:=lv) (i:=C1) (by omega);have hnE:=(Ld.1 hR).1;have hwl:Cfg.wr ⟨0,[],0⟩ H.length=true:=bq (LJ _);have i2:∀ v,isMap (bz (dX c) 2 v)=false:=fun _=>rfl;have i3:∀ v w,isMap (bz (bz (dX c) 2 v) 3 w)=false:=fun _ _=>rfl;have hX:∀ a b y:Int,bz (bz (bz (dX c) 2 (.int .i64 a)) 3 (.int .i64 b)) 4 (.int .i64 y)=cG ⟨c.1,c.2,a,b,y⟩:=fun _ _ _=>rfl;have cm:∀ z,isMap (cG z)=false:=fun _=>rfl;have cl5:∀ z,(cG z).length=5:=fun _=>rfl;have ct5:∀ z,(cG z).take 5=cG z:=fun _=>rfl;have clf:∀ z,(∀ y∈cG z,y.leaf=true)=True:=fun z=>eq_true (by simp[cG]);have n1:¬ H.length=1:=by omega
    have n2:¬ H.length=2:=by omega
    have n3:¬ H.length=3:=by omega
    have n1':¬ 1=H.length:=by omega
    have n2':¬ 2=H.length:=by omega
    have n3':¬ 3=H.length:=by omega
    simp(disch:=omega)[k7,hb2,hb3,hbc,e0,e1,x0,x1,c0,hC1,hlc,hwl,n1,n2,n3,n1',h6,k6,jG,i2,i3,hX,cm,cl5,ct5,clf,wrap64,-getElem?_pos];have hfl:=bJ jv L;refine bH (m:=1) (hh.push _).swap (LJ _) rfl rfl (by omega) (by omega) (by omega) (by omega) ?_;intro w' H' h0;obtain⟨z,hz⟩:∃ z,z=(⟨c.1,c.2,ez.l,ez.r,lgI lv C1⟩:Cel):=⟨_,rfl⟩;rw[<- hz]at h0;have hfm:L.flatMap cG++cG z=(L++[z]).flatMap cG:=by simp
    rw[hfm]at h0;simp(disch:=omega)[wrap64,-getElem?_pos];exact ae (m':=o.length-(i+1)) (by omega) ⟨i+1,w',L++[z],by omega,rfl,by simp[k5],fun k y hk=>by
     rcases LX k L.length with h|h
     ·rw[Lf h]at hk;exact hL k y hk
     ·rw[Lk h]at hk;obtain rfl:k=i:=by
       have:=(Ld.1 hk).1;simp at this;omega
      rw[k5,Nx]at hk;cases hk;exact⟨n,c,hD,hc,by rw[hz],by rw[hz]⟩,h0.swap,by simp(disch:=omega)⟩
   ·obtain rfl:i=o.length:=by omega
    have hI:¬ (o.length:Int)<o.length:=by omega
    simp(disch:=omega)[hI];refine⟨_,OwnC.frzF (d:=4) jv (by omega) hh.snd (LJ _) (fun _=>rfl) (fun g c hc=>by simp[cG]at hc;rcases hc with rfl|rfl|rfl|rfl|rfl<;>simp),L,rfl,fun z hz=>?_,by omega,?_⟩
    ·obtain⟨k,hk⟩:=NF hz;obtain⟨n,c,-,h2,h3,h4⟩:=hL k z hk;exact⟨c.1,c.2,Le h2,h3,h4⟩
    ·refine Mo.2 fun a b ha hb hl he=>?_;simp only[MQ]at ha hb;simp only[List.getElem_map,LL]at he;obtain⟨n,c,g1,g2,g3,g4⟩:=hL a _ (Lc ha);obtain⟨n',c',g1',g2',g3',g4'⟩:=hL b _ (Lc hb);have hX:c=c':=OL (by omega) (by omega);subst hX;have hnn:n=n':=by
      rcases Mk n n' with h|h|h
      ·exact absurd rfl (jL hCn h g2 g2')
      ·exact h
      ·exact absurd rfl (jL hCn h g2' g2)
     subst hnn;exact jL hO.nd hl g1 g1' rfl)
 exact⟨L,h1,h3,h2,hc⟩
end Bi
end Go.Ab
