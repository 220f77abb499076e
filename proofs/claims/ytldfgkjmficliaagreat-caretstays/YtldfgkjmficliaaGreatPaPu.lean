/- caret.parts, walked. -/
import Derived.Test.YtldfgkjmficliaaGreatPaPv
set_option linter.all false
set_option maxHeartbeats 16000000
set_option maxRecDepth 100000
namespace Go.Ab
open Go.Proofs
namespace Bi
attribute [local congr] aw
def dX(c:Nat×Nat):List V:=[.int .i64 c.1,.int .i64 c.2,.int .i64 0,.int .i64 0,.int .i64 0]
theorem pI(c:Nat×Nat):(dX c).length=5:=rfl
def ptF(t:List Int)(e:Nat):List Int->Nat->List (Nat×Nat)->List Int->List (Nat×Nat)×List Int
 | [],_,cs,dn=>(cs,dn)
 | c::D,a,cs,dn=>if min c (e:Int)<=a then ptF t e D a cs dn else
  ptF t e D (min c (e:Int)).toNat (if vis ((t.take (min c (e:Int)).toNat).drop a)=true then cs++[(a,(min c (e:Int)).toNat)] else cs)
   (dn++List.replicate ((min c (e:Int)).toNat-a) (if vis ((t.take (min c (e:Int)).toNat).drop a)=true then (cs.length:Int) else -1))
theorem Bm(d:Nat)(p:Par)(hn:p.t.length<=2000)(x:cn)(f e:Nat)(hf:x.l.f=f)(he:x.l.t=e)(w9:f<=e)(z1:e<=p.t.length):
  ∃ v H,aN Tryz.prog md2 p2 10000 (d+6) ⟨0,[],0⟩ 37 [.agg (aO p),.agg (az x)] []=some (v,H) /\
   frz H 0 6 v=some (.tup [.lst ((ptF p.t e (cu p.t++[(e:Int)]) f [] []).1.map dX),il (ptF p.t e (cu p.t++[(e:Int)]) f [] []).2]):=by
 refine cw (R:=fun v H=>frz H 0 6 v=_) rfl Tryz.func37 rfl rfl rfl ?_;obtain⟨g3,hL,s0,s1,s2,s3,s4,l5,t5⟩:=oJ p;have hu:=eq_true (Lp.1 g3);have z2:(az x).length=10:=rfl;have h4:isMap (az x)=false:=rfl;have hw:(∀ c∈az x,c.leaf=true)=True:=eq_true (by simp[az,bA]);have hM:slot (az x) 0=some (.int .i64 f):=by rw[<- hf];rfl
 have hg:slot (az x) 1=some (.int .i64 e):=by rw[<- he];rfl
 have g4:(e:Int)-f=((e-f:Nat):Int):=by omega
 simp(disch:=omega)[hu,h4,hw,hM,hg,g4,jS,wrap64,-List.map_replicate];have hz:(List.replicate (e-f) (0:Int)).length=e-f:=by simp
 generalize List.replicate (e-f) (0:Int)=z0 at *;have mC:md2 51=2:=rfl;obtain⟨cv,H1,hR,hA⟩:=Cr (prim:=pZ) 36 cH p.t hn ⟨3,[],3⟩ [some (aO p),some (az x),some (z0.map (V.int .i64))] (by simp);have hN:af md2 (K2 (d+5)) ⟨3,[],3⟩ 51 [rl p.t] [some (aO p),some (az x),some (z0.map (V.int .i64))]=some (cv,H1):=by
  simp only[af,mC];exact (dq p2_cl _ _ _).trans hR
 refine Ez 6 (by kernel_rfl) (by simp only[List.dropLast];rfl) rfl rfl rfl ?_;simp(disch:=omega)[s0,hL,mC,hN];have h3:ab H1 1=some (az x):=by rw[hA.block (by simp)];simp[ab,h4]
 have hj:ab (H1++[some [V.int .i64 (e:Int)]]) H1.length=some [V.int .i64 (e:Int)]:=by rw[bw rfl];rfl
 simp(disch:=omega)[h3,hg,hj];obtain⟨hO,g5⟩:=@cluS_rng p.t;refine bH (m:=1) (hA.push [some [V.int .i64 (e:Int)]]) (by simp) rfl rfl (by omega) (by omega) (by simp;omega) (by simp;omega) ?_;intro v0 H2 h7;have hP:(cu p.t).map (V.int .i64)++[V.int .i64 (e:Int)]=(cu p.t++[(e:Int)]).map (V.int .i64):=by simp
 rw[hP]at h7;have g6:∀ c∈cu p.t++[(e:Int)],0<=c:=fun c hc=>by
  rcases LA.1 hc with hc|hc
  ·exact (hO c hc).1
  ·rw[LP.1 hc];omega
 have z3:(cu p.t++[(e:Int)]).length<=2002/\1<=(cu p.t++[(e:Int)]).length:=by simp;omega
 have g7:lgI (cu p.t++[(e:Int)]) ((cu p.t++[(e:Int)]).length-1)=e:=by unfold lgI;simp
 clear hR hN hA hj h3 hP hO g5;generalize cu p.t++[(e:Int)]=B at *;obtain⟨bb,rfl,-,-,-⟩:=h7.head.ints (by omega);simp(disch:=omega);obtain⟨R,hQ⟩:∃ R,ptF p.t e B f [] []=R:=⟨_,rfl⟩;rw[hQ];have g8:z0.drop 0=z0:=rfl;refine ai (fun m fr H=>∃ (k a:Nat) (v:V) (cs:List (Nat×Nat)) (dn:List Int),k<=B.length/\f<=a/\a<=e/\dn.length=a-f/\cs.length<=a-f/\(k<B.length\/a=e)/\m=B.length-k/\ptF p.t e (B.drop k) a cs dn=R /\
  Hp H [some (aO p),some (az x),some ((dn++z0.drop (a-f)).map (V.int .i64))] [(1,.sl bb 0 B.length B.length 1,B.map (V.int .i64)),(5,v,cs.flatMap dX)] /\
  Slots 68 [(2,.ptr 0 0),(3,.ptr 1 0),(6,v),(7,.sl 2 0 (e-f) (e-f) 1),(8,.int .i64 a),(26,.sl bb 0 B.length B.length 1),(27,.int .i64 B.length),(28,.int .i64 k)] fr) (m:=B.length) (by omega)
  ⟨0,f,.nils,[],[],by omega,by omega,by omega,by simp,by simp,by omega,by omega,hQ,by rw[Nx,g8,Mf];exact (h7.nil 5).swap,by simp⟩ ?_
 rintro m fr H ⟨k,a,v,cs,dn,hk,g9,k0,hS,k1,z4,rfl,h0,hh,hs⟩;obtain⟨j,rfl⟩:=hs.ex;clear hs;by_cases hD:k<B.length
 ·have hI:(k:Int)<B.length:=by omega
  obtain⟨w,hv,k2,k3,hl⟩:=hh.head.ints (by omega);obtain rfl:bb=w:=(V.sl.inj hv).1;have ht:ab H 0=some (aO p):=by rw[hh.block (by simp)];simp[hL]
  have h3:ab H 1=some (az x):=by rw[hh.block (by simp)];simp[ab,h4]
  have h9:=atI hD;have k4:B.drop k=lgI B k::B.drop (k+1):=by
   rw[LC hD];rw[Lc hD]at h9;rw[Mq h9]
  have z5:=g6 _ (Le h9);rw[k4,ptF]at h0;have hT:k+1=B.length->lgI B k=e:=fun h=>by rw[show k=B.length-1 by omega];exact g7
  generalize lgI B k=c at *;by_cases ha:min c (e:Int)<=a
  ·rw[if_pos ha]at h0;simp(disch:=omega)[hI,hl,h9,h3,hg,ha,wrap64,-getElem?_pos];exact ae (m':=B.length-(k+1)) (by omega) ⟨k+1,a,v,cs,dn,by omega,g9,k0,hS,k1,by omega,rfl,h0,hh,by simp(disch:=omega)⟩
  ·rw[if_neg ha]at h0;obtain⟨q,hq⟩:∃ q:Nat,min c (e:Int)=q:=⟨_,(MX (by omega)).symm⟩;rw[hq]at h0 ha;rw[LB]at h0;have z6:q<=e:=by omega
   have ep:V.lst (List.drop a (List.take q (List.map (fun n=>[V.int .i32 n]) p.t)))=rl ((p.t.take q).drop a):=by simp[rl,NN,NO]
   have hd:=fun cfg h=>Ic d ((p.t.take q).drop a) (by simp;omega) cfg h;rw[<- ep]at hd;obtain⟨vv,k5⟩:∃ vv,vis ((p.t.take q).drop a)=vv:=⟨_,rfl⟩;rw[k5]at hd h0;cases vv
   case' false =>
    simp(disch:=omega)[hI,hl,h9,ht,s0,h3,hg,hq,ha,hd,-getElem?_pos];obtain⟨cs',h6⟩:∃ cs',cs'=cs:=⟨_,rfl⟩;obtain⟨n',h8⟩:∃ n':Int,n'=-1:=⟨_,rfl⟩;rw[if_neg (by simp),if_neg (by simp),<- h6,<- h8]at h0;rw[<- h6]at hh;rw[<- h8];have hm:cs'.length<=q-f:=by rw[h6];omega
    clear h8 h6 ht h3 hl hd
   case' true =>
    have hX:dy Tryz.prog 47 v=some (.int .i64 cs.length):=OwnC.lenF pI (by omega) (show Tryz.prog.underlying 47=some (.slice 53) by kernel_rfl) hh.snd;have hj:∀ y,isMap y=false->ab (H++[some y]) H.length=some y:=fun y hy=>by rw[bw rfl,hy];rfl
    have k6:isMap [V.int .i64 (a:Int),.int .i64 q,.int .i64 0,.int .i64 0,.int .i64 0]=false:=rfl;simp(disch:=omega)[hI,hl,h9,ht,s0,h3,hg,hq,ha,hd,hX,hj,-getElem?_pos];have k7:=bJ pI cs;refine bH (m:=1) (hh.push [some (dX (a,q))]).swap (LJ _) rfl rfl (by omega) (by omega) (by omega) (by omega) ?_;intro v H hh;obtain⟨cs',h6⟩:∃ cs',cs'=cs++[(a,q)]:=⟨_,rfl⟩;obtain⟨n',h8⟩:∃ n':Int,n'=cs.length:=⟨_,rfl⟩;rw[if_pos rfl,if_pos rfl,<- h6,<- h8]at h0;have hY:cs.flatMap dX++dX (a,q)=cs'.flatMap dX:=by rw[h6];simp
    replace hh:=hh.swap;replace hh:=(show Hp H _ [_,(5,v,cs.flatMap dX++dX (a,q))] from hh);rw[hY]at hh;rw[<- h8];have hm:cs'.length<=q-f:=by rw[h6];simp;omega
    simp(disch:=omega);clear h8 h6 ht h3 hl hd hY k7 hX hj k6
   all_goals
    obtain⟨F,hF⟩:∃ F,F=dn++List.replicate (q-a) n'++z0.drop (q-f):=⟨_,rfl⟩;have hZ:F.length=z0.length:=by rw[hF];simp;omega
    have g0:F.take (a-f)=dn:=by rw[hF,LD,LM (by omega),Lu (by omega)]
    have g1:F.take (q-f)=dn++List.replicate (q-a) n':=by rw[hF,LM (by simp;omega),Lu (by simp;omega)]
    have k8:∀ i,a<=i->i<q->F[i-f]?=some n':=fun i h1 h2=>by
     rw[hF,LD,Lk (by omega),Lf (by simp;omega),Ns,if_pos (by omega)]
    have hr:(dn++List.replicate (q-a) n').length=q-f:=by simp;omega
    rw[<- g1]at hr h0;rw[<- g0]at hh;clear hF g0 g1;refine ai (fun m fr H=>∃ (i:Nat),a<=i/\i<=q/\m=q-i /\
     Hp H [some (aO p),some (az x),some ((F.take (i-f)++z0.drop (i-f)).map (V.int .i64))] [(1,.sl bb 0 B.length B.length 1,B.map (V.int .i64)),(5,v,cs'.flatMap dX)] /\
     Slots 68 [(2,.ptr 0 0),(3,.ptr 1 0),(6,v),(7,.sl 2 0 (e-f) (e-f) 1),(8,.int .i64 i),(10,.int .i64 q),(11,.int .i64 n'),(26,.sl bb 0 B.length B.length 1),(27,.int .i64 B.length),(28,.int .i64 k)] fr) (m:=q-a) (by omega)
     ⟨a,by omega,by omega,rfl,hh,by simp⟩ ?_
    clear hh;rintro m fr H ⟨i,k9,z7,rfl,hh,hs⟩;obtain⟨j,rfl⟩:=hs.ex;clear hs;by_cases hE:i<q
    ·have hH:(i:Int)<q:=by omega
     have h3:ab H 1=some (az x):=by rw[hh.block (by simp)];simp[ab,h4]
     have hJ:ab H 2=some ((F.take (i-f)++z0.drop (i-f)).map (V.int .i64)):=by
      rw[hh.block (by simp)];show (if isMap _ then none else some _)=_;rw[dN];rfl
     have hK:=dp hZ (k8 i k9 hE);have g2:=@bj _ _ _ hZ (i-f);rw[hz]at g2;have eif:(i:Int)-f=((i-f:Nat):Int):=by omega
     have hle:i-f+1<=e-f:=by omega
     have w7:Cfg.wr ⟨0,[],0⟩ 2=true:=bq (LJ _);rw[show i-f+1=i+1-f by omega]at hK;have h7:=hh.set (b:=2) (by simp) (some ((F.take (i+1-f)++z0.drop (i+1-f)).map (V.int .i64)));rw[<- hK]at h7;generalize F.take (i-f)++z0.drop (i-f)=st at *;simp(disch:=omega)[hH,h3,hJ,hM,g2,hle,eif,w7,wrap64,-getElem?_pos];rw[MB]at h7;exact ae (m':=q-(i+1)) (by omega) ⟨i+1,by omega,by omega,rfl,by rw[<- hK,MB];exact h7,by simp(disch:=omega)⟩
    ·obtain rfl:i=q:=by omega
     have hH:¬ (i:Int)<i:=by omega
     simp(disch:=omega)[hH,wrap64,-getElem?_pos];exact ae (m':=B.length-(k+1)) (by omega) ⟨k+1,i,v,cs',F.take (i-f),by omega,by omega,by omega,hr,hm,by omega,rfl,h0,hh,by simp(disch:=omega)⟩
 ·obtain rfl:k=B.length:=by omega
  have hI:¬ ((B.length:Int)<B.length):=by omega
  obtain rfl:a=e:=by omega
  rw[Mr]at h0;have h0:(cs,dn)=R:=h0;subst h0;have w8:z0.drop (a-f)=[]:=List.drop_eq_nil_iff.2 (by omega);rw[w8,Mn]at hh;simp(disch:=omega)[hI];have f1:=OwnC.frzF (d:=3) pI (by omega) hh.snd (LJ _) (fun _=>rfl) (fun g c hc=>by simp[dX]at hc;rcases hc with rfl|rfl|rfl<;>simp);have hJ:ab H 2=some (dn.map (V.int .i64)):=by rw[hh.block (by simp)];simp[ab]
  have f2:=dx (d:=3) (n:=0) (cap:=a-f) hJ (LJ _) hS;rw[f1,f2];rfl
end Bi
end Go.Ab
