/- The program: Lines. -/
import Derived.Test.YtoappddifbgegaaGreatPaLs
set_option linter.all false
set_option maxHeartbeats 16000000
set_option maxRecDepth 100000
namespace Go.Ab
open Go.Proofs
namespace Bi
attribute [local congr] az
structure CtxA(prim:FuncId->Option Prim)(X:Txt):Prop extends CtxP prim X where
 hB:X.B=kE X.p.t X.C
 hC:∀ (d:Nat) (cfg:Cfg) (h:Heap),af md (K prim (d+4)) cfg 72 [rl X.p.t] h=some (il X.C,h)
 hLv:∀ (d:Nat) (cfg:Cfg) (h:Heap) (t:List Int),t.length<=2000->af md (K prim (d+1)) cfg 236 [rl t,.int .i64 X.p.b] h=some (il (X.lv t X.p.b),h)
 hsb:∀ s∈X.p.s,0<=s.f/\s.f<=2000/\0<=s.t/\s.t<=2000
 hVl:∀ (d:Nat) (cfg:Cfg) (h:Heap),af md (K prim (d+6)) cfg 105 [.agg (cY X.p),.lst (X.fs.map aG)] h=some (.int .i64 0,h)
section
variable {prim:FuncId->Option Prim}
theorem CtxA.ana{X:Txt}(C:CtxA prim X)(d:Nat)(H:Heap)(cfg:Cfg)(h4:cfg.lo<=H.length)(h0:cfg.thr<=H.length):
  ∃ h2 xb bb pb mw mu sv kv,af md (K prim (d+7)) cfg 106 [.agg (cY X.p),.lst (X.fs.map aG)] H=some (.ptr xb 0,h2)/\TxH X h2 xb bb pb mw mu sv kv [] []/\h2.take H.length=H/\H.length<=h2.length:=by
 obtain⟨r,h2,h3,B0,sv,kv,rfl,hh,hl,ht,hb,hw,hu⟩:=Ik (prim:=prim) d C.hp X C.hB C.hV.n C.hV.cl (C.hC d) (C.hC (d+1)) (C.hC (d+2)) C.hV.sn.2 (by have:=C.hV.sp;have:=C.hV.n;omega) C.hsb (C.hLv (d+4)) H cfg h4 h0;have hle:=hh.le;simp only[Ln,Lp,L3]at hle;have h6:isMap (txC X (.sl B0.length 0 (X.p.t.length+1) (X.p.t.length+1) 1) sv kv (H.length+2) (H.length+3) (H.length+4))=false:=rfl;have h7:isMap (X.bd.map V.bool)=false:=fL;have hg:∀ {q:Nat},q<B0.length->h2[q]?=B0[q]?:=fun {q} hq=>by
  have h1:(h2.take (B0++[some (X.bd.map V.bool),some (txC X (.sl B0.length 0 (X.p.t.length+1) (X.p.t.length+1) 1) sv kv (H.length+2) (H.length+3) (H.length+4))]).length)[q]?=(B0++[some (X.bd.map V.bool),some (txC X (.sl B0.length 0 (X.p.t.length+1) (X.p.t.length+1) 1) sv kv (H.length+2) (H.length+3) (H.length+4))])[q]?:=by rw[hh.take]
  rw[LI (by simp;omega),K8 hq]at h1;exact h1
 refine⟨h2,_,B0.length,H.length+2,H.length+3,H.length+4,sv,kv,h3,⟨?_,?_,?_,hh.snd.lo (LA _),hh.head.lo (LA _),?_,?_,by omega,?_,?_⟩,?_,by omega⟩
 ·rw[hh.block (by simp)];simp[ab,h6]
 ·rw[hh.block (by simp)];simp[ab,h7]
 ·rw[hh.block (by simp;omega),aj (by omega)];exact hb
 ·rw[hg (by omega)];exact hw
 ·rw[hg (by omega)];exact hu
 ·exact fun _ h=>by cases h
 ·exact fun _ h=>by cases h
 ·have h1:=congrArg (List.take H.length) hh.take;rw[NK,MD (by simp;omega),Mb (by omega),ht]at h1;exact h1
theorem CtxA.lines{X:Txt}(C:CtxA prim X)(d:Nat)(cfg:Cfg)(h:Heap):
  af md (K prim (d+17)) cfg 63 [.agg (cY X.p),.lst (X.fs.map aG)] h=some (.tup [.lst ((X.linA X.secs 0).map fu),.int .i64 0],h):=by
 refine aP rfl (C.hp 63 (by decide)) Tryz.func63 rfl rfl rfl (by simp[cY]) ?_;obtain⟨g0,g3,s0,s1,s2,s3,s4,l5,t5⟩:=pslP X.p;have hV:=C.hV;have h5:=C.h5;have hVl:=fun cfg h=>C.hVl (d+10) cfg h;obtain⟨H,xb,bb,pb,mw,mu,sv,kv,hN,hT,hHt,hHl⟩:=C.ana (d+9) [some (cY X.p)] ⟨0,[],0⟩ (by simp) (by simp);have g4:=hT.hx;obtain⟨x0,x1,x2,x3,x4,x5,x6,x7,x8,x9,x15,xl,xm⟩:=da X (.sl bb 0 (X.p.t.length+1) (X.p.t.length+1) 1) sv kv pb mw mu;have hu:Tryz.prog.underlying 154=some (.slice 158):=by kernel_rfl
 have h6:∀ k,(X.sec k).length=4:=fun _=>rfl;have hlen:=hT.hk.lenF h6 (by omega) hu;simp(disch:=omega)[g0,g3,l5,t5,hVl,hN,g4,x15,hlen];have hsl:=hV.secsL;have g5:=hV.secs;have hO:MW ⟨0,[],0⟩ H:=fun b cs _ _=>bH (by simp);have hP:∀ x:jl,(fu x).length=10:=fun _=>rfl;refine ah (fun m fr Hc=>∃ (i:Nat) (ov:V) (Ls:List jl) (es':fG) (eu':fV),i<=X.secs.length/\m=X.secs.length-i/\Ls.length<=100*i/\WOK X.fs es'/\UOK X.fs eu'/\(0<=Txt.hgt Ls/\Txt.hgt Ls<=Ls.length*15000000)/\X.linA X.secs 0=Ls++X.linA (X.secs.drop i) (Txt.hgt Ls)/\Hp Hc ((H.set mw (wB es')).set mu (uB eu')) [(10,ov,Ls.flatMap fu)] /\
  Slots 64 [(7,.ptr xb 0),(8,ov),(9,.int .i64 (Txt.hgt Ls)),(28,kv),(29,.int .i64 X.secs.length),(30,.int .i64 i)] fr) (m:=X.secs.length) (by omega)
  ⟨0,.nils,[],[],[],by omega,by omega,by simp,hT.hW,hT.hU,by simp[Txt.hgt],by simp[Txt.hgt],by rw[bE hT.hmw,bE hT.hmu];exact Hp.start.nil 10,by simp[Txt.hgt]⟩ ?_
 rintro m fr Hc ⟨i,ov,Ls,es',eu',hi,rfl,hf,hg,hh,hv,h0,h4,hs⟩;obtain⟨j,rfl⟩:=hs.ex;clear hs hN hVl;have h3:∀ {Hc:Heap} {es':fG} {eu':fV} {os:List Own},Hp Hc ((H.set mw (wB es')).set mu (uB eu')) os->Hp Hc ((H.set mw (wB es')).set mu (uB eu')++[]) os:=fun h=>by rw[Mg];exact h
 by_cases hz:i<X.secs.length
 ·have hI:(i:Int)<X.secs.length:=by omega
  have hw:=hT.ext (h3 h4) hg hh;obtain⟨kq,hQ,g6,g7,hl⟩:=hw.hk.posF h6 (by omega) (by omega);obtain⟨k,hk⟩:=atG hz;have g8:=g5 k (K6 hk);obtain⟨hA,hy,hR⟩:=g8;have g9:=fN (f:=X.sec) (n:=4) h6 hk;have k2:(X.secs.flatMap X.sec).length=X.secs.length*4:=cE (f:=X.sec) (n:=4) h6 _;have kl:(X.sec k).length=4:=rfl;have km:isMap (X.sec k)=false:=rfl;have kt:(X.sec k).take 4=X.sec k:=rfl;have kf:(∀ x∈X.sec k,x.leaf=true)=True:=eq_true (by simp[Txt.sec]);have kr:(∀ x∈X.sec k,x.rf=true)=True:=eq_true (by simp[Txt.sec]);have kp:putAt [V.int .i64 0,.int .i64 0,.int .i64 0,.nils] 0 (X.sec k)=X.sec k:=rfl;have k0:slot (X.sec k) 0=some (.int .i64 k.1):=rfl;have k1:slot (X.sec k) 1=some (.int .i64 k.2):=rfl;have q4:i*4+4<=X.secs.length*4:=by omega
  have hS:Cfg.wr ⟨0,[],0⟩ Hc.length=true:=bH (by simp);have hm:X.secs.drop i=k::X.secs.drop (i+1):=by
   rw[Lq hz];rw[K4 hz]at hk;rw[Nf hk]
  rw[hm,Txt.linA]at h0;have h7:X.linA X.secs 0=Ls++(X.rstK k true k.1 (Txt.hgt Ls)++X.linA (X.secs.drop (i+1)) (Txt.hgt Ls+Txt.hgt (X.rstK k true k.1 (Txt.hgt Ls)))):=by
   unfold Txt.rstK;rw[if_pos (.inl rfl)];exact h0
  have g1:=(h4.new (cs:=X.sec k) (n:=1) (k:=4) km kl []).swap;simp(disch:=omega)[hI,hQ,hl,g9,k2,q4,kl,km,kf,kp,k0,hS];generalize k3:Hc.length=kb at *;generalize Hc++[some (X.sec k)]=Hd at *;refine ah (fun m fr Hc=>∃ (s:Nat) (fst:Bool) (ov:V) (Ls:List jl) (es':fG) (eu':fV),k.1<=s/\s<=k.2/\m=(k.2-s)+(if fst=true then 1 else 0)/\Ls.length+(if fst=true then 1 else 0)<=100*i+(s-k.1)+1/\WOK X.fs es'/\UOK X.fs eu'/\(0<=Txt.hgt Ls/\Txt.hgt Ls<=Ls.length*15000000) /\
   X.linA X.secs 0=Ls++(X.rstK k fst s (Txt.hgt Ls)++X.linA (X.secs.drop (i+1)) (Txt.hgt Ls+Txt.hgt (X.rstK k fst s (Txt.hgt Ls)))) /\
   Hp Hc ((H.set mw (wB es')).set mu (uB eu')) [(10,ov,Ls.flatMap fu),(4,.sl kb 0 1 1 4,X.sec k)] /\
   Slots 64 [(7,.ptr xb 0),(8,ov),(9,.int .i64 (Txt.hgt Ls)),(11,.ptr kb 0),(12,.int .i64 s),(13,.bool fst),(28,.sl kq 0 X.secs.length X.secs.length 4),(29,.int .i64 X.secs.length),(30,.int .i64 i)] fr) (m:=k.2-k.1+1) (by omega)
   ⟨k.1,true,ov,Ls,es',eu',by omega,hA,by simp,by simp;omega,hg,hh,hv,h7,g1,by simp⟩ ?_
  clear h0 h7 g1 h4 hv hf hg hh hw hl hS k3;rintro m fr Hc ⟨s,fst,ov,Ls,es',eu',hn,hD,rfl,hf,hg,hh,hv,h0,h4,hs⟩;obtain⟨j2,rfl⟩:=hs.ex;clear hs;have ha:=h4.snd.at.2.2.1;by_cases hj:fst=true\/s<k.2
  ·rw[BW ⟨hA,hy,hR⟩ hn hD hj]at h0;have hq:=iG (X:=X) ⟨hA,hy,hR⟩ hD;have hw:=hT.ext (h3 h4) hg hh;have k4:=hT.mw hO (by simp) (h3 h4);obtain⟨_,_,k5,rfl,es2,eu2,k6,k7,rfl⟩:=C.fin (d+1) hw (k:=k) (s:=s) hn hD hy ⟨0,[],0⟩ k4 (by simp);have hr:=(h4.set (b:=mw) (by simp;exact (K5.1 hT.hmw).1) (wB es2)).set (b:=mu) (by simp;exact (K5.1 hT.hmu).1) (uB eu2);have hE:(((H.set mw (wB es')).set mu (uB eu')).set mw (wB es2)).set mu (uB eu2)=(H.set mw (wB es2)).set mu (uB eu2):=by
    have:=fS (A:=wB es') (A':=wB es2) (C:=uB eu') (C':=uB eu2) (S:=[]) (K5.1 hT.hmw).1 (K5.1 hT.hmu).1;simpa using this
   rw[hE]at hr;have k8:((Hc.set mw (wB es2)).set mu (uB eu2)).length=Hc.length:=by simp
   generalize (Hc.set mw (wB es2)).set mu (uB eu2)=Hd at *;have k9:=hT.ext (h3 hr) k6 k7;have w7:=hT.mw hO (by simp) (h3 hr);have hyb:Ls.length<=9300:=by omega
   obtain⟨_,_,hX,rfl,es3,eu3,w8,w9,rfl⟩:=C.lin (d+2) k9 (k:=k) (s:=s) (t:=X.fin k s) hn hq.1 hq.2.1 hy (Txt.hgt Ls) (by omega) ⟨0,[],0⟩ w7 (by simp);have hF:=hr.snd.at.2.2.1;have hY:=(hr.set (b:=mw) (by simp;exact (K5.1 hT.hmw).1) (wB es3)).set (b:=mu) (by simp;exact (K5.1 hT.hmu).1) (uB eu3);have hH:(((H.set mw (wB es2)).set mu (uB eu2)).set mw (wB es3)).set mu (uB eu3)=(H.set mw (wB es3)).set mu (uB eu3):=by
    have:=fS (A:=wB es2) (A':=wB es3) (C:=uB eu2) (C':=uB eu3) (S:=[]) (K5.1 hT.hmw).1 (K5.1 hT.hmu).1;simpa using this
   rw[hH]at hY;have z0:((Hd.set mw (wB es3)).set mu (uB eu3)).length=Hd.length:=by simp
   generalize (Hd.set mw (wB es3)).set mu (uB eu3)=He at *;have hlH:=hV.linH k s (X.fin k s) (Txt.hgt Ls) h5;have z1:linG (X.lin k s (X.fin k s) (Txt.hgt Ls))=fu (X.lin k s (X.fin k s) (Txt.hgt Ls)):=rfl;rw[z1]at hX;have hd:(fu (X.lin k s (X.fin k s) (Txt.hgt Ls))).length=10:=rfl;have he:isMap (fu (X.lin k s (X.fin k s) (Txt.hgt Ls)))=false:=rfl;have hJ:(fu (X.lin k s (X.fin k s) (Txt.hgt Ls))).take 10=fu (X.lin k s (X.fin k s) (Txt.hgt Ls)):=rfl;have hK:(∀ x∈fu (X.lin k s (X.fin k s) (Txt.hgt Ls)),x.leaf=true)=True:=eq_true (by simp[fu,bK]);have z2:(∀ x∈fu (X.lin k s (X.fin k s) (Txt.hgt Ls)),x.rf=true)=True:=eq_true (by simp[fu,bK]);have z3:putAt [V.int .i64 0,.int .i64 0,.int .i64 0,.int .i64 0,.int .i64 0,.int .i64 0,.int .i64 0,.int .i64 0,.int .i64 0,.nils] 0 (fu (X.lin k s (X.fin k s) (Txt.hgt Ls)))=fu (X.lin k s (X.fin k s) (Txt.hgt Ls)):=rfl;have z4:slot (fu (X.lin k s (X.fin k s) (Txt.hgt Ls))) 8=some (.int .i64 (X.lin k s (X.fin k s) (Txt.hgt Ls)).l.h):=rfl;have hL:Txt.hgt (Ls++[X.lin k s (X.fin k s) (Txt.hgt Ls)])=Txt.hgt Ls+(X.lin k s (X.fin k s) (Txt.hgt Ls)).l.h:=Dk;have ht:Txt.hgt (X.lin k s (X.fin k s) (Txt.hgt Ls)::X.rstK k false (X.fin k s) (Txt.hgt Ls+(X.lin k s (X.fin k s) (Txt.hgt Ls)).l.h))=(X.lin k s (X.fin k s) (Txt.hgt Ls)).l.h+Txt.hgt (X.rstK k false (X.fin k s) (Txt.hgt Ls+(X.lin k s (X.fin k s) (Txt.hgt Ls)).l.h)):=by simp[Txt.hgt]
   rw[ht]at h0;generalize X.lin k s (X.fin k s) (Txt.hgt Ls)=xl0 at *;have h8:(Ls.flatMap fu).length=Ls.length*10:=cE (f:=fu) (n:=10) hP _;have z5:Cfg.wr ⟨0,[],0⟩ He.length=true:=bH (by simp);simp +contextual (disch:=first|omega|(simp;done)|(simp[Le];done)|fail) [-au,cu,aw,aD,cp,-getElem?_pos,ha,k1];refine ar (fun hb=>?_) (fun hb=>?_)
   ·simp(disch:=omega)[ha,hF,kl,kt,k5,hX,hd,he,hJ,hK,z3,z5];have g2:=(hY.new (cs:=fu xl0) (n:=1) (k:=10) he hd [some (fu xl0)]).swap;refine cg (m:=1) g2 (by simp) (by rw[hd]) he (by omega) (by omega) (by rw[h8];omega) (by rw[h8];omega) ?_;intro ov' H' hZ;have hM:ab H' He.length=some (fu xl0):=hZ.snd.at.2.2.1;simp(disch:=omega)[hM,z4,wrap64,-getElem?_pos];refine ae (m':=k.2-X.fin k s) ?_ ⟨X.fin k s,false,ov',Ls++[xl0],es3,eu3,by omega,hq.2.1,by simp,?_,w8,w9,?_,?_,?_,?_⟩
    ·rcases hj with h|h
     ·rw[h];simp;omega
     ·have:=hq.2.2 hn h;omega
    ·simp;rcases fst with _|_
     ·have h9:s<k.2:=by simpa using hj
      have:=hq.2.2 hn h9;simp at hf;omega
     ·simp at hf;omega
    ·rw[hL,Ln,LZ];omega
    ·rw[h0,hL];simp[Int.add_assoc]
    ·have:=hZ.drop (os':=[(10,ov',Ls.flatMap fu++fu xl0),(4,.sl kb 0 1 1 4,X.sec k)]) (((Oh _).cons _).cons_cons _);simpa using this
    ·rw[hL];simp(disch:=omega)
   ·exfalso;rcases hj with h|h
    ·simp[h]at hb
    ·simp at hb;omega
  ·have z6:fst=false:=by
    cases fst with
    | true=>exact absurd (.inl rfl) hj
    | false=>rfl
   have z7:¬ ((s:Int)<k.2):=by omega
   have z8:X.rstK k fst s (Txt.hgt Ls)=[]:=by unfold Txt.rstK;rw[if_neg hj]
   rw[z8,Mp,show Txt.hgt []=0 from rfl,NZ]at h0;rw[z6]at hf ⊢;simp +contextual (disch:=first|omega|(simp;done)|(simp[Le];done)|fail) [-au,cu,aw,aD,wrap64,-getElem?_pos,ha,k1,z7];exact ae (m':=X.secs.length-(i+1)) (by omega) ⟨i+1,ov,Ls,es',eu',by omega,by omega,by simp at hf;omega,hg,hh,hv,h0,h4.drop ((Nr _).cons_cons _),by rw[hQ];simp(disch:=omega)⟩
 ·obtain rfl:i=X.secs.length:=by omega
  have hI:¬ ((X.secs.length:Int)<X.secs.length):=by omega
  rw[Mi,Txt.linA,Mg]at h0;have z9:frz Hc 0 5 ov=some (.lst (Ls.map fu)):=OwnC.frzF (d:=3) hP (by omega) h4.head (LA _) (fun _=>rfl) (fun x c hc=>by simp[fu,bK]at hc;rcases hc with rfl|rfl|rfl|rfl|rfl|rfl|rfl|rfl|rfl|rfl<;>simp);simp(disch:=omega)[hI,z9];rw[h0]
end
end Bi
end Go.Ab
