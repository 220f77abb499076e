/- The program: Lines. -/
import Derived.Test.YtldfgkjmficliaaGreatPaLs
set_option linter.unusedSimpArgs false
set_option linter.unusedVariables false
namespace Go.Ab
open Go.Proofs
namespace Bi
attribute [local congr] az
structure CtxA(prim:FuncId→Option Prim)(X:Txt):Prop extends CtxP prim X where
 hB:X.B=dI X.p.t X.C
 hC:∀ (d:Nat) (cfg:Cfg) (h:Heap),af md (K prim (d+4)) cfg 51 [rl X.p.t] h=some (il X.C,h)
 hLv:∀ (d:Nat) (cfg:Cfg) (h:Heap) (t:List Int),t.length≤2000→af md (K prim (d+1)) cfg 68 [rl t,.int .i64 X.p.b] h=some (il (X.lv t X.p.b),h)
 hsb:∀ s∈X.p.s,0≤s.f∧s.f≤2000∧0≤s.t∧s.t≤2000
 hVl:∀ (d:Nat) (cfg:Cfg) (h:Heap),af md (K prim (d+6)) cfg 24 [.agg (cF X.p),.lst (X.fs.map aH)] h=some (.int .i64 0,h)
section
variable {prim:FuncId→Option Prim}
theorem CtxA.ana{X:Txt}(C:CtxA prim X)(d:Nat)(H:Heap)(cfg:Cfg)(hlo:cfg.lo≤H.length)(hthr:cfg.thr≤H.length):
  ∃ h2 xb bb pb mw mu sv kv,af md (K prim (d+7)) cfg 25 [.agg (cF X.p),.lst (X.fs.map aH)] H=some (.ptr xb 0,h2)∧TxH X h2 xb bb pb mw mu sv kv [] []∧h2.take H.length=H∧H.length≤h2.length:=by
 obtain⟨r,h2,h3,B0,sv,kv,rfl,hh,hl,ht,hb,hw,hu⟩:=GY (prim:=prim) d C.hp X C.hB C.hV.n C.hV.cl (C.hC d) (C.hC (d+1)) (C.hC (d+2)) C.hV.sn.2 (by have:=C.hV.sp;have:=C.hV.n;omega) C.hsb (C.hLv (d+4)) H cfg hlo hthr
 have hle:=hh.le
 simp only[List.length_append,List.length_cons,List.length_nil]at hle
 have hmT:isMap (txC X (.sl B0.length 0 (X.p.t.length+1) (X.p.t.length+1) 1) sv kv (H.length+2) (H.length+3) (H.length+4))=false:=rfl
 have hmB:isMap (X.bd.map V.bool)=false:=fD
 have hg:∀ {q:Nat},q<B0.length→h2[q]?=B0[q]?:=fun {q} hq=>by
  have h1:(h2.take (B0++[some (X.bd.map V.bool),some (txC X (.sl B0.length 0 (X.p.t.length+1) (X.p.t.length+1) 1) sv kv (H.length+2) (H.length+3) (H.length+4))]).length)[q]?=(B0++[some (X.bd.map V.bool),some (txC X (.sl B0.length 0 (X.p.t.length+1) (X.p.t.length+1) 1) sv kv (H.length+2) (H.length+3) (H.length+4))])[q]?:=by rw[hh.take]
  rw[List.getElem?_take_of_lt (by simp;omega),List.getElem?_append_left hq]at h1
  exact h1
 refine⟨h2,_,B0.length,H.length+2,H.length+3,H.length+4,sv,kv,h3,⟨?_,?_,?_,hh.snd.lo (Nat.zero_le _),hh.head.lo (Nat.zero_le _),?_,?_,by omega,?_,?_⟩,?_,by omega⟩
 ·rw[hh.block (by simp)];simp[ab,hmT]
 ·rw[hh.block (by simp)];simp[ab,hmB]
 ·rw[hh.block (by simp;omega),al (by omega)];exact hb
 ·rw[hg (by omega)];exact hw
 ·rw[hg (by omega)];exact hu
 ·exact fun _ h=>by cases h
 ·exact fun _ h=>by cases h
 ·have h1:=congrArg (List.take H.length) hh.take
  rw[List.take_take,Nat.min_eq_left (by simp;omega),List.take_append_of_le_length (by omega),ht]at h1
  exact h1
set_option maxRecDepth 100000 in
set_option maxHeartbeats 16000000 in
theorem CtxA.lines{X:Txt}(C:CtxA prim X)(d:Nat)(cfg:Cfg)(h:Heap):
  af md (K prim (d+17)) cfg 7 [.agg (cF X.p),.lst (X.fs.map aH)] h=some (.tup [.lst ((X.linA X.secs 0).map bQ),.int .i64 0],h):=by
 refine bo rfl (C.hp 7 (by decide)) Tryz.func7 rfl rfl rfl (by simp[cF]) ?_
 obtain⟨hlf,hmp,s0,s1,s2,s3,s4,l5,t5⟩:=pslP X.p
 have hV:=C.hV
 have h5:=C.h5
 have hVl:=fun cfg h=>C.hVl (d+10) cfg h
 obtain⟨H,xb,bb,pb,mw,mu,sv,kv,hAn,hT,hHt,hHl⟩:=C.ana (d+9) [some (cF X.p)] ⟨0,[],0⟩ (by simp) (by simp)
 have hxb:=hT.hx
 obtain⟨x0,x1,x2,x3,x4,x5,x6,x7,x8,x9,x15,xl,xm⟩:=dh X (.sl bb 0 (X.p.t.length+1) (X.p.t.length+1) 1) sv kv pb mw mu
 have hu:Tryz.prog.underlying 71=some (.slice 75):=by kernel_rfl
 have hseL:∀ k,(X.sec k).length=4:=fun _=>rfl
 have hlen:=hT.hk.lenF hseL (by omega) hu
 simp(disch:=omega)[hlf,hmp,l5,t5,hVl,hAn,hxb,x15,hlen]
 have hsl:=hV.secsL
 have hsV:=hV.secs
 have hM0:MW ⟨0,[],0⟩ H:=fun b cs _ _=>bE (by simp)
 have hlk:∀ x:cQ,(bQ x).length=10:=fun _=>rfl
 refine aj (fun m fr Hc=>∃ (i:Nat) (ov:V) (Ls:List cQ) (es':fx) (eu':fL),i≤X.secs.length∧m=X.secs.length-i∧Ls.length≤100*i∧WOK X.fs es'∧UOK X.fs eu'∧(0≤Txt.hgt Ls∧Txt.hgt Ls≤Ls.length*15000000)∧X.linA X.secs 0=Ls++X.linA (X.secs.drop i) (Txt.hgt Ls)∧Hp Hc ((H.set mw (wB es')).set mu (uB eu')) [(10,ov,Ls.flatMap bQ)] ∧
  Slots 64 [(7,.ptr xb 0),(8,ov),(9,.int .i64 (Txt.hgt Ls)),(28,kv),(29,.int .i64 X.secs.length),(30,.int .i64 i)] fr) (m:=X.secs.length) (by omega)
  ⟨0,.nils,[],[],[],by omega,by omega,by simp,hT.hW,hT.hU,by simp[Txt.hgt],by simp[Txt.hgt],by rw[bI hT.hmw,bI hT.hmu];exact Hp.start.nil 10,by simp[Txt.hgt]⟩ ?_
 rintro m fr Hc ⟨i,ov,Ls,es',eu',hi,rfl,hLn,hW',hU',hhb,hlin,hhp,hs⟩
 obtain⟨j,rfl⟩:=hs.ex
 clear hs hAn hVl
 have hhp0:∀ {Hc:Heap} {es':fx} {eu':fL} {os:List Own},Hp Hc ((H.set mw (wB es')).set mu (uB eu')) os→Hp Hc ((H.set mw (wB es')).set mu (uB eu')++[]) os:=fun h=>by rw[List.append_nil];exact h
 by_cases hlt:i<X.secs.length
 ·have hI:(i:Int)<X.secs.length:=by omega
  have hT1:=hT.ext (hhp0 hhp) hW' hU'
  obtain⟨kq,hkv,hkq1,hkq2,hkq3⟩:=hT1.hk.posF hseL (by omega) (by omega)
  obtain⟨k,hk⟩:=atG hlt
  have hkV:=hsV k (List.mem_of_getElem? hk)
  obtain⟨hk1,hk2,hk3⟩:=hkV
  have hft:=fE (f:=X.sec) (n:=4) hseL hk
  have hfl:(X.secs.flatMap X.sec).length=X.secs.length*4:=cX (f:=X.sec) (n:=4) hseL _
  have kl:(X.sec k).length=4:=rfl
  have km:isMap (X.sec k)=false:=rfl
  have kt:(X.sec k).take 4=X.sec k:=rfl
  have kf:(∀ x∈X.sec k,x.leaf=true)=True:=eq_true (by simp[Txt.sec])
  have kr:(∀ x∈X.sec k,x.rf=true)=True:=eq_true (by simp[Txt.sec])
  have kp:putAt [V.int .i64 0,.int .i64 0,.int .i64 0,.nils] 0 (X.sec k)=X.sec k:=rfl
  have k0:slot (X.sec k) 0=some (.int .i64 k.1):=rfl
  have k1:slot (X.sec k) 1=some (.int .i64 k.2):=rfl
  have q4:i*4+4≤X.secs.length*4:=by omega
  have hwH:Cfg.wr ⟨0,[],0⟩ Hc.length=true:=bE (by simp)
  have hdrop:X.secs.drop i=k::X.secs.drop (i+1):=by
   rw[List.drop_eq_getElem_cons hlt]
   rw[List.getElem?_eq_getElem hlt]at hk
   rw[Option.some.inj hk]
  rw[hdrop,Txt.linA]at hlin
  have hlin0:X.linA X.secs 0=Ls++(X.rstK k true k.1 (Txt.hgt Ls)++X.linA (X.secs.drop (i+1)) (Txt.hgt Ls+Txt.hgt (X.rstK k true k.1 (Txt.hgt Ls)))):=by
   unfold Txt.rstK
   rw[if_pos (.inl rfl)]
   exact hlin
  have g1:=(hhp.new (cs:=X.sec k) (n:=1) (k:=4) km kl []).swap
  simp(disch:=omega)[hI,hkv,hkq3,hft,hfl,q4,kl,km,kf,kp,k0,hwH]
  generalize hkb:Hc.length=kb at *
  generalize Hc++[some (X.sec k)]=Hd at *
  refine aj (fun m fr Hc=>∃ (s:Nat) (fst:Bool) (ov:V) (Ls:List cQ) (es':fx) (eu':fL),k.1≤s∧s≤k.2∧m=(k.2-s)+(if fst=true then 1 else 0)∧Ls.length+(if fst=true then 1 else 0)≤100*i+(s-k.1)+1∧WOK X.fs es'∧UOK X.fs eu'∧(0≤Txt.hgt Ls∧Txt.hgt Ls≤Ls.length*15000000) ∧
   X.linA X.secs 0=Ls++(X.rstK k fst s (Txt.hgt Ls)++X.linA (X.secs.drop (i+1)) (Txt.hgt Ls+Txt.hgt (X.rstK k fst s (Txt.hgt Ls)))) ∧
   Hp Hc ((H.set mw (wB es')).set mu (uB eu')) [(10,ov,Ls.flatMap bQ),(4,.sl kb 0 1 1 4,X.sec k)] ∧
   Slots 64 [(7,.ptr xb 0),(8,ov),(9,.int .i64 (Txt.hgt Ls)),(11,.ptr kb 0),(12,.int .i64 s),(13,.bool fst),(28,.sl kq 0 X.secs.length X.secs.length 4),(29,.int .i64 X.secs.length),(30,.int .i64 i)] fr) (m:=k.2-k.1+1) (by omega)
   ⟨k.1,true,ov,Ls,es',eu',by omega,hk1,by simp,by simp;omega,hW',hU',hhb,hlin0,g1,by simp⟩ ?_
  clear hlin hlin0 g1 hhp hhb hLn hW' hU' hT1 hkq3 hwH hkb
  rintro m fr Hc ⟨s,fst,ov,Ls,es',eu',hs1,hs2,rfl,hLn,hW',hU',hhb,hlin,hhp,hs⟩
  obtain⟨j2,rfl⟩:=hs.ex
  clear hs
  have hkb3:=hhp.snd.at.2.2.1
  by_cases hgo:fst=true∨s<k.2
  ·rw[AL ⟨hk1,hk2,hk3⟩ hs1 hs2 hgo]at hlin
   have hfr:=fy (X:=X) ⟨hk1,hk2,hk3⟩ hs2
   have hT1:=hT.ext (hhp0 hhp) hW' hU'
   have hM1:=hT.mw hM0 (by simp) (hhp0 hhp)
   obtain⟨_,_,hFi,rfl,es2,eu2,hW2,hU2,rfl⟩:=C.fin (d+1) hT1 (k:=k) (s:=s) hs1 hs2 hk2 ⟨0,[],0⟩ hM1 (by simp)
   have hh2:=(hhp.set (b:=mw) (by simp;exact (List.getElem?_eq_some_iff.1 hT.hmw).1) (wB es2)).set (b:=mu) (by simp;exact (List.getElem?_eq_some_iff.1 hT.hmu).1) (uB eu2)
   have hst0:(((H.set mw (wB es')).set mu (uB eu')).set mw (wB es2)).set mu (uB eu2)=(H.set mw (wB es2)).set mu (uB eu2):=by
    have:=fI (A:=wB es') (A':=wB es2) (C:=uB eu') (C':=uB eu2) (S:=[]) (List.getElem?_eq_some_iff.1 hT.hmw).1 (List.getElem?_eq_some_iff.1 hT.hmu).1
    simpa using this
   rw[hst0]at hh2
   have hln2:((Hc.set mw (wB es2)).set mu (uB eu2)).length=Hc.length:=by simp
   generalize (Hc.set mw (wB es2)).set mu (uB eu2)=Hd at *
   have hT2:=hT.ext (hhp0 hh2) hW2 hU2
   have hM2:=hT.mw hM0 (by simp) (hhp0 hh2)
   have hyb:Ls.length≤9300:=by omega
   obtain⟨_,_,hLi,rfl,es3,eu3,hW3,hU3,rfl⟩:=C.lin (d+2) hT2 (k:=k) (s:=s) (t:=X.fin k s) hs1 hfr.1 hfr.2.1 hk2 (Txt.hgt Ls) (by omega) ⟨0,[],0⟩ hM2 (by simp)
   have hkb4:=hh2.snd.at.2.2.1
   have hh3:=(hh2.set (b:=mw) (by simp;exact (List.getElem?_eq_some_iff.1 hT.hmw).1) (wB es3)).set (b:=mu) (by simp;exact (List.getElem?_eq_some_iff.1 hT.hmu).1) (uB eu3)
   have hst1:(((H.set mw (wB es2)).set mu (uB eu2)).set mw (wB es3)).set mu (uB eu3)=(H.set mw (wB es3)).set mu (uB eu3):=by
    have:=fI (A:=wB es2) (A':=wB es3) (C:=uB eu2) (C':=uB eu3) (S:=[]) (List.getElem?_eq_some_iff.1 hT.hmw).1 (List.getElem?_eq_some_iff.1 hT.hmu).1
    simpa using this
   rw[hst1]at hh3
   have hln3:((Hd.set mw (wB es3)).set mu (uB eu3)).length=Hd.length:=by simp
   generalize (Hd.set mw (wB es3)).set mu (uB eu3)=He at *
   have hlH:=hV.linH k s (X.fin k s) (Txt.hgt Ls) h5
   have hLF:linG (X.lin k s (X.fin k s) (Txt.hgt Ls))=bQ (X.lin k s (X.fin k s) (Txt.hgt Ls)):=rfl
   rw[hLF]at hLi
   have hxlF:(bQ (X.lin k s (X.fin k s) (Txt.hgt Ls))).length=10:=rfl
   have hxlm:isMap (bQ (X.lin k s (X.fin k s) (Txt.hgt Ls)))=false:=rfl
   have hxlt:(bQ (X.lin k s (X.fin k s) (Txt.hgt Ls))).take 10=bQ (X.lin k s (X.fin k s) (Txt.hgt Ls)):=rfl
   have hxlf:(∀ x∈bQ (X.lin k s (X.fin k s) (Txt.hgt Ls)),x.leaf=true)=True:=eq_true (by simp[bQ,bH])
   have hxlr:(∀ x∈bQ (X.lin k s (X.fin k s) (Txt.hgt Ls)),x.rf=true)=True:=eq_true (by simp[bQ,bH])
   have hxp:putAt [V.int .i64 0,.int .i64 0,.int .i64 0,.int .i64 0,.int .i64 0,.int .i64 0,.int .i64 0,.int .i64 0,.int .i64 0,.nils] 0 (bQ (X.lin k s (X.fin k s) (Txt.hgt Ls)))=bQ (X.lin k s (X.fin k s) (Txt.hgt Ls)):=rfl
   have hx8:slot (bQ (X.lin k s (X.fin k s) (Txt.hgt Ls))) 8=some (.int .i64 (X.lin k s (X.fin k s) (Txt.hgt Ls)).l.h):=rfl
   have hHs:Txt.hgt (Ls++[X.lin k s (X.fin k s) (Txt.hgt Ls)])=Txt.hgt Ls+(X.lin k s (X.fin k s) (Txt.hgt Ls)).l.h:=Ca
   have hcons:Txt.hgt (X.lin k s (X.fin k s) (Txt.hgt Ls)::X.rstK k false (X.fin k s) (Txt.hgt Ls+(X.lin k s (X.fin k s) (Txt.hgt Ls)).l.h))=(X.lin k s (X.fin k s) (Txt.hgt Ls)).l.h+Txt.hgt (X.rstK k false (X.fin k s) (Txt.hgt Ls+(X.lin k s (X.fin k s) (Txt.hgt Ls)).l.h)):=by simp[Txt.hgt]
   rw[hcons]at hlin
   generalize X.lin k s (X.fin k s) (Txt.hgt Ls)=xl0 at *
   have hfl10:(Ls.flatMap bQ).length=Ls.length*10:=cX (f:=bQ) (n:=10) hlk _
   have hwE:Cfg.wr ⟨0,[],0⟩ He.length=true:=bE (by simp)
   simp +contextual (disch:=first|omega|(simp;done)|(simp[Decidable.imp_iff_not_or];done)|fail) [-ao,bM,aq,ax,bC,-getElem?_pos,hkb3,k1]
   refine ak (fun hb=>?_) (fun hb=>?_)
   ·simp(disch:=omega)[hkb3,hkb4,kl,kt,hFi,hLi,hxlF,hxlm,hxlt,hxlf,hxp,hwE]
    have g2:=(hh3.new (cs:=bQ xl0) (n:=1) (k:=10) hxlm hxlF [some (bQ xl0)]).swap
    refine bZ (m:=1) g2 (by simp) (by rw[hxlF]) hxlm (by omega) (by omega) (by rw[hfl10];omega) (by rw[hfl10];omega) ?_
    intro ov' H' hh4
    have hbx4:ab H' He.length=some (bQ xl0):=hh4.snd.at.2.2.1
    simp(disch:=omega)[hbx4,hx8,wrap64,-getElem?_pos]
    refine ae (m':=k.2-X.fin k s) ?_ ⟨X.fin k s,false,ov',Ls++[xl0],es3,eu3,by omega,hfr.2.1,by simp,?_,hW3,hU3,?_,?_,?_,?_⟩
    ·rcases hgo with h|h
     ·rw[h];simp;omega
     ·have:=hfr.2.2 hs1 h;omega
    ·simp
     rcases fst with _|_
     ·have h9:s<k.2:=by simpa using hgo
      have:=hfr.2.2 hs1 h9
      simp at hLn
      omega
     ·simp at hLn
      omega
    ·rw[hHs,List.length_append,List.length_singleton]
     omega
    ·rw[hlin,hHs]
     simp[Int.add_assoc]
    ·have:=hh4.drop (os':=[(10,ov',Ls.flatMap bQ++bQ xl0),(4,.sl kb 0 1 1 4,X.sec k)]) (((List.Sublist.refl _).cons _).cons_cons _)
     simpa using this
    ·rw[hHs]
     simp(disch:=omega)
   ·exfalso
    rcases hgo with h|h
    ·simp[h]at hb
    ·simp at hb
     omega
  ·have hf0:fst=false:=by
    cases fst with
    | true=>exact absurd (.inl rfl) hgo
    | false=>rfl
   have hs0:¬ ((s:Int)<k.2):=by omega
   have hr0:X.rstK k fst s (Txt.hgt Ls)=[]:=by unfold Txt.rstK;rw[if_neg hgo]
   rw[hr0,List.nil_append,show Txt.hgt []=0 from rfl,Int.add_zero]at hlin
   rw[hf0]at hLn ⊢
   simp +contextual (disch:=first|omega|(simp;done)|(simp[Decidable.imp_iff_not_or];done)|fail) [-ao,bM,aq,ax,wrap64,-getElem?_pos,hkb3,k1,hs0]
   exact ae (m':=X.secs.length-(i+1)) (by omega) ⟨i+1,ov,Ls,es',eu',by omega,by omega,by simp at hLn;omega,hW',hU',hhb,hlin,hhp.drop ((List.nil_sublist _).cons_cons _),by rw[hkv];simp(disch:=omega)⟩
 ·obtain rfl:i=X.secs.length:=by omega
  have hI:¬ ((X.secs.length:Int)<X.secs.length):=by omega
  rw[List.drop_length,Txt.linA,List.append_nil]at hlin
  have hfz:frz Hc 0 5 ov=some (.lst (Ls.map bQ)):=OwnC.frzF (d:=3) hlk (by omega) hhp.head (Nat.zero_le _) (fun _=>rfl) (fun x c hc=>by simp[bQ,bH]at hc;rcases hc with rfl|rfl|rfl|rfl|rfl|rfl|rfl|rfl|rfl|rfl<;>simp)
  simp(disch:=omega)[hI,hfz]
  rw[hlin]
end
end Bi
end Go.Ab
