/- Several texts of this proof in one. -/
import Derived.Test.YteddnfbjjbcmgaaGreatPaLq
import Derived.Test.YteddnfbjjbcmgaaGreatPaFl
import Derived.Test.YteddnfbjjbcmgaaGreatPaCl
set_option linter.unusedSimpArgs false
set_option linter.unusedVariables false
namespace Go.Ab
open Go.Proofs
namespace Bi
attribute [local congr] ay
namespace Txt
variable (X:Txt)
def leaK(k:Nat×Nat):Nat→Int→List Nat→Int
 | _,n,[]=>n
 | s,n,t::l=>if lgI X.B (t-1)=0 then leaK k s n l else leaK k t (max n (X.fit k s t)) l
def leaA:List (Nat×Nat)→Int→Int
 | [],n=>n
 | k::l,n=>leaA l (X.leaK k k.1 n (tsL k.1 (k.2-k.1)))
def mosK(k:Nat×Nat):Int→List Nat→Int
 | n,[]=>n
 | n,t::l=>if lgI X.B (t-1)=0 then mosK k n l else mosK k (max n (X.fit k k.1 t)) l
def mosA:List (Nat×Nat)→Int→Int
 | [],n=>n
 | k::l,n=>mosA l (X.mosK k n (tsL k.1 (k.2-k.1)))
end Txt
section
variable {prim:FuncId→Option Prim}
set_option maxRecDepth 100000 in
set_option maxHeartbeats 16000000 in
theorem CtxA.lea{X:Txt}(C:CtxA prim X)(d:Nat)(cfg:Cfg)(h:Heap):
  af md (K prim (d+17)) cfg 12 [.agg (bU X.p),.lst (X.fs.map aD)] h=some (.int .i64 (X.leaA X.secs 0),h):=by
 refine aZ rfl (C.hp 12 (by decide)) Tryz.func12 rfl rfl rfl (by simp[bU]) ?_
 obtain⟨hlf,hmp,s0,s1,s2,s3,s4,l5,t5⟩:=qA X.p
 have hV:=C.hV
 have h5:=C.h5
 have hVl:=fun cfg h=>C.hVl (d+10) cfg h
 obtain⟨H,xb,bb,pb,mw,mu,sv,kv,hAn,hT,hHt,hHl⟩:=C.ana (d+9) [some (bU X.p)] ⟨0,[],0⟩ (by simp) (by simp)
 have hxb:=hT.hx
 obtain⟨x0,x1,x2,x3,x4,x5,x6,x7,x8,x9,x15,xl,xm⟩:=cQ X (.sl bb 0 (X.p.t.length+1) (X.p.t.length+1) 1) sv kv pb mw mu
 have hu:Tryz.prog.underlying 70=some (.slice 74):=by kernel_rfl
 have hseL:∀ k,(X.sec k).length=4:=fun _=>rfl
 have hlen:=hT.hk.lenF hseL (by omega) hu
 simp(disch:=omega)[hlf,hmp,l5,t5,hVl,hAn,hxb,x15,hlen]
 have hsl:=hV.secsL
 have hsV:=hV.secs
 have hM0:MW ⟨0,[],0⟩ H:=fun b cs _ _=>aP (by simp)
 refine ah (fun m fr Hc=>∃ (i:Nat) (n:Int) (es':et) (eu':ez),i≤X.secs.length∧m=X.secs.length-i∧WOK X.fs es'∧UOK X.fs eu'∧(0≤n∧n≤81000000000)∧X.leaA X.secs 0=X.leaA (X.secs.drop i) n∧Hp Hc ((H.set mw (wB es')).set mu (uB eu')) [] ∧
  Slots 56 [(5,.ptr xb 0),(6,.int .i64 n),(21,kv),(22,.int .i64 X.secs.length),(23,.int .i64 i)] fr) (m:=X.secs.length) (by omega)
  ⟨0,0,[],[],by omega,by omega,hT.hW,hT.hU,by omega,by simp,by rw[bE hT.hmw,bE hT.hmu];exact Hp.start,by simp⟩ ?_
 rintro m fr Hc ⟨i,n,es',eu',hi,rfl,hW',hU',hhb,hlin,hhp,hs⟩
 obtain⟨j,rfl⟩:=hs.ex
 clear hs hAn hVl
 have hhp0:∀ {Hc:Heap} {es':et} {eu':ez} {os:List Own},Hp Hc ((H.set mw (wB es')).set mu (uB eu')) os→Hp Hc ((H.set mw (wB es')).set mu (uB eu')++[]) os:=fun h=>by rw[List.append_nil];exact h
 by_cases hlt:i<X.secs.length
 ·have hI:(i:Int)<X.secs.length:=by omega
  have hT1:=hT.ext (hhp0 hhp) hW' hU'
  obtain⟨kq,hkv,hkq1,hkq2,hkq3⟩:=hT1.hk.posF hseL (by omega) (by omega)
  obtain⟨k,hk⟩:=atG hlt
  have hkV:=hsV k (List.mem_of_getElem? hk)
  obtain⟨hk1,hk2,hk3⟩:=hkV
  have hft:=ek (f:=X.sec) (n:=4) hseL hk
  have hfl:(X.secs.flatMap X.sec).length=X.secs.length*4:=cb (f:=X.sec) (n:=4) hseL _
  have kl:(X.sec k).length=4:=rfl
  have km:isMap (X.sec k)=false:=rfl
  have kt:(X.sec k).take 4=X.sec k:=rfl
  have kf:(∀ x∈X.sec k,x.leaf=true)=True:=eq_true (by simp[Txt.sec])
  have kr:(∀ x∈X.sec k,x.rf=true)=True:=eq_true (by simp[Txt.sec])
  have kp:putAt [V.int .i64 0,.int .i64 0,.int .i64 0,.nils] 0 (X.sec k)=X.sec k:=rfl
  have k0:slot (X.sec k) 0=some (.int .i64 k.1):=rfl
  have k1:slot (X.sec k) 1=some (.int .i64 k.2):=rfl
  have q4:i*4+4≤X.secs.length*4:=by omega
  have hwH:Cfg.wr ⟨0,[],0⟩ Hc.length=true:=aP (by simp)
  have hdrop:X.secs.drop i=k::X.secs.drop (i+1):=by
   rw[List.drop_eq_getElem_cons hlt]
   rw[List.getElem?_eq_getElem hlt]at hk
   rw[Option.some.inj hk]
  rw[hdrop,Txt.leaA]at hlin
  have g1:=hhp.new (cs:=X.sec k) (n:=1) (k:=4) km kl []
  simp(disch:=omega)[hI,hkv,hkq3,hft,hfl,q4,kl,km,kf,kp,k0,hwH,wrap64,-getElem?_pos]
  generalize hkb:Hc.length=kb at *
  generalize Hc++[some (X.sec k)]=Hd at *
  refine ah (fun m fr Hc=>∃ (q s:Nat) (n:Int) (es':et) (eu':ez),q≤k.2-k.1∧m=k.2-k.1-q∧k.1≤s∧s≤k.1+q∧WOK X.fs es'∧UOK X.fs eu'∧(0≤n∧n≤81000000000)∧X.leaA X.secs 0=X.leaA (X.secs.drop (i+1)) (X.leaK k s n ((tsL k.1 (k.2-k.1)).drop q)) ∧
   Hp Hc ((H.set mw (wB es')).set mu (uB eu')) [(4,.sl kb 0 1 1 4,X.sec k)] ∧
   Slots 56 [(5,.ptr xb 0),(6,.int .i64 n),(8,.ptr kb 0),(9,.int .i64 s),(10,.int .i64 ((k.1:Int)+1+q)),(21,.sl kq 0 X.secs.length X.secs.length 4),(22,.int .i64 X.secs.length),(23,.int .i64 i)] fr) (m:=k.2-k.1) (by omega)
   ⟨0,k.1,n,es',eu',by omega,by omega,Nat.le_refl _,by omega,hW',hU',hhb,by rw[List.drop_zero];exact hlin,g1,by simp⟩ ?_
  clear hlin g1 hhp hhb hW' hU' hT1 hkq3 hwH hkb
  rintro m fr Hc ⟨q,s,n,es',eu',hq,rfl,hs1,hs2,hW',hU',hhb,hlin,hhp,hs⟩
  obtain⟨j2,rfl⟩:=hs.ex
  clear hs
  have hkb3:=hhp.head.at.2.2.1
  have hT1:=hT.ext (hhp0 hhp) hW' hU'
  have hM1:=hT.mw hM0 (by simp) (hhp0 hhp)
  have hxb1:=hT1.hx
  by_cases hlt2:q<k.2-k.1
  ·have hQ:(k.1:Int)+1+q≤k.2:=by omega
   have e1:(k.1:Int)+1+q-1=((k.1+q:Nat):Int):=by omega
   have hBl:=hV.bl
   have hB:=atI (l:=X.B) (i:=k.1+q) (by omega)
   rw[my hlt2,Txt.leaK,show k.1+1+q-1=k.1+q by omega]at hlin
   simp(disch:=omega)[hQ,hkb3,k1,hxb1,x6,e1,hB,wrap64,-getElem?_pos]
   refine ak (fun hb=>?_) (fun hb=>?_)
   ·rw[if_neg (by simpa using hb)]at hlin
    have hts:s≤k.1+1+q∧k.1+1+q≤k.2:=by omega
    have eT:(((k.1+1+q:Nat)):Int)=(k.1:Int)+1+q:=by omega
    obtain⟨es2,eu2,hW2,hU2,hF⟩:=C.fit (d+3) hT1 (k:=k) (a:=s) (b:=k.1+1+q) hs1 hts.1 hts.2 hk2 ⟨0,[],0⟩ hM1 (by simp)
    rw[eT]at hF
    have hfr:=hV.fit (k:=k) (a:=s) (b:=k.1+1+q) hs1 hts.1 hts.2 hk2 h5
    have hh2:=(hhp.set (b:=mw) (by simp;exact (List.getElem?_eq_some_iff.1 hT.hmw).1) (wB es2)).set (b:=mu) (by simp;exact (List.getElem?_eq_some_iff.1 hT.hmu).1) (uB eu2)
    have hst0:(((H.set mw (wB es')).set mu (uB eu')).set mw (wB es2)).set mu (uB eu2)=(H.set mw (wB es2)).set mu (uB eu2):=by
     have:=er (A:=wB es') (A':=wB es2) (C:=uB eu') (C':=uB eu2) (S:=[]) (List.getElem?_eq_some_iff.1 hT.hmw).1 (List.getElem?_eq_some_iff.1 hT.hmu).1
     simpa using this
    rw[hst0]at hh2
    generalize (Hc.set mw (wB es2)).set mu (uB eu2)=Hd at *
    have hmx:∀ a b:Int,(if a<b then b else a)=max a b:=fun a b=>by split<;>omega
    have hkb4:=hh2.head.at.2.2.1
    simp(disch:=omega)[hkb3,kl,kt,hF,lf,hmx,wrap64,-getElem?_pos]
    exact ae (m':=k.2-k.1-(q+1)) (by omega) ⟨q+1,k.1+1+q,max n (X.fit k s (k.1+1+q)),es2,eu2,by omega,by omega,by omega,by omega,hW2,hU2,by omega,hlin,hh2,by simp(disch:=omega);omega⟩
   ·rw[if_pos (by simpa using hb)]at hlin
    simp(disch:=omega)[wrap64,-getElem?_pos]
    exact ae (m':=k.2-k.1-(q+1)) (by omega) ⟨q+1,s,n,es',eu',by omega,by omega,hs1,by omega,hW',hU',hhb,hlin,hhp,by simp(disch:=omega);omega⟩
  ·obtain rfl:q=k.2-k.1:=by omega
   have hQ:¬ ((k.1:Int)+1+((k.2-k.1:Nat):Int)≤k.2):=by omega
   rw[List.drop_of_length_le (l:=tsL k.1 (k.2-k.1)) (by rw[oS];omega),Txt.leaK]at hlin
   simp(disch:=omega)[hQ,hkb3,k1,wrap64,-getElem?_pos]
   exact ae (m':=X.secs.length-(i+1)) (by omega) ⟨i+1,n,es',eu',by omega,by omega,hW',hU',hhb,hlin,hhp.drop (List.nil_sublist _),by rw[hkv];simp(disch:=omega)⟩
 ·obtain rfl:i=X.secs.length:=by omega
  have hI:¬ ((X.secs.length:Int)<X.secs.length):=by omega
  rw[List.drop_length,Txt.leaA]at hlin
  simp(disch:=omega)[hI]
  rw[hlin]
set_option maxRecDepth 100000 in
set_option maxHeartbeats 16000000 in
theorem CtxA.mos{X:Txt}(C:CtxA prim X)(d:Nat)(cfg:Cfg)(h:Heap):
  af md (K prim (d+17)) cfg 19 [.agg (bU X.p),.lst (X.fs.map aD)] h=some (.int .i64 (X.mosA X.secs 0),h):=by
 refine aZ rfl (C.hp 19 (by decide)) Tryz.func19 rfl rfl rfl (by simp[bU]) ?_
 obtain⟨hlf,hmp,s0,s1,s2,s3,s4,l5,t5⟩:=qA X.p
 have hV:=C.hV
 have h5:=C.h5
 have hVl:=fun cfg h=>C.hVl (d+10) cfg h
 obtain⟨H,xb,bb,pb,mw,mu,sv,kv,hAn,hT,hHt,hHl⟩:=C.ana (d+9) [some (bU X.p)] ⟨0,[],0⟩ (by simp) (by simp)
 have hxb:=hT.hx
 obtain⟨x0,x1,x2,x3,x4,x5,x6,x7,x8,x9,x15,xl,xm⟩:=cQ X (.sl bb 0 (X.p.t.length+1) (X.p.t.length+1) 1) sv kv pb mw mu
 have hu:Tryz.prog.underlying 70=some (.slice 74):=by kernel_rfl
 have hseL:∀ k,(X.sec k).length=4:=fun _=>rfl
 have hlen:=hT.hk.lenF hseL (by omega) hu
 simp(disch:=omega)[hlf,hmp,l5,t5,hVl,hAn,hxb,x15,hlen]
 have hsl:=hV.secsL
 have hsV:=hV.secs
 have hM0:MW ⟨0,[],0⟩ H:=fun b cs _ _=>aP (by simp)
 refine ah (fun m fr Hc=>∃ (i:Nat) (n:Int) (es':et) (eu':ez),i≤X.secs.length∧m=X.secs.length-i∧WOK X.fs es'∧UOK X.fs eu'∧(0≤n∧n≤81000000000)∧X.mosA X.secs 0=X.mosA (X.secs.drop i) n∧Hp Hc ((H.set mw (wB es')).set mu (uB eu')) [] ∧
  Slots 54 [(5,.ptr xb 0),(6,.int .i64 n),(20,kv),(21,.int .i64 X.secs.length),(22,.int .i64 i)] fr) (m:=X.secs.length) (by omega)
  ⟨0,0,[],[],by omega,by omega,hT.hW,hT.hU,by omega,by simp,by rw[bE hT.hmw,bE hT.hmu];exact Hp.start,by simp⟩ ?_
 rintro m fr Hc ⟨i,n,es',eu',hi,rfl,hW',hU',hhb,hlin,hhp,hs⟩
 obtain⟨j,rfl⟩:=hs.ex
 clear hs hAn hVl
 have hhp0:∀ {Hc:Heap} {es':et} {eu':ez} {os:List Own},Hp Hc ((H.set mw (wB es')).set mu (uB eu')) os→Hp Hc ((H.set mw (wB es')).set mu (uB eu')++[]) os:=fun h=>by rw[List.append_nil];exact h
 by_cases hlt:i<X.secs.length
 ·have hI:(i:Int)<X.secs.length:=by omega
  have hT1:=hT.ext (hhp0 hhp) hW' hU'
  obtain⟨kq,hkv,hkq1,hkq2,hkq3⟩:=hT1.hk.posF hseL (by omega) (by omega)
  obtain⟨k,hk⟩:=atG hlt
  have hkV:=hsV k (List.mem_of_getElem? hk)
  obtain⟨hk1,hk2,hk3⟩:=hkV
  have hft:=ek (f:=X.sec) (n:=4) hseL hk
  have hfl:(X.secs.flatMap X.sec).length=X.secs.length*4:=cb (f:=X.sec) (n:=4) hseL _
  have kl:(X.sec k).length=4:=rfl
  have km:isMap (X.sec k)=false:=rfl
  have kt:(X.sec k).take 4=X.sec k:=rfl
  have kf:(∀ x∈X.sec k,x.leaf=true)=True:=eq_true (by simp[Txt.sec])
  have kr:(∀ x∈X.sec k,x.rf=true)=True:=eq_true (by simp[Txt.sec])
  have kp:putAt [V.int .i64 0,.int .i64 0,.int .i64 0,.nils] 0 (X.sec k)=X.sec k:=rfl
  have k0:slot (X.sec k) 0=some (.int .i64 k.1):=rfl
  have k1:slot (X.sec k) 1=some (.int .i64 k.2):=rfl
  have q4:i*4+4≤X.secs.length*4:=by omega
  have hwH:Cfg.wr ⟨0,[],0⟩ Hc.length=true:=aP (by simp)
  have hdrop:X.secs.drop i=k::X.secs.drop (i+1):=by
   rw[List.drop_eq_getElem_cons hlt]
   rw[List.getElem?_eq_getElem hlt]at hk
   rw[Option.some.inj hk]
  rw[hdrop,Txt.mosA]at hlin
  have g1:=hhp.new (cs:=X.sec k) (n:=1) (k:=4) km kl []
  simp(disch:=omega)[hI,hkv,hkq3,hft,hfl,q4,kl,km,kf,kp,k0,hwH,wrap64,-getElem?_pos]
  generalize hkb:Hc.length=kb at *
  generalize Hc++[some (X.sec k)]=Hd at *
  refine ah (fun m fr Hc=>∃ (q:Nat) (n:Int) (es':et) (eu':ez),q≤k.2-k.1∧m=k.2-k.1-q∧WOK X.fs es'∧UOK X.fs eu'∧(0≤n∧n≤81000000000)∧X.mosA X.secs 0=X.mosA (X.secs.drop (i+1)) (X.mosK k n ((tsL k.1 (k.2-k.1)).drop q)) ∧
   Hp Hc ((H.set mw (wB es')).set mu (uB eu')) [(4,.sl kb 0 1 1 4,X.sec k)] ∧
   Slots 54 [(5,.ptr xb 0),(6,.int .i64 n),(8,.ptr kb 0),(9,.int .i64 ((k.1:Int)+1+q)),(20,.sl kq 0 X.secs.length X.secs.length 4),(21,.int .i64 X.secs.length),(22,.int .i64 i)] fr) (m:=k.2-k.1) (by omega)
   ⟨0,n,es',eu',by omega,by omega,hW',hU',hhb,by rw[List.drop_zero];exact hlin,g1,by simp⟩ ?_
  clear hlin g1 hhp hhb hW' hU' hT1 hkq3 hwH hkb
  rintro m fr Hc ⟨q,n,es',eu',hq,rfl,hW',hU',hhb,hlin,hhp,hs⟩
  obtain⟨j2,rfl⟩:=hs.ex
  clear hs
  have hkb3:=hhp.head.at.2.2.1
  have hT1:=hT.ext (hhp0 hhp) hW' hU'
  have hM1:=hT.mw hM0 (by simp) (hhp0 hhp)
  have hxb1:=hT1.hx
  by_cases hlt2:q<k.2-k.1
  ·have hQ:(k.1:Int)+1+q≤k.2:=by omega
   have e1:(k.1:Int)+1+q-1=((k.1+q:Nat):Int):=by omega
   have hBl:=hV.bl
   have hB:=atI (l:=X.B) (i:=k.1+q) (by omega)
   rw[my hlt2,Txt.mosK,show k.1+1+q-1=k.1+q by omega]at hlin
   simp(disch:=omega)[hQ,hkb3,k1,hxb1,x6,e1,hB,wrap64,-getElem?_pos]
   refine ak (fun hb=>?_) (fun hb=>?_)
   ·rw[if_neg (by simpa using hb)]at hlin
    have hts:k.1≤k.1+1+q∧k.1+1+q≤k.2:=by omega
    have eT:(((k.1+1+q:Nat)):Int)=(k.1:Int)+1+q:=by omega
    obtain⟨es2,eu2,hW2,hU2,hF⟩:=C.fit (d+3) hT1 (k:=k) (a:=k.1) (b:=k.1+1+q) (Nat.le_refl _) hts.1 hts.2 hk2 ⟨0,[],0⟩ hM1 (by simp)
    rw[eT]at hF
    have hfr:=hV.fit (k:=k) (a:=k.1) (b:=k.1+1+q) (Nat.le_refl _) hts.1 hts.2 hk2 h5
    have hh2:=(hhp.set (b:=mw) (by simp;exact (List.getElem?_eq_some_iff.1 hT.hmw).1) (wB es2)).set (b:=mu) (by simp;exact (List.getElem?_eq_some_iff.1 hT.hmu).1) (uB eu2)
    have hst0:(((H.set mw (wB es')).set mu (uB eu')).set mw (wB es2)).set mu (uB eu2)=(H.set mw (wB es2)).set mu (uB eu2):=by
     have:=er (A:=wB es') (A':=wB es2) (C:=uB eu') (C':=uB eu2) (S:=[]) (List.getElem?_eq_some_iff.1 hT.hmw).1 (List.getElem?_eq_some_iff.1 hT.hmu).1
     simpa using this
    rw[hst0]at hh2
    generalize (Hc.set mw (wB es2)).set mu (uB eu2)=Hd at *
    have hmx:∀ a b:Int,(if a<b then b else a)=max a b:=fun a b=>by split<;>omega
    have hkb4:=hh2.head.at.2.2.1
    simp(disch:=omega)[hkb3,kl,kt,k0,hF,lf,hmx,wrap64,-getElem?_pos]
    exact ae (m':=k.2-k.1-(q+1)) (by omega) ⟨q+1,max n (X.fit k k.1 (k.1+1+q)),es2,eu2,by omega,by omega,hW2,hU2,by omega,hlin,hh2,by simp(disch:=omega);omega⟩
   ·rw[if_pos (by simpa using hb)]at hlin
    simp(disch:=omega)[wrap64,-getElem?_pos]
    exact ae (m':=k.2-k.1-(q+1)) (by omega) ⟨q+1,n,es',eu',by omega,by omega,hW',hU',hhb,hlin,hhp,by simp(disch:=omega);omega⟩
  ·obtain rfl:q=k.2-k.1:=by omega
   have hQ:¬ ((k.1:Int)+1+((k.2-k.1:Nat):Int)≤k.2):=by omega
   rw[List.drop_of_length_le (l:=tsL k.1 (k.2-k.1)) (by rw[oS];omega),Txt.mosK]at hlin
   simp(disch:=omega)[hQ,hkb3,k1,wrap64,-getElem?_pos]
   exact ae (m':=X.secs.length-(i+1)) (by omega) ⟨i+1,n,es',eu',by omega,by omega,hW',hU',hhb,hlin,hhp.drop (List.nil_sublist _),by rw[hkv];simp(disch:=omega)⟩
 ·obtain rfl:i=X.secs.length:=by omega
  have hI:¬ ((X.secs.length:Int)<X.secs.length):=by omega
  rw[List.drop_length,Txt.mosA]at hlin
  simp(disch:=omega)[hI]
  rw[hlin]
end
end Bi
end Go.Ab
namespace Go.Ab
open Go.Proofs
namespace Bi
theorem B1:(10000001::brkB).all (fun b=>decide ((∀ x∈[(1:Int),2,3],(nU (ln b)).getD 2 0=x→ctS ((nU (ln b)).getD 0 0)=true)∧((nU (ln b)).getD 0 0=1→(nU (ln b)).getD 2 0=2)∧((nU (ln b)).getD 0 0=2→(nU (ln b)).getD 2 0=3)))=true:=by kernel_rfl
theorem yT(r:Int):((cLn r=1∨cLn r=2∨cLn r=3)→ctS (cBr r)=true)∧(cBr r=1→cLn r=2)∧(cBr r=2→cLn r=3):=by
 unfold cBr cLn findS
 by_cases h:44032≤r∧r≤55203
 ·rw[if_pos h]
  split
  ·exact⟨fun h=>by revert h;decide,fun h=>by revert h;decide,fun h=>by revert h;decide⟩
  ·exact⟨fun h=>by revert h;decide,fun h=>by revert h;decide,fun h=>by revert h;decide⟩
 ·rw[if_neg h]
  have e:(if r≤161 then bq tab1 r else if r≤1642 then bq tab2 r else if r≤8237 then bq tab3 r else bq tab4 r)=ln r:=rfl
  rw[e]
  obtain⟨s,h1,h2⟩:=rep r
  rw[wE h2]
  obtain⟨c1,c2,c3⟩:=of_decide_eq_true (List.all_eq_true.1 B1 s h1)
  refine⟨fun h=>?_,c2,c3⟩
  rcases h with h|h|h
  ·exact c1 1 (by simp) h
  ·exact c1 2 (by simp) h
  ·exact c1 3 (by simp) h
theorem FO{n:Nat}:∀ (l:List Int) (i:Nat),(∀ x∈l,0≤x)→lgB (mkS n l) i=true→((i:Int)∈l):=by
 intro l i hl h
 unfold mkS at h
 have:∀ (l:List Int) (B:List Bool),(∀ x∈l,0≤x)→lgB (l.foldl (fun B p=>B.set p.toNat true) B) i=true→(i:Int)∈l∨lgB B i=true:=by
  intro l
  induction l with
  | nil=>intro B _ h;exact .inr h
  | cons x l ih =>
   intro B hl h
   rw[List.foldl_cons]at h
   rcases ih _ (fun y hy=>hl y (by simp[hy])) h with h|h
   ·exact .inl (by simp[h])
   ·by_cases e:x.toNat=i
    ·refine .inl ?_
     have:=hl x (by simp)
     rw[show (i:Int)=x by omega]
     simp
    ·refine .inr ?_
     unfold lgB at h ⊢
     rw[List.getD_eq_getElem?_getD,List.getElem?_set_ne e,← List.getD_eq_getElem?_getD]at h
     exact h
 rcases this l _ hl h with h|h
 ·exact h
 ·exfalso
  unfold lgB at h
  rw[List.getD_eq_getElem?_getD,List.getElem?_replicate]at h
  split at h<;>simp at h
theorem uH{c:List Int}:∀ (q j:Nat),0<j→j≤q→ry c j=true→(j:Int)∈iJ c q
 | 0,j,h1,h2,_=>by omega
 | q+1,j,h1,h2,h3=>by
  rw[iJ]
  by_cases e:j=q+1
  ·subst e
   rw[if_pos h3]
   simp
  ·have ih:=uH (c:=c) q j h1 (by omega) h3
   split
   ·exact List.mem_append_left _ ih
   ·exact ih
theorem uF{raw:List Int}{i:Nat}(h:clG raw i=1∨clG raw i=2∨clG raw i=3):lgI raw i=clG raw i:=by
 rcases i with _|i
 ·rw[clG]at h ⊢
  split
  ·rename_i hc
   rw[if_pos hc]at h
   omega
  ·rfl
 ·rw[clG]at h ⊢
  split
  ·rename_i hc
   rw[if_pos hc]at h
   split
   ·rename_i hd
    rw[if_pos hd]at h
    omega
   ·rename_i hd
    rw[if_neg hd]at h
    exfalso
    apply hd
    unfold hrS
    rcases h with h|h|h<;>simp[h]
  ·rfl
theorem HN{raw:List Int}{i:Nat}(h:lgI raw i=3):clG raw i=3:=by
 rcases i with _|i<;>(rw[clG,if_neg (by rw[h];decide)];exact h)
theorem tB{t:List Int}{i:Nat}(h:i<t.length):lgI (cT t) i=cLn (lgI t i):=by
 have:=tN h
 rw[lgI,List.getD_eq_getElem?_getD,this];rfl
theorem tA{raw:List Int}{i:Nat}(h:i<raw.length):lgI (clS raw) i=clG raw i:=by
 have:=xw h
 rw[lgI,List.getD_eq_getElem?_getD,this];rfl
theorem zt{t:List Int}{f:Int→Int}{i:Nat}(h:i<t.length):lgI (t.map f) i=f (lgI t i):=by
 rw[lgI,List.getD_eq_getElem?_getD,List.getElem?_map,atI h];rfl
theorem EF{t:List Int}{i:Nat}(h1:0<i)(h2:i≤t.length)(h:lgI (dz t (pn t)) (i-1)≠0):(i:Int)∈pn t:=by
 have hne:t≠[]:=fun e=>by rw[e]at h2;simp at h2;omega
 have hcs:pn t=iJ (t.map cBr) (t.length-1)++[(t.length:Int)]:=by unfold pn;rw[if_neg hne]
 have hnn:∀ x∈pn t,0≤x:=by
  rw[hcs]
  intro x hx
  rcases List.mem_append.1 hx with hx|hx
  ·have:∀ q,∀ x∈iJ (t.map cBr) q,0≤x:=by
    intro q
    induction q with
    | zero=>intro x hx;simp[iJ]at hx;omega
    | succ q ih =>
     intro x hx
     rw[iJ]at hx
     split at hx
     ·rcases List.mem_append.1 hx with hx|hx
      ·exact ih x hx
      ·simp at hx;omega
     ·exact ih x hx
   exact this _ x hx
  ·simp at hx;omega
 by_cases hin:i=t.length
 ·rw[hcs,hin]
  simp
 have hi:i<t.length:=by omega
 obtain⟨q,rfl⟩:∃ q,i=q+1:=⟨i-1,by omega⟩
 have hb:=sN (cl:=pn t) hi
 simp only[Nat.add_sub_cancel]at h
 rw[lgI,List.getD_eq_getElem?_getD,hb]at h
 simp only[Option.getD_some]at h
 rw[fI]at h
 have hq:q<t.length:=by omega
 split at h
 ·exact absurd rfl h
 ·rename_i hcr
  rw[bf3]at h
  split at h
  ·rename_i ha
   rw[tA (by rw[du];exact hq)]at ha hcr
   rw[tA (by rw[du];exact hi)]at hcr
   have ha2:clG (cT t) q=1∨clG (cT t) q=2∨clG (cT t) q=3:=by simp at ha;omega
   have hr:=uF ha2
   rw[tB hq]at hr
   obtain⟨g1,g2,g3⟩:=yT (lgI t q)
   have hct:=g1 (by omega)
   rw[hcs]
   refine List.mem_append_left _ (uH _ _ (by omega) (by omega) ?_)
   unfold ry
   simp only[Nat.add_sub_cancel]
   rw[zt hq,zt hi]
   rw[if_neg,if_pos (.inl hct)]
   rintro⟨c1,c2⟩
   refine hcr ⟨?_,?_⟩
   ·rw[← hr]
    exact g2 c1
   ·exact HN (by rw[tB hi];exact (yT (lgI t (q+1))).2.2 c2)
  ·rw[bf4]at h
   split at h
   ·exact absurd rfl h
   ·rw[bf5]at h
    split at h
    ·exact absurd rfl h
    ·rename_i hbd
     exact FO _ _ hnn (by simpa using hbd)
end Bi
end Go.Ab
