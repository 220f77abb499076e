/- Several texts of this proof in one. -/
import Derived.Test.YteddnfbjjbcmgaaGreatPaEnp
import Derived.Test.YteddnfbjjbcmgaaGreatPaFl
set_option linter.unusedSimpArgs false
set_option linter.unusedVariables false
namespace Go.Ab
open Go.Proofs
namespace Bi
theorem tg{X:Txt}{k:Nat×Nat}{s t:Nat}:∀ (l:List Int) (b:Int),X.frc k s t b l=b∨X.frc k s t b l∈l
 | [],b=>.inl rfl
 | c::l,b=>by
  rw[Txt.frc]
  split
  ·rcases tg (X:=X) (k:=k) (s:=s) (t:=t) l b with h|h
   ·exact .inl h
   ·exact .inr (List.mem_cons_of_mem _ h)
  ·split
   ·by_cases h:b≤c
    ·exact .inl (by omega)
    ·refine .inr ?_
     rw[show min b c=c by omega]
     simp
   ·rcases tg (X:=X) (k:=k) (s:=s) (t:=t) l c with h|h
    ·exact .inr (by rw[h];simp)
    ·exact .inr (List.mem_cons_of_mem _ h)
theorem pw{X:Txt}{k:Nat×Nat}{s:Nat}:∀ (l:List Nat) (b:Nat),(b=s∨lgI X.B (b-1)≠0)→(∀ t∈l,s<t)→X.endL k s b l=s∨lgI X.B (X.endL k s b l-1)≠0∨((X.endL k s b l:Nat):Int)∈X.C
 | [],b,h,_=>by
  rw[Txt.endL]
  rcases h with h|h
  ·exact .inl h
  ·exact .inr (.inl h)
 | t::l,b,h,hl=>by
  have ht:=hl t (by simp)
  rw[Txt.endL]
  split
  ·exact pw l b h fun x hx=>hl x (by simp[hx])
  ·rename_i hb
   split
   ·exact pw l t (.inr hb) fun x hx=>hl x (by simp[hx])
   ·split
    ·rename_i hsb
     rcases h with h|h
     ·exact absurd hsb (by omega)
     ·exact .inr (.inl h)
    ·have hr:=jP (X:=X) (k:=k) (s:=s) (t:=t) X.C t (by omega) (Int.le_refl _)
     have hm:=tg (X:=X) (k:=k) (s:=s) (t:=t) X.C t
     have e:((X.frc k s t t X.C).toNat:Int)=X.frc k s t t X.C:=by omega
     rcases hm with hm|hm
     ·refine .inr (.inl ?_)
      rw[hm,Int.toNat_natCast]
      exact hb
     ·refine .inr (.inr ?_)
      rw[e]
      exact hm
theorem mO{X:Txt}{k:Nat×Nat}{s:Nat}:∀ (l:List Nat) (b:Nat),s<b→lgI X.B (b-1)≠0→(∀ t∈l,s<t)→s<X.endL k s b l∧lgI X.B (X.endL k s b l-1)≠0
 | [],b,h1,h2,_=>by rw[Txt.endL];exact⟨h1,h2⟩
 | t::l,b,h1,h2,hl=>by
  rw[Txt.endL]
  split
  ·exact mO l b h1 h2 fun x hx=>hl x (by simp[hx])
  ·rename_i hb
   split
   ·exact mO l t (hl t (by simp)) hb fun x hx=>hl x (by simp[hx])
   ·first
     | exact⟨h1,h2⟩
     | (rw[if_pos h1];exact⟨h1,h2⟩)
theorem px{X:Txt}{k:Nat×Nat}{s:Nat}:∀ (l:List Nat),(∀ t∈l,s<t)→(∀ pre t post,l=pre++t::post→(∀ x∈pre,lgI X.B (x-1)=0)→lgI X.B (t-1)≠0→X.fit k s t≤X.p.w)→X.endL k s s l=s∨lgI X.B (X.endL k s s l-1)≠0
 | [],_,_=>.inl rfl
 | t::l,hl,hf=>by
  rw[Txt.endL]
  split
  ·rename_i hb
   refine px l (fun x hx=>hl x (by simp[hx])) fun pre u post e hp hu=>hf (t::pre) u post (by rw[e];rfl) (fun x hx=>?_) hu
   rcases List.mem_cons.1 hx with rfl|hx
   ·exact hb
   ·exact hp x hx
  ·rename_i hb
   rw[if_pos (hf [] t l rfl (fun _ h=>by cases h) hb)]
   exact .inr (mO l t (hl t (by simp)) hb fun x hx=>hl x (by simp[hx])).2
theorem oI{X:Txt}{k:Nat×Nat}:∀ (l:List Nat) (s:Nat) (n:Int),n≤X.leaK k s n l
 | [],_,_=>Int.le_refl _
 | t::l,s,n=>by
  rw[Txt.leaK]
  split
  ·exact oI l s n
  ·have:=oI (X:=X) (k:=k) l t (max n (X.fit k s t))
   omega
theorem kV{X:Txt}{k:Nat×Nat}:∀ (pre:List Nat) (t:Nat) (post:List Nat) (s:Nat) (n:Int),(∀ x∈pre,lgI X.B (x-1)=0)→lgI X.B (t-1)≠0→X.fit k s t≤X.leaK k s n (pre++t::post)
 | [],t,post,s,n,_,h=>by
  rw[List.nil_append,Txt.leaK,if_neg h]
  have:=oI (X:=X) (k:=k) post t (max n (X.fit k s t))
  omega
 | x::pre,t,post,s,n,hp,h=>by
  rw[List.cons_append,Txt.leaK,if_pos (hp x (by simp))]
  exact kV pre t post s n (fun y hy=>hp y (by simp[hy])) h
theorem tx{X:Txt}{k:Nat×Nat}:∀ (l1:List Nat) (u:Nat) (pre:List Nat) (t:Nat) (post:List Nat) (s:Nat) (n:Int),lgI X.B (u-1)≠0→(∀ x∈pre,lgI X.B (x-1)=0)→lgI X.B (t-1)≠0→X.fit k u t≤X.leaK k s n (l1++u::(pre++t::post))
 | [],u,pre,t,post,s,n,h0,hp,h=>by
  rw[List.nil_append,Txt.leaK,if_neg h0]
  exact kV pre t post u _ hp h
 | a::l1,u,pre,t,post,s,n,h0,hp,h=>by
  rw[List.cons_append,Txt.leaK]
  split
  ·exact tx l1 u pre t post s n h0 hp h
  ·exact tx l1 u pre t post a _ h0 hp h
theorem zq{X:Txt}:∀ (l:List (Nat×Nat)) (n:Int),n≤X.leaA l n
 | [],_=>Int.le_refl _
 | k::l,n=>by
  rw[Txt.leaA]
  have h1:=oI (X:=X) (k:=k) (tsL k.1 (k.2-k.1)) k.1 n
  have h2:=zq (X:=X) l (X.leaK k k.1 n (tsL k.1 (k.2-k.1)))
  omega
theorem zp{X:Txt}:∀ (l:List (Nat×Nat)) (n:Int),∀ k∈l,∃ n',X.leaK k k.1 n' (tsL k.1 (k.2-k.1))≤X.leaA l n
 | [],_,_,h=>by cases h
 | a::l,n,k,h=>by
  rw[Txt.leaA]
  rcases List.mem_cons.1 h with rfl|h
  ·exact⟨n,zq _ _⟩
  ·exact zp l _ k h
theorem Bp{a M j:Nat}:(tsL a M).drop j=tsL (a+j) (M-j):=by
 apply List.ext_getElem?
 intro i
 rw[List.getElem?_drop]
 unfold tsL
 rw[List.getElem?_map,List.getElem?_map]
 by_cases h:j+i<M
 ·rw[List.getElem?_range h,List.getElem?_range (by omega)]
  simp
  omega
 ·rw[List.getElem?_eq_none (by simp;omega),List.getElem?_eq_none (by simp;omega)]
  rfl
theorem zR{a M t:Nat}(h:t∈tsL a M):a<t:=by
 unfold tsL at h
 obtain⟨i,_,rfl⟩:=List.mem_map.1 h
 omega
def StP(X:Txt)(k:Nat×Nat)(s:Nat):Prop:=s=k.1∨lgI X.B (s-1)≠0
theorem uW{X:Txt}{k:Nat×Nat}(hk:k∈X.secs)(hw:X.leaA X.secs 0≤X.p.w){s:Nat}(h1:k.1≤s)(h2:s≤k.2)(hs:StP X k s):X.fin k s=s∨lgI X.B (X.fin k s-1)≠0:=by
 obtain⟨n',hn⟩:=zp (X:=X) X.secs 0 k hk
 refine px (tsL s (k.2-s)) (fun t ht=>zR ht) fun pre t post e hp ht=>?_
 rcases Nat.eq_or_lt_of_le h1 with e1|hlt
 ·rw[← e1]at e ⊢
  rw[e]at hn
  have:=kV (X:=X) (k:=k) pre t post k.1 n' hp ht
  omega
 ·have h0:lgI X.B (s-1)≠0:=by
   rcases hs with h|h
   ·omega
   ·exact h
  have e2:tsL k.1 (k.2-k.1)=(tsL k.1 (k.2-k.1)).take (s-1-k.1)++s::(pre++t::post):=by
   conv=>lhs;rw[← List.take_append_drop (s-1-k.1) (tsL k.1 (k.2-k.1))]
   congr 1
   rw[my (by omega),Bp,show k.1+(s-1-k.1+1)=s by omega,show k.2-k.1-(s-1-k.1+1)=k.2-s by omega,e,show k.1+1+(s-1-k.1)=s by omega]
  rw[e2]at hn
  have:=tx (X:=X) (k:=k) ((tsL k.1 (k.2-k.1)).take (s-1-k.1)) s pre t post k.1 n' h0 hp ht
  omega
theorem zw{X:Txt}{k:Nat×Nat}(hk:k∈X.secs)(hkV:jl X k)(hw:X.leaA X.secs 0≤X.p.w):∀ (m s:Nat) (y:Int),k.1≤s→s≤k.2→StP X k s→∀ x∈X.linK k m s y,∃ s y,k.1≤s∧s≤k.2∧StP X k s∧x=X.lin k s (X.fin k s) y
 | 0,s,y,h1,h2,h3,x,h=>by
  rw[Txt.linK]at h
  simp at h
  exact⟨_,_,h1,h2,h3,h⟩
 | m+1,s,y,h1,h2,h3,x,h=>by
  rw[Txt.linK]at h
  rcases List.mem_cons.1 h with h|h
  ·exact⟨_,_,h1,h2,h3,h⟩
  ·split at h
   ·have hf:=dB (X:=X) hkV h2
    have hst:StP X k (X.fin k s):=by
     rcases uW hk hw h1 h2 h3 with e|e
     ·rw[e];exact h3
     ·exact .inr e
    exact zw hk hkV hw m _ _ (by omega) (by omega) hst x h
   ·cases h
theorem zu{X:Txt}(hw:X.leaA X.secs 0≤X.p.w):∀ (l:List (Nat×Nat)) (y:Int),(∀ k∈l,k∈X.secs∧jl X k)→∀ x∈X.linA l y,∃ k∈X.secs,jl X k∧∃ s y,k.1≤s∧s≤k.2∧StP X k s∧x=X.lin k s (X.fin k s) y
 | [],_,_,_,h=>by cases h
 | k::l,y,hl,x,h=>by
  rw[Txt.linA]at h
  obtain⟨hk,hkV⟩:=hl k (by simp)
  rcases List.mem_append.1 h with h|h
  ·exact⟨k,hk,hkV,zw hk hkV hw _ _ _ (Nat.le_refl _) hkV.1 (.inl rfl) x h⟩
  ·exact zu hw l _ (fun x hx=>hl x (by simp[hx])) x h
theorem TxV.ends{X:Txt}(hV:TxV X)(hB:X.B=dz X.p.t X.C)(hC:X.C=pn X.p.t){x:bV}(hx:x∈X.linA X.secs 0):
  ∃ t:Nat,x.l.t=t∧t≤X.p.t.length∧(0<t→(t:Int)∈X.C)∧(X.leaA X.secs 0≤X.p.w→0<t→lgI X.B (t-1)≠0):=by
 obtain⟨k,hk,hkV,s,y,h1,h2,h3,rfl⟩:=na X.secs 0 hV.secs x hx
 have hf:=dB (X:=X) hkV h2
 have hkn:=hkV.2.1
 have hlast:0<X.p.t.length→lgI X.B (X.p.t.length-1)≠0:=fun h=>by
  have:=hV.b2 h
  rw[lgI,List.getD_eq_getElem?_getD,this]
  simp
 have hsame:X.fin k s=s→0<s→s=X.p.t.length:=fun e h0=>by
  have:s=k.2:=by
   rcases Nat.lt_or_ge s k.2 with h|h
   ·have:=hf.2.2 h1 h;omega
   ·omega
  have h5:k.1=k.2:=by omega
  have:=qK k hk h5
  omega
 have hclu:∀ t,0<t→t≤X.p.t.length→lgI X.B (t-1)≠0→(t:Int)∈X.C:=fun t h1 h2 h=>by
  rw[hC]
  rw[hB,hC]at h
  exact EF h1 h2 h
 refine⟨X.fin k s,rfl,by omega,fun h0=>?_,fun hw h0=>?_⟩
 ·rcases pw (X:=X) (k:=k) (s:=s) (tsL s (k.2-s)) s (.inl rfl) (fun t ht=>zR ht) with e|e|e
  ·have e':X.fin k s=s:=e
   rw[e']at h0 ⊢
   have:=hsame e' h0
   rw[this]at h0 ⊢
   exact hclu _ h0 (Nat.le_refl _) (hlast h0)
  ·exact hclu _ h0 (by omega) e
  ·exact e
 ·obtain⟨k',hk',hkV',s',y',g1,g2,g3,g4⟩:=zu hw X.secs 0 (fun k hk=>⟨hk,hV.secs k hk⟩) _ hx
  have ht:X.fin k s=X.fin k' s':=by
   have:=congrArg (fun x:bV=>x.l.t) g4
   exact Int.ofNat.inj this
  rw[ht]at h0 ⊢
  rcases uW hk' hw g1 g2 g3 with e|e
  ·have hf':=dB (X:=X) hkV' g2
   have hs2:s'=k'.2:=by
    rcases Nat.lt_or_ge s' k'.2 with h|h
    ·have:=hf'.2.2 g1 h;omega
    ·omega
   rw[e]at h0 ⊢
   rcases g3 with g3|g3
   ·have:=qK k' hk' (by omega)
    rw[hs2,this]
    exact hlast (by omega)
   ·exact g3
  ·exact e
end Bi
end Go.Ab
namespace Go.Ab
open Go.Proofs
namespace Bi
attribute [local congr] ay
theorem Ia{a b:List Int}(h:il a=il b):a=b:=by
 have h1:=V.lst.inj h
 exact (List.map_inj_right (fun x y e=>by cases e;rfl)).1 h1
set_option maxHeartbeats 16000000 in
set_option maxRecDepth 100000 in
theorem pends_ok(d:Nat)(l:List Int):∃ v h',aF Tryz.prog md pZ 10000 (d+18) ⟨0,[],0⟩ 3 [il l] []=some (v,h')∧v=.bool true:=by
 have hA:=fun cfg h=>mG (d+16) cfg h
 have hNw:=fun cfg h=>nh (prim:=pZ) (d+16) cfg h (aV _ (by decide)) l
 have hL:(l.take 4000).length≤4000:=by simp;omega
 refine cm (R:=fun r _=>r=.bool true) (aV _ (by decide)) Tryz.func3 rfl rfl rfl ?_
 generalize hLL:l.take 4000=L at *
 have r0:Rd [some [il L,.int .i64 0]] 0 L 0:=⟨rfl,by omega⟩
 obtain⟨fs,k1,hf1,hf3,hfo,hk1,c1⟩:=gW (prim:=pZ) (d+13) ⟨0,[],0⟩ [some [il L,.int .i64 0]] aV L 0 hL 0 r0 (aP (by simp)) (by simp)
 have r1:Rd (hk [some [il L,.int .i64 0]] 0 L k1) 0 L k1:=r0.set hk1
 obtain⟨p,k2,hpo,hk2,c2⟩:=ni (prim:=pZ) (d+12) ⟨0,[],0⟩ (hk [some [il L,.int .i64 0]] 0 L k1) aV L k1 hL 0 r1 (aP (by simp)) (by simp) 24 fs.length (by omega) (by omega) (by omega)
 obtain⟨Cl,hC,hC1,hC2,hCp⟩:=uI p.t (by have:=hpo.len;omega)
 have hCE:Cl=pn p.t:=Ia (by
  have h1:=hC 0 ⟨0,[],0⟩ []
  rw[Cd 0 aV p.t (by have:=hpo.len;omega) ⟨0,[],0⟩ []]at h1
  exact (congrArg Prod.fst (Option.some.inj h1)).symm)
 have C:=lF hpo (by omega) hf1 hf3 hfo hC hC1 hC2
 have hCl:=fun cfg h=>hC (d+13) cfg h
 obtain⟨X,hXE⟩:∃ X:Txt,(⟨p,fs,dz p.t Cl,Cl,lvZ,fg⟩:Txt)=X:=⟨_,rfl⟩
 have hXp:X.p=p:=by rw[← hXE]
 have hXf:X.fs=fs:=by rw[← hXE]
 have hXC:X.C=Cl:=by rw[← hXE]
 rw[hXE]at C
 clear hXE
 have hLe:=fun cfg h=>C.lea d cfg h
 rw[hXp,hXf]at hLe
 have hBk:=fun cfg h=>B3 (prim:=pZ) (d+11) aV p.t (by have:=hpo.len;omega) Cl hC2 (by have:=hpo.len;omega) (fun cfg h=>hC (d+11) cfg h) cfg h
 have hXB:X.B=dz p.t Cl:=by rw[← hXC,← hXp];exact C.hB
 have hLn:=fun cfg h=>C.lines d cfg h
 rw[hXp,hXf]at hLn
 obtain⟨hlf,hmp,s0,s1,s2,s3,s4,l5,t5⟩:=qA p
 have hlf':=eq_true (List.all_eq_true.1 hlf)
 have hp0:putAt [V.nils,.nils,.int .i64 0,.int .i64 0,.int .i64 0] 0 (bU p)=bU p:=rfl
 have hll:=C.hV.linL C.h5
 have hlm:∀ x∈X.linA X.secs 0,∃ t:Nat,x.l.t=t∧t≤p.t.length∧(0<t→(t:Int)∈Cl)∧(X.leaA X.secs 0≤p.w→0<t→lgI (dz p.t Cl) (t-1)≠0):=fun x hx=>by
  have:=C.hV.ends (by rw[hXB,hXp,hXC]) (by rw[hXC,hXp];exact hCE) hx
  rw[hXp,hXC,hXB]at this
  exact this
 have htl:=hpo.len
 have hBl:=@jn p.t Cl
 generalize X.leaA X.secs 0=le at *
 generalize dz p.t Cl=BB at *
 generalize X.linA X.secs 0=Ls at *
 have e14:((24:Nat):Int)=24:=rfl
 rw[e14]at c2
 simp only[hk,List.set_cons_zero]at c1 c2
 have hIn:=fun cfg h c=>yn (prim:=pZ) (d+16) cfg h aV Cl (by omega) c
 have mLe:md 12=0:=rfl
 have mCl:md 14=0:=rfl
 have mBk:md 15=0:=rfl
 simp(disch:=omega)[hNw,c1,c2,hlf',l5,hp0]
 refine ai 5 (by kernel_rfl) ?_
 simp(disch:=omega)[hmp,l5,t5,s4,hLe,hLn,mLe]
 refine ai 5 (by kernel_rfl) ?_
 simp(disch:=omega)[hmp,s0,hCl,hBk,mCl,hBl]
 have hlk:∀ x:bV,(aL x).length=10:=fun _=>rfl
 have hx1:∀ x:bV,slot (aL x) 1=some (.int .i64 x.l.t):=fun _=>rfl
 refine ah (fun m fr H=>∃ (i:Nat),i≤Ls.length∧m=Ls.length-i ∧
  Slots 88 [(6,.bool (decide (le≤p.w))),(7,.lst (Ls.map aL)),(9,il Cl),(10,il BB),(11,.int .i64 i)] fr) (m:=Ls.length) (by omega) ⟨0,by omega,by omega,by simp⟩ ?_
 rintro m fr H ⟨i,hi,rfl,hs⟩
 obtain⟨j,rfl⟩:=hs.ex
 clear hs
 by_cases hlt2:i<Ls.length
 ·have hI:(i:Int)<Ls.length:=by omega
  obtain⟨x,hx⟩:=atG hlt2
  obtain⟨t,ht,htn,hin,hwd⟩:=hlm x (List.mem_of_getElem? hx)
  have e0:¬ ((t:Int)<0):=by omega
  have e1:¬ ((BB.length:Int)<t):=by omega
  rcases Nat.eq_zero_or_pos t with rfl|h0
  ·have e1':¬ ((BB.length:Int)<0):=by omega
   simp(disch:=omega)[hI,hx,hlk,hx1,ht,e1',wrap64,-getElem?_pos]
   exact ae (m':=Ls.length-(i+1)) (by omega) ⟨i+1,by omega,by omega,by simp(disch:=omega)⟩
  ·have hti:=hin h0
   have e2:(t:Int)-1=((t-1:Nat):Int):=by omega
   have hb:=atI (l:=BB) (i:=t-1) (by omega)
   have e3:(0:Int)<t:=by omega
   by_cases hw:le≤p.w
   ·have hb0:=hwd hw h0
    simp(disch:=omega)[hI,hx,hlk,hx1,ht,e0,e1,e2,hti,hb,hb0,hw,hIn,h0,wrap64,-getElem?_pos]
    exact ae (m':=Ls.length-(i+1)) (by omega) ⟨i+1,by omega,by omega,by simp(disch:=omega)[hw]⟩
   ·simp(disch:=omega)[hI,hx,hlk,hx1,ht,e0,e1,hti,hw,hIn,h0,wrap64,-getElem?_pos]
    exact ae (m':=Ls.length-(i+1)) (by omega) ⟨i+1,by omega,by omega,by simp(disch:=omega)[hw]⟩
 ·obtain rfl:i=Ls.length:=by omega
  have hI:¬ ((Ls.length:Int)<Ls.length):=by omega
  simp(disch:=omega)[hI,hA]
end Bi
end Go.Ab
