/- The law ParagraphFonts: walked. -/
import Derived.Test.YteddnfbjjbcmgaaGreatPaFo2
set_option linter.unusedSimpArgs false
set_option linter.unusedVariables false
namespace Go.Ab
open Go.Proofs
namespace Bi
attribute [local congr] ay
set_option maxHeartbeats 16000000 in
set_option maxRecDepth 100000 in
theorem hfonts_ok(d:Nat)(l:List Int):∃ v h',aF Tryz.prog md pZ 10000 (d+18) ⟨0,[],0⟩ 7 [il l] []=some (v,h')∧v=.bool true:=by
 have hA:=fun cfg h=>mG (d+16) cfg h
 have hNw:=fun cfg h=>nh (prim:=pZ) (d+16) cfg h (aV _ (by decide)) l
 have hL:(l.take 4000).length≤4000:=by simp;omega
 refine cm (R:=fun r _=>r=.bool true) (aV _ (by decide)) Tryz.func7 rfl rfl rfl ?_
 generalize hLL:l.take 4000=L at *
 have r0:Rd [some [il L,.int .i64 0]] 0 L 0:=⟨rfl,by omega⟩
 obtain⟨fs,k1,hf1,hf3,hfo,hk1,c1⟩:=gW (prim:=pZ) (d+13) ⟨0,[],0⟩ [some [il L,.int .i64 0]] aV L 0 hL 0 r0 (aP (by simp)) (by simp)
 have r1:Rd (hk [some [il L,.int .i64 0]] 0 L k1) 0 L k1:=r0.set hk1
 obtain⟨p,k2,hpo,hk2,c2⟩:=ni (prim:=pZ) (d+12) ⟨0,[],0⟩ (hk [some [il L,.int .i64 0]] 0 L k1) aV L k1 hL 0 r1 (aP (by simp)) (by simp) 10 fs.length (by omega) (by omega) (by omega)
 obtain⟨X,hXp,hXf,C⟩:=xC hpo (by omega) hf1 hf3 hfo
 have hLn:=fun cfg h=>C.lines d cfg h
 rw[hXp,hXf]at hLn
 obtain⟨hlf,hmp,s0,s1,s2,s3,s4,l5,t5⟩:=qA p
 have hlf':=eq_true (List.all_eq_true.1 hlf)
 have hp0:putAt [V.nils,.nils,.int .i64 0,.int .i64 0,.int .i64 0] 0 (bU p)=bU p:=rfl
 have hll:=C.hV.linL C.h5
 have hlm:∀ x∈X.linA X.secs 0,0≤x.l.f∧x.l.f≤2000∧0≤x.l.t∧x.l.t≤2000∧x.l.a=cmx (inL p x.l.f x.l.t) X.asc p.s.length∧x.l.d=cmx (inL p x.l.f x.l.t) X.des p.s.length:=fun x hx=>by
  have:=C.hV.fline (by rw[hXp];exact hpo.cov) hx
  rw[hXp]at this
  exact this
 have hat:=fun (q:Nat) hq=>C.hV.at (q:=q) hq
 rw[hXp,hXf]at hat
 have hsb:=C.hsb
 rw[hXp]at hsb
 generalize X.asc=fa at *
 generalize X.des=fd at *
 generalize X.hei=fh at *
 generalize X.linA X.secs 0=Ls at *
 have e14:((10:Nat):Int)=10:=rfl
 rw[e14]at c2
 simp only[hk,List.set_cons_zero]at c1 c2
 simp(disch:=omega)[hNw,c1,c2,hlf',hmp,l5,t5,hp0,hLn]
 have hlk:∀ x:bV,(aL x).length=10:=fun _=>rfl
 have hlmp:∀ x:bV,isMap (aL x)=false:=fun _=>rfl
 have hlt:∀ x:bV,(aL x).take 10=aL x:=fun _=>rfl
 have hlf2:∀ x:bV,(∀ c∈aL x,c.leaf=true)=True:=fun x=>eq_true (by simp[aL,bR])
 have hlr:∀ x:bV,(∀ c∈aL x,c.rf=true)=True:=fun x=>eq_true (by simp[aL,bR])
 have hxp:∀ x:bV,putAt [V.int .i64 0,.int .i64 0,.int .i64 0,.int .i64 0,.int .i64 0,.int .i64 0,.int .i64 0,.int .i64 0,.int .i64 0,.nils] 0 (aL x)=aL x:=fun _=>rfl
 have hx0:∀ x:bV,slot (aL x) 0=some (.int .i64 x.l.f):=fun _=>rfl
 have hx1:∀ x:bV,slot (aL x) 1=some (.int .i64 x.l.t):=fun _=>rfl
 have hx6:∀ x:bV,slot (aL x) 6=some (.int .i64 x.l.a):=fun _=>rfl
 have hx7:∀ x:bV,slot (aL x) 7=some (.int .i64 x.l.d):=fun _=>rfl
 have hsn:=hpo.sl
 refine ah (fun m fr H=>∃ (i:Nat) (Z:Heap),i≤Ls.length∧m=Ls.length-i∧H=some [il L,.int .i64 k2]::some (bU p)::Z ∧
  Slots 123 [(4,.lst (fs.map aD)),(5,.ptr 1 0),(6,.lst (Ls.map aL)),(8,.int .i64 i)] fr) (m:=Ls.length) (by omega) ⟨0,[],by omega,by omega,rfl,by simp⟩ ?_
 rintro m fr H ⟨i,Z,hi,rfl,rfl,hs⟩
 obtain⟨j,rfl⟩:=hs.ex
 clear hs
 by_cases hlt2:i<Ls.length
 ·have hI:(i:Int)<Ls.length:=by omega
  obtain⟨x,hx⟩:=atG hlt2
  obtain⟨w1,w2,w3,w4,w5,w6⟩:=hlm x (List.mem_of_getElem? hx)
  simp(disch:=omega)[hI]
  refine ah (fun m fr H=>∃ (k:Nat) (Z:Heap),k≤p.s.length∧m=p.s.length-k∧H=some [il L,.int .i64 k2]::some (bU p)::Z ∧
   Slots 123 [(4,.lst (fs.map aD)),(5,.ptr 1 0),(6,.lst (Ls.map aL)),(8,.int .i64 i),(9,.int .i64 (cmx (inL p x.l.f x.l.t) fa k)),(10,.int .i64 (cmx (inL p x.l.f x.l.t) fd k)),(11,.int .i64 k)] fr) (m:=p.s.length) (by omega) ⟨0,Z,by omega,by omega,rfl,by simp[cmx]⟩ ?_
  rintro m fr H ⟨k,Z,hk,rfl,rfl,hs⟩
  obtain⟨j2,rfl⟩:=hs.ex
  clear hs
  by_cases hlt3:k<p.s.length
  ·have hK:(k:Int)<p.s.length:=by omega
   obtain⟨sp,f,hq,hf,h71,h72,h73,h74,hfv,hAE,hDE,hHE⟩:=hat k hlt3
   have hsb2:=hsb sp (List.mem_of_getElem? hq)
   obtain⟨fi,hfi⟩:∃ x:Nat,sp.n=x:=⟨sp.n.toNat,by omega⟩
   rw[hfi,Int.toNat_natCast]at hf
   have hwz:Cfg.wr ⟨0,[],0⟩ (Z.length+1+1)=true:=aP (by simp)
   have hsl4:(bn sp).length=4:=rfl
   have hst4:List.take 4 (bn sp)=bn sp:=rfl
   have hslf:(∀ x∈bn sp,x.leaf=true)=True:=eq_true (by simp[bn])
   have hsrf:(∀ x∈bn sp,x.rf=true)=True:=eq_true (by simp[bn])
   have hsmp:isMap (bn sp)=false:=rfl
   have hpa:putAt [V.int .i64 0,.int .i64 0,.int .i64 0,.int .i64 0] 0 (bn sp)=bn sp:=rfl
   have u0:slot (bn sp) 0=some (.int .i64 sp.f):=rfl
   have u1:slot (bn sp) 1=some (.int .i64 sp.t):=rfl
   have u2:slot (bn sp) 2=some (.int .i64 fi):=by rw[← hfi];rfl
   have u3:slot (bn sp) 3=some (.int .i64 sp.z):=rfl
   have hbs:ab (some [il L,V.int .i64 k2]::some (bU p)::(Z++[some (bn sp)])) (Z.length+1+1)=some (bn sp):=by simp[ab,hsmp]
   have hin:inL p x.l.f x.l.t k=((decide (sp.f<x.l.t)&&decide (x.l.f<sp.t))||(decide (x.l.f=x.l.t)&&decide ((k:Int)=(p.s.length:Int)-1))):=by unfold inL;rw[hq]
   simp(disch:=omega)[hK,hmp,s1,hq,hsl4,hst4,hslf,hpa,hwz,-getElem?_pos]
   refine eK (fun fr' H2=>H2=some [il L,V.int .i64 k2]::some (bU p)::(Z++[some (bn sp)])∧Slots 123 [(4,.lst (fs.map aD)),(5,.ptr 1 0),(6,.lst (Ls.map aL)),(8,.int .i64 i),(9,.int .i64 (cmx (inL p x.l.f x.l.t) fa k)),(10,.int .i64 (cmx (inL p x.l.f x.l.t) fd k)),(11,.int .i64 k),(12,.ptr (Z.length+1+1) 0),(85,.bool (inL p x.l.f x.l.t k))] fr') ?_ ?_
   ·refine ai 29 (by kernel_rfl) ?_
    obtain⟨z,hz⟩:∃ z,inL p x.l.f x.l.t k=z:=⟨_,rfl⟩
    rw[hz]at hin ⊢
    generalize cmx (inL p x.l.f x.l.t) fa k=va at *
    generalize cmx (inL p x.l.f x.l.t) fd k=vd at *
    rcases Classical.propComplete (sp.f<x.l.t) with c1|c1<;>rcases Classical.propComplete (x.l.f<sp.t) with c2|c2<;>rcases Classical.propComplete (x.l.f=x.l.t) with c3|c3
    all_goals simp only[c1,c2,c3,decide_true,decide_false,Bool.and_true,Bool.and_false,Bool.true_and,Bool.false_and,Bool.or_false,Bool.true_or,Bool.false_or]at hin
    all_goals subst hin
    all_goals simp(disch:=omega)[hbs,u0,u1,hx,hlk,hx0,hx1,hmp,s1,c1,c2,c3,wrap64,-getElem?_pos]
    all_goals exact bO ⟨rfl,by simp⟩
   ·rintro _ _ ⟨rfl,hs⟩
    obtain⟨j3,rfl⟩:=hs.ex
    clear hs
    have hA1:=fun cfg h=>sY (prim:=pZ) (d+9) cfg h aV f hfv sp.z h73 h74
    have hD1:=fun cfg h=>lI (prim:=pZ) (d+10) cfg h aV f hfv sp.z h73 h74
    have hrz:=jK hfv h73 h74
    have mA:md 22=0:=rfl
    have mD:md 23=0:=rfl
    have hfn4:(aD f).length=8:=rfl
    have hft4:List.take 8 (aD f)=aD f:=rfl
    have hff4:(∀ x∈aD f,x.leaf=true)=True:=eq_true (by simp[aD])
    have hmx:∀ a b:Int,(if a<b then b else a)=max a b:=fun a b=>by split<;>omega
    have ha1:cmx (inL p x.l.f x.l.t) fa (k+1)=if inL p x.l.f x.l.t k=true then max (cmx (inL p x.l.f x.l.t) fa k) (nT f sp.z) else cmx (inL p x.l.f x.l.t) fa k:=by rw[cmx,hAE]
    have hd1:cmx (inL p x.l.f x.l.t) fd (k+1)=if inL p x.l.f x.l.t k=true then max (cmx (inL p x.l.f x.l.t) fd k) (lG f sp.z) else cmx (inL p x.l.f x.l.t) fd k:=by rw[cmx,hDE]
    refine cw (z:=inL p x.l.f x.l.t k) (by simp) (fun hb=>?_) (fun hb=>?_)
    ·rw[if_pos hb]at ha1 hd1
     refine ai 18 (by kernel_rfl) ?_
     simp(disch:=omega)[hbs,u2,u3,hf,hfn4,hft4,mA,hA1,hD1,lf,hmx,wrap64,-getElem?_pos]
     exact ae (m':=p.s.length-(k+1)) (by omega) ⟨k+1,Z++[some (bn sp)],by omega,by omega,rfl,by rw[ha1,hd1];simp(disch:=omega)⟩
    ·rw[if_neg (by rw[hb];simp)]at ha1 hd1
     simp(disch:=omega)[wrap64,-getElem?_pos]
     exact ae (m':=p.s.length-(k+1)) (by omega) ⟨k+1,Z++[some (bn sp)],by omega,by omega,rfl,by rw[ha1,hd1];simp(disch:=omega)⟩
  ·obtain rfl:k=p.s.length:=by omega
   have hK:¬ ((p.s.length:Int)<p.s.length):=by omega
   simp(disch:=omega)[hK,hmp,s1,hx,hlk,hx6,hx7,w5,w6,wrap64,-getElem?_pos]
   exact ae (m':=Ls.length-(i+1)) (by omega) ⟨i+1,Z,by omega,by omega,rfl,by simp(disch:=omega)⟩
 ·obtain rfl:i=Ls.length:=by omega
  have hI:¬ ((Ls.length:Int)<Ls.length):=by omega
  simp(disch:=omega)[hI,hA]
end Bi
end Go.Ab
