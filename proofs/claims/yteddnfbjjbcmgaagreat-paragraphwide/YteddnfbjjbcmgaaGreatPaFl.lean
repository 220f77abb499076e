/- Several texts of this proof in one. -/
import Derived.Test.YteddnfbjjbcmgaaGreatPiGen
import Derived.Test.YteddnfbjjbcmgaaGreatPaRef2
import Derived.Test.YteddnfbjjbcmgaaGreatPiJ
import Derived.Test.YteddnfbjjbcmgaaGreatPaFo2
set_option linter.unusedSimpArgs false
set_option linter.unusedVariables false
namespace Go.Ab
open Go.Proofs
namespace Bi
attribute [local congr] ay
section
variable {prim:FuncId→Option Prim}(d:Nat)
set_option maxHeartbeats 8000000 in
theorem Cf(hp:∀ f,Np5 f→prim f=none)(t:List Int)(ht:t.length≤2000):
  ∃ r,(∃ l:List Int,r=il l∧l.length≤t.length+1∧(∀ x∈l,0≤x∧x≤t.length)∧l.Pairwise (·<·))∧∀ cfg h,af md (K prim (d+4)) cfg 14 [rl t] h=some (r,h):=by
 refine ef rfl (hp 14 (by decide)) Tryz.func14 rfl rfl rfl (by simp) ?_
 have ht2:¬ (2000:Int)<t.length:=by omega
 by_cases h0:t=[]
 ·subst h0
  simp
 have hpos:0<t.length:=List.length_pos_iff.2 h0
 have h1:¬ (t.length:Int)=0:=by omega
 have hB:=fun cfg h r=>sQ (prim:=prim) d hp cfg h r
 simp(disch:=omega)[h0,ht2,gM]
 refine ah (fun m fr H=>∃ (i:Nat) (c:List Int),i≤t.length∧m=t.length-i∧c.length=t.length∧H=[some (c.map (V.int .i64))] ∧
  Slots 51 [(0,rl t),(3,.sl 0 0 t.length t.length 1),(19,rl t),(20,.int .i64 t.length),(21,.int .i64 i)] fr) (m:=t.length) (by omega) ⟨0,List.replicate t.length 0,by omega,by omega,by simp,by simp,by simp⟩ ?_
 rintro m fr H ⟨i,c,hi,rfl,hc,rfl,hs⟩
 obtain⟨j,rfl⟩:=hs.ex
 clear hs
 by_cases hlt:i<t.length
 ·have hle:i+1≤t.length:=by omega
  simp(disch:=omega)[-List.map_set,hlt,hB,atI,hc,hle,wrap64,-getElem?_pos]
  exact ae (m':=t.length-(i+1)) (by omega) ⟨i+1,c.set i (cBr (lgI t i)),by omega,by omega,by simpa using hc,rfl,by simp(disch:=omega)⟩
 obtain rfl:i=t.length:=by omega
 simp(disch:=omega)
 have g0:Hp [some (c.map (V.int .i64))] [some (c.map (V.int .i64))] []:=Hp.start
 refine ah (fun m fr H=>∃ (q:Nat) (v:V) (l:List Int),q+1≤t.length∧m=t.length-(q+1)∧l.length≤q+1∧(∀ x∈l,0≤x∧x≤q)∧l.Pairwise (·<·)∧Hp H [some (c.map (V.int .i64))] [(1,v,l.map (V.int .i64))] ∧
  Slots 51 [(0,rl t),(3,.sl 0 0 t.length t.length 1),(6,v),(7,.int .i64 ((q:Int)+1))] fr) (m:=t.length-1) (by omega) ⟨0,.sl 1 0 1 1 1,[0],by omega,by omega,by simp,by simp,by simp,by simpa using g0.new (cs:=[V.int .i64 0]) (n:=1) (k:=1) rfl rfl [],by simp⟩ ?_
 rintro m fr H ⟨q,v,l,hq,rfl,hll,hlr,hpw,hhp,hs⟩
 obtain⟨j2,rfl⟩:=hs.ex
 clear hs
 by_cases hlt:q+1<t.length
 ·have hI:(q:Int)+1<t.length:=by omega
  have hb0:ab H 0=some (c.map (V.int .i64)):=by rw[hhp.block (by simp)];simp[ab]
  obtain⟨b,hbd⟩:=wg (prim:=prim) (d+1) hp H 0 c hb0 (by omega) (q+1) (by omega) (by omega)
  rw[hc]at hbd
  have e1:((q+1:Nat):Int)=(q:Int)+1:=by omega
  rw[e1]at hbd
  cases b
  ·simp(disch:=omega)[hI,hbd,wrap64]
   exact ae (m':=t.length-(q+1+1)) (by omega) ⟨q+1,v,l,by omega,by omega,by omega,fun x hx=>by have:=hlr x hx;omega,hpw,hhp,by simp(disch:=omega)⟩
  ·have hbn:ab (H++[some [V.int .i64 ((q:Int)+1)]]) H.length=some [V.int .i64 ((q:Int)+1)]:=by rw[cy rfl];rfl
   simp(disch:=omega)[hI,hbd,hbn]
   refine bM (m:=1) (hhp.push [some [V.int .i64 ((q:Int)+1)]]) (by simp) rfl rfl (by omega) (by omega) (by simp;omega) (by simp;omega) ?_
   intro v' H' hhp2
   simp(disch:=omega)[wrap64]
   refine ae (m':=t.length-(q+1+1)) (by omega) ⟨q+1,v',l++[(q:Int)+1],by omega,by omega,by simp;omega,?_,List.pairwise_append.2 ⟨hpw,by simp,fun x hx y hy=>by have:=hlr x hx;simp at hy;omega⟩,by simpa using hhp2,by simp(disch:=omega)⟩
   intro x hx
   rcases List.mem_append.1 hx with hx|hx
   ·have:=hlr x hx;omega
   ·simp at hx;omega
 ·have hI:¬ (q:Int)+1<t.length:=by omega
  have hbn:ab (H++[some [V.int .i64 (t.length:Int)]]) H.length=some [V.int .i64 (t.length:Int)]:=by rw[cy rfl];rfl
  simp(disch:=omega)[hI,hbn]
  refine bM (m:=1) (hhp.push [some [V.int .i64 (t.length:Int)]]) (by simp) rfl rfl (by omega) (by omega) (by simp;omega) (by simp;omega) ?_
  intro v' H' hhp2
  have f1:=OwnC.frzI (d:=4) (kd:=.i64) (l:=l++[(t.length:Int)]) (n:=0) (by simpa using hhp2.head) (Nat.zero_le _)
  simp(disch:=omega)
  refine⟨_,f1,_,rfl,by simp;omega,?_,List.pairwise_append.2 ⟨hpw,by simp,fun x hx y hy=>by have:=hlr x hx;simp at hy;omega⟩⟩
  intro x hx
  rcases List.mem_append.1 hx with hx|hx
  ·have:=hlr x hx;omega
  ·simp at hx;omega
end
end Bi
end Go.Ab
namespace Go.Ab
open Go.Proofs
namespace Bi
def ln(r:Int):Row:=if r≤161 then bq tab1 r else if r≤1642 then bq tab2 r else if r≤8237 then bq tab3 r else bq tab4 r
def nU(x:Row):List Int:=[IntKind.i64.wrap x.2.2.1,IntKind.i64.wrap x.2.2.2.1,IntKind.i64.wrap x.2.2.2.2.1]
def Be(r:Int):List Int:=((look refTbl r).getD [0,0,0,0,0]).take 3
theorem BZ:(10000001::brkB).all (fun b=>decide (nU (ln b)=Be b))=true:=by kernel_rfl
theorem EE:(10000001::brkB).all (fun b=>decide (((nU (ln b)).getD 2 0=4)↔b=32))=true:=by kernel_rfl
theorem wE{r s:Int}(h2:Sat brkB r s):ln r=ln s:=by
 have a1:=h2 161 (by simp[brkB])
 have a2:=h2 1642 (by simp[brkB])
 have a3:=h2 8237 (by simp[brkB])
 have s1:bq tab1 r=bq tab1 s:=fE fun b hb=>h2 b (by simp only[brkB,List.mem_cons,List.mem_append];simp[hb])
 have s2:bq tab2 r=bq tab2 s:=fE fun b hb=>h2 b (by simp only[brkB,List.mem_cons,List.mem_append];simp[hb])
 have s3:bq tab3 r=bq tab3 s:=fE fun b hb=>h2 b (by simp only[brkB,List.mem_cons,List.mem_append];simp[hb])
 have s4:bq tab4 r=bq tab4 s:=fE fun b hb=>h2 b (by simp only[brkB,List.mem_cons,List.mem_append];simp[hb])
 unfold ln
 rw[s1,s2,s3,s4]
 by_cases g1:r≤161
 ·rw[if_pos g1,if_pos (a1.1 g1)]
 ·rw[if_neg g1,if_neg (fun e=>g1 (a1.2 e))]
  by_cases g2:r≤1642
  ·rw[if_pos g2,if_pos (a2.1 g2)]
  ·rw[if_neg g2,if_neg (fun e=>g2 (a2.2 e))]
   by_cases g3:r≤8237
   ·rw[if_pos g3,if_pos (a3.1 g3)]
   ·rw[if_neg g3,if_neg (fun e=>g3 (a3.2 e))]
theorem ER(r:Int):nU (ln r)=Be r∧((nU (ln r)).getD 2 0=4↔r=32):=by
 obtain⟨s,h1,h2⟩:=rep r
 have e1:=wE h2
 have e2:Be r=Be s:=by
  unfold Be
  rw[vT fun b hb=>h2 b (by simp only[brkB,List.mem_cons,List.mem_append];simp[hb])]
 have h3:(31:Int)∈brkB:=by decide
 have h4:(32:Int)∈brkB:=by decide
 have h5:=h2 31 h3
 have h6:=h2 32 h4
 have c1:=of_decide_eq_true (List.all_eq_true.1 BZ s h1)
 have c2:=of_decide_eq_true (List.all_eq_true.1 EE s h1)
 rw[e1,e2]
 exact⟨c1,c2.trans ⟨fun h=>by omega,fun h=>by omega⟩⟩
theorem sS(r:Int):rcl 0 r=cBr r∧rcl 2 r=cLn r∧(cLn r=4↔r=32):=by
 unfold rcl cBr cLn dX findS
 by_cases h:44032≤r∧r≤55203
 ·rw[if_pos h,if_pos h]
  have hm:(r-44032).tmod 28=(r-44032)%28:=Int.tmod_eq_emod_of_nonneg (by omega)
  rw[hm]
  by_cases h2:(r-44032)%28=0
  ·rw[if_pos h2,if_pos h2]
   exact⟨by decide,by decide,⟨fun h=>absurd h (by decide),fun h=>by omega⟩⟩
  ·rw[if_neg h2,if_neg h2]
   exact⟨by decide,by decide,⟨fun h=>absurd h (by decide),fun h=>by omega⟩⟩
 ·rw[if_neg h,if_neg h]
  obtain⟨h1,h2⟩:=ER r
  have e:(if r≤161 then bq tab1 r else if r≤1642 then bq tab2 r else if r≤8237 then bq tab3 r else bq tab4 r)=ln r:=rfl
  rw[e]
  unfold Be at h1
  generalize (look refTbl r).getD [0,0,0,0,0]=l at *
  refine⟨?_,?_,h2⟩
  ·have:=congrArg (fun l:List Int=>l.getD 0 0) h1
   simp only[nU,List.getD_eq_getElem?_getD,List.getElem?_take_of_lt (show 0<3 by omega)]at this ⊢
   exact this.symm
  ·have:=congrArg (fun l:List Int=>l.getD 2 0) h1
   simp only[nU,List.getD_eq_getElem?_getD,List.getElem?_take_of_lt (show 2<3 by omega)]at this ⊢
   exact this.symm
end Bi
end Go.Ab
namespace Go.Ab
open Go.Proofs
namespace Bi
def FitP(X:Txt)(k:Nat×Nat)(s:Nat)(t:Int):Prop:=t=s∨X.fit k s t.toNat≤X.p.w∨∀ c∈X.C,¬ ((s:Int)<c∧c<t)
theorem tf{X:Txt}{k:Nat×Nat}{s t:Nat}:∀ (l done:List Int) (b:Int),X.C=done++l→X.C.Pairwise (·<·)→((b=t∧∀ c∈done,¬ ((s:Int)<c∧c<t))∨(X.fit k s b.toNat≤X.p.w∧∀ c∈l,b<c))→FitP X k s (X.frc k s t b l)
 | [],done,b,hC,_,h=>by
  rw[Txt.frc]
  rcases h with⟨rfl,h⟩|⟨h,_⟩
  ·refine .inr (.inr fun c hc=>h c ?_)
   rw[hC,List.append_nil]at hc
   exact hc
  ·exact .inr (.inl h)
 | c::l,done,b,hC,hp,h=>by
  have hp2:=hp
  rw[hC]at hp2
  have hpc:=(List.pairwise_append.1 hp2)
  have hcl:=(List.pairwise_cons.1 hpc.2.1).1
  rw[Txt.frc]
  split
  ·rename_i hcs
   refine tf l (done++[c]) b (by rw[hC];simp) hp ?_
   rcases h with⟨h1,h⟩|⟨h1,h2⟩
   ·refine .inl ⟨h1,fun x hx=>?_⟩
    rcases List.mem_append.1 hx with hx|hx
    ·exact h x hx
    ·simp at hx
     subst hx
     omega
   ·exact .inr ⟨h1,fun x hx=>h2 x (by simp[hx])⟩
  ·rename_i hcs
   split
   ·rename_i hw
    rcases h with⟨h1,h⟩|⟨h1,h2⟩
    ·refine .inr (.inr fun x hx=>?_)
     have hmin:min b c=c:=by omega
     rw[hmin]
     rw[hC]at hx
     rcases List.mem_append.1 hx with hx|hx
     ·have:=h x hx
      omega
     ·rcases List.mem_cons.1 hx with rfl|hx
      ·omega
      ·have:=hcl x hx
       omega
    ·have:=h2 c (by simp)
     have hmin:min b c=b:=by omega
     rw[hmin]
     exact .inr (.inl h1)
   ·rename_i hw
    refine tf l (done++[c]) c (by rw[hC];simp) hp (.inr ⟨by omega,hcl⟩)
theorem pz{X:Txt}{k:Nat×Nat}{s:Nat}(hp:X.C.Pairwise (·<·)):∀ (l:List Nat) (b:Nat),(b=s∨X.fit k s b≤X.p.w)→FitP X k s (X.endL k s b l)
 | [],b,h=>by
  rw[Txt.endL]
  rcases h with h|h
  ·exact .inl (by omega)
  ·exact .inr (.inl h)
 | t::l,b,h=>by
  rw[Txt.endL]
  split
  ·exact pz hp l b h
  ·split
   ·rename_i hw
    exact pz hp l t (.inr hw)
   ·split
    ·rcases h with h|h
     ·exact .inl (by omega)
     ·exact .inr (.inl h)
    ·have hf:=tf (X:=X) (k:=k) (s:=s) (t:=t) X.C [] t rfl hp (.inl ⟨rfl,fun _ h=>by cases h⟩)
     by_cases hts:(s:Int)<t
     ·have hr:=jP (X:=X) (k:=k) (s:=s) (t:=t) X.C t hts (Int.le_refl _)
      have e:((X.frc k s t t X.C).toNat:Int)=X.frc k s t t X.C:=by omega
      rw[e]
      exact hf
     ·refine .inr (.inr fun c _ hc=>?_)
      have hle:∀ (l:List Int) (b:Int),b≤t→X.frc k s t b l≤t:=by
       intro l
       induction l with
       | nil=>intro b h;exact h
       | cons c l ih =>
        intro b h
        rw[Txt.frc]
        split
        ·exact ih b h
        ·split
         ·omega
         ·exact ih c (by omega)
      have:=hle X.C t (Int.le_refl _)
      omega
theorem E2{X:Txt}(hp:X.C.Pairwise (·<·))(k:Nat×Nat)(s:Nat):FitP X k s (X.fin k s):=pz hp _ _ (.inl rfl)
theorem wi{w:Int}:∀ {l:List Gly}{x:Int},eL w (dG x l)=eL w l
 | [],_=>rfl
 | g::l,x=>by
  have ih:=wi (w:=w) (l:=l) (x:=x+g.a)
  unfold eL at ih ⊢
  rw[dG,List.filter_cons,List.filter_cons]
  by_cases h:g.f<w
  ·rw[if_pos (by simpa using h),if_pos (by simpa using h),List.map_cons,List.map_cons,List.sum_cons,List.sum_cons,ih]
  ·rw[if_neg (by simpa using h),if_neg (by simpa using h),ih]
theorem FL{X:Txt}{k:Nat×Nat}{s t:Nat}:eL (X.wht s t) (X.lgl k s t)=X.fit k s t:=by
 have e:X.fit k s t=eL (X.wht s t) (X.gls k s t):=rfl
 rw[e]
 unfold Txt.lgl
 split
 ·generalize X.gls k s t=l
  induction l with
  | nil=>rfl
  | cons g l ih =>
   unfold eL at ih ⊢
   rw[List.map_cons,List.filter_cons,List.filter_cons]
   by_cases h:g.f<(X.wht s t:Int)
   ·have e1:(if (X.wht s t:Int)≤g.f then { g with a:=0 } else g)=g:=if_neg (by omega)
    have e2:decide (g.f<(X.wht s t:Int))=true:=decide_eq_true h
    rw[e1,e2,if_pos rfl,if_pos rfl,List.map_cons,List.map_cons,List.sum_cons,List.sum_cons,ih]
   ·have e1:(if (X.wht s t:Int)≤g.f then { g with a:=0 } else g)={ g with a:=0 }:=if_pos (by omega)
    have e2:decide (g.f<(X.wht s t:Int))=false:=decide_eq_false h
    rw[e1,show decide (({ g with a:=0 }:Gly).f<(X.wht s t:Int))=false from e2,if_neg (by simp),if_neg (by simp),ih]
 ·rfl
end Bi
end Go.Ab
namespace Go.Ab
open Go.Proofs
namespace Bi
attribute [local congr] ay
theorem uI(t:List Int)(ht:t.length≤2000):∃ C:List Int,(∀ (d:Nat) (cfg:Cfg) (h:Heap),af md (K pZ (d+4)) cfg 14 [rl t] h=some (il C,h))∧C.length≤t.length+1∧(∀ x∈C,0≤x∧x≤t.length)∧C.Pairwise (·<·):=by
 obtain⟨_,⟨C,rfl,h1,h2,h4⟩,h3⟩:=Cf (prim:=pZ) 0 aV t ht
 refine⟨C,fun d cfg h=>?_,h1,h2,h4⟩
 have:=pa (0+4) d (h3 cfg h)
 rw[show 0+4+d=d+4 by omega]at this
 exact this
def whS(r:Int):Bool:=nlS r||decide (r=32)
theorem zZ(r:Int):whS r=true↔cLn r=4∨nlS r=true:=by
 have h:=(sS r).2.2
 unfold whS
 rw[Bool.or_eq_true,decide_eq_true_eq,h]
 exact Or.comm
section
variable {prim:FuncId→Option Prim}(d:Nat)
theorem DE(hp:∀ f,Np5 f→prim f=none)(cfg:Cfg)(h:Heap)(r:Int):af md (K prim (d+3)) cfg 21 [.int .i32 r] h=some (.bool (nlS r),h):=by
 refine aZ rfl (hp 21 (by decide)) Tryz.func21 rfl rfl rfl (by simp) ?_
 have hL:=fun cfg h r=>qE (prim:=prim) d cfg h hp r
 have hE:=(sS r).2.1
 by_cases h1:cLn r=1
 ·simp(disch:=omega)[hL,hE,h1,nlS]
 by_cases h2:cLn r=2
 ·simp(disch:=omega)[hL,hE,h2,nlS]
 by_cases h3:cLn r=3<;>simp(disch:=omega)[hL,hE,h1,h2,h3,nlS]
theorem IG(hp:∀ f,Np5 f→prim f=none)(cfg:Cfg)(h:Heap)(r:Int):af md (K prim (d+4)) cfg 18 [.int .i32 r] h=some (.bool (whS r),h):=by
 refine aZ rfl (hp 18 (by decide)) Tryz.func18 rfl rfl rfl (by simp) ?_
 have hN:=fun cfg h r=>DE (prim:=prim) d hp cfg h r
 unfold whS
 cases hn:nlS r<;>simp(disch:=omega)[hN,hn]
end
theorem TxV.fitl{X:Txt}(hV:TxV X)(hn:X.p.t.length≤90)(hp:X.C.Pairwise (·<·)){x:bV}(hx:x∈X.linA X.secs 0):
  ∃ s t:Nat,x.l.f=s∧x.l.t=t∧s≤t∧t≤X.p.t.length∧x.gs.length≤8100∧(∀ g∈x.gs,0≤g.a∧g.a≤10000000)∧(eL (X.wht s t) x.gs≤X.p.w∨∀ c∈X.C,¬ ((s:Int)<c∧c<t)):=by
 obtain⟨k,hk,hkV,s,y,h1,h2,rfl⟩:=qb X.secs 0 hV.secs x hx
 have hf:=dB (X:=X) hkV h2
 have hkn:=hkV.2.1
 obtain⟨h8,h9⟩:=hV.gls h1 hf.1 hf.2.1 hkV.2.1 hn
 have hlg:(X.lgl k s (X.fin k s)).length≤8100∧∀ g∈X.lgl k s (X.fin k s),0≤g.a∧g.a≤10000000:=by
  unfold Txt.lgl
  split
  ·refine⟨by simpa using h8,fun g hg=>?_⟩
   obtain⟨g',hg',rfl⟩:=List.mem_map.1 hg
   have:=h9 g' hg'
   split
   ·simp
   ·exact this
  ·exact⟨h8,h9⟩
 refine⟨s,X.fin k s,rfl,rfl,hf.1,by omega,?_,?_,?_⟩
 ·show (dG _ _).length≤8100
  rw[ij]
  exact hlg.1
 ·intro g hg
  obtain⟨g',h3,h4⟩:=qt (show g∈dG _ _ from hg)
  rw[h4]
  exact hlg.2 g' h3
 ·have hfe:eL (X.wht s (X.fin k s)) (dG (X.lx k s (X.fin k s)) (X.lgl k s (X.fin k s)))=X.fit k s (X.fin k s):=by rw[wi,FL]
  show eL _ (dG _ _)≤_∨_
  rw[hfe]
  rcases E2 hp k s with h|h|h
  ·refine .inr fun c _ hc=>?_
   omega
  ·rw[Int.toNat_natCast]at h
   exact .inl h
  ·exact .inr h
end Bi
end Go.Ab
