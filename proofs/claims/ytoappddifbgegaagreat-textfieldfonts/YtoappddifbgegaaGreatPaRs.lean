/- The program: the levels of a line. -/
import Derived.Test.YtoappddifbgegaaGreatPiLev
set_option linter.all false
set_option maxHeartbeats 8000000
namespace Go.Ab
open Go.Proofs
namespace Bi
def uq(o:List Int)(e:Int)(f:Nat):Nat->List Int->List Int
 | 0,lv=>lv
 | m+1,lv=>if ng (o.getD (f+m) 0)=true\/o.getD (f+m) 0=11\/o.getD (f+m) 0=10 then uq o e f m (lv.set m e) else lv
theorem wU(o:List Int)(e:Int)(f:Nat):∀ (m:Nat) (lv:List Int),(uq o e f m lv).length=lv.length
 | 0,_=>rfl
 | m+1,lv=>by
  unfold uq;split
  ·rw[wU o e f m];simp
  ·rfl
def mN(t lv:List Int)(e a b:Int):List Int:=uq (t.map cA) e a.toNat (b.toNat-a.toNat) ((lv.take b.toNat).drop a.toNat)
theorem wT{t lv:List Int}{e:Int}{a b:Nat}(h1:lv.length=t.length)(h2:a<=b)(h3:b<=t.length):(mN t lv e a b).length=b-a:=by
 unfold mN;rw[wU];simp;omega
theorem A0{prim:FuncId->Option Prim}(d:Nat)(hp:prim 279=none)(cfg:Cfg)(H:Heap)(h0:cfg.lo<=H.length)(l:List Int)(hl:l≠[])(h3:l.length<=2000):af md (K prim (d+1)) cfg 279 [il l] H=some (.sl (H.length+1) 0 l.length l.length 1,H++[none,some (l.map (V.int .i64))]):=by
 obtain⟨a,r,rfl⟩:∃ a r,l=a::r:=by
  cases l with
  | nil=>exact absurd rfl hl
  | cons a r=>exact⟨a,r,rfl⟩
 refine call2 rfl hp Tryz.func279 rfl rfl rfl ?_;have h4:cw Tryz.prog .eql 52 (il (a::r)) .nils=some (.bool false):=by kernel_rfl
 simp only[Lp]at h3;simp(disch:=omega)[h4];rw[eN (cs:=[]) (by simp[ab,isMap]) (bH h0) (by omega) (by omega) (by omega) (by simp),dt];simp
section
attribute [local congr] tt
variable {prim:FuncId->Option Prim}(d:Nat)
theorem GN(hp:∀ f,Np5 f->prim f=none)(hpR:prim 237=none)(hCl:∀ (cfg:Cfg) (H:Heap) (l:List Int),cfg.lo<=H.length->l≠[]->l.length<=2000->af md (K prim (d+5)) cfg 279 [il l] H=some (.sl (H.length+1) 0 l.length l.length 1,H++[none,some (l.map (V.int .i64))]))
  (hCn:∀ (cfg:Cfg) (H:Heap),af md (K prim (d+5)) cfg 279 [.lst []] H=some (.lst [],H)) (t lv:List Int) (ht:t.length<=2000) (h8:lv.length=t.length) (e:Int) (f g:Nat) (hu:f<=g) (hf:g<=t.length) (cfg:Cfg) (h:Heap) (ha:cfg.lo<=h.length):
  ∃ r h2,af md (K prim (d+6)) cfg 237 [rl t,il lv,.int .i64 e,.int .i64 f,.int .i64 g] h=some (r,h2) /\
   ((f=g/\r=.lst []/\h2=h)\/(f<g/\Hp h2 h [(1,r,(mN t lv e f g).map (V.int .i64))])):=by
 refine tD (Post:=fun r h2=>(f=g/\r=.lst []/\h2=h)\/(f<g/\Hp h2 h [(1,r,(mN t lv e f g).map (V.int .i64))])) rfl hpR Tryz.func237 rfl rfl rfl ?_;have hB:=fun cfg h r=>oW (prim:=prim) (d+2) cfg h hp r;have hg:=fun cfg h x=>uR (prim:=prim) (d+3) cfg h (hp 287 (by decide)) (hp 304 (by decide)) x;have hh:md 279=2:=rfl;have hgt:∀ (j:Nat) (z:Int),t[j]?=some z->(t.map cA)[j]?=some (cA z):=fun j z hz=>by rw[Lh,hz];rfl
 have hv:(t.map cA).length=t.length:=by simp
 have h6:mN t lv e f g=uq (t.map cA) e f (g-f) ((lv.take g).drop f):=by unfold mN;simp
 rw[h6];generalize t.map cA=o at *;have hc:((lv.take g).drop f).length=g-f:=by simp;omega
 generalize hP:(lv.take g).drop f=P at *;have h1:¬ ((f:Int)<0):=by omega
 have h2:¬ ((g:Int)<f):=by omega
 have h3:¬ ((t.length:Int)<g):=by omega
 by_cases he:P=[]
 ·subst he;obtain rfl:f=g:=by simp at hc;omega
  simp(disch:=omega)[h1,h2,h3,h8,hP,hCn,wrap64];refine ah (fun m fr H=>H=h/\Slots 69 [(0,rl t),(1,il lv),(3,.int .i64 f),(11,.lst []),(12,.int .i64 ((f:Int)-1))] fr) (m:=0) (by omega) ⟨rfl,by simp⟩ ?_;rintro m fr H ⟨rfl,hs⟩;obtain⟨j,rfl⟩:=hs.ex;clear hs;have h9:¬ ((f:Int)<=f-1):=by omega
  simp(disch:=omega)[h9]
 ·have h7:=fun cfg H ha=>hCl cfg H P ha he (by omega);have h0:f<g:=by
   rcases LS f g with h|h
   ·exact h
   ·exact absurd (LH.1 (by omega)) he
  simp(disch:=omega)[h1,h2,h3,h8,hP,h7,wrap64];refine ah (fun m fr H=>∃ (q:Nat) (lv':List Int),q<=g-f/\m=q/\lv'.length=g-f/\uq o e f (g-f) P=uq o e f q lv'/\H=h++[none,some (lv'.map (V.int .i64))] /\
   Slots 69 [(0,rl t),(1,il lv),(2,.int .i64 e),(3,.int .i64 f),(11,.sl (h.length+1) 0 P.length P.length 1),(12,.int .i64 ((f:Int)+q-1))] fr) (m:=g-f) (by omega) ⟨g-f,P,by omega,rfl,hc,rfl,by simp,by simp;omega⟩ ?_
  rintro m fr H ⟨q,lv',hq,hm,hd,hF,rfl,hs⟩;replace hm:=hm.symm;subst hm;obtain⟨j,rfl⟩:=hs.ex;clear hs;rw[hF];have h4:Hp (h++[none,some (lv'.map (V.int .i64))]) h [(1,.sl (h.length+1) 0 P.length P.length 1,lv'.map (V.int .i64))]:=by
   have:=((Hp.start (H:=h)).push [none]).new (cs:=lv'.map (V.int .i64)) (n:=P.length) (k:=1) (by cases lv'<;>rfl) (by simp;omega) [];simpa using this
  rcases q with _|q
  ·have h9:¬ ((f:Int)<=(f:Int)-1):=by omega
   simp(disch:=omega)[h9,uq];exact⟨h0,h4⟩
  ·have hj:(f:Int)+((q+1:Nat):Int)-1=(f:Int)+q:=by omega
   rw[hj];obtain⟨z,hz⟩:∃ z,t[f+q]?=some z:=⟨_,K4 (by omega)⟩;have eo:o.getD (f+q) 0=cA z:=by rw[K9,hgt _ z hz];rfl
   rw[uq,eo];have h9:(f:Int)<=(f:Int)+q:=by omega
   have hl:(f:Int)+q-f=q:=by omega
   have hn:((f:Int)+q).toNat=f+q:=by omega
   simp +contextual (disch:=omega)[-au,wG_gd,EZ,FL,BH,h9,hn,hz,hB,hg,-getElem?_pos];refine ar (fun hb=>?_) (fun hb=>?_)
   ·rw[if_neg (by simp at hb;simp[hb])];simp(disch:=omega);exact⟨h0,h4⟩
   ·rw[if_pos (by cases hw:ng (cA z)<;>simp_all;omega)];have hle:q+1<=g-f:=hq;have hr:cfg.wr (h.length+1)=true:=bH (by omega);simp(disch:=omega)[hl,hd,hle,hr,wrap64,gk,-List.map_set];exact ae (m':=q) (by omega) ⟨q,lv'.set q e,by omega,rfl,by simpa using hd,rfl,rfl,by simp(disch:=omega)⟩
end
end Bi
end Go.Ab
