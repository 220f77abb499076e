/- Buffers: Validate and its reference. -/
import Derived.Test.YtoappddifbgegaaGreatPaCh
set_option linter.all false
set_option maxHeartbeats 4000000
namespace Go.Ab
open Go.Proofs
namespace Bi
abbrev ml(r:List (Int×Int)):V:=.lst (r.map fun x=>[.int .i64 x.1,.int .i64 x.2])
def fy(r:Int):Bool:=decide (0<=r)&&decide (r<=1114111)&&(decide (r<55296)||decide (57343<r))
def fY(r:Int×Int):Bool:=decide (r.1<1)||decide (2000<r.1)||decide (r.2<0)||decide (15<r.2)
def bZ(l:List (Int×Int)):Int:=(l.map (·.1)).sum
def cz:List (Int×Int)->Bool
 | a::b::r=>decide (a.2=b.2)||cz (b::r)
 | _=>false
def iy(t:List Int)(runs:List (Int×Int)):Int:=
 if 2000<t.length then 2
 else if t.all fy=false then 1
 else if runs.any fY then 1
 else if bZ runs≠t.length then 1
 else if cz runs then 10 else 0
theorem eb(x:Int×Int):∀ (l:List (Int×Int)),cz (l++[x])=(cz l||(match l.getLast? with
  | some y=>decide (y.2=x.2)
  | none=>false))
 | []=>rfl
 | [a]=>by simp[cz]
 | a::b::r=>by
  have ih:=eb x (b::r);simp only[LM]at ih ⊢;simp only[cz];rw[ih,Bool.or_assoc];simp
theorem dk(l:List (Int×Int))(x:Int×Int):bZ (l++[x])=bZ l+x.1:=by simp[bZ]
theorem dh{α:Type}(l:List α)(i:Nat)(x:α)(hx:l[i]?=some x):l.take (i+1)=l.take i++[x]:=by rw[LD,hx];rfl
theorem jV{α:Type}(l:List α)(i:Nat)(y:α)(hy:l[i]?=some y):(l.take (i+1)).getLast?=some y:=by rw[dh l i y hy];simp
theorem je:∀ (l:List (Int×Int)),l.any fY=false->l.length<=bZ l/\bZ l<=2000*l.length
 | [],_=>by simp[bZ]
 | a::l,h=>by
  simp only[List.any_cons,MR]at h;have ih:=je l h.2;have hb:1<=a.1/\a.1<=2000:=by
   have:=h.1;simp only[fY,MR,decide_eq_false_iff_not]at this;omega
  have:bZ (a::l)=a.1+bZ l:=by simp[bZ]
  rw[this];simp;omega
section
variable {prim:FuncId->Option Prim}(d:Nat) (cfg:Cfg) (h:Heap)
theorem tk(hp:prim 112=none)(r:Int):af md (K prim (d+1)) cfg 112 [.int .i32 r] h=some (.bool (fy r),h):=by
 refine aP rfl hp Tryz.func112 rfl rfl rfl (by simp) ?_;unfold fy;simp;by_cases h1:0<=r<;>by_cases h2:r<=1114111<;>by_cases h3:r<55296<;>simp[h1,h2,h3]
theorem ru(hp:prim 73=none)(r:Int):af md (K prim (d+1)) cfg 73 [.int .i32 r] h=some (.bool (fy r),h):=by
 refine aP rfl hp Tryz.func73 rfl rfl rfl (by simp) ?_;unfold fy;simp;by_cases h1:0<=r<;>by_cases h2:r<=1114111<;>by_cases h3:r<55296<;>simp[h1,h2,h3]
theorem sN(hp:prim 68=none)(r:Int):af md (K prim (d+1)) cfg 68 [.int .i64 r] h=some (.bool (decide (0<=r)&&decide (r<=15)),h):=by
 refine aP rfl hp Tryz.func68 rfl rfl rfl (by simp) ?_;simp;by_cases h1:0<=r<;>simp[h1]
theorem uL{α:Type}{p:α->Bool}{l:List α}{i:Nat}{x:α}(hx:l[i]?=some x)(hp:p x=false):l.all p=false:=by
 rw[List.all_eq_false];exact⟨x,K6 hx,by simpa using hp⟩
theorem yI(hp:prim 67=none)(h6:prim 112=none)(t:List Int)(ht:t.length<=2000):af md (K prim (d+2)) cfg 67 [rl t] h=some (.bool (t.all fy),h):=by
 refine aP rfl hp Tryz.func67 rfl rfl rfl (by simp) ?_;simp;refine ah (fun m fr h=>∃ i:Nat,i<=t.length/\m=t.length-i/\(t.take i).all fy=true/\h=[]/\Slots 15 [(0,rl t),(5,rl t),(6,.int .i64 t.length),(7,.int .i64 i)] fr) (m:=t.length) (by omega) ⟨0,by omega,by omega,by simp,rfl,by simp⟩ ?_;rintro m fr h ⟨i,hi,rfl,h0,rfl,hs⟩;obtain⟨j,rfl⟩:=hs.ex;clear hs;by_cases h3:i<t.length
 ·obtain⟨x,hx⟩:∃ x,t[i]?=some x:=⟨t[i],K4 h3⟩;cases h4:fy x
  ·have ha:=uL (p:=fy) hx h4;simp[h3,hx,tk d _ _ h6,h4,ha,-getElem?_pos]
  ·simp(disch:=omega)[h3,hx,tk d _ _ h6,h4,wrap64,-getElem?_pos];exact ae (m':=t.length-(i+1)) (by omega) ⟨i+1,by omega,rfl,by rw[dh t i x hx];simp[h4]at h0 ⊢;exact h0,rfl,by simp⟩
 ·rw[Li (by omega)]at h0;simp[h3,h0]
theorem lI{r:List (Int×Int)}{i:Nat}{x:Int×Int}(hx:r[i]?=some x):(r.map fun x=>[V.int .i64 x.1,V.int .i64 x.2])[i]?=some [V.int .i64 x.1,V.int .i64 x.2]:=by simp[hx]
theorem zj{r:List (Int×Int)}{i:Nat}{x:Int×Int}(hx:r[i]?=some x)(hb:fY x=true):r.any fY=true:=Ot.2 ⟨x,K6 hx,hb⟩
theorem uN{r:List (Int×Int)}{x:Int×Int}(h:r.any fY=false)(hb:fY x=false):(r++[x]).any fY=false:=by simp[h,hb]
theorem xk(hp:prim 29=none)(hn:prim 67=none)(hq:prim 112=none)(hj:prim 68=none)(t:List Int)(r:List (Int×Int))(ht:t.length<=2000)(hr:r.length<=2000):
  af md (K prim (d+3)) cfg 29 [.agg [rl t,ml r]] h=some (.int .i64 (iy t r),h):=by
 refine aP rfl hp Tryz.func29 rfl rfl rfl (by simp) ?_;have hu:¬ (2000:Int)<t.length:=by omega
 have hc:¬ 2000<t.length:=by omega
 simp[hu,yI d _ _ hn hq t ht];cases hd:t.all fy
 ·simp[iy,hc,hd]
 ·simp;refine ah (fun m fr h=>∃ (i:Nat) (T:Heap),i<=r.length/\m=r.length-i/\(r.take i).any fY=false/\h=some [rl t,ml r]::T /\
    Slots 67 [(1,.ptr 0 0),(3,.int .i64 (bZ (r.take i))),(4,.bool (cz (r.take i))),(16,ml r),(17,.int .i64 r.length),(18,.int .i64 i)] fr) (m:=r.length) (by omega) ⟨0,[],by omega,by omega,by simp,rfl,by simp[bZ,cz]⟩ ?_
  rintro m fr h ⟨i,T,hi,rfl,h8,rfl,hs⟩;obtain⟨j,rfl⟩:=hs.ex;clear hs;have hsb:=je _ h8;have hlen:(r.take i).length=i:=by simp;omega
  rw[hlen]at hsb;by_cases h4:i<r.length
  ·obtain⟨x,hx⟩:∃ x,r[i]?=some x:=⟨r[i],K4 h4⟩;have he:=lI hx;have h9:=dh r i x hx;cases hf:fY x
   ·have hb:1<=x.1/\x.1<=2000/\0<=x.2/\x.2<=15:=by
     simp only[fY,MR,decide_eq_false_iff_not]at hf;omega
    have h1:¬ x.1<1:=by omega
    have h2:¬ 2000<x.1:=by omega
    have hm:=sN (prim:=prim) (d+1) ⟨0,[],0⟩ (some [rl t,ml r]::(T++[some [.int .i64 x.1,.int .i64 x.2]])) hj x.2;simp[hb.2.2.1,hb.2.2.2]at hm;simp(disch:=omega)[h4,he,h1,h2,hm,wrap64,-getElem?_pos,-List.getElem?_map];refine ai 14 (by kernel_rfl) ?_;have h6:(r.take (i+1)).any fY=false:=by rw[h9];exact uN h8 hf
    have h0:bZ (r.take i)+x.1=bZ (r.take (i+1)):=by rw[h9,dk]
    cases hl:cz (r.take i)
    ·by_cases hw:i=0
     ·have hz:¬ 0<i:=by omega
      have h7:cz (r.take (i+1))=false:=by
       rw[h9,show r.take i=[] by simp[hw]];rfl
      simp(disch:=omega)[hz,wrap64,-getElem?_pos,-List.getElem?_map];exact ae (m':=r.length-(i+1)) (by omega) ⟨i+1,_,by omega,rfl,h6,rfl,by simp[h7,h0]⟩
     ·obtain⟨y,hy⟩:∃ y,r[i-1]?=some y:=⟨r[i-1],K4 (by omega)⟩;have hA:=lI hy;have e1:((i:Int)-1).toNat=i-1:=by omega
      have hD:0<i:=by omega
      have ha:(r.take i).getLast?=some y:=by
       have:=jV r (i-1) y hy;rwa [show i-1+1=i by omega]at this
      have h7:cz (r.take (i+1))=decide (y.2=x.2):=by rw[h9,eb,hl,ha];simp
      simp(disch:=omega)[hD,e1,hA,wrap64,-getElem?_pos,-List.getElem?_map];exact ae (m':=r.length-(i+1)) (by omega) ⟨i+1,_,by omega,rfl,h6,rfl,by simp[h7,h0]⟩
    ·have h7:cz (r.take (i+1))=true:=by rw[h9,eb,hl];simp
     simp(disch:=omega)[wrap64,-getElem?_pos,-List.getElem?_map];exact ae (m':=r.length-(i+1)) (by omega) ⟨i+1,_,by omega,rfl,h6,rfl,by simp[h7,h0]⟩
   ·have hg:=zj hx hf;have hv:iy t r=1:=by simp[iy,hc,hd,hg]
    rw[hv];have hm:=sN (prim:=prim) (d+1) ⟨0,[],0⟩ (some [rl t,ml r]::(T++[some [.int .i64 x.1,.int .i64 x.2]])) hj x.2;by_cases h1:x.1<1
    ·simp(disch:=omega)[h4,he,h1,-getElem?_pos,-List.getElem?_map]
    ·by_cases h2:2000<x.1
     ·simp(disch:=omega)[h4,he,h1,h2,-getElem?_pos,-List.getElem?_map]
     ·have h3:(decide (0<=x.2)&&decide (x.2<=15))=false:=by
       simp only[fY,LP,decide_eq_true_eq]at hf;simp only[Bool.and_eq_false_iff,decide_eq_false_iff_not];omega
      rw[h3]at hm;simp(disch:=omega)[h4,he,h1,h2,hm,-getElem?_pos,-List.getElem?_map]
  ·have hh:r.take i=r:=Li (by omega);rw[hh]at h8 hsb ⊢;by_cases h0:bZ r=t.length
   ·cases h7:cz r<;>simp[h4,h0,h7,iy,hc,hd,h8]
   ·simp[h4,h0,iy,hc,hd,h8]
theorem yW(r:List (Int×Int))(i:Nat)(h:r.any fY=false):bZ (r.take i)<=bZ r:=by
 have h0:∀ a b:List (Int×Int),bZ (a++b)=bZ a+bZ b:=fun a b=>by simp[bZ]
 have h1:bZ r=bZ (r.take i)+bZ (r.drop i):=by rw[<- h0,Ma]
 have h2:(r.drop i).any fY=false:=by
  rw[Od]at h ⊢;intro x hx;exact h x (MG hx)
 have:=(je _ h2).1;omega
theorem uD(hp:prim 34=none)(hD:prim 73=none)(t:List Int)(r:List (Int×Int))(ht:t.length<=2000)(hr:r.length<=2000):
  af md (K prim (d+2)) cfg 34 [.agg [rl t,ml r]] h=some (.int .i64 (iy t r),h):=by
 refine aP rfl hp Tryz.func34 rfl rfl rfl (by simp) ?_;have hF:¬ (2000:Int)<t.length:=by omega
 have hc:¬ 2000<t.length:=by omega
 simp[hF];refine ah (fun m fr h=>∃ (i:Nat),i<=t.length/\m=t.length-i/\(t.take i).all fy=true/\h=[some [rl t,ml r]]/\Slots 96 [(1,.ptr 0 0),(3,.int .i64 i)] fr) (m:=t.length) (by omega) ⟨0,by omega,by omega,by simp,rfl,by simp⟩ ?_;rintro m fr h ⟨i,hi,rfl,h6,rfl,hs⟩;obtain⟨j,rfl⟩:=hs.ex;clear hs;by_cases hh:i<t.length
 ·obtain⟨x,hx⟩:∃ x,t[i]?=some x:=⟨t[i],K4 hh⟩;cases hj:fy x
  ·have ha:=uL (p:=fy) hx hj;have hv:iy t r=1:=by simp[iy,hc,ha]
   simp[hh,hx,ru d _ _ hD,hj,hv,-getElem?_pos]
  ·simp(disch:=omega)[hh,hx,ru d _ _ hD,hj,wrap64,-getElem?_pos];exact ae (m':=t.length-(i+1)) (by omega) ⟨i+1,by omega,rfl,by rw[dh t i x hx];simp[hj]at h6 ⊢;exact h6,rfl,by simp⟩
 ·rw[Li (by omega)]at h6;simp[hh];refine ah (fun m fr h=>∃ (i:Nat) (T:Heap),i<=r.length/\m=r.length-i/\(r.take i).any fY=false/\bZ (r.take i)<=t.length/\h=some [rl t,ml r]::T /\
    Slots 96 [(1,.ptr 0 0),(4,.int .i64 (bZ (r.take i))),(5,.int .i64 i)] fr) (m:=r.length) (by omega) ⟨0,[],by omega,by omega,by simp,by simp[bZ],rfl,by simp[bZ]⟩ ?_
  rintro m fr h ⟨i,T,hi,rfl,hd,hH,rfl,hs⟩;obtain⟨j,rfl⟩:=hs.ex;clear hs;have hsb:=je _ hd;have hlen:(r.take i).length=i:=by simp;omega
  rw[hlen]at hsb;by_cases h0:i<r.length
  ·obtain⟨x,hx⟩:∃ x,r[i]?=some x:=⟨r[i],K4 h0⟩;have h8:=lI hx;have hl:=dh r i x hx;have h7:bZ (r.take i)+x.1=bZ (r.take (i+1)):=by rw[hl,dk]
   cases hm:fY x
   ·have hb:1<=x.1/\x.1<=2000/\0<=x.2/\x.2<=15:=by
     simp only[fY,MR,decide_eq_false_iff_not]at hm;omega
    have h1:¬ x.1<1:=by omega
    have h2:¬ 2000<x.1:=by omega
    have h3:¬ x.2<0:=by omega
    have h4:¬ 15<x.2:=by omega
    have hu:(r.take (i+1)).any fY=false:=by rw[hl];exact uN hd hm
    by_cases h5:(t.length:Int)<bZ (r.take i)+x.1
    ·have hv:iy t r=1:=by
      simp only[iy,hc,if_false,h6,Bool.true_eq_false];cases hI:r.any fY
      ·have hJ:=yW r (i+1) hI;have:bZ r≠t.length:=by omega
       simp[this]
      ·simp
     simp(disch:=omega)[h0,h8,h1,h2,h3,h4,h5,hv,wrap64,-getElem?_pos,-List.getElem?_map]
    ·simp(disch:=omega)[h0,h8,h1,h2,h3,h4,h5,wrap64,-getElem?_pos,-List.getElem?_map];exact ae (m':=r.length-(i+1)) (by omega) ⟨i+1,_,by omega,rfl,hu,by omega,rfl,by simp[h7]⟩
   ·have hw:=zj hx hm;have hv:iy t r=1:=by simp[iy,hc,h6,hw]
    rw[hv];by_cases h1:x.1<1
    ·simp(disch:=omega)[h0,h8,h1,-getElem?_pos,-List.getElem?_map]
    ·by_cases h2:2000<x.1
     ·simp(disch:=omega)[h0,h8,h1,h2,-getElem?_pos,-List.getElem?_map]
     ·by_cases h3:x.2<0
      ·simp(disch:=omega)[h0,h8,h1,h2,h3,-getElem?_pos,-List.getElem?_map]
      ·have h4:15<x.2:=by
        simp only[fY,LP,decide_eq_true_eq]at hm;omega
       simp(disch:=omega)[h0,h8,h1,h2,h3,h4,-getElem?_pos,-List.getElem?_map]
  ·have he:r.take i=r:=Li (by omega);rw[he]at hd hsb hH ⊢;by_cases h7:bZ r=t.length
   ·simp[h0,h7];refine ah (fun m fr h=>∃ (q:Nat),1<=q/\m=r.length-q/\cz (r.take q)=false/\h=some [rl t,ml r]::T/\Slots 96 [(1,.ptr 0 0),(7,.int .i64 q)] fr) (m:=r.length-1) (by omega) ⟨1,by omega,by omega,by rcases r with _|⟨a,r⟩<;>simp[cz],rfl,by simp⟩ ?_;rintro m fr h ⟨q,hq,rfl,hz,rfl,hs⟩;obtain⟨j,rfl⟩:=hs.ex;clear hs;by_cases h9:q<r.length
    ·obtain⟨x,hx⟩:∃ x,r[q]?=some x:=⟨r[q],K4 h9⟩;obtain⟨y,hy⟩:∃ y,r[q-1]?=some y:=⟨r[q-1],K4 (by omega)⟩;have h8:=lI hx;have hE:=lI hy;have e1:((q:Int)-1).toNat=q-1:=by omega
     have hl:=dh r q x hx;have hf:(r.take q).getLast?=some y:=by
      have:=jV r (q-1) y hy;rwa [show q-1+1=q by omega]at this
     have hg:cz (r.take (q+1))=decide (y.2=x.2):=by rw[hl,eb,hz,hf];simp
     simp(disch:=omega)[h9];refine ai 13 (by kernel_rfl) ?_;by_cases hn:x.2=y.2
     ·have hv:iy t r=10:=by
       have hA:cz r=true:=by
        have key:∀ (l:List (Int×Int)) (k:Nat),cz (l.take k)=true->cz l=true:=by
         intro l
         induction l with
         | nil=>intro k hk;simp[cz]at hk
         | cons a l ih =>
          intro k hk;rcases k with _|k
          ·simp[cz]at hk
          ·rcases l with _|⟨b,l⟩
           ·simp[cz]at hk
           ·rcases k with _|k
            ·simp[cz]at hk
            ·simp only[NY,cz,LP]at hk ⊢;rcases hk with hk|hk
             ·exact .inl hk
             ·exact .inr (ih (k+1) (by simpa using hk))
        exact key r (q+1) (by rw[hg,hn];simp)
       simp[iy,hc,h6,hd,h7,hA]
      simp(disch:=omega)[e1,h8,hE,hn,hv,wrap64,-getElem?_pos,-List.getElem?_map]
     ·simp(disch:=omega)[e1,h8,hE,hn,wrap64,-getElem?_pos,-List.getElem?_map];refine ae (m':=r.length-(q+1)) (by omega) ⟨q+1,by omega,rfl,?_,rfl,by simp⟩;rw[hg];simp;exact fun e=>hn e.symm
    ·rw[Li (by omega)]at hz;simp[h9,iy,hc,h6,hd,h7,hz]
   ·simp[h0,h7,iy,hc,h6,hd]
end
end Bi
end Go.Ab
