/- Several texts of this proof in one. -/
import Derived.Test.YtldfgkjmficliaaGreatAbW7
import Derived.Test.YtldfgkjmficliaaGreatPiK
set_option linter.unusedSimpArgs false
set_option linter.unusedVariables false
namespace Go.Ab.Bi
def nx(y:Int):Int:=if ini y=true∨y=22 then 13 else y
def w1:Int→List Int→List Int
 | _,[]=>[]
 | p,x::r=>(if x=8 then p else x)::w1 (nx (if x=8 then p else x)) r
def w2:Int→List Int→List Int
 | _,[]=>[]
 | l,x::r=>if x=0∨x=1∨x=2 then x::w2 x r else if x=3∧l=2 then 6::w2 l r else x::w2 l r
def w3(s:List Int):List Int:=s.map fun x=>if x=2 then 1 else x
def w4c(p x y:Int):Int:=if x=4∧p=3∧y=3∨x=7∧p=y∧(p=3∨p=6) then p else x
def w4:Int→List Int→List Int
 | _,[]=>[]
 | p,x::r=>w4c p x (r.headD (-1))::w4 (w4c p x (r.headD (-1))) r
def w5:Int→Nat→List Int→List Int
 | p,n,[]=>List.replicate n (if p=3 then 3 else 5)
 | p,n,x::r=>if x=5 then w5 p (n+1) r else List.replicate n (if p=3∨x=3 then 3 else 5)++x::w5 x 0 r
def w6:Int→List Int→List Int
 | _,[]=>[]
 | l,x::r=>if x=4∨x=5∨x=7 then 13::w6 l r else if x=0∨x=1 then x::w6 x r else if x=3∧l=0 then 0::w6 l r else x::w6 l r
def zq(start:Int)(s:List Int):List Int:=w6 start (w5 (-1) 0 (w4 (-1) (w3 (w2 start (w1 start s)))))
theorem DQ(p:Int):∀ (k n:Nat) (r:List Int),w5 p k (List.replicate n 5++r)=w5 p (k+n) r
 | _,0,_=>rfl
 | k,n+1,r=>by
  rw[List.replicate_succ,List.cons_append,w5,if_pos rfl,DQ p (k+1) n r,show k+1+n=k+(n+1) by omega]
theorem Ja(p q:Int)(n:Nat)(r:List Int)(h:r.headD (-1)≠5):w5 p n r=List.replicate n (if p=3∨r.headD (-1)=3 then 3 else 5)++w5 q 0 r:=by
 rcases r with _|⟨y,r⟩
 ·simp[w5]
 ·simp at h
  simp[w5,h]
structure WB(c:List Int)(l s c':List Int):Prop where
 len:c'.length=c.length
 at_:∀ (k:Nat) (i:Int),l[k]?=some i→c'[i.toNat]?=s[k]?
 oth:∀ j:Nat,(j:Int) ∉ l→c'[j]?=c[j]?
 sl:s.length=l.length
structure Pl(n:Nat)(l:List Int):Prop where
 rng:∀ i∈l,0≤i∧i<n
 nd:l.Nodup
theorem Pl.at_{n:Nat}{l:List Int}(h:Pl n l){k:Nat}(hk:k<l.length):∃ i:Nat,l[k]?=some (i:Int)∧i<n:=by
 have hm:=h.rng l[k] (List.getElem_mem hk)
 exact⟨l[k].toNat,by rw[List.getElem?_eq_getElem hk];congr 1;omega,by omega⟩
theorem WB.start{c l:List Int}(h:Pl c.length l):WB c l (l.map (lvl c)) c:=by
 refine⟨rfl,fun k i hk=>?_,fun _ _=>rfl,by simp⟩
 have hm:=h.rng i (List.mem_of_getElem? hk)
 rw[List.getElem?_map,hk]
 simp only[Option.map_some,lvl,List.getD_eq_getElem?_getD]
 rw[List.getElem?_eq_getElem (by omega)]
 rfl
theorem WB.set{c l s c':List Int}(h:WB c l s c')(hp:Pl c.length l){k i:Nat}(hk:l[k]?=some (i:Int))(x:Int):WB c l (s.set k x) (c'.set i x):=by
 have hl:=h.len
 have hm:=hp.rng i (List.mem_of_getElem? hk)
 have hkl:=(List.getElem?_eq_some_iff.1 hk).1
 refine⟨by simpa using h.len,fun q j hq=>?_,fun j hj=>?_,by simpa using h.sl⟩
 ·by_cases e:k=q
  ·subst e
   rw[hk]at hq
   cases hq
   rw[List.getElem?_set_self (by have:=h.sl;omega),Int.toNat_natCast,List.getElem?_set_self (by omega)]
  ·have hne:(i:Int)≠j:=by
    intro e2
    subst e2
    have hql:=(List.getElem?_eq_some_iff.1 hq).1
    have h1:l[k]=l[q]:=by
     have e3:=(List.getElem?_eq_some_iff.1 hk).2
     have e4:=(List.getElem?_eq_some_iff.1 hq).2
     rw[e3,e4]
    exact e ((List.getElem_inj hp.nd).1 h1)
   have hjm:=hp.rng j (List.mem_of_getElem? hq)
   rw[List.getElem?_set_ne e,List.getElem?_set_ne (by omega)]
   exact h.at_ q j hq
 ·have:i≠j:=by
   rintro rfl
   exact hj (List.mem_of_getElem? hk)
  rw[List.getElem?_set_ne this]
  exact h.oth j hj
theorem dW{dn td:List Int}{x y:Int}:(dn++x::td).set dn.length y=dn++y::td:=by
 rw[List.set_append_right _ _ (Nat.le_refl _)]
 simp
end Go.Ab.Bi
namespace Go.Ab.Bi
def eS(lv:Int):Int:=if lv%2=1 then 1 else 0
def ch(x:Int):Int:=if x=0 then 0 else if x=1∨x=3∨x=6 then 1 else -1
def jX(x:Int):Bool:=x==10||x==11||x==12||x==13||x==22||ini x
def gP(d e:Int):Int→Nat→List Int→List Int
 | b,n,[]=>List.replicate n (if b=e then b else d)
 | b,n,x::r=>if jX x then gP d e b (n+1) r else List.replicate n (if b=ch x then b else d)++x::gP d e (ch x) 0 r
def iR(lev x:Int):Int:=
 if lev%2=0∧x=1 then 1 else if lev%2=0∧(x=6∨x=3) then 2 else if lev%2=1∧(x=0∨x=3∨x=6) then 1 else 0
def iQ(lev:Int):List Int→List Int→List Int
 | a::u,x::s=>(a+iR lev x)::iQ lev u s
 | _,_=>[]
theorem pB(lev x:Int):0≤iR lev x∧iR lev x≤2:=by
 unfold iR
 split
 ·omega
 ·split
  ·omega
  ·split<;>omega
theorem yP(d e b:Int):∀ (run:List Int) (k:Nat) (r:List Int),(∀ x∈run,jX x=true)→gP d e b k (run++r)=gP d e b (k+run.length) r
 | [],k,r,_=>rfl
 | x::run,k,r,h=>by
  rw[List.cons_append,gP,if_pos (h x (List.mem_cons_self ..)),yP d e b run (k+1) r fun y hy=>h y (List.mem_cons_of_mem _ hy)]
  simp only[List.length_cons]
  rw[show k+1+run.length=k+(run.length+1) by omega]
def aft(e:Int):List Int→Int
 | []=>e
 | x::_=>ch x
theorem Fi(d e b b':Int)(n:Nat)(r:List Int)(h:∀ x r',r=x::r'→jX x=false):gP d e b n r=List.replicate n (if b=aft e r then b else d)++gP d e b' 0 r:=by
 rcases r with _|⟨x,r⟩
 ·simp[gP,aft]
  exact .inr rfl
 ·have hx:=h x r rfl
  simp[gP,hx,aft]
  exact .inr rfl
end Go.Ab.Bi
namespace Go.Ab
open Go.Proofs
namespace Bi
theorem xU{dn td:List Int}{x:Int}:(dn++x::td)[dn.length]?=some x:=by simp
section
variable {prim:FuncId→Option Prim}(d:Nat) (cfg:Cfg) (h:Heap)
theorem mN(hp:prim 147=none)(x:Int)(hx:0≤x):af md (K prim (d+1)) cfg 147 [.int .i64 x] h=some (.int .i64 (eS x),h):=by
 refine bo rfl hp Tryz.func147 rfl rfl rfl (by simp) ?_
 have m1:x.tmod 2=x%2:=Int.tmod_eq_emod_of_nonneg hx
 unfold eS
 by_cases h0:x%2=1<;>simp[m1,h0]
theorem lf(hp:prim 149=none)(x:Int):af md (K prim (d+1)) cfg 149 [.int .i64 x] h=some (.int .i64 (ch x),h):=by
 refine bo rfl hp Tryz.func149 rfl rfl rfl (by simp) ?_
 unfold ch
 by_cases h0:x=0
 ·simp[h0]
 ·by_cases h1:x=1
  ·simp[h1]
  ·by_cases h3:x=3
   ·simp[h3]
   ·by_cases h6:x=6
    ·simp[h6]
    ·simp[h0,h1,h3,h6]
theorem xk(hp:prim 150=none)(hp2:prim 142=none)(x:Int):af md (K prim (d+2)) cfg 150 [.int .i64 x] h=some (.bool (jX x),h):=by
 refine bo rfl hp Tryz.func150 rfl rfl rfl (by simp) ?_
 have hI:=fun cfg h x=>kD (prim:=prim) d cfg h hp2 x
 unfold jX
 by_cases h10:x=10
 ·simp[h10]
 ·by_cases h11:x=11
  ·simp[h11]
  ·by_cases h12:x=12
   ·simp[h12]
   ·by_cases h13:x=13
    ·simp[h13]
    ·by_cases h22:x=22
     ·simp[h22]
     ·simp[h10,h11,h12,h13,h22,hI]
set_option maxRecDepth 100000 in
set_option maxHeartbeats 8000000 in
theorem uI(hp:prim 110=none)(t o M:List Int)(n:Nat)(e:Int)(c l:List Int)(hn:c.length=n)(hn2:n≤2000)(hl:Pl n l)(y2:List Int)(hy:y2.length=n)(hll:l.length≤2000)(T:Heap)(lv st en:Int)(hlv:0≤lv∧lv≤1000)(hyr:∀ i∈l,0≤lvl y2 i∧lvl y2 i≤100000)(q:Nat):
  ∃ y',WB y2 l (iQ lv (l.map (lvl y2)) (l.map (lvl c))) y'∧af md (K prim (d+1)) ⟨0,[],q⟩ 110 [.ptr 3 0,.agg [il l,.int .i64 lv,.int .i64 st,.int .i64 en]] (none::some (c.map (V.int .i64))::some (y2.map (V.int .i64))::some (pcs t o M n e)::T) =
   some (.tup [],none::some (c.map (V.int .i64))::some (y'.map (V.int .i64))::some (pcs t o M n e)::T):=by
 suffices H:∃ r h2,af md (K prim (d+1)) ⟨0,[],q⟩ 110 [.ptr 3 0,.agg [il l,.int .i64 lv,.int .i64 st,.int .i64 en]] (none::some (c.map (V.int .i64))::some (y2.map (V.int .i64))::some (pcs t o M n e)::T)=some (r,h2) ∧
   ∃ y',r=.tup []∧h2=(none::some (c.map (V.int .i64))::some (y'.map (V.int .i64))::some (pcs t o M n e)::T)∧WB y2 l (iQ lv (l.map (lvl y2)) (l.map (lvl c))) y' by
  obtain⟨r,h2,h3,c',rfl,rfl,h4⟩:=H
  exact⟨c',h4,h3⟩
 refine sr rfl hp Tryz.func110 rfl rfl rfl ?_
 have b4:∀ x T',isMap x=false→ab (T++some x::T') T.length=some x:=fun x T' hx=>by
  have:=bD (h:=T) (r:=some x::T') (k:=0)
  simp[hx]
 have hW0:WB y2 l (l.map (lvl y2)) y2:=WB.start (by rw[hy];exact hl)
 have hWc:WB c l (l.map (lvl c)) c:=WB.start (by rw[hn];exact hl)
 have hu0:∀ a∈l.map (lvl y2),0≤a∧a≤100000:=by
  intro a ha
  obtain⟨i,hi,rfl⟩:=List.mem_map.1 ha
  exact hyr i hi
 generalize hus:l.map (lvl y2)=u at *
 generalize hss:l.map (lvl c)=s at *
 have husl:=hW0.sl
 have hssl:=hWc.sl
 have m1:lv.tmod 2=lv%2:=Int.tmod_eq_emod_of_nonneg hlv.1
 simp(disch:=omega)
 refine aj (fun m fr H=>∃ (dn td sd y':List Int),m=td.length∧iQ lv u s=dn++iQ lv td sd∧sd=s.drop dn.length∧(∀ a∈td,0≤a∧a≤100000)∧WB y2 l (dn++td) y'∧H=none::some (c.map (V.int .i64))::some (y'.map (V.int .i64))::some (pcs t o M n e)::(T++[some [il l,.int .i64 lv,.int .i64 st,.int .i64 en]])∧Slots 88 [(0,.ptr 3 0),(3,.ptr (T.length+1+1+1+1) 0),(8,il l),(9,.int .i64 l.length),(10,.int .i64 dn.length)] fr) (m:=u.length) (by omega) ⟨[],u,s,y2,rfl,rfl,rfl,hu0,hW0,rfl,by simp⟩ ?_
 rintro m fr H ⟨dn,td,sd,y',rfl,hF,hsd,hur,hW,rfl,hs⟩
 obtain⟨j,rfl⟩:=hs.ex
 clear hs
 have hlen:dn.length+td.length=l.length:=by have:=hW.sl;simpa using this
 rcases td with _|⟨a,td⟩
 ·have hlen':dn.length=l.length:=by simpa using hlen
  have hdn:iQ lv u s=dn:=by
   rw[hF]
   cases sd<;>simp[iQ]
  simp[hlen']
  rw[hdn]
  simp at hW
  exact⟨y',rfl,hW⟩
 ·have hlt:dn.length<l.length:=by simp at hlen;omega
  obtain⟨i,hi,hin⟩:=hl.at_ hlt
  have hc:=hW.at_ _ i hi
  rw[xU,Int.toNat_natCast]at hc
  obtain⟨x,hx⟩:∃ x,s[dn.length]?=some x:=⟨_,List.getElem?_eq_getElem (by omega)⟩
  have hcc:=hWc.at_ _ i hi
  rw[hx,Int.toNat_natCast]at hcc
  have hyl:=hW.len
  have hle:i+1≤y'.length:=by omega
  have ha:=hur a (List.mem_cons_self ..)
  have hir:=pB lv x
  have hsd2:sd=x::s.drop (dn.length+1):=by rw[hsd];exact eh hx
  rw[hsd2,iQ]at hF
  have step:∀ z,WB y2 l ((dn++[z])++td) (y'.set i z):=by
   intro z
   have:=hW.set (by rw[hy];exact hl) hi z
   rw[dW]at this
   simpa using this
  have same:y'.set i a=y':=by
   obtain⟨h1,h2⟩:=List.getElem?_eq_some_iff.1 hc
   rw[← h2,List.set_getElem_self]
  have fin:∀ z,iR lv x=z→iQ lv u s=(dn++[a+z])++iQ lv td (s.drop (dn++[a+z]).length):=by
   rintro z rfl
   rw[hF]
   simp
  have hur':∀ b∈td,0≤b∧b≤100000:=fun b hb=>hur b (List.mem_cons_of_mem _ hb)
  have hpar:lv%2=0∨lv%2=1:=by omega
  rcases hpar with hp0|hp0
  ·by_cases x1:x=1
   ·have hz:iR lv x=1:=by unfold iR;rw[if_pos ⟨hp0,x1⟩]
    simp(disch:=omega)[hlt,hi,hc,hcc,hle,hp0,m1,x1,wrap64,-getElem?_pos]
    exact ae (m':=td.length) (by simp) ⟨dn++[a+1],td,_,y'.set i (a+1),rfl,fin 1 hz,rfl,hur',step _,by simp,by simp(disch:=omega)⟩
   ·by_cases x6:x=6
    ·have hz:iR lv x=2:=by unfold iR;rw[if_neg (fun h=>x1 h.2),if_pos ⟨hp0,.inl x6⟩]
     simp(disch:=omega)[hlt,hi,hc,hcc,hle,hp0,m1,x6,wrap64,-getElem?_pos]
     exact ae (m':=td.length) (by simp) ⟨dn++[a+2],td,_,y'.set i (a+2),rfl,fin 2 hz,rfl,hur',step _,by simp,by simp(disch:=omega)⟩
    ·by_cases x3:x=3
     ·have hz:iR lv x=2:=by unfold iR;rw[if_neg (fun h=>x1 h.2),if_pos ⟨hp0,.inr x3⟩]
      simp(disch:=omega)[hlt,hi,hc,hcc,hle,hp0,m1,x3,wrap64,-getElem?_pos]
      exact ae (m':=td.length) (by simp) ⟨dn++[a+2],td,_,y'.set i (a+2),rfl,fin 2 hz,rfl,hur',step _,by simp,by simp(disch:=omega)⟩
     ·have hz:iR lv x=0:=by unfold iR;rw[if_neg (fun h=>x1 h.2),if_neg (by omega),if_neg (by omega)]
      have st0:=step (a+0)
      rw[Int.add_zero,same]at st0
      simp(disch:=omega)[hlt,hi,hcc,hp0,m1,x1,x6,x3,wrap64,-getElem?_pos]
      exact ae (m':=td.length) (by simp) ⟨dn++[a],td,_,y',rfl,by have:=fin 0 hz;rwa [Int.add_zero]at this,rfl,hur',st0,rfl,by simp(disch:=omega)⟩
  ·have n0:¬ lv%2=0:=by omega
   by_cases x0:x=0∨x=3∨x=6
   ·have hz:iR lv x=1:=by unfold iR;rw[if_neg (fun h=>n0 h.1),if_neg (fun h=>n0 h.1),if_pos ⟨hp0,x0⟩]
    rcases x0 with x0|x0|x0
    all_goals
     simp(disch:=omega)[hlt,hi,hc,hcc,hle,hp0,m1,x0,wrap64,-getElem?_pos]
     exact ae (m':=td.length) (by simp) ⟨dn++[a+1],td,_,y'.set i (a+1),rfl,fin 1 hz,rfl,hur',step _,by simp,by simp(disch:=omega)⟩
   ·have hz:iR lv x=0:=by unfold iR;rw[if_neg (fun h=>n0 h.1),if_neg (fun h=>n0 h.1),if_neg (fun h=>x0 h.2)]
    simp only[not_or]at x0
    have st0:=step (a+0)
    rw[Int.add_zero,same]at st0
    simp(disch:=omega)[hlt,hi,hcc,hp0,m1,x0,wrap64,-getElem?_pos]
    exact ae (m':=td.length) (by simp) ⟨dn++[a],td,_,y',rfl,by have:=fin 0 hz;rwa [Int.add_zero]at this,rfl,hur',st0,rfl,by simp(disch:=omega)⟩
set_option maxRecDepth 100000 in
set_option maxHeartbeats 8000000 in
theorem uT(hp:∀ f,Np2 f→prim f=none)(t o M:List Int)(n:Nat)(e:Int)(c l:List Int)(hn:c.length=n)(hn2:n≤2000)(hl:Pl n l)(hll:l.length≤2000)(y2:List Int)(T:Heap)(lv st en:Int)(hlv:0≤lv∧lv≤1000)(q:Nat):
  ∃ c',WB c l (gP (eS lv) en st 0 (l.map (lvl c))) c'∧af md (K prim (d+3)) ⟨0,[],q⟩ 109 [.ptr 3 0,.agg [il l,.int .i64 lv,.int .i64 st,.int .i64 en]] (none::some (c.map (V.int .i64))::some (y2.map (V.int .i64))::some (pcs t o M n e)::T) =
   some (.tup [],none::some (c'.map (V.int .i64))::some (y2.map (V.int .i64))::some (pcs t o M n e)::T):=by
 suffices H:∃ r h2,af md (K prim (d+3)) ⟨0,[],q⟩ 109 [.ptr 3 0,.agg [il l,.int .i64 lv,.int .i64 st,.int .i64 en]] (none::some (c.map (V.int .i64))::some (y2.map (V.int .i64))::some (pcs t o M n e)::T)=some (r,h2) ∧
   ∃ c',r=.tup []∧h2=(none::some (c'.map (V.int .i64))::some (y2.map (V.int .i64))::some (pcs t o M n e)::T)∧WB c l (gP (eS lv) en st 0 (l.map (lvl c))) c' by
  obtain⟨r,h2,h3,c',rfl,rfl,h4⟩:=H
  exact⟨c',h4,h3⟩
 refine sr rfl (hp 109 (by decide)) Tryz.func109 rfl rfl rfl ?_
 have b4:∀ x T',isMap x=false→ab (T++some x::T') T.length=some x:=fun x T' hx=>by
  have:=bD (h:=T) (r:=some x::T') (k:=0)
  simp[hx]
 have hNe:=fun cfg h x=>xk (prim:=prim) d cfg h (hp 150 (by decide)) (hp 142 (by decide)) x
 have hDi:=fun cfg h x=>lf (prim:=prim) (d+1) cfg h (hp 149 (by decide)) x
 have hSt:=fun cfg h=>mN (prim:=prim) (d+1) cfg h (hp 147 (by decide)) lv hlv.1
 have hW0:WB c l (l.map (lvl c)) c:=WB.start (by rw[hn];exact hl)
 generalize hss:l.map (lvl c)=s0 at *
 have hsl0:=hW0.sl
 have hm61:md 149=0:=rfl
 generalize eS lv=D at *
 simp(disch:=omega)
 refine aj (fun m fr H=>∃ (dn td c':List Int) (b:Int),m=td.length∧gP D en st 0 s0=dn++gP D en b 0 td∧WB c l (dn++td) c'∧H=none::some (c'.map (V.int .i64))::some (y2.map (V.int .i64))::some (pcs t o M n e)::(T++[some [il l,.int .i64 lv,.int .i64 st,.int .i64 en]])∧Slots 101 [(0,.ptr 3 0),(3,.ptr (T.length+1+1+1+1) 0),(4,.int .i64 b),(5,.int .i64 dn.length)] fr) (m:=s0.length) (by omega) ⟨[],s0,c,st,rfl,rfl,hW0,rfl,by simp⟩ ?_
 rintro m fr H ⟨dn,td,c',b,rfl,hF,hW,rfl,hs⟩
 obtain⟨j,rfl⟩:=hs.ex
 clear hs
 have hlen:dn.length+td.length=l.length:=by have:=hW.sl;simpa using this
 rcases td with _|⟨x,td⟩
 ·have hlen':dn.length=l.length:=by simpa using hlen
  simp[gP]at hF
  simp[hlen']
  rw[hF]
  simp at hW
  exact⟨c',rfl,hW⟩
 ·have hlt:dn.length<l.length:=by simp at hlen;omega
  obtain⟨i,hi,hin⟩:=hl.at_ hlt
  have hc:=hW.at_ _ i hi
  rw[xU,Int.toNat_natCast]at hc
  have hcl:=hW.len
  simp only[List.length_cons]at hlen
  simp(disch:=omega)[hlt]
  refine ai 9 (by kernel_rfl) ?_
  simp(disch:=omega)[hi,hc,hNe,-getElem?_pos]
  cases hnx:jX x
  ·have hF5:gP D en b 0 (x::td)=x::gP D en (ch x) 0 td:=by simp[gP,hnx]
   rw[hF5]at hF
   simp(disch:=omega)[hDi,wrap64]
   exact ae (m':=td.length) (by simp) ⟨dn++[x],td,c',ch x,rfl,by rw[hF];simp,by simpa using hW,rfl,by simp(disch:=omega)⟩
  ·simp(disch:=omega)
   refine aj (fun m fr H=>∃ (run rest:List Int),x::td=run++rest∧(∀ y∈run,jX y=true)∧m=rest.length∧H=none::some (c'.map (V.int .i64))::some (y2.map (V.int .i64))::some (pcs t o M n e)::(T++[some [il l,.int .i64 lv,.int .i64 st,.int .i64 en]])∧Slots 101 [(0,.ptr 3 0),(3,.ptr (T.length+1+1+1+1) 0),(4,.int .i64 b),(5,.int .i64 dn.length),(7,.int .i64 (dn.length+run.length:Nat))] fr) (m:=td.length+1) (by omega) ⟨[],x::td,rfl,by simp,rfl,rfl,by simp⟩ ?_
   rintro m fr H ⟨run,rest,htd,hrun,rfl,rfl,hs⟩
   obtain⟨j,rfl⟩:=hs.ex
   clear hs
   have hkl:run.length+rest.length=td.length+1:=by have:=congrArg List.length htd;simp at this;omega
   have hc2:((dn.length:Int)+run.length).toNat=dn.length+run.length:=by omega
   have hcont:(∃ y r',rest=y::r'∧jX y=true)∨((∀ y r',rest=y::r'→jX y=false)∧0<run.length):=by
    rcases rest with _|⟨y,r'⟩
    ·exact .inr ⟨fun y r' h=>by simp at h,by simp at hkl;omega⟩
    ·cases hy:jX y
     ·refine .inr ⟨fun y' r'' h=>by cases h;exact hy,?_⟩
      rcases run with _|⟨z,run⟩
      ·simp at htd;rw[htd.1]at hnx;rw[hnx]at hy;cases hy
      ·simp
     ·exact .inl ⟨y,r',rfl,hy⟩
   have hat:∀ y r',rest=y::r'→∃ i2:Nat,l[dn.length+run.length]?=some (i2:Int)∧i2<n∧c'[i2]?=some y∧(dn.length:Int)+run.length<l.length:=by
    rintro y r' rfl
    simp only[List.length_cons]at hkl
    obtain⟨i2,hi2,hin2⟩:=hl.at_ (k:=dn.length+run.length) (by omega)
    have hcc:=hW.at_ _ i2 hi2
    rw[htd,List.getElem?_append_right (by omega),Nat.add_sub_cancel_left,List.getElem?_append_right (Nat.le_refl _),Int.toNat_natCast]at hcc
    simp at hcc
    exact⟨i2,hi2,hin2,hcc,by omega⟩
   rcases hcont with⟨y,r',hr,hy⟩|⟨hstop,hr0⟩
   ·obtain⟨i2,hi2,hin2,hcc,hlt2⟩:=hat y r' hr
    subst hr
    simp(disch:=omega)
    refine ai 15 (by kernel_rfl) ?_
    simp(disch:=omega)[hlt2,hc2,hi2,hcc,hNe,hy,wrap64,-getElem?_pos]
    refine ae (m':=r'.length) (by simp) ⟨run++[y],r',by rw[htd];simp,?_,rfl,rfl,by simp(disch:=omega);omega⟩
    intro z hz
    rcases List.mem_append.1 hz with hz|hz
    ·exact hrun z hz
    ·simp at hz;subst hz;exact hy
   ·have hF2:gP D en b 0 (x::td)=List.replicate run.length (if b=aft en rest then b else D)++gP D en b 0 rest:=by
     rw[htd,yP D en b run 0 rest hrun,Nat.zero_add,Fi D en b b _ rest hstop]
    rw[hF2]at hF
    clear hF2
    rcases rest with _|⟨y,r'⟩
    ·have nlt:¬ (dn.length:Int)+run.length<l.length:=by simp at hkl;omega
     simp at hkl
     simp(disch:=omega)
     refine ai 15 (by kernel_rfl) ?_
     simp(disch:=omega)[nlt,hSt]
     by_cases hb:b=aft en []
     ·rw[if_pos hb]at hF
      have hb:b=en:=hb
      rw[hb]at hF
      simp(disch:=omega)[hb]
      refine aj (fun m fr H=>∃ (q:Nat) (c':List Int),q≤run.length∧m=run.length-q∧WB c l (dn++(List.replicate q (en)++run.drop q)++[]) c'∧H=none::some (c'.map (V.int .i64))::some (y2.map (V.int .i64))::some (pcs t o M n e)::(T++[some [il l,.int .i64 lv,.int .i64 st,.int .i64 en]])∧Slots 101 [(0,.ptr 3 0),(3,.ptr (T.length+1+1+1+1) 0),(4,.int .i64 (en)),(5,.int .i64 (dn.length+q:Nat)),(7,.int .i64 (dn.length+run.length:Nat)),(9,.int .i64 (en))] fr) (m:=run.length) (by omega) ⟨0,c',by omega,by omega,by rw[htd]at hW;simpa using hW,rfl,by simp⟩ ?_
      rintro m fr H ⟨q,c',hq,rfl,hWq,rfl,hs⟩
      obtain⟨j,rfl⟩:=hs.ex
      clear hs
      by_cases hqk:q<run.length
      ·obtain⟨z,hz⟩:∃ z,run[q]?=some z:=⟨_,List.getElem?_eq_getElem hqk⟩
       obtain⟨i,hi,hin⟩:=hl.at_ (k:=dn.length+q) (by omega)
       have hcl:=hWq.len
       have hle:i+1≤c'.length:=by omega
       have hst:=hWq.set (by rw[hn];exact hl) hi (en)
       have e1:dn++(List.replicate q (en)++run.drop q)++[]=(dn++List.replicate q (en))++z::(run.drop (q+1)++[]):=by rw[eh hz];simp
       have e2:dn.length+q=(dn++List.replicate q (en)).length:=by simp
       rw[e1]at hst
       conv at hst=>lhs;rw[e2]
       rw[dW]at hst
       have hlt2:(dn.length:Int)+q<(dn.length:Int)+run.length:=by omega
       have hq2:((dn.length:Int)+q).toNat=dn.length+q:=by omega
       simp(disch:=omega)[hlt2,-getElem?_pos]
       refine ai 10 (by kernel_rfl) ?_
       simp(disch:=omega)[hq2,hi,hle,wrap64,-getElem?_pos]
       refine ae (m':=run.length-(q+1)) (by omega) ⟨q+1,c'.set i ((en)),by omega,rfl,?_,by simp,by simp(disch:=omega);try omega⟩
       rw[List.replicate_succ']
       simpa using hst
      ·obtain rfl:q=run.length:=by omega
       simp(disch:=omega)[wrap64]
       rw[List.drop_length,List.append_nil]at hWq
       refine ae (m':=([]).length) (by simp<;>omega) ⟨dn++List.replicate run.length (en),[],c',(en),rfl,by rw[hF];simp,by simpa using hWq,rfl,by simp(disch:=omega)⟩
     ·rw[if_neg hb]at hF
      have hb:¬ b=en:=hb
      simp(disch:=omega)[hb]
      refine aj (fun m fr H=>∃ (q:Nat) (c':List Int),q≤run.length∧m=run.length-q∧WB c l (dn++(List.replicate q D++run.drop q)++[]) c'∧H=none::some (c'.map (V.int .i64))::some (y2.map (V.int .i64))::some (pcs t o M n e)::(T++[some [il l,.int .i64 lv,.int .i64 st,.int .i64 en]])∧Slots 101 [(0,.ptr 3 0),(3,.ptr (T.length+1+1+1+1) 0),(4,.int .i64 b),(5,.int .i64 (dn.length+q:Nat)),(7,.int .i64 (dn.length+run.length:Nat)),(9,.int .i64 D)] fr) (m:=run.length) (by omega) ⟨0,c',by omega,by omega,by rw[htd]at hW;simpa using hW,rfl,by simp⟩ ?_
      rintro m fr H ⟨q,c',hq,rfl,hWq,rfl,hs⟩
      obtain⟨j,rfl⟩:=hs.ex
      clear hs
      by_cases hqk:q<run.length
      ·obtain⟨z,hz⟩:∃ z,run[q]?=some z:=⟨_,List.getElem?_eq_getElem hqk⟩
       obtain⟨i,hi,hin⟩:=hl.at_ (k:=dn.length+q) (by omega)
       have hcl:=hWq.len
       have hle:i+1≤c'.length:=by omega
       have hst:=hWq.set (by rw[hn];exact hl) hi D
       have e1:dn++(List.replicate q D++run.drop q)++[]=(dn++List.replicate q D)++z::(run.drop (q+1)++[]):=by rw[eh hz];simp
       have e2:dn.length+q=(dn++List.replicate q D).length:=by simp
       rw[e1]at hst
       conv at hst=>lhs;rw[e2]
       rw[dW]at hst
       have hlt2:(dn.length:Int)+q<(dn.length:Int)+run.length:=by omega
       have hq2:((dn.length:Int)+q).toNat=dn.length+q:=by omega
       simp(disch:=omega)[hlt2,-getElem?_pos]
       refine ai 10 (by kernel_rfl) ?_
       simp(disch:=omega)[hq2,hi,hle,wrap64,-getElem?_pos]
       refine ae (m':=run.length-(q+1)) (by omega) ⟨q+1,c'.set i (D),by omega,rfl,?_,by simp,by simp(disch:=omega);try omega⟩
       rw[List.replicate_succ']
       simpa using hst
      ·obtain rfl:q=run.length:=by omega
       simp(disch:=omega)[wrap64]
       rw[List.drop_length,List.append_nil]at hWq
       refine ae (m':=([]).length) (by simp<;>omega) ⟨dn++List.replicate run.length D,[],c',b,rfl,by rw[hF];simp,by simpa using hWq,rfl,by simp(disch:=omega)⟩
    ·obtain⟨i2,hi2,hin2,hcc,hlt2⟩:=hat y r' rfl
     have hy:=hstop y r' rfl
     simp at hkl
     simp(disch:=omega)
     refine ai 15 (by kernel_rfl) ?_
     simp(disch:=omega)[hlt2,hc2,hi2,hcc,hNe,hy,-getElem?_pos]
     refine ai 9 (by kernel_rfl) ?_
     simp(disch:=omega)[hc2,hi2,hcc,hDi,hSt,-getElem?_pos]
     by_cases hb:b=aft en (y::r')
     ·rw[if_pos hb]at hF
      have hb:b=ch y:=hb
      rw[hb]at hF
      simp(disch:=omega)[hb]
      refine aj (fun m fr H=>∃ (q:Nat) (c':List Int),q≤run.length∧m=run.length-q∧WB c l (dn++(List.replicate q (ch y)++run.drop q)++(y::r')) c'∧H=none::some (c'.map (V.int .i64))::some (y2.map (V.int .i64))::some (pcs t o M n e)::(T++[some [il l,.int .i64 lv,.int .i64 st,.int .i64 en]])∧Slots 101 [(0,.ptr 3 0),(3,.ptr (T.length+1+1+1+1) 0),(4,.int .i64 (ch y)),(5,.int .i64 (dn.length+q:Nat)),(7,.int .i64 (dn.length+run.length:Nat)),(9,.int .i64 (ch y))] fr) (m:=run.length) (by omega) ⟨0,c',by omega,by omega,by rw[htd]at hW;simpa using hW,rfl,by simp⟩ ?_
      rintro m fr H ⟨q,c',hq,rfl,hWq,rfl,hs⟩
      obtain⟨j,rfl⟩:=hs.ex
      clear hs
      by_cases hqk:q<run.length
      ·obtain⟨z,hz⟩:∃ z,run[q]?=some z:=⟨_,List.getElem?_eq_getElem hqk⟩
       obtain⟨i,hi,hin⟩:=hl.at_ (k:=dn.length+q) (by omega)
       have hcl:=hWq.len
       have hle:i+1≤c'.length:=by omega
       have hst:=hWq.set (by rw[hn];exact hl) hi (ch y)
       have e1:dn++(List.replicate q (ch y)++run.drop q)++(y::r')=(dn++List.replicate q (ch y))++z::(run.drop (q+1)++(y::r')):=by rw[eh hz];simp
       have e2:dn.length+q=(dn++List.replicate q (ch y)).length:=by simp
       rw[e1]at hst
       conv at hst=>lhs;rw[e2]
       rw[dW]at hst
       have hlt2:(dn.length:Int)+q<(dn.length:Int)+run.length:=by omega
       have hq2:((dn.length:Int)+q).toNat=dn.length+q:=by omega
       simp(disch:=omega)[hlt2,-getElem?_pos]
       refine ai 10 (by kernel_rfl) ?_
       simp(disch:=omega)[hq2,hi,hle,wrap64,-getElem?_pos]
       refine ae (m':=run.length-(q+1)) (by omega) ⟨q+1,c'.set i ((ch y)),by omega,rfl,?_,by simp,by simp(disch:=omega);try omega⟩
       rw[List.replicate_succ']
       simpa using hst
      ·obtain rfl:q=run.length:=by omega
       simp(disch:=omega)[wrap64]
       rw[List.drop_length,List.append_nil]at hWq
       refine ae (m':=((y::r')).length) (by simp<;>omega) ⟨dn++List.replicate run.length (ch y),(y::r'),c',(ch y),rfl,by rw[hF];simp,by simpa using hWq,rfl,by simp(disch:=omega)⟩
     ·rw[if_neg hb]at hF
      have hb:¬ b=ch y:=hb
      simp(disch:=omega)[hb]
      refine aj (fun m fr H=>∃ (q:Nat) (c':List Int),q≤run.length∧m=run.length-q∧WB c l (dn++(List.replicate q D++run.drop q)++(y::r')) c'∧H=none::some (c'.map (V.int .i64))::some (y2.map (V.int .i64))::some (pcs t o M n e)::(T++[some [il l,.int .i64 lv,.int .i64 st,.int .i64 en]])∧Slots 101 [(0,.ptr 3 0),(3,.ptr (T.length+1+1+1+1) 0),(4,.int .i64 b),(5,.int .i64 (dn.length+q:Nat)),(7,.int .i64 (dn.length+run.length:Nat)),(9,.int .i64 D)] fr) (m:=run.length) (by omega) ⟨0,c',by omega,by omega,by rw[htd]at hW;simpa using hW,rfl,by simp⟩ ?_
      rintro m fr H ⟨q,c',hq,rfl,hWq,rfl,hs⟩
      obtain⟨j,rfl⟩:=hs.ex
      clear hs
      by_cases hqk:q<run.length
      ·obtain⟨z,hz⟩:∃ z,run[q]?=some z:=⟨_,List.getElem?_eq_getElem hqk⟩
       obtain⟨i,hi,hin⟩:=hl.at_ (k:=dn.length+q) (by omega)
       have hcl:=hWq.len
       have hle:i+1≤c'.length:=by omega
       have hst:=hWq.set (by rw[hn];exact hl) hi D
       have e1:dn++(List.replicate q D++run.drop q)++(y::r')=(dn++List.replicate q D)++z::(run.drop (q+1)++(y::r')):=by rw[eh hz];simp
       have e2:dn.length+q=(dn++List.replicate q D).length:=by simp
       rw[e1]at hst
       conv at hst=>lhs;rw[e2]
       rw[dW]at hst
       have hlt2:(dn.length:Int)+q<(dn.length:Int)+run.length:=by omega
       have hq2:((dn.length:Int)+q).toNat=dn.length+q:=by omega
       simp(disch:=omega)[hlt2,-getElem?_pos]
       refine ai 10 (by kernel_rfl) ?_
       simp(disch:=omega)[hq2,hi,hle,wrap64,-getElem?_pos]
       refine ae (m':=run.length-(q+1)) (by omega) ⟨q+1,c'.set i (D),by omega,rfl,?_,by simp,by simp(disch:=omega);try omega⟩
       rw[List.replicate_succ']
       simpa using hst
      ·obtain rfl:q=run.length:=by omega
       simp(disch:=omega)[wrap64]
       rw[List.drop_length,List.append_nil]at hWq
       refine ae (m':=((y::r')).length) (by simp<;>omega) ⟨dn++List.replicate run.length D,(y::r'),c',b,rfl,by rw[hF];simp,by simpa using hWq,rfl,by simp(disch:=omega)⟩
end
end Bi
end Go.Ab
namespace Go.Ab
open Go.Proofs
namespace Bi
def brTab:List (Int×Int):=[(40,41),(91,93),(123,125),(12296,12297),(12298,12299),(12300,12301),(12302,12303),(12304,12305)]
def iC:List (Int×Int)→Int→Int×Int
 | [],r=>(r,-1)
 | (a,b)::t,r=>if a=r then (b,1) else if b=r then (a,0) else iC t r
def brS(r:Int):Int×Int:=if (iC brTab r).2=1 then (1,(iC brTab r).1) else if (iC brTab r).2=0 then (2,(iC brTab r).1) else (0,0)
abbrev prl(t:List (Int×Int)):V:=.lst (t.map fun x=>[.int .i32 x.1,.int .i32 x.2])
section
variable {prim:FuncId→Option Prim}(d:Nat) (cfg:Cfg) (h:Heap)
theorem jT(hp:prim 162=none):af md (K prim (d+1)) cfg 162 [] h=some (prl brTab,h):=by
 have hk:∃ v H,K prim (d+1) ⟨0,[],0⟩ 162 [] []=some (v,H)∧frz H 0 6 v=some (prl brTab):=by
  simp only[K,aI,hp]
  exact⟨.sl 0 0 8 8 2,[some (brTab.flatMap fun x=>[.int .i32 x.1,.int .i32 x.2])],by kernel_rfl,by kernel_rfl⟩
 obtain⟨v,H,h1,h2⟩:=hk
 simp only[af,show md 162=0 from rfl,List.all_nil,if_true,h1,h2]
set_option maxRecDepth 100000 in
set_option maxHeartbeats 2000000 in
theorem pV(hp:prim 161=none)(t:List (Int×Int))(ht:t.length≤100)(r:Int):af md (K prim (d+1)) cfg 161 [prl t,.int .i32 r] h=some (.tup [.int .i32 (iC t r).1,.int .i64 (iC t r).2],h):=by
 refine bo rfl hp Tryz.func161 rfl rfl rfl (by simp) ?_
 simp
 refine aj (fun m fr H=>∃ (k:Nat) (td:List (Int×Int)),td=t.drop k∧m=td.length∧iC t r=iC td r∧k≤t.length∧Slots 32 [(0,prl t),(1,.int .i32 r),(9,prl t),(10,.int .i64 t.length),(11,.int .i64 k)] fr) (m:=t.length) (by omega) ⟨0,t,rfl,rfl,rfl,by omega,by simp⟩ ?_
 rintro m fr H ⟨k,td,htd,rfl,hF,hkt,hs⟩
 obtain⟨j,rfl⟩:=hs.ex
 clear hs
 rw[hF]
 by_cases hlt:k<t.length
 ·obtain⟨⟨a,b⟩,hx⟩:∃ x,t[k]?=some x:=⟨_,List.getElem?_eq_getElem hlt⟩
  have htd2:td=(a,b)::t.drop (k+1):=by
   rw[htd,List.drop_eq_getElem_cons hlt]
   congr 1
   exact (List.getElem?_eq_some_iff.1 hx).2
  have hb:ab (H++[some [V.int .i32 a,V.int .i32 b]]) H.length=some [V.int .i32 a,V.int .i32 b]:=by
   simp
  simp(disch:=omega)[hlt,hx,-getElem?_pos]
  refine aj (fun m' fr H'=>∃ i:Nat,i≤2∧m'=2-i∧(0<i→a≠r)∧(1<i→b≠r)∧H'=H++[some [V.int .i32 a,V.int .i32 b]]∧Slots 32 [(0,prl t),(1,.int .i32 r),(7,.ptr H.length 0),(9,prl t),(10,.int .i64 t.length),(11,.int .i64 k),(15,.int .i64 i)] fr) (m:=2) (by omega) ⟨0,by omega,by omega,by omega,by omega,by simp,by simp⟩ ?_
  rintro m' fr H' ⟨i,hi,rfl,h0,h1,rfl,hs⟩
  obtain⟨j,rfl⟩:=hs.ex
  clear hs
  rcases (show i=0∨i=1∨i=2 by omega) with rfl|rfl|rfl
  ·by_cases ha:a=r
   ·simp(disch:=omega)[ha,wrap64]
    simp[htd2,iC,ha]
   ·simp(disch:=omega)[hb,ha,wrap64]
    exact ae (m':=1) (by omega) ⟨1,by omega,rfl,fun _=>ha,by omega,by simp,by simp⟩
  ·have ha:=h0 (by omega)
   by_cases hbr:b=r
   ·simp(disch:=omega)[hbr,wrap64]
    simp[htd2,iC,ha,hbr]
   ·simp(disch:=omega)[hb,hbr,wrap64]
    exact ae (m':=0) (by omega) ⟨2,by omega,rfl,fun _=>ha,fun _=>hbr,by simp,by simp⟩
  ·simp(disch:=omega)[wrap64]
   refine ae (m':=(t.drop (k+1)).length) (by rw[htd2];simp) ⟨k+1,t.drop (k+1),rfl,rfl,?_,by omega,by simp(disch:=omega)⟩
   rw[htd2]
   simp[iC,h0,h1]
 ·have htd2:td=[]:=by rw[htd];exact List.drop_eq_nil_of_le (by omega)
  subst htd2
  simp[hlt,iC]
theorem wh(hp:∀ f,Np2 f→prim f=none)(r:Int):af md (K prim (d+2)) cfg 167 [.int .i32 r] h=some (.tup [.int .i64 (brS r).1,.int .i32 (brS r).2],h):=by
 refine bo rfl (hp 167 (by decide)) Tryz.func167 rfl rfl rfl (by simp) ?_
 have h1:=fun cfg h=>jT (prim:=prim) d cfg h (hp 162 (by decide))
 have h2:=fun cfg h=>pV (prim:=prim) d cfg h (hp 161 (by decide)) brTab (by decide) r
 unfold brS
 generalize iC brTab r=x at *
 obtain⟨x1,x2⟩:=x
 generalize brTab=bt at *
 by_cases c1:x2=1
 ·simp[h1,h2,c1]
 ·by_cases c0:x2=0
  ·simp[h1,h2,c0]
  ·simp[h1,h2,c0,c1]
end
end Bi
end Go.Ab
namespace Go.Ab.Bi
def fj(s:List Int)(k:Nat)(to:Int):Nat→List Int
 | 0=>s
 | n+1=>fj (s.set k to) (k+1) to n
def nsm(os:List Int)(k:Nat):Nat:=((os.drop k).takeWhile (·==8)).length
def ee(os s:List Int)(k:Nat)(to:Int):List Int:=fj (s.set k to) (k+1) to (nsm os (k+1))
def jW(st:Int)(s:List Int):Int:=match s.reverse.find? fun x=>decide (0≤ch x) with
 | some x=>ch x
 | none=>st
def isD(d x:Int):Bool:=decide (ch x=d)
def isO(d x:Int):Bool:=decide (0≤ch x)&&!decide (ch x=d)
def seg(s:List Int)(a k:Nat):List Int:=(s.take k).drop (a+1)
def so(d st:Int)(os s:List Int)(p:Nat×Nat):List Int:=
 if (seg s p.1 p.2).any (isD d) then ee os (ee os s p.1 d) p.2 d
 else if (seg s p.1 p.2).any (isO d) then ee os (ee os s p.1 (jW st (s.take p.1))) p.2 (jW st (s.take p.1))
 else s
def qB(d st:Int)(os:List Int)(ps:List (Nat×Nat))(s:List Int):List Int:=ps.foldl (so d st os) s
theorem Di(s:List Int)(a:Nat):seg s a (a+1)=[]:=by
 unfold seg
 exact List.drop_eq_nil_of_le (by simp;omega)
theorem Dk{s:List Int}{a k:Nat}{x:Int}(hk:a+1≤k)(hx:s[k]?=some x):seg s a (k+1)=seg s a k++[x]:=by
 have hl:=(List.getElem?_eq_some_iff.1 hx).1
 unfold seg
 rw[List.take_add_one,hx]
 simp only[Option.toList_some]
 rw[List.drop_append_of_le_length (by simp;omega)]
theorem Aj(st:Int):jW st []=st:=rfl
theorem wY(st:Int)(s:List Int)(x:Int):jW st (s++[x])=if 0≤ch x then ch x else jW st s:=by
 unfold jW
 rw[List.reverse_append,List.reverse_singleton,List.singleton_append,List.find?_cons]
 by_cases h:0≤ch x
 ·simp[h]
 ·simp[h]
theorem jB{os:List Int}{k:Nat}(h:os[k]?=some 8):nsm os k=nsm os (k+1)+1:=by
 have hl:=(List.getElem?_eq_some_iff.1 h).1
 unfold nsm
 rw[List.drop_eq_getElem_cons hl,(List.getElem?_eq_some_iff.1 h).2]
 simp
theorem fq{os:List Int}{k:Nat}(h:os[k]?≠some 8):nsm os k=0:=by
 unfold nsm
 cases hd:os.drop k with
 | nil=>rfl
 | cons y r =>
  have hy:os[k]?=some y:=by
   have:=List.getElem?_drop (xs:=os) (i:=k) (j:=0)
   rw[hd]at this
   simpa using this.symm
  have hne:¬ y=8:=fun e=>h (by rw[hy,e])
  simp[hne]
theorem BF(x:Int):ch x=-1∨ch x=0∨ch x=1:=by
 unfold ch
 split
 ·omega
 ·split<;>omega
end Go.Ab.Bi
