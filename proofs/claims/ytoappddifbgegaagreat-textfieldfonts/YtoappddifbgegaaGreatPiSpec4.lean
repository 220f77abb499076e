/- Several texts of this proof in one. -/
import Derived.Test.YtoappddifbgegaaGreatPiK
set_option linter.all false
set_option maxHeartbeats 8000000
set_option maxRecDepth 100000
namespace Go.Ab.Bi
def nx(y:Int):Int:=if ini y=true\/y=22 then 13 else y
def w1:Int->List Int->List Int
 | _,[]=>[]
 | p,x::r=>(if x=8 then p else x)::w1 (nx (if x=8 then p else x)) r
def w2:Int->List Int->List Int
 | _,[]=>[]
 | l,x::r=>if x=0\/x=1\/x=2 then x::w2 x r else if x=3/\l=2 then 6::w2 l r else x::w2 l r
def w3(s:List Int):List Int:=s.map fun x=>if x=2 then 1 else x
def w4c(p x y:Int):Int:=if x=4/\p=3/\y=3\/x=7/\p=y/\(p=3\/p=6) then p else x
def w4:Int->List Int->List Int
 | _,[]=>[]
 | p,x::r=>w4c p x (r.headD (-1))::w4 (w4c p x (r.headD (-1))) r
def w5:Int->Nat->List Int->List Int
 | p,n,[]=>List.replicate n (if p=3 then 3 else 5)
 | p,n,x::r=>if x=5 then w5 p (n+1) r else List.replicate n (if p=3\/x=3 then 3 else 5)++x::w5 x 0 r
def w6:Int->List Int->List Int
 | _,[]=>[]
 | l,x::r=>if x=4\/x=5\/x=7 then 13::w6 l r else if x=0\/x=1 then x::w6 x r else if x=3/\l=0 then 0::w6 l r else x::w6 l r
def AL(start:Int)(s:List Int):List Int:=w6 start (w5 (-1) 0 (w4 (-1) (w3 (w2 start (w1 start s)))))
theorem EY(p:Int):∀ (k n:Nat) (r:List Int),w5 p k (List.replicate n 5++r)=w5 p (k+n) r
 | _,0,_=>rfl
 | k,n+1,r=>by
  rw[MK,LM,w5,if_pos rfl,EY p (k+1) n r,show k+1+n=k+(n+1) by omega]
theorem J1(p q:Int)(n:Nat)(r:List Int)(h:r.headD (-1)≠5):w5 p n r=List.replicate n (if p=3\/r.headD (-1)=3 then 3 else 5)++w5 q 0 r:=by
 rcases r with _|⟨y,r⟩
 ·simp[w5]
 ·simp at h;simp[w5,h]
structure WB(c:List Int)(l s c':List Int):Prop where
 len:c'.length=c.length
 at_:∀ (k:Nat) (i:Int),l[k]?=some i->c'[i.toNat]?=s[k]?
 oth:∀ j:Nat,(j:Int) ∉ l->c'[j]?=c[j]?
 sl:s.length=l.length
structure Pl(n:Nat)(l:List Int):Prop where
 rng:∀ i∈l,0<=i/\i<n
 nd:l.Nodup
theorem Pl.at_{n:Nat}{l:List Int}(h:Pl n l){k:Nat}(hk:k<l.length):∃ i:Nat,l[k]?=some (i:Int)/\i<n:=by
 have hm:=h.rng l[k] (MA hk);exact⟨l[k].toNat,by rw[K4 hk];congr 1;omega,by omega⟩
theorem WB.start{c l:List Int}(h:Pl c.length l):WB c l (l.map (lvl c)) c:=by
 refine⟨rfl,fun k i hk=>?_,fun _ _=>rfl,by simp⟩;have hm:=h.rng i (K6 hk);rw[Lh,hk];simp only[LX,lvl,K9];rw[K4 (by omega)];rfl
theorem WB.set{c l s c':List Int}(h:WB c l s c')(hp:Pl c.length l){k i:Nat}(hk:l[k]?=some (i:Int))(x:Int):WB c l (s.set k x) (c'.set i x):=by
 have hl:=h.len;have hm:=hp.rng i (K6 hk);have h0:=(K5.1 hk).1;refine⟨by simpa using h.len,fun q j hq=>?_,fun j hj=>?_,by simpa using h.sl⟩
 ·by_cases e:k=q
  ·subst e;rw[hk]at hq;cases hq;rw[Lm (by have:=h.sl;omega),Lr,Lm (by omega)]
  ·have hne:(i:Int)≠j:=by
    intro e2;subst e2;have h3:=(K5.1 hq).1;have h1:l[k]=l[q]:=by
     have e3:=(K5.1 hk).2;have e4:=(K5.1 hq).2;rw[e3,e4]
    exact e ((List.getElem_inj hp.nd).1 h1)
   have h4:=hp.rng j (K6 hq);rw[Lb e,Lb (by omega)];exact h.at_ q j hq
 ·have:i≠j:=by
   rintro rfl;exact hj (K6 hk)
  rw[Lb this];exact h.oth j hj
theorem dZ{dn td:List Int}{x y:Int}:(dn++x::td).set dn.length y=dn++y::td:=by
 rw[LO _ _ (La _)];simp
end Go.Ab.Bi
namespace Go.Ab.Bi
def fc(lv:Int):Int:=if lv%2=1 then 1 else 0
def ch(x:Int):Int:=if x=0 then 0 else if x=1\/x=3\/x=6 then 1 else -1
def kT(x:Int):Bool:=x==10||x==11||x==12||x==13||x==22||ini x
def gY(d e:Int):Int->Nat->List Int->List Int
 | b,n,[]=>List.replicate n (if b=e then b else d)
 | b,n,x::r=>if kT x then gY d e b (n+1) r else List.replicate n (if b=ch x then b else d)++x::gY d e (ch x) 0 r
def jn(lev x:Int):Int:=
 if lev%2=0/\x=1 then 1 else if lev%2=0/\(x=6\/x=3) then 2 else if lev%2=1/\(x=0\/x=3\/x=6) then 1 else 0
def jm(lev:Int):List Int->List Int->List Int
 | a::u,x::s=>(a+jn lev x)::jm lev u s
 | _,_=>[]
theorem qD(lev x:Int):0<=jn lev x/\jn lev x<=2:=by
 unfold jn;split
 ·omega
 ·split
  ·omega
  ·split<;>omega
theorem zV(d e b:Int):∀ (run:List Int) (k:Nat) (r:List Int),(∀ x∈run,kT x=true)->gY d e b k (run++r)=gY d e b (k+run.length) r
 | [],k,r,_=>rfl
 | x::run,k,r,h=>by
  rw[LM,gY,if_pos (h x (Ll ..)),zV d e b run (k+1) r fun y hy=>h y (Lc _ hy)];simp only[Lp];rw[show k+1+run.length=k+(run.length+1) by omega]
def aft(e:Int):List Int->Int
 | []=>e
 | x::_=>ch x
theorem Gk(d e b b':Int)(n:Nat)(r:List Int)(h:∀ x r',r=x::r'->kT x=false):gY d e b n r=List.replicate n (if b=aft e r then b else d)++gY d e b' 0 r:=by
 rcases r with _|⟨x,r⟩
 ·simp[gY,aft];exact .inr rfl
 ·have hx:=h x r rfl;simp[gY,hx,aft];exact .inr rfl
end Go.Ab.Bi
namespace Go.Ab
open Go.Proofs
namespace Bi
theorem zk{dn td:List Int}{x:Int}:(dn++x::td)[dn.length]?=some x:=by simp
section
variable {prim:FuncId->Option Prim}(d:Nat) (cfg:Cfg) (h:Heap)
theorem nL(hp:prim 309=none)(x:Int)(hx:0<=x):af md (K prim (d+1)) cfg 309 [.int .i64 x] h=some (.int .i64 (fc x),h):=by
 refine aP rfl hp Tryz.func309 rfl rfl rfl (by simp) ?_;have m1:x.tmod 2=x%2:=Mw hx;unfold fc;by_cases h0:x%2=1<;>simp[m1,h0]
theorem lY(hp:prim 311=none)(x:Int):af md (K prim (d+1)) cfg 311 [.int .i64 x] h=some (.int .i64 (ch x),h):=by
 refine aP rfl hp Tryz.func311 rfl rfl rfl (by simp) ?_;unfold ch;by_cases h0:x=0
 ·simp[h0]
 ·by_cases h1:x=1
  ·simp[h1]
  ·by_cases h3:x=3
   ·simp[h3]
   ·by_cases h6:x=6
    ·simp[h6]
    ·simp[h0,h1,h3,h6]
theorem yr(hp:prim 312=none)(h8:prim 304=none)(x:Int):af md (K prim (d+2)) cfg 312 [.int .i64 x] h=some (.bool (kT x),h):=by
 refine aP rfl hp Tryz.func312 rfl rfl rfl (by simp) ?_;have hI:=fun cfg h x=>lD (prim:=prim) d cfg h h8 x;unfold kT;by_cases h0:x=10
 ·simp[h0]
 ·by_cases h3:x=11
  ·simp[h3]
  ·by_cases h4:x=12
   ·simp[h4]
   ·by_cases h6:x=13
    ·simp[h6]
    ·by_cases h7:x=22
     ·simp[h7]
     ·simp[h0,h3,h4,h6,h7,hI]
theorem vO(hp:prim 285=none)(t o M:List Int)(n:Nat)(e:Int)(c l:List Int)(hn:c.length=n)(hw:n<=2000)(hl:Pl n l)(y2:List Int)(hy:y2.length=n)(hA:l.length<=2000)(T:Heap)(lv st en:Int)(hj:0<=lv/\lv<=1000)(hm:∀ i∈l,0<=lvl y2 i/\lvl y2 i<=100000)(q:Nat):
  ∃ y',WB y2 l (jm lv (l.map (lvl y2)) (l.map (lvl c))) y'/\af md (K prim (d+1)) ⟨0,[],q⟩ 285 [.ptr 3 0,.agg [il l,.int .i64 lv,.int .i64 st,.int .i64 en]] (none::some (c.map (V.int .i64))::some (y2.map (V.int .i64))::some (pcs t o M n e)::T) =
   some (.tup [],none::some (c.map (V.int .i64))::some (y'.map (V.int .i64))::some (pcs t o M n e)::T):=by
 suffices H:∃ r h2,af md (K prim (d+1)) ⟨0,[],q⟩ 285 [.ptr 3 0,.agg [il l,.int .i64 lv,.int .i64 st,.int .i64 en]] (none::some (c.map (V.int .i64))::some (y2.map (V.int .i64))::some (pcs t o M n e)::T)=some (r,h2) /\
   ∃ y',r=.tup []/\h2=(none::some (c.map (V.int .i64))::some (y'.map (V.int .i64))::some (pcs t o M n e)::T)/\WB y2 l (jm lv (l.map (lvl y2)) (l.map (lvl c))) y' by
  obtain⟨r,h2,h3,c',rfl,rfl,h4⟩:=H;exact⟨c',h4,h3⟩
 refine ni rfl hp Tryz.func285 rfl rfl rfl ?_;have b4:∀ x T',isMap x=false->ab (T++some x::T') T.length=some x:=fun x T' hx=>by
  have:=bn (h:=T) (r:=some x::T') (k:=0);simp[hx]
 have hf:WB y2 l (l.map (lvl y2)) y2:=WB.start (by rw[hy];exact hl);have hg:WB c l (l.map (lvl c)) c:=WB.start (by rw[hn];exact hl);have hq:∀ a∈l.map (lvl y2),0<=a/\a<=100000:=by
  intro a ha;obtain⟨i,hi,rfl⟩:=Me.1 ha;exact hm i hi
 generalize hD:l.map (lvl y2)=u at *;generalize hE:l.map (lvl c)=s at *;have hr:=hf.sl;have ht:=hg.sl;have m1:lv.tmod 2=lv%2:=Mw hj.1;simp(disch:=omega);refine ah (fun m fr H=>∃ (dn td sd y':List Int),m=td.length/\jm lv u s=dn++jm lv td sd/\sd=s.drop dn.length/\(∀ a∈td,0<=a/\a<=100000)/\WB y2 l (dn++td) y'/\H=none::some (c.map (V.int .i64))::some (y'.map (V.int .i64))::some (pcs t o M n e)::(T++[some [il l,.int .i64 lv,.int .i64 st,.int .i64 en]])/\Slots 88 [(0,.ptr 3 0),(3,.ptr (T.length+1+1+1+1) 0),(8,il l),(9,.int .i64 l.length),(10,.int .i64 dn.length)] fr) (m:=u.length) (by omega) ⟨[],u,s,y2,rfl,rfl,rfl,hq,hf,rfl,by simp⟩ ?_;rintro m fr H ⟨dn,td,sd,y',rfl,hF,hu,hh,hW,rfl,hs⟩;obtain⟨j,rfl⟩:=hs.ex;clear hs;have hlen:dn.length+td.length=l.length:=by have:=hW.sl;simpa using this
 rcases td with _|⟨a,td⟩
 ·have h9:dn.length=l.length:=by simpa using hlen
  have hv:jm lv u s=dn:=by
   rw[hF];cases sd<;>simp[jm]
  simp[h9];rw[hv];simp at hW;exact⟨y',rfl,hW⟩
 ·have h7:dn.length<l.length:=by simp at hlen;omega
  obtain⟨i,hi,hH⟩:=hl.at_ h7;have hc:=hW.at_ _ i hi;rw[zk,Lr]at hc;obtain⟨x,hx⟩:∃ x,s[dn.length]?=some x:=⟨_,K4 (by omega)⟩;have h8:=hg.at_ _ i hi;rw[hx,Lr]at h8;have hI:=hW.len;have hle:i+1<=y'.length:=by omega
  have ha:=hh a (Ll ..);have hJ:=qD lv x;have hd:sd=x::s.drop (dn.length+1):=by rw[hu];exact eC hx
  rw[hd,jm]at hF;have step:∀ z,WB y2 l ((dn++[z])++td) (y'.set i z):=by
   intro z;have:=hW.set (by rw[hy];exact hl) hi z;rw[dZ]at this;simpa using this
  have same:y'.set i a=y':=by
   obtain⟨h1,h2⟩:=K5.1 hc;rw[<- h2,NO]
  have fin:∀ z,jn lv x=z->jm lv u s=(dn++[a+z])++jm lv td (s.drop (dn++[a+z]).length):=by
   rintro z rfl;rw[hF];simp
  have h0:∀ b∈td,0<=b/\b<=100000:=fun b hb=>hh b (Lc _ hb);have he:lv%2=0\/lv%2=1:=by omega
  rcases he with h6|h6
  ·by_cases x1:x=1
   ·have hz:jn lv x=1:=by unfold jn;rw[if_pos ⟨h6,x1⟩]
    simp(disch:=omega)[h7,hi,hc,h8,hle,h6,m1,x1,wrap64,-getElem?_pos];exact ae (m':=td.length) (by simp) ⟨dn++[a+1],td,_,y'.set i (a+1),rfl,fin 1 hz,rfl,h0,step _,by simp,by simp(disch:=omega)⟩
   ·by_cases x6:x=6
    ·have hz:jn lv x=2:=by unfold jn;rw[if_neg (fun h=>x1 h.2),if_pos ⟨h6,.inl x6⟩]
     simp(disch:=omega)[h7,hi,hc,h8,hle,h6,m1,x6,wrap64,-getElem?_pos];exact ae (m':=td.length) (by simp) ⟨dn++[a+2],td,_,y'.set i (a+2),rfl,fin 2 hz,rfl,h0,step _,by simp,by simp(disch:=omega)⟩
    ·by_cases x3:x=3
     ·have hz:jn lv x=2:=by unfold jn;rw[if_neg (fun h=>x1 h.2),if_pos ⟨h6,.inr x3⟩]
      simp(disch:=omega)[h7,hi,hc,h8,hle,h6,m1,x3,wrap64,-getElem?_pos];exact ae (m':=td.length) (by simp) ⟨dn++[a+2],td,_,y'.set i (a+2),rfl,fin 2 hz,rfl,h0,step _,by simp,by simp(disch:=omega)⟩
     ·have hz:jn lv x=0:=by unfold jn;rw[if_neg (fun h=>x1 h.2),if_neg (by omega),if_neg (by omega)]
      have st0:=step (a+0);rw[NZ,same]at st0;simp(disch:=omega)[h7,hi,h8,h6,m1,x1,x6,x3,wrap64,-getElem?_pos];exact ae (m':=td.length) (by simp) ⟨dn++[a],td,_,y',rfl,by have:=fin 0 hz;rwa [NZ]at this,rfl,h0,st0,rfl,by simp(disch:=omega)⟩
  ·have n0:¬ lv%2=0:=by omega
   by_cases x0:x=0\/x=3\/x=6
   ·have hz:jn lv x=1:=by unfold jn;rw[if_neg (fun h=>n0 h.1),if_neg (fun h=>n0 h.1),if_pos ⟨h6,x0⟩]
    rcases x0 with x0|x0|x0
    all_goals
     simp(disch:=omega)[h7,hi,hc,h8,hle,h6,m1,x0,wrap64,-getElem?_pos];exact ae (m':=td.length) (by simp) ⟨dn++[a+1],td,_,y'.set i (a+1),rfl,fin 1 hz,rfl,h0,step _,by simp,by simp(disch:=omega)⟩
   ·have hz:jn lv x=0:=by unfold jn;rw[if_neg (fun h=>n0 h.1),if_neg (fun h=>n0 h.1),if_neg (fun h=>x0 h.2)]
    simp only[not_or]at x0;have st0:=step (a+0);rw[NZ,same]at st0;simp(disch:=omega)[h7,hi,h8,h6,m1,x0,wrap64,-getElem?_pos];exact ae (m':=td.length) (by simp) ⟨dn++[a],td,_,y',rfl,by have:=fin 0 hz;rwa [NZ]at this,rfl,h0,st0,rfl,by simp(disch:=omega)⟩
theorem wc(hp:∀ f,Np2 f->prim f=none)(t o M:List Int)(n:Nat)(e:Int)(c l:List Int)(hn:c.length=n)(hQ:n<=2000)(hl:Pl n l)(hR:l.length<=2000)(y2:List Int)(T:Heap)(lv st en:Int)(hM:0<=lv/\lv<=1000)(q:Nat):
  ∃ c',WB c l (gY (fc lv) en st 0 (l.map (lvl c))) c'/\af md (K prim (d+3)) ⟨0,[],q⟩ 284 [.ptr 3 0,.agg [il l,.int .i64 lv,.int .i64 st,.int .i64 en]] (none::some (c.map (V.int .i64))::some (y2.map (V.int .i64))::some (pcs t o M n e)::T) =
   some (.tup [],none::some (c'.map (V.int .i64))::some (y2.map (V.int .i64))::some (pcs t o M n e)::T):=by
 suffices H:∃ r h2,af md (K prim (d+3)) ⟨0,[],q⟩ 284 [.ptr 3 0,.agg [il l,.int .i64 lv,.int .i64 st,.int .i64 en]] (none::some (c.map (V.int .i64))::some (y2.map (V.int .i64))::some (pcs t o M n e)::T)=some (r,h2) /\
   ∃ c',r=.tup []/\h2=(none::some (c'.map (V.int .i64))::some (y2.map (V.int .i64))::some (pcs t o M n e)::T)/\WB c l (gY (fc lv) en st 0 (l.map (lvl c))) c' by
  obtain⟨r,h2,h3,c',rfl,rfl,h4⟩:=H;exact⟨c',h4,h3⟩
 refine ni rfl (hp 284 (by decide)) Tryz.func284 rfl rfl rfl ?_;have b4:∀ x T',isMap x=false->ab (T++some x::T') T.length=some x:=fun x T' hx=>by
  have:=bn (h:=T) (r:=some x::T') (k:=0);simp[hx]
 have hw:=fun cfg h x=>yr (prim:=prim) d cfg h (hp 312 (by decide)) (hp 304 (by decide)) x;have hE:=fun cfg h x=>lY (prim:=prim) (d+1) cfg h (hp 311 (by decide)) x;have hH:=fun cfg h=>nL (prim:=prim) (d+1) cfg h (hp 309 (by decide)) lv hM.1;have hI:WB c l (l.map (lvl c)) c:=WB.start (by rw[hn];exact hl);generalize hS:l.map (lvl c)=s0 at *;have hN:=hI.sl;have hO:md 311=0:=rfl;generalize fc lv=D at *;simp(disch:=omega);refine ah (fun m fr H=>∃ (dn td c':List Int) (b:Int),m=td.length/\gY D en st 0 s0=dn++gY D en b 0 td/\WB c l (dn++td) c'/\H=none::some (c'.map (V.int .i64))::some (y2.map (V.int .i64))::some (pcs t o M n e)::(T++[some [il l,.int .i64 lv,.int .i64 st,.int .i64 en]])/\Slots 101 [(0,.ptr 3 0),(3,.ptr (T.length+1+1+1+1) 0),(4,.int .i64 b),(5,.int .i64 dn.length)] fr) (m:=s0.length) (by omega) ⟨[],s0,c,st,rfl,rfl,hI,rfl,by simp⟩ ?_;rintro m fr H ⟨dn,td,c',b,rfl,hF,hW,rfl,hs⟩;obtain⟨j,rfl⟩:=hs.ex;clear hs;have hlen:dn.length+td.length=l.length:=by have:=hW.sl;simpa using this
 rcases td with _|⟨x,td⟩
 ·have hh:dn.length=l.length:=by simpa using hlen
  simp[gY]at hF;simp[hh];rw[hF];simp at hW;exact⟨c',rfl,hW⟩
 ·have hJ:dn.length<l.length:=by simp at hlen;omega
  obtain⟨i,hi,hu⟩:=hl.at_ hJ;have hc:=hW.at_ _ i hi;rw[zk,Lr]at hc;have hv:=hW.len;simp only[Lp]at hlen;simp(disch:=omega)[hJ];refine ai 9 (by kernel_rfl) ?_;simp(disch:=omega)[hi,hc,hw,-getElem?_pos];cases hA:kT x
  ·have hP:gY D en b 0 (x::td)=x::gY D en (ch x) 0 td:=by simp[gY,hA]
   rw[hP]at hF;simp(disch:=omega)[hE,wrap64];exact ae (m':=td.length) (by simp) ⟨dn++[x],td,c',ch x,rfl,by rw[hF];simp,by simpa using hW,rfl,by simp(disch:=omega)⟩
  ·simp(disch:=omega);refine ah (fun m fr H=>∃ (run rest:List Int),x::td=run++rest/\(∀ y∈run,kT y=true)/\m=rest.length/\H=none::some (c'.map (V.int .i64))::some (y2.map (V.int .i64))::some (pcs t o M n e)::(T++[some [il l,.int .i64 lv,.int .i64 st,.int .i64 en]])/\Slots 101 [(0,.ptr 3 0),(3,.ptr (T.length+1+1+1+1) 0),(4,.int .i64 b),(5,.int .i64 dn.length),(7,.int .i64 (dn.length+run.length:Nat))] fr) (m:=td.length+1) (by omega) ⟨[],x::td,rfl,by simp,rfl,rfl,by simp⟩ ?_;rintro m fr H ⟨run,rest,h8,hj,rfl,rfl,hs⟩;obtain⟨j,rfl⟩:=hs.ex;clear hs;have hm:run.length+rest.length=td.length+1:=by have:=congrArg List.length h8;simp at this;omega
   have hD:((dn.length:Int)+run.length).toNat=dn.length+run.length:=by omega
   have ht:(∃ y r',rest=y::r'/\kT y=true)\/((∀ y r',rest=y::r'->kT y=false)/\0<run.length):=by
    rcases rest with _|⟨y,r'⟩
    ·exact .inr ⟨fun y r' h=>by simp at h,by simp at hm;omega⟩
    ·cases hy:kT y
     ·refine .inr ⟨fun y' r'' h=>by cases h;exact hy,?_⟩;rcases run with _|⟨z,run⟩
      ·simp at h8;rw[h8.1]at hA;rw[hA]at hy;cases hy
      ·simp
     ·exact .inl ⟨y,r',rfl,hy⟩
   have hK:∀ y r',rest=y::r'->∃ i2:Nat,l[dn.length+run.length]?=some (i2:Int)/\i2<n/\c'[i2]?=some y/\(dn.length:Int)+run.length<l.length:=by
    rintro y r' rfl;simp only[Lp]at hm;obtain⟨i2,hd,he⟩:=hl.at_ (k:=dn.length+run.length) (by omega);have h9:=hW.at_ _ i2 hd;rw[h8,Lg (by omega),MU,Lg (La _),Lr]at h9;simp at h9;exact⟨i2,hd,he,h9,by omega⟩
   rcases ht with⟨y,r',hr,hy⟩|⟨ha,hT⟩
   ·obtain⟨i2,hd,he,h9,h0⟩:=hK y r' hr;subst hr;simp(disch:=omega);refine ai 15 (by kernel_rfl) ?_;simp(disch:=omega)[h0,hD,hd,h9,hw,hy,wrap64,-getElem?_pos];refine ae (m':=r'.length) (by simp) ⟨run++[y],r',by rw[h8];simp,?_,rfl,rfl,by simp(disch:=omega);omega⟩;intro z hz;rcases LB.1 hz with hz|hz
    ·exact hj z hz
    ·simp at hz;subst hz;exact hy
   ·have hL:gY D en b 0 (x::td)=List.replicate run.length (if b=aft en rest then b else D)++gY D en b 0 rest:=by
     rw[h8,zV D en b run 0 rest hj,LU,Gk D en b b _ rest ha]
    rw[hL]at hF;clear hL;rcases rest with _|⟨y,r'⟩
    ·have nlt:¬ (dn.length:Int)+run.length<l.length:=by simp at hm;omega
     simp at hm;simp(disch:=omega);refine ai 15 (by kernel_rfl) ?_;simp(disch:=omega)[nlt,hH];by_cases hb:b=aft en []
     ·rw[if_pos hb]at hF;have hb:b=en:=hb;rw[hb]at hF;simp(disch:=omega)[hb];refine ah (fun m fr H=>∃ (q:Nat) (c':List Int),q<=run.length/\m=run.length-q/\WB c l (dn++(List.replicate q (en)++run.drop q)++[]) c'/\H=none::some (c'.map (V.int .i64))::some (y2.map (V.int .i64))::some (pcs t o M n e)::(T++[some [il l,.int .i64 lv,.int .i64 st,.int .i64 en]])/\Slots 101 [(0,.ptr 3 0),(3,.ptr (T.length+1+1+1+1) 0),(4,.int .i64 (en)),(5,.int .i64 (dn.length+q:Nat)),(7,.int .i64 (dn.length+run.length:Nat)),(9,.int .i64 (en))] fr) (m:=run.length) (by omega) ⟨0,c',by omega,by omega,by rw[h8]at hW;simpa using hW,rfl,by simp⟩ ?_;rintro m fr H ⟨q,c',hq,rfl,h6,rfl,hs⟩;obtain⟨j,rfl⟩:=hs.ex;clear hs;by_cases hf:q<run.length
      ·obtain⟨z,hz⟩:∃ z,run[q]?=some z:=⟨_,K4 hf⟩;obtain⟨i,hi,hu⟩:=hl.at_ (k:=dn.length+q) (by omega);have hv:=h6.len;have hle:i+1<=c'.length:=by omega
       have h7:=h6.set (by rw[hn];exact hl) hi (en);have e1:dn++(List.replicate q (en)++run.drop q)++[]=(dn++List.replicate q (en))++z::(run.drop (q+1)++[]):=by rw[eC hz];simp
       have e2:dn.length+q=(dn++List.replicate q (en)).length:=by simp
       rw[e1]at h7
       conv at h7=>lhs;rw[e2]
       rw[dZ]at h7;have h0:(dn.length:Int)+q<(dn.length:Int)+run.length:=by omega
       have hg:((dn.length:Int)+q).toNat=dn.length+q:=by omega
       simp(disch:=omega)[h0,-getElem?_pos];refine ai 10 (by kernel_rfl) ?_;simp(disch:=omega)[hg,hi,hle,wrap64,-getElem?_pos];refine ae (m':=run.length-(q+1)) (by omega) ⟨q+1,c'.set i ((en)),by omega,rfl,?_,by simp,by simp(disch:=omega);try omega⟩;rw[Mx];simpa using h7
      ·obtain rfl:q=run.length:=by omega
       simp(disch:=omega)[wrap64];rw[Mi,Mg]at h6;refine ae (m':=([]).length) (by simp<;>omega) ⟨dn++List.replicate run.length (en),[],c',(en),rfl,by rw[hF];simp,by simpa using h6,rfl,by simp(disch:=omega)⟩
     ·rw[if_neg hb]at hF;have hb:¬ b=en:=hb;simp(disch:=omega)[hb];refine ah (fun m fr H=>∃ (q:Nat) (c':List Int),q<=run.length/\m=run.length-q/\WB c l (dn++(List.replicate q D++run.drop q)++[]) c'/\H=none::some (c'.map (V.int .i64))::some (y2.map (V.int .i64))::some (pcs t o M n e)::(T++[some [il l,.int .i64 lv,.int .i64 st,.int .i64 en]])/\Slots 101 [(0,.ptr 3 0),(3,.ptr (T.length+1+1+1+1) 0),(4,.int .i64 b),(5,.int .i64 (dn.length+q:Nat)),(7,.int .i64 (dn.length+run.length:Nat)),(9,.int .i64 D)] fr) (m:=run.length) (by omega) ⟨0,c',by omega,by omega,by rw[h8]at hW;simpa using hW,rfl,by simp⟩ ?_;rintro m fr H ⟨q,c',hq,rfl,h6,rfl,hs⟩;obtain⟨j,rfl⟩:=hs.ex;clear hs;by_cases hf:q<run.length
      ·obtain⟨z,hz⟩:∃ z,run[q]?=some z:=⟨_,K4 hf⟩;obtain⟨i,hi,hu⟩:=hl.at_ (k:=dn.length+q) (by omega);have hv:=h6.len;have hle:i+1<=c'.length:=by omega
       have h7:=h6.set (by rw[hn];exact hl) hi D;have e1:dn++(List.replicate q D++run.drop q)++[]=(dn++List.replicate q D)++z::(run.drop (q+1)++[]):=by rw[eC hz];simp
       have e2:dn.length+q=(dn++List.replicate q D).length:=by simp
       rw[e1]at h7
       conv at h7=>lhs;rw[e2]
       rw[dZ]at h7;have h0:(dn.length:Int)+q<(dn.length:Int)+run.length:=by omega
       have hg:((dn.length:Int)+q).toNat=dn.length+q:=by omega
       simp(disch:=omega)[h0,-getElem?_pos];refine ai 10 (by kernel_rfl) ?_;simp(disch:=omega)[hg,hi,hle,wrap64,-getElem?_pos];refine ae (m':=run.length-(q+1)) (by omega) ⟨q+1,c'.set i (D),by omega,rfl,?_,by simp,by simp(disch:=omega);try omega⟩;rw[Mx];simpa using h7
      ·obtain rfl:q=run.length:=by omega
       simp(disch:=omega)[wrap64];rw[Mi,Mg]at h6;refine ae (m':=([]).length) (by simp<;>omega) ⟨dn++List.replicate run.length D,[],c',b,rfl,by rw[hF];simp,by simpa using h6,rfl,by simp(disch:=omega)⟩
    ·obtain⟨i2,hd,he,h9,h0⟩:=hK y r' rfl;have hy:=ha y r' rfl;simp at hm;simp(disch:=omega);refine ai 15 (by kernel_rfl) ?_;simp(disch:=omega)[h0,hD,hd,h9,hw,hy,-getElem?_pos];refine ai 9 (by kernel_rfl) ?_;simp(disch:=omega)[hD,hd,h9,hE,hH,-getElem?_pos];by_cases hb:b=aft en (y::r')
     ·rw[if_pos hb]at hF;have hb:b=ch y:=hb;rw[hb]at hF;simp(disch:=omega)[hb];refine ah (fun m fr H=>∃ (q:Nat) (c':List Int),q<=run.length/\m=run.length-q/\WB c l (dn++(List.replicate q (ch y)++run.drop q)++(y::r')) c'/\H=none::some (c'.map (V.int .i64))::some (y2.map (V.int .i64))::some (pcs t o M n e)::(T++[some [il l,.int .i64 lv,.int .i64 st,.int .i64 en]])/\Slots 101 [(0,.ptr 3 0),(3,.ptr (T.length+1+1+1+1) 0),(4,.int .i64 (ch y)),(5,.int .i64 (dn.length+q:Nat)),(7,.int .i64 (dn.length+run.length:Nat)),(9,.int .i64 (ch y))] fr) (m:=run.length) (by omega) ⟨0,c',by omega,by omega,by rw[h8]at hW;simpa using hW,rfl,by simp⟩ ?_;rintro m fr H ⟨q,c',hq,rfl,h6,rfl,hs⟩;obtain⟨j,rfl⟩:=hs.ex;clear hs;by_cases hf:q<run.length
      ·obtain⟨z,hz⟩:∃ z,run[q]?=some z:=⟨_,K4 hf⟩;obtain⟨i,hi,hu⟩:=hl.at_ (k:=dn.length+q) (by omega);have hv:=h6.len;have hle:i+1<=c'.length:=by omega
       have h7:=h6.set (by rw[hn];exact hl) hi (ch y);have e1:dn++(List.replicate q (ch y)++run.drop q)++(y::r')=(dn++List.replicate q (ch y))++z::(run.drop (q+1)++(y::r')):=by rw[eC hz];simp
       have e2:dn.length+q=(dn++List.replicate q (ch y)).length:=by simp
       rw[e1]at h7
       conv at h7=>lhs;rw[e2]
       rw[dZ]at h7;have h0:(dn.length:Int)+q<(dn.length:Int)+run.length:=by omega
       have hg:((dn.length:Int)+q).toNat=dn.length+q:=by omega
       simp(disch:=omega)[h0,-getElem?_pos];refine ai 10 (by kernel_rfl) ?_;simp(disch:=omega)[hg,hi,hle,wrap64,-getElem?_pos];refine ae (m':=run.length-(q+1)) (by omega) ⟨q+1,c'.set i ((ch y)),by omega,rfl,?_,by simp,by simp(disch:=omega);try omega⟩;rw[Mx];simpa using h7
      ·obtain rfl:q=run.length:=by omega
       simp(disch:=omega)[wrap64];rw[Mi,Mg]at h6;refine ae (m':=((y::r')).length) (by simp<;>omega) ⟨dn++List.replicate run.length (ch y),(y::r'),c',(ch y),rfl,by rw[hF];simp,by simpa using h6,rfl,by simp(disch:=omega)⟩
     ·rw[if_neg hb]at hF;have hb:¬ b=ch y:=hb;simp(disch:=omega)[hb];refine ah (fun m fr H=>∃ (q:Nat) (c':List Int),q<=run.length/\m=run.length-q/\WB c l (dn++(List.replicate q D++run.drop q)++(y::r')) c'/\H=none::some (c'.map (V.int .i64))::some (y2.map (V.int .i64))::some (pcs t o M n e)::(T++[some [il l,.int .i64 lv,.int .i64 st,.int .i64 en]])/\Slots 101 [(0,.ptr 3 0),(3,.ptr (T.length+1+1+1+1) 0),(4,.int .i64 b),(5,.int .i64 (dn.length+q:Nat)),(7,.int .i64 (dn.length+run.length:Nat)),(9,.int .i64 D)] fr) (m:=run.length) (by omega) ⟨0,c',by omega,by omega,by rw[h8]at hW;simpa using hW,rfl,by simp⟩ ?_;rintro m fr H ⟨q,c',hq,rfl,h6,rfl,hs⟩;obtain⟨j,rfl⟩:=hs.ex;clear hs;by_cases hf:q<run.length
      ·obtain⟨z,hz⟩:∃ z,run[q]?=some z:=⟨_,K4 hf⟩;obtain⟨i,hi,hu⟩:=hl.at_ (k:=dn.length+q) (by omega);have hv:=h6.len;have hle:i+1<=c'.length:=by omega
       have h7:=h6.set (by rw[hn];exact hl) hi D;have e1:dn++(List.replicate q D++run.drop q)++(y::r')=(dn++List.replicate q D)++z::(run.drop (q+1)++(y::r')):=by rw[eC hz];simp
       have e2:dn.length+q=(dn++List.replicate q D).length:=by simp
       rw[e1]at h7
       conv at h7=>lhs;rw[e2]
       rw[dZ]at h7;have h0:(dn.length:Int)+q<(dn.length:Int)+run.length:=by omega
       have hg:((dn.length:Int)+q).toNat=dn.length+q:=by omega
       simp(disch:=omega)[h0,-getElem?_pos];refine ai 10 (by kernel_rfl) ?_;simp(disch:=omega)[hg,hi,hle,wrap64,-getElem?_pos];refine ae (m':=run.length-(q+1)) (by omega) ⟨q+1,c'.set i (D),by omega,rfl,?_,by simp,by simp(disch:=omega);try omega⟩;rw[Mx];simpa using h7
      ·obtain rfl:q=run.length:=by omega
       simp(disch:=omega)[wrap64];rw[Mi,Mg]at h6;refine ae (m':=((y::r')).length) (by simp<;>omega) ⟨dn++List.replicate run.length D,(y::r'),c',b,rfl,by rw[hF];simp,by simpa using h6,rfl,by simp(disch:=omega)⟩
end
def brTab:List (Int×Int):=[(40,41),(91,93),(123,125),(12296,12297),(12298,12299),(12300,12301),(12302,12303),(12304,12305)]
def iU:List (Int×Int)->Int->Int×Int
 | [],r=>(r,-1)
 | (a,b)::t,r=>if a=r then (b,1) else if b=r then (a,0) else iU t r
def brS(r:Int):Int×Int:=if (iU brTab r).2=1 then (1,(iU brTab r).1) else if (iU brTab r).2=0 then (2,(iU brTab r).1) else (0,0)
abbrev prl(t:List (Int×Int)):V:=.lst (t.map fun x=>[.int .i32 x.1,.int .i32 x.2])
section
variable {prim:FuncId->Option Prim}(d:Nat) (cfg:Cfg) (h:Heap)
theorem kM(hp:prim 316=none):af md (K prim (d+1)) cfg 316 [] h=some (prl brTab,h):=by
 have hk:∃ v H,K prim (d+1) ⟨0,[],0⟩ 316 [] []=some (v,H)/\frz H 0 6 v=some (prl brTab):=by
  simp only[K,aH,hp];exact⟨.sl 0 0 8 8 2,[some (brTab.flatMap fun x=>[.int .i32 x.1,.int .i32 x.2])],by kernel_rfl,by kernel_rfl⟩
 obtain⟨v,H,h1,h2⟩:=hk;simp only[af,show md 316=0 from rfl,Np,if_true,h1,h2]
theorem qT(hp:prim 315=none)(t:List (Int×Int))(ht:t.length<=100)(r:Int):af md (K prim (d+1)) cfg 315 [prl t,.int .i32 r] h=some (.tup [.int .i32 (iU t r).1,.int .i64 (iU t r).2],h):=by
 refine aP rfl hp Tryz.func315 rfl rfl rfl (by simp) ?_;simp;refine ah (fun m fr H=>∃ (k:Nat) (td:List (Int×Int)),td=t.drop k/\m=td.length/\iU t r=iU td r/\k<=t.length/\Slots 32 [(0,prl t),(1,.int .i32 r),(9,prl t),(10,.int .i64 t.length),(11,.int .i64 k)] fr) (m:=t.length) (by omega) ⟨0,t,rfl,rfl,rfl,by omega,by simp⟩ ?_;rintro m fr H ⟨k,td,h7,rfl,hF,h8,hs⟩;obtain⟨j,rfl⟩:=hs.ex;clear hs;rw[hF];by_cases h4:k<t.length
 ·obtain⟨⟨a,b⟩,hx⟩:∃ x,t[k]?=some x:=⟨_,K4 h4⟩;have h3:td=(a,b)::t.drop (k+1):=by
   rw[h7,Lq h4];congr 1;exact (K5.1 hx).2
  have hb:ab (H++[some [V.int .i32 a,V.int .i32 b]]) H.length=some [V.int .i32 a,V.int .i32 b]:=by
   simp
  simp(disch:=omega)[h4,hx,-getElem?_pos];refine ah (fun m' fr H'=>∃ i:Nat,i<=2/\m'=2-i/\(0<i->a≠r)/\(1<i->b≠r)/\H'=H++[some [V.int .i32 a,V.int .i32 b]]/\Slots 32 [(0,prl t),(1,.int .i32 r),(7,.ptr H.length 0),(9,prl t),(10,.int .i64 t.length),(11,.int .i64 k),(15,.int .i64 i)] fr) (m:=2) (by omega) ⟨0,by omega,by omega,by omega,by omega,by simp,by simp⟩ ?_;rintro m' fr H' ⟨i,hi,rfl,h0,h1,rfl,hs⟩;obtain⟨j,rfl⟩:=hs.ex;clear hs;rcases (show i=0\/i=1\/i=2 by omega) with rfl|rfl|rfl
  ·by_cases ha:a=r
   ·simp(disch:=omega)[ha,wrap64];simp[h3,iU,ha]
   ·simp(disch:=omega)[hb,ha,wrap64];exact ae (m':=1) (by omega) ⟨1,by omega,rfl,fun _=>ha,by omega,by simp,by simp⟩
  ·have ha:=h0 (by omega);by_cases h6:b=r
   ·simp(disch:=omega)[h6,wrap64];simp[h3,iU,ha,h6]
   ·simp(disch:=omega)[hb,h6,wrap64];exact ae (m':=0) (by omega) ⟨2,by omega,rfl,fun _=>ha,fun _=>h6,by simp,by simp⟩
  ·simp(disch:=omega)[wrap64];refine ae (m':=(t.drop (k+1)).length) (by rw[h3];simp) ⟨k+1,t.drop (k+1),rfl,rfl,?_,by omega,by simp(disch:=omega)⟩;rw[h3];simp[iU,h0,h1]
 ·have h3:td=[]:=by rw[h7];exact MH (by omega)
  subst h3;simp[h4,iU]
theorem xF(hp:∀ f,Np2 f->prim f=none)(r:Int):af md (K prim (d+2)) cfg 323 [.int .i32 r] h=some (.tup [.int .i64 (brS r).1,.int .i32 (brS r).2],h):=by
 refine aP rfl (hp 323 (by decide)) Tryz.func323 rfl rfl rfl (by simp) ?_;have h1:=fun cfg h=>kM (prim:=prim) d cfg h (hp 316 (by decide));have h2:=fun cfg h=>qT (prim:=prim) d cfg h (hp 315 (by decide)) brTab (by decide) r;unfold brS;generalize iU brTab r=x at *;obtain⟨x1,x2⟩:=x;generalize brTab=bt at *;by_cases c1:x2=1
 ·simp[h1,h2,c1]
 ·by_cases c0:x2=0
  ·simp[h1,h2,c0]
  ·simp[h1,h2,c0,c1]
end
end Bi
end Go.Ab
namespace Go.Ab.Bi
def fA(s:List Int)(k:Nat)(to:Int):Nat->List Int
 | 0=>s
 | n+1=>fA (s.set k to) (k+1) to n
def nsm(os:List Int)(k:Nat):Nat:=((os.drop k).takeWhile (·==8)).length
def et(os s:List Int)(k:Nat)(to:Int):List Int:=fA (s.set k to) (k+1) to (nsm os (k+1))
def kR(st:Int)(s:List Int):Int:=match s.reverse.find? fun x=>decide (0<=ch x) with
 | some x=>ch x
 | none=>st
def isD(d x:Int):Bool:=decide (ch x=d)
def isO(d x:Int):Bool:=decide (0<=ch x)&&!decide (ch x=d)
def seg(s:List Int)(a k:Nat):List Int:=(s.take k).drop (a+1)
def tC(d st:Int)(os s:List Int)(p:Nat×Nat):List Int:=
 if (seg s p.1 p.2).any (isD d) then et os (et os s p.1 d) p.2 d
 else if (seg s p.1 p.2).any (isO d) then et os (et os s p.1 (kR st (s.take p.1))) p.2 (kR st (s.take p.1))
 else s
def rN(d st:Int)(os:List Int)(ps:List (Nat×Nat))(s:List Int):List Int:=ps.foldl (tC d st os) s
theorem Eh(s:List Int)(a:Nat):seg s a (a+1)=[]:=by
 unfold seg;exact MH (by simp;omega)
theorem Ei{s:List Int}{a k:Nat}{x:Int}(hk:a+1<=k)(hx:s[k]?=some x):seg s a (k+1)=seg s a k++[x]:=by
 have hl:=(K5.1 hx).1;unfold seg;rw[LD,hx];simp only[Nc];rw[Na (by simp;omega)]
theorem Bs(st:Int):kR st []=st:=rfl
theorem yi(st:Int)(s:List Int)(x:Int):kR st (s++[x])=if 0<=ch x then ch x else kR st s:=by
 unfold kR;rw[List.reverse_append,List.reverse_singleton,List.singleton_append,List.find?_cons];by_cases h:0<=ch x
 ·simp[h]
 ·simp[h]
theorem jY{os:List Int}{k:Nat}(h:os[k]?=some 8):nsm os k=nsm os (k+1)+1:=by
 have hl:=(K5.1 h).1;unfold nsm;rw[Lq hl,(K5.1 h).2];simp
theorem fD{os:List Int}{k:Nat}(h:os[k]?≠some 8):nsm os k=0:=by
 unfold nsm;cases hd:os.drop k with
 | nil=>rfl
 | cons y r =>
  have hy:os[k]?=some y:=by
   have:=M3 (xs:=os) (i:=k) (j:=0);rw[hd]at this;simpa using this.symm
  have hne:¬ y=8:=fun e=>h (by rw[hy,e]);simp[hne]
theorem CT(x:Int):ch x=-1\/ch x=0\/ch x=1:=by
 unfold ch;split
 ·omega
 ·split<;>omega
end Go.Ab.Bi
