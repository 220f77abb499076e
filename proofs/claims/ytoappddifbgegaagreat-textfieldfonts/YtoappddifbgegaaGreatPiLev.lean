/- The levels of a text: the program. -/
import Derived.Test.YtoappddifbgegaaGreatPiLev0
set_option linter.all false
set_option maxHeartbeats 8000000
set_option maxRecDepth 100000
namespace Go.Ab
open Go.Proofs
namespace Bi
theorem AR{B:Int->Int}{t:List Int}{base:Int}:0<=dw B t base/\dw B t base<=1:=by
 unfold dw;split
 ·omega
 ·have:=tN (t.map B).length (t.map B);unfold fs;omega
section
variable {prim:FuncId->Option Prim}(d:Nat) (cfg:Cfg) (h:Heap)
theorem uR(hp:prim 287=none)(hc:prim 304=none)(x:Int):af md (K prim (d+2)) cfg 287 [.int .i64 x] h=some (.bool (ng x),h):=by
 refine aP rfl hp Tryz.func287 rfl rfl rfl (by simp) ?_;have hI:=fun cfg h x=>lD (prim:=prim) d cfg h hc x;unfold ng;by_cases h0:x=12
 ·simp[h0]
 ·by_cases h3:x=22
  ·simp[h3]
  ·by_cases h9:x=9
   ·simp[h9]
   ·by_cases h4:x=16
    ·simp[h4]
    ·by_cases h6:x=14
     ·simp[h6]
     ·by_cases h7:x=17
      ·simp[h7]
      ·by_cases h8:x=15
       ·simp[h8]
       ·by_cases ha:x=18
        ·simp[ha]
        ·simp[hI,h0,h3,h9,h4,h6,h7,h8,ha]
theorem CI(hp:prim 279=none)(l:List Int)(hl:l≠[])(h0:l.length<=2000):af md (K prim (d+1)) ⟨0,[],0⟩ 279 [il l] []=some (.sl 1 0 l.length l.length 1,[none,some (l.map (V.int .i64))]):=by
 obtain⟨a,r,rfl⟩:∃ a r,l=a::r:=by
  cases l with
  | nil=>exact absurd rfl hl
  | cons a r=>exact⟨a,r,rfl⟩
 refine call2 rfl hp Tryz.func279 rfl rfl rfl ?_;have h3:cw Tryz.prog .eql 52 (il (a::r)) .nils=some (.bool false):=by kernel_rfl
 simp only[Lp]at h0;simp(disch:=omega)[h3];rw[eN (cs:=[]) rfl rfl (by omega) (by omega) (by omega) (by simp),dt];simp
theorem Bu(hp:∀ f,Np2 f->prim f=none)(hO:prim 324=some (lj 325 fbS))(t:List Int)(ht:t.length<=2000)(hne:t≠[])(base:Int):
  ∃ r' h',K prim (d+8) ⟨0,[],0⟩ 236 [rl t,.int .i64 base] []=some (r',h')/\(own h' 6 r'=true/\∃ r,frz h' 0 6 r'=some (il r)/\LevR t base r):=by
 have g6:∀ cfg h r,af md (K prim (d+6)) cfg 288 [.int .i32 r] h=some (.int .i64 (cA r),h):=fun cfg h r=>oW (prim:=prim) (d+3) cfg h (fun f hf=>hp f (yt hf)) r;have g7:∀ cfg h r,af md (K prim (d+5)) cfg 288 [.int .i32 r] h=some (.int .i64 (cA r),h):=fun cfg h r=>oW (prim:=prim) (d+2) cfg h (fun f hf=>hp f (yt hf)) r;refine cn (R:=fun r' h'=>own h' 6 r'=true/\∃ r,frz h' 0 6 r'=some (il r)/\LevR t base r) (hp 236 (by decide)) Tryz.func236 rfl rfl rfl ?_;have hC:=fun cfg h=>ly (prim:=prim) (d+5) cfg h (hp 276 (by decide)) cA g6 t ht;unfold LevR;have h6:(t.map cA).length=t.length:=by simp
 have hn:t.map cA≠[]:=by simpa using hne
 generalize ho:t.map cA=o at *;have hCl:=CI (prim:=prim) (d+6) (hp 279 (by decide)) o hn (by omega);obtain⟨M,g8,hM⟩:=jC (prim:=prim) (d+5) (hp 278 (by decide)) (hp 304 (by decide)) o (by omega);have g9:=fun cfg h=>Fh (prim:=prim) (d+4) cfg h hp cA g7 t ht base;have he:0<=dw cA t base/\dw cA t base<=1:=AR;generalize hbe:dw cA t base=e at *;have k0:¬ (2000:Int)<t.length:=by omega
 simp(disch:=omega)[k0,hC];refine ai 12 (by kernel_rfl) ?_;have hr:md 279=2:=rfl;have hu:md 278=0:=rfl;have hv:md 235=3:=rfl;simp(disch:=omega)[hCl,g8,g9,hr,hu,hv];have hH:[none,some (o.map (V.int .i64)),some (bj [V.int .i64 0] t.length),some [rl t,il o,V.sl 1 0 o.length o.length 1,il M,V.sl 2 0 t.length t.length 1,V.int .i64 e]] =
   [none,some (o.map (V.int .i64)),some ((List.replicate t.length 0).map (V.int .i64)),some (pcs t o M t.length e)]:=by
  rw[di,h6]
 rw[hH];have hE:=vl (prim:=prim) (d+4) hp t o M hM t.length h6 ht e he (List.replicate t.length 0) (by simp);simp only[List.map_replicate]at hE;have hQ:=qg e o;have hw:=vk he o;have k1:((gR e o).map (·.2)).length=t.length:=by simp[hQ,h6]
 have hy:((gR e o).map (·.1)).length=t.length:=by simp[hQ,h6]
 generalize hc0:(gR e o).map (·.2)=c0 at *;generalize hl0:(gR e o).map (·.1)=lv at *;obtain⟨rS,hS2,k2,rfl,rfl⟩:=ur (prim:=prim) (d+2) hp t o M t.length e he.1 ht rfl h6 hM lv hy (fun x hx=>(hw x hx).1) none (some (c0.map (V.int .i64))) [];have k3:=fun s hs=>xf (e:=e) hM h6 hy hw (s:=s) hs;have hsl:(lh o M lv t.length e).length<=t.length:=by
  unfold lh;have h1:=rC o (fol o M (grp lv (aZ o t.length) (aZ o t.length).length)) (grp lv (aZ o t.length) (aZ o t.length).length) lv (aZ o t.length) e (grp lv (aZ o t.length) (aZ o t.length).length).length;have h2:=ph lv (aZ o t.length) (aZ o t.length).length;have h3:=gV o t.length;omega
 generalize k4:lh o M lv t.length e=ss at *;simp(disch:=omega)[hE,k2];have hlen:dc Tryz.prog 309 (sqv ss)=some (.int .i64 ss.length):=by
  unfold sqv;rw[dQ (e:=312) (by kernel_rfl)];simp
 simp(disch:=omega)[hlen];refine ah (fun m fr H=>∃ (i:Nat) (c y:List Int) (T:Heap),i<=ss.length/\m=ss.length-i/\H=none::some (c.map (V.int .i64))::some (y.map (V.int .i64))::some (pcs t o M t.length e)::T/\c.length=t.length/\y.length=t.length/\(∀ x∈y,0<=x/\x<=125+2*(i:Int))/\Stps t o (ss.take i) c0 lv c y /\
  Slots 133 [(0,rl t),(5,il o),(6,.ptr 3 0),(34,sqv ss),(35,.int .i64 ss.length),(36,.int .i64 i)] fr) (m:=ss.length) (by omega) ⟨0,c0,lv,[],by omega,by omega,rfl,k1,hy,fun x hx=>by have:=hw x hx;omega,⟨rfl,rfl⟩,by simp⟩ ?_
 rintro m fr H ⟨i,c,y,T,hi,rfl,rfl,hS,h8,hX,hA,hs⟩;obtain⟨j,rfl⟩:=hs.ex;clear hs;by_cases h7:i<ss.length
 ·obtain⟨s,hs⟩:∃ s,ss[i]?=some s:=⟨_,K4 h7⟩;obtain⟨f1,f2,f3,f4⟩:=k3 s (K6 hs);have hD:ax Tryz.prog 309 (sqv ss) (.int .i64 i)=some (.lptr (sqr s) 0):=by
   unfold sqv;rw[dP (e:=312) (s:=4) (by kernel_rfl) (by kernel_rfl),F1 (by omega),Lr,Lh,hs];rfl
  have k5:ss.take (i+1)=ss.take i++[s]:=by rw[LD,hs];rfl
  have k6:(i:Int)<ss.length:=by omega
  have b4:∀ x T',isMap x=false->ab (T++some x::T') T.length=some x:=fun x T' hx=>by
   have:=bn (h:=T) (r:=some x::T') (k:=0);simp[hx]
  simp(disch:=omega)[h7,hD,sqr];obtain⟨T1,hY⟩:∃ T1:Heap,T1=T++[some [il s.l,.int .i64 s.lev,.int .i64 s.sos,.int .i64 s.eos]]:=⟨_,rfl⟩;have k7:ab T1 T.length=some [il s.l,.int .i64 s.lev,.int .i64 s.sos,.int .i64 s.eos]:=by rw[hY];simp
  rw[<- hY];obtain⟨c1,w1,hW⟩:=G8 (prim:=prim) (d+5) hp t o M t.length e c s.l hS ht f1 (by omega) y T1 s.lev s.sos s.eos 0;have hI:c1.length=t.length:=w1.len.trans hS;have k8:((s.l.map (lvl c1)).zip (s.l.map (lvl t))).length<=2000:=by simp;omega
  have k9:((s.l.map (lvl c1)).zip (s.l.map (lvl t))).length<=s.l.length:=by simp
  obtain⟨q1,q2⟩:=GF k8;have hP:∀ cfg T',af md (K prim (d+4+2)) cfg 310 [.ptr 3 0,.agg [il s.l,.int .i64 s.lev,.int .i64 s.sos,.int .i64 s.eos]] (none::some (c1.map (V.int .i64))::some (y.map (V.int .i64))::some (pcs t o M t.length e)::(T1++T'))=some (iV (BJ ((s.l.map (lvl c1)).zip (s.l.map (lvl t)))),none::some (c1.map (V.int .i64))::some (y.map (V.int .i64))::some (pcs t o M t.length e)::(T1++T')):=by
   intro cfg T';have:=DW (prim:=prim) (d+3) hp t o M t.length e c1 s.l hI rfl ht f1 (by omega) y (T1++T') s.lev s.sos s.eos lL rD
    (fun cfg H b cap out J h1 h2 h3 h4=>GU (prim:=prim) (d+4) hO cfg H b cap out J h2 h1 h3 h4) (fun cfg H=>Em (prim:=prim) (d+4) hO cfg H) cfg
   rw[this];unfold BJ;cases pgo 0 ((s.l.map (lvl c1)).zip (s.l.map (lvl t))) ⟨[],[]⟩<;>rfl
  obtain⟨c2,w2,w7⟩:=uT (prim:=prim) (d+4) hp t o M t.length e c1 s.l hI h6 ht f1 (by omega) y T1 s.lev s.sos s.eos ⟨f3.1,by omega⟩ 0 _ (fun p hp=>by have:=q1 p hp;omega) q2 hP;have g0:c2.length=t.length:=w2.len.trans hI;obtain⟨c3,w3,w8⟩:=wc (prim:=prim) (d+4) hp t o M t.length e c2 s.l g0 ht f1 (by omega) y T1 s.lev s.sos s.eos ⟨f3.1,by omega⟩ 0;have g1:c3.length=t.length:=w3.len.trans g0;have w9:∀ i∈s.l,0<=lvl y i/\lvl y i<=100000:=by
   intro k hk;have:=hX (lvl y k) (zT (l:=s.l) (fun i hi=>by have:=f1.rng i hi;omega) (MX hk));omega
  obtain⟨y3,w4,z0⟩:=vO (prim:=prim) (d+6) (hp 285 (by decide)) t o M t.length e c3 s.l g1 ht f1 y h8 (by omega) T1 s.lev s.sos s.eos ⟨f3.1,by omega⟩ w9 0;have h9:Stp t o s c y c3 y3:=⟨c1,c2,w1,w2,w3,w4⟩;simp(disch:=omega)[hW,w7,w8,z0,k7,wrap64];refine ae (m':=ss.length-(i+1)) (by omega) ⟨i+1,c3,y3,T1,by omega,rfl,rfl,g1,(Stp.len h9).2.trans h8,fun x hx=>?_,by rw[k5];exact hA.snoc h9,by simp(disch:=omega)⟩;have:=Stp.rng h9 f1 h8 hX x hx;omega
 ·obtain rfl:i=ss.length:=by omega
  rw[LF]at hA;simp(disch:=omega);have h0:o.length=y.length:=by rw[h6,h8]
  have hR:=fun cfg y0 y1 y2 T=>rk (prim:=prim) (d+6) cfg (hp 286 (by decide)) t o M t.length e y0 y1 y2 T;refine ah (fun m fr H=>∃ (i:Nat),i<=t.length/\m=t.length-i/\H=none::some (c.map (V.int .i64))::some ((jo e o y i).map (V.int .i64))::some (pcs t o M t.length e)::T /\
   Slots 133 [(0,rl t),(5,il o),(6,.ptr 3 0),(53,rl t),(54,.int .i64 t.length),(55,.int .i64 i)] fr) (m:=t.length) (by omega) ⟨0,by omega,by omega,by rw[BO],by simp⟩ ?_
  rintro m fr H ⟨i,hi,rfl,rfl,hs⟩;obtain⟨j2,rfl⟩:=hs.ex;clear hs;have hc:=D7 (p:=e) h0 i;by_cases h7:i<t.length
  ·obtain⟨x,hx⟩:∃ x,o[i]?=some x:=⟨_,K4 (by omega)⟩;obtain⟨a,ha⟩:∃ a,y[i]?=some a:=⟨_,K4 (by omega)⟩;have k6:(i:Int)<t.length:=by omega
   have z1:i+1<=t.length:=h7;cases hg:gone x
   ·have hz:(eL e o y)[i]?=some a:=by
     cases i with
     | zero=>have:=nG (p:=e) hx ha;rw[hg]at this;exact this
     | succ i =>
      obtain⟨q,hq⟩:∃ q,(eL e o y)[i]?=some q:=⟨_,K4 (by rw[dX _ _ _ h0];omega)⟩;have:=nF o y e i x a q hx ha hq;rw[hg]at this;exact this
    have hj:jo e o y (i+1)=jo e o y i:=by
     rw[<- rj h0 (by omega) hz,JP];rw[GJ h0 (by omega)];exact ha
    simp(disch:=omega)[h7,hR _ _ _ _ _ i _ hx,hg,wrap64,-getElem?_pos];exact ae (m':=t.length-(i+1)) (by omega) ⟨i+1,by omega,rfl,by rw[hj],by simp(disch:=omega)⟩
   ·by_cases g2:i=0
    ·subst g2;have hz:(eL e o y)[0]?=some e:=by have:=nG (p:=e) hx ha;rw[hg]at this;exact this
     have hd:=rj h0 (by omega) hz;have g3:=fun cfg y0 y1 y2 T=>hR cfg y0 y1 y2 T 0 _ hx;simp only[Int.natCast_zero]at g3;have hJ:∀ (cfg:Cfg) (y0 y1 y2:Option (List V)) (T:Heap),af md (K prim (d+6+1)) cfg 286 [V.ptr 3 0,V.int .i64 0] (y0::y1::y2::some (pcs t o M t.length e)::T)=some (.bool (gone x),y0::y1::y2::some (pcs t o M t.length e)::T):=g3;simp(disch:=omega)[h7,hJ,hg,-getElem?_pos];refine ai 9 (by kernel_rfl) ?_;have z2:1<=t.length:=h7;simp(disch:=omega)[hc,h8,z2,wrap64,-getElem?_pos];exact ae (m':=t.length-(0+1)) (by omega) ⟨0+1,by omega,rfl,by rw[<- hd,MZ],by simp(disch:=omega)⟩
    ·obtain⟨q,hq⟩:∃ q,(eL e o y)[i-1]?=some q:=⟨_,K4 (by rw[dX _ _ _ h0];omega)⟩;have hz:(eL e o y)[i]?=some q:=by
      obtain⟨k,rfl⟩:∃ k,i=k+1:=⟨i-1,by omega⟩;have:=nF o y e k x a q hx ha hq;rw[hg]at this;exact this
     have hd:=rj h0 (by omega) hz;have z3:(jo e o y i)[i-1]?=some q:=by rw[GI h0 (by omega) (by omega)];exact hq
     have z4:¬ (i:Int)=0:=by omega
     have z5:((i:Int)-1).toNat=i-1:=by omega
     simp(disch:=omega)[h7,hR _ _ _ _ _ i _ hx,hg,g2,-getElem?_pos];refine ai 13 (by kernel_rfl) ?_;simp(disch:=omega)[hc,h8,z3,z5,z1,wrap64,-getElem?_pos];exact ae (m':=t.length-(i+1)) (by omega) ⟨i+1,by omega,rfl,by rw[<- hd,MZ],by simp(disch:=omega)⟩
  ·obtain rfl:i=t.length:=by omega
   have z6:jo e o y t.length=eL e o y:=by rw[<- h8];exact D6 h0
   rw[z6];have hrl:=dX o y e h0;generalize hZ:eL e o y=z at *;have hl:o.length=z.length:=by omega
   obtain⟨ta1,ta2⟩:=G2 (e:=e) hl;have hm:z.length=t.length:=by omega
   rw[hm]at ta1 ta2;have z7:=fun cfg h x=>uR (prim:=prim) (d+5) cfg h (hp 287 (by decide)) (hp 304 (by decide)) x;simp(disch:=omega)[wrap64];refine ah (fun m fr H=>∃ (k:Nat),k<=t.length/\m=k/\H=none::some (c.map (V.int .i64))::some ((trU e o z k).map (V.int .i64))::some (pcs t o M t.length e)::T /\
    Slots 133 [(0,rl t),(5,il o),(6,.ptr 3 0),(10,.bool (trF e o z k)),(11,.int .i64 ((k:Int)-1))] fr) (m:=t.length) (by omega) ⟨t.length,by omega,rfl,by rw[ta1],by rw[ta2];simp⟩ ?_
   rintro m fr H ⟨k,hk,rfl,rfl,hs⟩;obtain⟨j3,rfl⟩:=hs.ex;clear hs;have hc:=G3 (e:=e) hl m;by_cases hm0:0<m
   ·obtain⟨k,rfl⟩:∃ k,m=k+1:=⟨m-1,by omega⟩;have z8:k<t.length:=by omega
    obtain⟨x,hx⟩:∃ x,o[k]?=some x:=⟨_,K4 (by omega)⟩;have hF:=ED (e:=e) hl hx;have z9:((k+1:Nat):Int)-1=k:=by omega
    have hk0:(0:Int)<=(k:Int):=by omega
    have hh:=fun hb=>G4 (e:=e) hl (k:=k) (by omega) hb;have g4:=fun hb=>JV (e:=e) hl (k:=k) (by omega) hb;rw[z9];generalize hG:trF e o z (k+1)=G at hF;have hK:k+1<=t.length:=z8;unfold trB at hF;simp(disch:=omega)[hk0,hx,-getElem?_pos];by_cases hL:x=11
    ·have hT:trF e o z k=true:=by rw[hF,if_pos (.inl hL)]
     simp(disch:=omega)[hL];refine ai 9 (by kernel_rfl) ?_;simp(disch:=omega)[hc,hm,hK,wrap64,-getElem?_pos];exact ae (m':=k) (by omega) ⟨k,by omega,rfl,by rw[<- hh hT,MZ],by simp(disch:=omega)[hT]⟩
    ·simp(disch:=omega)[hL,hx,-getElem?_pos];by_cases hN:x=10
     ·have hT:trF e o z k=true:=by rw[hF,if_pos (.inr hN)]
      simp(disch:=omega)[hN];refine ai 9 (by kernel_rfl) ?_;simp(disch:=omega)[hc,hm,hK,wrap64,-getElem?_pos];exact ae (m':=k) (by omega) ⟨k,by omega,rfl,by rw[<- hh hT,MZ],by simp(disch:=omega)[hT]⟩
     ·rw[if_neg (by omega)]at hF;simp(disch:=omega)[hN,hx,z7,-getElem?_pos];cases hb:ng x
      ·rw[hb]at hF;have hT:trF e o z k=false:=hF;simp(disch:=omega);exact ae (m':=k) (by omega) ⟨k,by omega,rfl,by rw[g4 hT],by simp(disch:=omega)[wrap64,hT]⟩
      ·rw[hb]at hF;have hT:trF e o z k=G:=hF;cases G
       ·simp(disch:=omega);exact ae (m':=k) (by omega) ⟨k,by omega,rfl,by rw[g4 hT],by simp(disch:=omega)[wrap64,hT]⟩
       ·simp(disch:=omega);refine ai 9 (by kernel_rfl) ?_;simp(disch:=omega)[hc,hm,hK,wrap64,-getElem?_pos];exact ae (m':=k) (by omega) ⟨k,by omega,rfl,by rw[<- hh hT,MZ],by simp(disch:=omega)[hT]⟩
   ·obtain rfl:m=0:=by omega
    simp(disch:=omega);rw[EE]at hc ⊢;have g5:ab (none::some (c.map (V.int .i64))::some ((trl e o z).2.map (V.int .i64))::some (pcs t o M t.length e)::T) 2=some ((trl e o z).2.map (V.int .i64)):=by simp[ab]
    have hln:t.length=(trl e o z).2.length:=by omega
    refine⟨?_,(trl e o z).2,?_,M,hM,c,y,?_,by rw[hZ]⟩
    ·exact qV (d:=4) g5
    ·rw[hln];exact cK (d:=4) g5 (LA _) rfl
    ·rw[k4];exact hA
end
end Bi
end Go.Ab
