/- The levels of a text: the program. -/
import Derived.Test.YtldfgkjmficliaaGreatPiLev0
set_option linter.all false
set_option maxHeartbeats 8000000
set_option maxRecDepth 100000
namespace Go.Ab
open Go.Proofs
namespace Bi
theorem Ay{B:Int->Int}{t:List Int}{base:Int}:0<=dt B t base/\dt B t base<=1:=by
 unfold dt;split
 ·omega
 ·have:=tx (t.map B).length (t.map B);unfold fs;omega
section
variable {prim:FuncId->Option Prim}(d:Nat) (cfg:Cfg) (h:Heap)
theorem uE(hp:prim 102=none)(hc:prim 142=none)(x:Int):af md (K prim (d+2)) cfg 102 [.int .i64 x] h=some (.bool (np x),h):=by
 refine aU rfl hp Tryz.func102 rfl rfl rfl (by simp) ?_;have hI:=fun cfg h x=>lC (prim:=prim) d cfg h hc x;unfold np;by_cases h0:x=12
 ·simp[h0]
 ·by_cases h3:x=22
  ·simp[h3]
  ·by_cases h9:x=9
   ·simp[h9]
   ·by_cases h4:x=16
    ·simp[h4]
    ·by_cases h6:x=14
     ·simp[h6]
     ·by_cases h7:x=17
      ·simp[h7]
      ·by_cases h8:x=15
       ·simp[h8]
       ·by_cases ha:x=18
        ·simp[ha]
        ·simp[hI,h0,h3,h9,h4,h6,h7,h8,ha]
theorem Cq(hp:prim 100=none)(l:List Int)(hl:l≠[])(h0:l.length<=2000):af md (K prim (d+1)) ⟨0,[],0⟩ 100 [il l] []=some (.sl 1 0 l.length l.length 1,[none,some (l.map (V.int .i64))]):=by
 obtain⟨a,r,rfl⟩:∃ a r,l=a::r:=by
  cases l with
  | nil=>exact absurd rfl hl
  | cons a r=>exact⟨a,r,rfl⟩
 refine call2 rfl hp Tryz.func100 rfl rfl rfl ?_;have h3:cJ Tryz.prog .eql 22 (il (a::r)) .nils=some (.bool false):=by kernel_rfl
 simp only[Lx]at h0;simp(disch:=omega)[h3];rw[fU (cs:=[]) rfl rfl (by omega) (by omega) (by omega) (by simp),eC];simp
theorem A9(hp:∀ f,Np2 f->prim f=none)(hO:prim 168=some (lh 169 fbS))(t:List Int)(ht:t.length<=2000)(hne:t≠[])(base:Int):
  ∃ r' h',K prim (d+8) ⟨0,[],0⟩ 68 [rl t,.int .i64 base] []=some (r',h')/\(own h' 6 r'=true/\∃ r,frz h' 0 6 r'=some (il r)/\LevR t base r):=by
 have g6:∀ cfg h r,af md (K prim (d+6)) cfg 101 [.int .i32 r] h=some (.int .i64 (cD r),h):=fun cfg h r=>oP (prim:=prim) (d+3) cfg h (fun f hf=>hp f (yc hf)) r;have g7:∀ cfg h r,af md (K prim (d+5)) cfg 101 [.int .i32 r] h=some (.int .i64 (cD r),h):=fun cfg h r=>oP (prim:=prim) (d+2) cfg h (fun f hf=>hp f (yc hf)) r;refine cw (R:=fun r' h'=>own h' 6 r'=true/\∃ r,frz h' 0 6 r'=some (il r)/\LevR t base r) (hp 68 (by decide)) Tryz.func68 rfl rfl rfl ?_;have hC:=fun cfg h=>lr (prim:=prim) (d+5) cfg h (hp 103 (by decide)) cD g6 t ht;unfold LevR;have h6:(t.map cD).length=t.length:=by simp
 have hn:t.map cD≠[]:=by simpa using hne
 generalize ho:t.map cD=o at *;have hCl:=Cq (prim:=prim) (d+6) (hp 100 (by decide)) o hn (by omega);obtain⟨M,g8,hM⟩:=jC (prim:=prim) (d+5) (hp 104 (by decide)) (hp 142 (by decide)) o (by omega);have g9:=fun cfg h=>EU (prim:=prim) (d+4) cfg h hp cD g7 t ht base;have he:0<=dt cD t base/\dt cD t base<=1:=Ay;generalize hbe:dt cD t base=e at *;have k0:¬ (2000:Int)<t.length:=by omega
 simp(disch:=omega)[k0,hC];refine ah 12 (by kernel_rfl) ?_;have hr:md 100=2:=rfl;have hu:md 104=0:=rfl;have hv:md 69=3:=rfl;simp(disch:=omega)[hCl,g8,g9,hr,hu,hv];have hH:[none,some (o.map (V.int .i64)),some (br [V.int .i64 0] t.length),some [rl t,il o,V.sl 1 0 o.length o.length 1,il M,V.sl 2 0 t.length t.length 1,V.int .i64 e]] =
   [none,some (o.map (V.int .i64)),some ((List.replicate t.length 0).map (V.int .i64)),some (pcs t o M t.length e)]:=by
  rw[dF,h6]
 rw[hH];have hE:=uS (prim:=prim) (d+4) hp t o M hM t.length h6 ht e he (List.replicate t.length 0) (by simp);simp only[List.map_replicate]at hE;have hQ:=qe e o;have hw:=uR he o;have k1:((ic e o).map (·.2)).length=t.length:=by simp[hQ,h6]
 have hy:((ic e o).map (·.1)).length=t.length:=by simp[hQ,h6]
 generalize hc0:(ic e o).map (·.2)=c0 at *;generalize hl0:(ic e o).map (·.1)=lv at *;obtain⟨rS,hS2,k2,rfl,rfl⟩:=tZ (prim:=prim) (d+2) hp t o M t.length e he.1 ht rfl h6 hM lv hy (fun x hx=>(hw x hx).1) none (some (c0.map (V.int .i64))) [];have k3:=fun s hs=>wQ (e:=e) hM h6 hy hw (s:=s) hs;have hsl:(lg o M lv t.length e).length<=t.length:=by
  unfold lg;have h1:=rh o (fol o M (grp lv (bu o t.length) (bu o t.length).length)) (grp lv (bu o t.length) (bu o t.length).length) lv (bu o t.length) e (grp lv (bu o t.length) (bu o t.length).length).length;have h2:=oY lv (bu o t.length) (bu o t.length).length;have h3:=ik o t.length;omega
 generalize k4:lg o M lv t.length e=ss at *;simp(disch:=omega)[hE,k2];have hlen:dy Tryz.prog 162 (sqv ss)=some (.int .i64 ss.length):=by
  unfold sqv;rw[dJ (e:=165) (by kernel_rfl)];simp
 simp(disch:=omega)[hlen];refine ai (fun m fr H=>∃ (i:Nat) (c y:List Int) (T:Heap),i<=ss.length/\m=ss.length-i/\H=none::some (c.map (V.int .i64))::some (y.map (V.int .i64))::some (pcs t o M t.length e)::T/\c.length=t.length/\y.length=t.length/\(∀ x∈y,0<=x/\x<=125+2*(i:Int))/\Stps t o (ss.take i) c0 lv c y /\
  Slots 133 [(0,rl t),(5,il o),(6,.ptr 3 0),(34,sqv ss),(35,.int .i64 ss.length),(36,.int .i64 i)] fr) (m:=ss.length) (by omega) ⟨0,c0,lv,[],by omega,by omega,rfl,k1,hy,fun x hx=>by have:=hw x hx;omega,⟨rfl,rfl⟩,by simp⟩ ?_
 rintro m fr H ⟨i,c,y,T,hi,rfl,rfl,hS,h8,hX,hA,hs⟩;obtain⟨j,rfl⟩:=hs.ex;clear hs;by_cases h7:i<ss.length
 ·obtain⟨s,hs⟩:∃ s,ss[i]?=some s:=⟨_,Lc h7⟩;obtain⟨f1,f2,f3,f4⟩:=k3 s (Le hs);have hD:ay Tryz.prog 162 (sqv ss) (.int .i64 i)=some (.lptr (sqr s) 0):=by
   unfold sqv;rw[dC (e:=165) (s:=4) (by kernel_rfl) (by kernel_rfl),FK (by omega),LB,Ln,hs];rfl
  have k5:ss.take (i+1)=ss.take i++[s]:=by rw[LO,hs];rfl
  have k6:(i:Int)<ss.length:=by omega
  have b4:∀ x T',isMap x=false->ab (T++some x::T') T.length=some x:=fun x T' hx=>by
   have:=bx (h:=T) (r:=some x::T') (k:=0);simp[hx]
  simp(disch:=omega)[h7,hD,sqr];obtain⟨T1,hY⟩:∃ T1:Heap,T1=T++[some [il s.l,.int .i64 s.lev,.int .i64 s.sos,.int .i64 s.eos]]:=⟨_,rfl⟩;have k7:ab T1 T.length=some [il s.l,.int .i64 s.lev,.int .i64 s.sos,.int .i64 s.eos]:=by rw[hY];simp
  rw[<- hY];obtain⟨c1,w1,hW⟩:=GP (prim:=prim) (d+5) hp t o M t.length e c s.l hS ht f1 (by omega) y T1 s.lev s.sos s.eos 0;have hI:c1.length=t.length:=w1.len.trans hS;have k8:((s.l.map (lvl c1)).zip (s.l.map (lvl t))).length<=2000:=by simp;omega
  have k9:((s.l.map (lvl c1)).zip (s.l.map (lvl t))).length<=s.l.length:=by simp
  obtain⟨q1,q2⟩:=Gm k8;have hP:∀ cfg T',af md (K prim (d+4+2)) cfg 148 [.ptr 3 0,.agg [il s.l,.int .i64 s.lev,.int .i64 s.sos,.int .i64 s.eos]] (none::some (c1.map (V.int .i64))::some (y.map (V.int .i64))::some (pcs t o M t.length e)::(T1++T'))=some (jb (Bp ((s.l.map (lvl c1)).zip (s.l.map (lvl t)))),none::some (c1.map (V.int .i64))::some (y.map (V.int .i64))::some (pcs t o M t.length e)::(T1++T')):=by
   intro cfg T';have:=DD (prim:=prim) (d+3) hp t o M t.length e c1 s.l hI rfl ht f1 (by omega) y (T1++T') s.lev s.sos s.eos lN ri
    (fun cfg H b cap out J h1 h2 h3 h4=>Gy (prim:=prim) (d+4) hO cfg H b cap out J h2 h1 h3 h4) (fun cfg H=>D7 (prim:=prim) (d+4) hO cfg H) cfg
   rw[this];unfold Bp;cases pgo 0 ((s.l.map (lvl c1)).zip (s.l.map (lvl t))) ⟨[],[]⟩<;>rfl
  obtain⟨c2,w2,w7⟩:=uG (prim:=prim) (d+4) hp t o M t.length e c1 s.l hI h6 ht f1 (by omega) y T1 s.lev s.sos s.eos ⟨f3.1,by omega⟩ 0 _ (fun p hp=>by have:=q1 p hp;omega) q2 hP;have g0:c2.length=t.length:=w2.len.trans hI;obtain⟨c3,w3,w8⟩:=vT (prim:=prim) (d+4) hp t o M t.length e c2 s.l g0 ht f1 (by omega) y T1 s.lev s.sos s.eos ⟨f3.1,by omega⟩ 0;have g1:c3.length=t.length:=w3.len.trans g0;have w9:∀ i∈s.l,0<=lvl y i/\lvl y i<=100000:=by
   intro k hk;have:=hX (lvl y k) (zI (l:=s.l) (fun i hi=>by have:=f1.rng i hi;omega) (Nd hk));omega
  obtain⟨y3,w4,z0⟩:=vG (prim:=prim) (d+6) (hp 110 (by decide)) t o M t.length e c3 s.l g1 ht f1 y h8 (by omega) T1 s.lev s.sos s.eos ⟨f3.1,by omega⟩ w9 0;have h9:Stp t o s c y c3 y3:=⟨c1,c2,w1,w2,w3,w4⟩;simp(disch:=omega)[hW,w7,w8,z0,k7,wrap64];refine ae (m':=ss.length-(i+1)) (by omega) ⟨i+1,c3,y3,T1,by omega,rfl,rfl,g1,(Stp.len h9).2.trans h8,fun x hx=>?_,by rw[k5];exact hA.snoc h9,by simp(disch:=omega)⟩;have:=Stp.rng h9 f1 h8 hX x hx;omega
 ·obtain rfl:i=ss.length:=by omega
  rw[LQ]at hA;simp(disch:=omega);have h0:o.length=y.length:=by rw[h6,h8]
  have hR:=fun cfg y0 y1 y2 T=>qV (prim:=prim) (d+6) cfg (hp 111 (by decide)) t o M t.length e y0 y1 y2 T;refine ai (fun m fr H=>∃ (i:Nat),i<=t.length/\m=t.length-i/\H=none::some (c.map (V.int .i64))::some ((js e o y i).map (V.int .i64))::some (pcs t o M t.length e)::T /\
   Slots 133 [(0,rl t),(5,il o),(6,.ptr 3 0),(53,rl t),(54,.int .i64 t.length),(55,.int .i64 i)] fr) (m:=t.length) (by omega) ⟨0,by omega,by omega,by rw[Bu],by simp⟩ ?_
  rintro m fr H ⟨i,hi,rfl,rfl,hs⟩;obtain⟨j2,rfl⟩:=hs.ex;clear hs;have hc:=DS (p:=e) h0 i;by_cases h7:i<t.length
  ·obtain⟨x,hx⟩:∃ x,o[i]?=some x:=⟨_,Lc (by omega)⟩;obtain⟨a,ha⟩:∃ a,y[i]?=some a:=⟨_,Lc (by omega)⟩;have k6:(i:Int)<t.length:=by omega
   have z1:i+1<=t.length:=h7;cases hg:gone x
   ·have hz:(eS e o y)[i]?=some a:=by
     cases i with
     | zero=>have:=nJ (p:=e) hx ha;rw[hg]at this;exact this
     | succ i =>
      obtain⟨q,hq⟩:∃ q,(eS e o y)[i]?=some q:=⟨_,Lc (by rw[ek _ _ _ h0];omega)⟩;have:=nI o y e i x a q hx ha hq;rw[hg]at this;exact this
    have hj:js e o y (i+1)=js e o y i:=by
     rw[<- qU h0 (by omega) hz,J1];rw[Gs h0 (by omega)];exact ha
    simp(disch:=omega)[h7,hR _ _ _ _ _ i _ hx,hg,wrap64,-getElem?_pos];exact ae (m':=t.length-(i+1)) (by omega) ⟨i+1,by omega,rfl,by rw[hj],by simp(disch:=omega)⟩
   ·by_cases g2:i=0
    ·subst g2;have hz:(eS e o y)[0]?=some e:=by have:=nJ (p:=e) hx ha;rw[hg]at this;exact this
     have hd:=qU h0 (by omega) hz;have g3:=fun cfg y0 y1 y2 T=>hR cfg y0 y1 y2 T 0 _ hx;simp only[Int.natCast_zero]at g3;have hJ:∀ (cfg:Cfg) (y0 y1 y2:Option (List V)) (T:Heap),af md (K prim (d+6+1)) cfg 111 [V.ptr 3 0,V.int .i64 0] (y0::y1::y2::some (pcs t o M t.length e)::T)=some (.bool (gone x),y0::y1::y2::some (pcs t o M t.length e)::T):=g3;simp(disch:=omega)[h7,hJ,hg,-getElem?_pos];refine ah 9 (by kernel_rfl) ?_;have z2:1<=t.length:=h7;simp(disch:=omega)[hc,h8,z2,wrap64,-getElem?_pos];exact ae (m':=t.length-(0+1)) (by omega) ⟨0+1,by omega,rfl,by rw[<- hd,MB],by simp(disch:=omega)⟩
    ·obtain⟨q,hq⟩:∃ q,(eS e o y)[i-1]?=some q:=⟨_,Lc (by rw[ek _ _ _ h0];omega)⟩;have hz:(eS e o y)[i]?=some q:=by
      obtain⟨k,rfl⟩:∃ k,i=k+1:=⟨i-1,by omega⟩;have:=nI o y e k x a q hx ha hq;rw[hg]at this;exact this
     have hd:=qU h0 (by omega) hz;have z3:(js e o y i)[i-1]?=some q:=by rw[Gr h0 (by omega) (by omega)];exact hq
     have z4:¬ (i:Int)=0:=by omega
     have z5:((i:Int)-1).toNat=i-1:=by omega
     simp(disch:=omega)[h7,hR _ _ _ _ _ i _ hx,hg,g2,-getElem?_pos];refine ah 13 (by kernel_rfl) ?_;simp(disch:=omega)[hc,h8,z3,z5,z1,wrap64,-getElem?_pos];exact ae (m':=t.length-(i+1)) (by omega) ⟨i+1,by omega,rfl,by rw[<- hd,MB],by simp(disch:=omega)⟩
  ·obtain rfl:i=t.length:=by omega
   have z6:js e o y t.length=eS e o y:=by rw[<- h8];exact DR h0
   rw[z6];have hrl:=ek o y e h0;generalize hZ:eS e o y=z at *;have hl:o.length=z.length:=by omega
   obtain⟨ta1,ta2⟩:=GG (e:=e) hl;have hm:z.length=t.length:=by omega
   rw[hm]at ta1 ta2;have z7:=fun cfg h x=>uE (prim:=prim) (d+5) cfg h (hp 102 (by decide)) (hp 142 (by decide)) x;simp(disch:=omega)[wrap64];refine ai (fun m fr H=>∃ (k:Nat),k<=t.length/\m=k/\H=none::some (c.map (V.int .i64))::some ((trU e o z k).map (V.int .i64))::some (pcs t o M t.length e)::T /\
    Slots 133 [(0,rl t),(5,il o),(6,.ptr 3 0),(10,.bool (trF e o z k)),(11,.int .i64 ((k:Int)-1))] fr) (m:=t.length) (by omega) ⟨t.length,by omega,rfl,by rw[ta1],by rw[ta2];simp⟩ ?_
   rintro m fr H ⟨k,hk,rfl,rfl,hs⟩;obtain⟨j3,rfl⟩:=hs.ex;clear hs;have hc:=GH (e:=e) hl m;by_cases hm0:0<m
   ·obtain⟨k,rfl⟩:∃ k,m=k+1:=⟨m-1,by omega⟩;have z8:k<t.length:=by omega
    obtain⟨x,hx⟩:∃ x,o[k]?=some x:=⟨_,Lc (by omega)⟩;have hF:=Ef (e:=e) hl hx;have z9:((k+1:Nat):Int)-1=k:=by omega
    have hk0:(0:Int)<=(k:Int):=by omega
    have hh:=fun hb=>GI (e:=e) hl (k:=k) (by omega) hb;have g4:=fun hb=>J5 (e:=e) hl (k:=k) (by omega) hb;rw[z9];generalize hG:trF e o z (k+1)=G at hF;have hK:k+1<=t.length:=z8;unfold trB at hF;simp(disch:=omega)[hk0,hx,-getElem?_pos];by_cases hL:x=11
    ·have hT:trF e o z k=true:=by rw[hF,if_pos (.inl hL)]
     simp(disch:=omega)[hL];refine ah 9 (by kernel_rfl) ?_;simp(disch:=omega)[hc,hm,hK,wrap64,-getElem?_pos];exact ae (m':=k) (by omega) ⟨k,by omega,rfl,by rw[<- hh hT,MB],by simp(disch:=omega)[hT]⟩
    ·simp(disch:=omega)[hL,hx,-getElem?_pos];by_cases hN:x=10
     ·have hT:trF e o z k=true:=by rw[hF,if_pos (.inr hN)]
      simp(disch:=omega)[hN];refine ah 9 (by kernel_rfl) ?_;simp(disch:=omega)[hc,hm,hK,wrap64,-getElem?_pos];exact ae (m':=k) (by omega) ⟨k,by omega,rfl,by rw[<- hh hT,MB],by simp(disch:=omega)[hT]⟩
     ·rw[if_neg (by omega)]at hF;simp(disch:=omega)[hN,hx,z7,-getElem?_pos];cases hb:np x
      ·rw[hb]at hF;have hT:trF e o z k=false:=hF;simp(disch:=omega);exact ae (m':=k) (by omega) ⟨k,by omega,rfl,by rw[g4 hT],by simp(disch:=omega)[wrap64,hT]⟩
      ·rw[hb]at hF;have hT:trF e o z k=G:=hF;cases G
       ·simp(disch:=omega);exact ae (m':=k) (by omega) ⟨k,by omega,rfl,by rw[g4 hT],by simp(disch:=omega)[wrap64,hT]⟩
       ·simp(disch:=omega);refine ah 9 (by kernel_rfl) ?_;simp(disch:=omega)[hc,hm,hK,wrap64,-getElem?_pos];exact ae (m':=k) (by omega) ⟨k,by omega,rfl,by rw[<- hh hT,MB],by simp(disch:=omega)[hT]⟩
   ·obtain rfl:m=0:=by omega
    simp(disch:=omega);rw[Eg]at hc ⊢;have g5:ab (none::some (c.map (V.int .i64))::some ((trl e o z).2.map (V.int .i64))::some (pcs t o M t.length e)::T) 2=some ((trl e o z).2.map (V.int .i64)):=by simp[ab]
    have hln:t.length=(trl e o z).2.length:=by omega
    refine⟨?_,(trl e o z).2,?_,M,hM,c,y,?_,by rw[hZ]⟩
    ·exact we (d:=4) g5
    ·rw[hln];exact dx (d:=4) g5 (LJ _) rfl
    ·rw[k4];exact hA
end
end Bi
end Go.Ab
