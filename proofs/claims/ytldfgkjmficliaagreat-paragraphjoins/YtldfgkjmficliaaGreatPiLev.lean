/- The levels of a text: the program. -/
import Derived.Test.YtldfgkjmficliaaGreatPiLev0
set_option linter.unusedSimpArgs false
set_option linter.unusedVariables false
namespace Go.Ab
open Go.Proofs
namespace Bi
theorem zz{B:Int→Int}{t:List Int}{base:Int}:0≤dx B t base∧dx B t base≤1:=by
 unfold dx
 split
 ·omega
 ·have:=sF (t.map B).length (t.map B)
  unfold fs
  omega
section
variable {prim:FuncId→Option Prim}(d:Nat) (cfg:Cfg) (h:Heap)
theorem tI(hp:prim 102=none)(hp2:prim 142=none)(x:Int):af md (K prim (d+2)) cfg 102 [.int .i64 x] h=some (.bool (ma x),h):=by
 refine bo rfl hp Tryz.func102 rfl rfl rfl (by simp) ?_
 have hI:=fun cfg h x=>kD (prim:=prim) d cfg h hp2 x
 unfold ma
 by_cases h12:x=12
 ·simp[h12]
 ·by_cases h22:x=22
  ·simp[h22]
  ·by_cases h9:x=9
   ·simp[h9]
   ·by_cases h16:x=16
    ·simp[h16]
    ·by_cases h14:x=14
     ·simp[h14]
     ·by_cases h17:x=17
      ·simp[h17]
      ·by_cases h15:x=15
       ·simp[h15]
       ·by_cases h18:x=18
        ·simp[h18]
        ·simp[hI,h12,h22,h9,h16,h14,h17,h15,h18]
theorem Bw(hp:prim 100=none)(l:List Int)(hl:l≠[])(hll:l.length≤2000):af md (K prim (d+1)) ⟨0,[],0⟩ 100 [il l] []=some (.sl 1 0 l.length l.length 1,[none,some (l.map (V.int .i64))]):=by
 obtain⟨a,r,rfl⟩:∃ a r,l=a::r:=by
  cases l with
  | nil=>exact absurd rfl hl
  | cons a r=>exact⟨a,r,rfl⟩
 refine call2 rfl hp Tryz.func100 rfl rfl rfl ?_
 have hnl:cz Tryz.prog .eql 22 (il (a::r)) .nils=some (.bool false):=by kernel_rfl
 simp only[List.length_cons]at hll
 simp(disch:=omega)[hnl]
 rw[js (cs:=[]) rfl rfl (by omega) (by omega) (by omega) (by simp),gv]
 simp
set_option maxRecDepth 100000 in
set_option maxHeartbeats 8000000 in
theorem Al(hp:∀ f,Np2 f→prim f=none)(hps:prim 168=some (kg 169 fbS))(t:List Int)(ht:t.length≤2000)(hne:t≠[])(base:Int):
  ∃ r' h',K prim (d+8) ⟨0,[],0⟩ 68 [rl t,.int .i64 base] []=some (r',h')∧(own h' 6 r'=true∧∃ r,frz h' 0 6 r'=some (il r)∧LevR t base r):=by
 have hB1:∀ cfg h r,af md (K prim (d+6)) cfg 101 [.int .i32 r] h=some (.int .i64 (cD r),h):=fun cfg h r=>nK (prim:=prim) (d+3) cfg h (fun f hf=>hp f (xn hf)) r
 have hB2:∀ cfg h r,af md (K prim (d+5)) cfg 101 [.int .i32 r] h=some (.int .i64 (cD r),h):=fun cfg h r=>nK (prim:=prim) (d+2) cfg h (fun f hf=>hp f (xn hf)) r
 refine cx (R:=fun r' h'=>own h' 6 r'=true∧∃ r,frz h' 0 6 r'=some (il r)∧LevR t base r) (hp 68 (by decide)) Tryz.func68 rfl rfl rfl ?_
 have hC:=fun cfg h=>ku (prim:=prim) (d+5) cfg h (hp 103 (by decide)) cD hB1 t ht
 unfold LevR
 have hol:(t.map cD).length=t.length:=by simp
 have hone:t.map cD≠[]:=by simpa using hne
 generalize ho:t.map cD=o at *
 have hCl:=Bw (prim:=prim) (d+6) (hp 100 (by decide)) o hone (by omega)
 obtain⟨M,hMa,hM⟩:=jc (prim:=prim) (d+5) (hp 104 (by decide)) (hp 142 (by decide)) o (by omega)
 have hBa:=fun cfg h=>Ea (prim:=prim) (d+4) cfg h hp cD hB2 t ht base
 have he:0≤dx cD t base∧dx cD t base≤1:=zz
 generalize hbe:dx cD t base=e at *
 have hnI:¬ (2000:Int)<t.length:=by omega
 simp(disch:=omega)[hnI,hC]
 refine ai 12 (by kernel_rfl) ?_
 have hm27:md 100=2:=rfl
 have hm28:md 104=0:=rfl
 have hm29:md 69=3:=rfl
 simp(disch:=omega)[hCl,hMa,hBa,hm27,hm28,hm29]
 have hH:[none,some (o.map (V.int .i64)),some (bm [V.int .i64 0] t.length),some [rl t,il o,V.sl 1 0 o.length o.length 1,il M,V.sl 2 0 t.length t.length 1,V.int .i64 e]] =
   [none,some (o.map (V.int .i64)),some ((List.replicate t.length 0).map (V.int .i64)),some (pcs t o M t.length e)]:=by
  rw[dm,hol]
 rw[hH]
 have hE:=uc (prim:=prim) (d+4) hp t o M hM t.length hol ht e he (List.replicate t.length 0) (by simp)
 simp only[List.map_replicate]at hE
 have hxl:=pc e o
 have hlr:=tZ he o
 have hcl:((gH e o).map (·.2)).length=t.length:=by simp[hxl,hol]
 have hll:((gH e o).map (·.1)).length=t.length:=by simp[hxl,hol]
 generalize hc0:(gH e o).map (·.2)=c0 at *
 generalize hl0:(gH e o).map (·.1)=lv at *
 obtain⟨rS,hS2,hSc,rfl,rfl⟩:=th (prim:=prim) (d+2) hp t o M t.length e he.1 ht rfl hol hM lv hll (fun x hx=>(hlr x hx).1) none (some (c0.map (V.int .i64))) []
 have hsf:=fun s hs=>vM (e:=e) hM hol hll hlr (s:=s) hs
 have hsl:(ke o M lv t.length e).length≤t.length:=by
  unfold ke
  have h1:=qo o (fol o M (grp lv (aX o t.length) (aX o t.length).length)) (grp lv (aX o t.length) (aX o t.length).length) lv (aX o t.length) e (grp lv (aX o t.length) (aX o t.length).length).length
  have h2:=nV lv (aX o t.length) (aX o t.length).length
  have h3:=gM o t.length
  omega
 generalize hSS:ke o M lv t.length e=ss at *
 simp(disch:=omega)[hE,hSc]
 have hlen:dk Tryz.prog 162 (sqv ss)=some (.int .i64 ss.length):=by
  unfold sqv
  rw[dL (e:=165) (by kernel_rfl)]
  simp
 simp(disch:=omega)[hlen]
 refine aj (fun m fr H=>∃ (i:Nat) (c y:List Int) (T:Heap),i≤ss.length∧m=ss.length-i∧H=none::some (c.map (V.int .i64))::some (y.map (V.int .i64))::some (pcs t o M t.length e)::T∧c.length=t.length∧y.length=t.length∧(∀ x∈y,0≤x∧x≤125+2*(i:Int))∧Stps t o (ss.take i) c0 lv c y ∧
  Slots 133 [(0,rl t),(5,il o),(6,.ptr 3 0),(34,sqv ss),(35,.int .i64 ss.length),(36,.int .i64 i)] fr) (m:=ss.length) (by omega) ⟨0,c0,lv,[],by omega,by omega,rfl,hcl,hll,fun x hx=>by have:=hlr x hx;omega,⟨rfl,rfl⟩,by simp⟩ ?_
 rintro m fr H ⟨i,c,y,T,hi,rfl,rfl,hcn,hyn,hyr,hst,hs⟩
 obtain⟨j,rfl⟩:=hs.ex
 clear hs
 by_cases hlt:i<ss.length
 ·obtain⟨s,hs⟩:∃ s,ss[i]?=some s:=⟨_,List.getElem?_eq_getElem hlt⟩
  obtain⟨f1,f2,f3,f4⟩:=hsf s (List.mem_of_getElem? hs)
  have hidx:ay Tryz.prog 162 (sqv ss) (.int .i64 i)=some (.lptr (sqr s) 0):=by
   unfold sqv
   rw[dK (e:=165) (s:=4) (by kernel_rfl) (by kernel_rfl),EZ (by omega),Int.toNat_natCast,List.getElem?_map,hs]
   rfl
  have htk:ss.take (i+1)=ss.take i++[s]:=by rw[List.take_add_one,hs];rfl
  have hiI:(i:Int)<ss.length:=by omega
  have b4:∀ x T',isMap x=false→ab (T++some x::T') T.length=some x:=fun x T' hx=>by
   have:=bD (h:=T) (r:=some x::T') (k:=0)
   simp[hx]
  simp(disch:=omega)[hlt,hidx,sqr]
  obtain⟨T1,hT1⟩:∃ T1:Heap,T1=T++[some [il s.l,.int .i64 s.lev,.int .i64 s.sos,.int .i64 s.eos]]:=⟨_,rfl⟩
  have hb1:ab T1 T.length=some [il s.l,.int .i64 s.lev,.int .i64 s.sos,.int .i64 s.eos]:=by rw[hT1];simp
  rw[← hT1]
  obtain⟨c1,w1,hW⟩:=F2 (prim:=prim) (d+5) hp t o M t.length e c s.l hcn ht f1 (by omega) y T1 s.lev s.sos s.eos 0
  have hc1:c1.length=t.length:=w1.len.trans hcn
  have hzl:((s.l.map (lvl c1)).zip (s.l.map (lvl t))).length≤2000:=by simp;omega
  have hzl2:((s.l.map (lvl c1)).zip (s.l.map (lvl t))).length≤s.l.length:=by simp
  obtain⟨q1,q2⟩:=FD hzl
  have hP:∀ cfg T',af md (K prim (d+4+2)) cfg 148 [.ptr 3 0,.agg [il s.l,.int .i64 s.lev,.int .i64 s.sos,.int .i64 s.eos]] (none::some (c1.map (V.int .i64))::some (y.map (V.int .i64))::some (pcs t o M t.length e)::(T1++T'))=some (iD (AG ((s.l.map (lvl c1)).zip (s.l.map (lvl t)))),none::some (c1.map (V.int .i64))::some (y.map (V.int .i64))::some (pcs t o M t.length e)::(T1++T')):=by
   intro cfg T'
   have:=CR (prim:=prim) (d+3) hp t o M t.length e c1 s.l hc1 rfl ht f1 (by omega) y (T1++T') s.lev s.sos s.eos kN qp
    (fun cfg H b cap out J h1 h2 h3 h4=>FN (prim:=prim) (d+4) hps cfg H b cap out J h2 h1 h3 h4) (fun cfg H=>Dp (prim:=prim) (d+4) hps cfg H) cfg
   rw[this]
   unfold AG
   cases pgo 0 ((s.l.map (lvl c1)).zip (s.l.map (lvl t))) ⟨[],[]⟩<;>rfl
  obtain⟨c2,w2,hBr⟩:=tK (prim:=prim) (d+4) hp t o M t.length e c1 s.l hc1 hol ht f1 (by omega) y T1 s.lev s.sos s.eos ⟨f3.1,by omega⟩ 0 _ (fun p hp=>by have:=q1 p hp;omega) q2 hP
  have hc2:c2.length=t.length:=w2.len.trans hc1
  obtain⟨c3,w3,hNe⟩:=uT (prim:=prim) (d+4) hp t o M t.length e c2 s.l hc2 ht f1 (by omega) y T1 s.lev s.sos s.eos ⟨f3.1,by omega⟩ 0
  have hc3:c3.length=t.length:=w3.len.trans hc2
  have hyb:∀ i∈s.l,0≤lvl y i∧lvl y i≤100000:=by
   intro k hk
   have:=hyr (lvl y k) (yM (l:=s.l) (fun i hi=>by have:=f1.rng i hi;omega) (List.mem_map_of_mem hk))
   omega
  obtain⟨y3,w4,hIm⟩:=uI (prim:=prim) (d+6) (hp 110 (by decide)) t o M t.length e c3 s.l hc3 ht f1 y hyn (by omega) T1 s.lev s.sos s.eos ⟨f3.1,by omega⟩ hyb 0
  have hstp:Stp t o s c y c3 y3:=⟨c1,c2,w1,w2,w3,w4⟩
  simp(disch:=omega)[hW,hBr,hNe,hIm,hb1,wrap64]
  refine ae (m':=ss.length-(i+1)) (by omega) ⟨i+1,c3,y3,T1,by omega,rfl,rfl,hc3,(Stp.len hstp).2.trans hyn,fun x hx=>?_,by rw[htk];exact hst.snoc hstp,by simp(disch:=omega)⟩
  have:=Stp.rng hstp f1 hyn hyr x hx
  omega
 ·obtain rfl:i=ss.length:=by omega
  rw[List.take_length]at hst
  simp(disch:=omega)
  have hoy:o.length=y.length:=by rw[hol,hyn]
  have hR:=fun cfg y0 y1 y2 T=>qh (prim:=prim) (d+6) cfg (hp 111 (by decide)) t o M t.length e y0 y1 y2 T
  refine aj (fun m fr H=>∃ (i:Nat),i≤t.length∧m=t.length-i∧H=none::some (c.map (V.int .i64))::some ((iT e o y i).map (V.int .i64))::some (pcs t o M t.length e)::T ∧
   Slots 133 [(0,rl t),(5,il o),(6,.ptr 3 0),(53,rl t),(54,.int .i64 t.length),(55,.int .i64 i)] fr) (m:=t.length) (by omega) ⟨0,by omega,by omega,by rw[AK],by simp⟩ ?_
  rintro m fr H ⟨i,hi,rfl,rfl,hs⟩
  obtain⟨j2,rfl⟩:=hs.ex
  clear hs
  have hul:=C8 (p:=e) hoy i
  by_cases hlt:i<t.length
  ·obtain⟨x,hx⟩:∃ x,o[i]?=some x:=⟨_,List.getElem?_eq_getElem (by omega)⟩
   obtain⟨a,ha⟩:∃ a,y[i]?=some a:=⟨_,List.getElem?_eq_getElem (by omega)⟩
   have hiI:(i:Int)<t.length:=by omega
   have hi1:i+1≤t.length:=hlt
   cases hg:gone x
   ·have hz:(et e o y)[i]?=some a:=by
     cases i with
     | zero=>have:=mI (p:=e) hx ha;rw[hg]at this;exact this
     | succ i =>
      obtain⟨q,hq⟩:∃ q,(et e o y)[i]?=some q:=⟨_,List.getElem?_eq_getElem (by rw[dV _ _ _ hoy];omega)⟩
      have:=mG o y e i x a q hx ha hq
      rw[hg]at this
      exact this
    have hsame:iT e o y (i+1)=iT e o y i:=by
     rw[← qg hoy (by omega) hz,I3]
     rw[FH hoy (by omega)]
     exact ha
    simp(disch:=omega)[hlt,hR _ _ _ _ _ i _ hx,hg,wrap64,-getElem?_pos]
    exact ae (m':=t.length-(i+1)) (by omega) ⟨i+1,by omega,rfl,by rw[hsame],by simp(disch:=omega)⟩
   ·by_cases hi0:i=0
    ·subst hi0
     have hz:(et e o y)[0]?=some e:=by have:=mI (p:=e) hx ha;rw[hg]at this;exact this
     have hset:=qg hoy (by omega) hz
     have hR0:=fun cfg y0 y1 y2 T=>hR cfg y0 y1 y2 T 0 _ hx
     simp only[Int.natCast_zero]at hR0
     have hR0':∀ (cfg:Cfg) (y0 y1 y2:Option (List V)) (T:Heap),af md (K prim (d+6+1)) cfg 111 [V.ptr 3 0,V.int .i64 0] (y0::y1::y2::some (pcs t o M t.length e)::T)=some (.bool (gone x),y0::y1::y2::some (pcs t o M t.length e)::T):=hR0
     simp(disch:=omega)[hlt,hR0',hg,-getElem?_pos]
     refine ai 9 (by kernel_rfl) ?_
     have h1t:1≤t.length:=hlt
     simp(disch:=omega)[hul,hyn,h1t,wrap64,-getElem?_pos]
     exact ae (m':=t.length-(0+1)) (by omega) ⟨0+1,by omega,rfl,by rw[← hset,List.map_set],by simp(disch:=omega)⟩
    ·obtain⟨q,hq⟩:∃ q,(et e o y)[i-1]?=some q:=⟨_,List.getElem?_eq_getElem (by rw[dV _ _ _ hoy];omega)⟩
     have hz:(et e o y)[i]?=some q:=by
      obtain⟨k,rfl⟩:∃ k,i=k+1:=⟨i-1,by omega⟩
      have:=mG o y e k x a q hx ha hq
      rw[hg]at this
      exact this
     have hset:=qg hoy (by omega) hz
     have hq2:(iT e o y i)[i-1]?=some q:=by rw[FG hoy (by omega) (by omega)];exact hq
     have hiI0:¬ (i:Int)=0:=by omega
     have hin:((i:Int)-1).toNat=i-1:=by omega
     simp(disch:=omega)[hlt,hR _ _ _ _ _ i _ hx,hg,hi0,-getElem?_pos]
     refine ai 13 (by kernel_rfl) ?_
     simp(disch:=omega)[hul,hyn,hq2,hin,hi1,wrap64,-getElem?_pos]
     exact ae (m':=t.length-(i+1)) (by omega) ⟨i+1,by omega,rfl,by rw[← hset,List.map_set],by simp(disch:=omega)⟩
  ·obtain rfl:i=t.length:=by omega
   have hra:iT e o y t.length=et e o y:=by rw[← hyn];exact C7 hoy
   rw[hra]
   have hrl:=dV o y e hoy
   generalize hZ:et e o y=z at *
   have hoz:o.length=z.length:=by omega
   obtain⟨ta1,ta2⟩:=FV (e:=e) hoz
   have hzn:z.length=t.length:=by omega
   rw[hzn]at ta1 ta2
   have hBl:=fun cfg h x=>tI (prim:=prim) (d+5) cfg h (hp 102 (by decide)) (hp 142 (by decide)) x
   simp(disch:=omega)[wrap64]
   refine aj (fun m fr H=>∃ (k:Nat),k≤t.length∧m=k∧H=none::some (c.map (V.int .i64))::some ((trU e o z k).map (V.int .i64))::some (pcs t o M t.length e)::T ∧
    Slots 133 [(0,rl t),(5,il o),(6,.ptr 3 0),(10,.bool (trF e o z k)),(11,.int .i64 ((k:Int)-1))] fr) (m:=t.length) (by omega) ⟨t.length,by omega,rfl,by rw[ta1],by rw[ta2];simp⟩ ?_
   rintro m fr H ⟨k,hk,rfl,rfl,hs⟩
   obtain⟨j3,rfl⟩:=hs.ex
   clear hs
   have hul:=FW (e:=e) hoz m
   by_cases hm0:0<m
   ·obtain⟨k,rfl⟩:∃ k,m=k+1:=⟨m-1,by omega⟩
    have hkn:k<t.length:=by omega
    obtain⟨x,hx⟩:∃ x,o[k]?=some x:=⟨_,List.getElem?_eq_getElem (by omega)⟩
    have hF:=Dz (e:=e) hoz hx
    have hk1:((k+1:Nat):Int)-1=k:=by omega
    have hk0:(0:Int)≤(k:Int):=by omega
    have hyes:=fun hb=>FX (e:=e) hoz (k:=k) (by omega) hb
    have hno:=fun hb=>I5 (e:=e) hoz (k:=k) (by omega) hb
    rw[hk1]
    generalize hG:trF e o z (k+1)=G at hF
    have hkl:k+1≤t.length:=hkn
    unfold trB at hF
    simp(disch:=omega)[hk0,hx,-getElem?_pos]
    by_cases h11:x=11
    ·have hT:trF e o z k=true:=by rw[hF,if_pos (.inl h11)]
     simp(disch:=omega)[h11]
     refine ai 9 (by kernel_rfl) ?_
     simp(disch:=omega)[hul,hzn,hkl,wrap64,-getElem?_pos]
     exact ae (m':=k) (by omega) ⟨k,by omega,rfl,by rw[← hyes hT,List.map_set],by simp(disch:=omega)[hT]⟩
    ·simp(disch:=omega)[h11,hx,-getElem?_pos]
     by_cases h10:x=10
     ·have hT:trF e o z k=true:=by rw[hF,if_pos (.inr h10)]
      simp(disch:=omega)[h10]
      refine ai 9 (by kernel_rfl) ?_
      simp(disch:=omega)[hul,hzn,hkl,wrap64,-getElem?_pos]
      exact ae (m':=k) (by omega) ⟨k,by omega,rfl,by rw[← hyes hT,List.map_set],by simp(disch:=omega)[hT]⟩
     ·rw[if_neg (by omega)]at hF
      simp(disch:=omega)[h10,hx,hBl,-getElem?_pos]
      cases hb:ma x
      ·rw[hb]at hF
       have hT:trF e o z k=false:=hF
       simp(disch:=omega)
       exact ae (m':=k) (by omega) ⟨k,by omega,rfl,by rw[hno hT],by simp(disch:=omega)[wrap64,hT]⟩
      ·rw[hb]at hF
       have hT:trF e o z k=G:=hF
       cases G
       ·simp(disch:=omega)
        exact ae (m':=k) (by omega) ⟨k,by omega,rfl,by rw[hno hT],by simp(disch:=omega)[wrap64,hT]⟩
       ·simp(disch:=omega)
        refine ai 9 (by kernel_rfl) ?_
        simp(disch:=omega)[hul,hzn,hkl,wrap64,-getElem?_pos]
        exact ae (m':=k) (by omega) ⟨k,by omega,rfl,by rw[← hyes hT,List.map_set],by simp(disch:=omega)[hT]⟩
   ·obtain rfl:m=0:=by omega
    simp(disch:=omega)
    rw[DA]at hul ⊢
    have hbk:ab (none::some (c.map (V.int .i64))::some ((trl e o z).2.map (V.int .i64))::some (pcs t o M t.length e)::T) 2=some ((trl e o z).2.map (V.int .i64)):=by simp[ab]
    have hln:t.length=(trl e o z).2.length:=by omega
    refine⟨?_,(trl e o z).2,?_,M,hM,c,y,?_,by rw[hZ]⟩
    ·exact vg (d:=4) hbk
    ·rw[hln]
     exact ek (d:=4) hbk (Nat.zero_le _) rfl
    ·rw[hSS];exact hst
end
end Bi
end Go.Ab
