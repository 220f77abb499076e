/- The bracket rule, once the pairs are known: the program. -/
import Derived.Test.YtldfgkjmficliaaGreatPiSpec4
set_option linter.unusedSimpArgs false
set_option linter.unusedVariables false
namespace Go.Ab
open Go.Proofs
namespace Bi
abbrev iD(t:List (Nat×Nat)):V:=.lst (t.map fun x=>[.int .i64 (x.1:Int),.int .i64 (x.2:Int)])
section
variable {prim:FuncId→Option Prim}(d:Nat) (cfg:Cfg) (h:Heap)
set_option maxRecDepth 100000 in
set_option maxHeartbeats 8000000 in
theorem tK(hp:∀ f,Np2 f→prim f=none)(t o M:List Int)(n:Nat)(e:Int)(c l:List Int)(hn:c.length=n)(hon:o.length=n)(hn2:n≤2000)(hl:Pl n l)(hll:l.length≤2000)(y2:List Int)(T:Heap)(lv st en:Int)(hlv:0≤lv∧lv≤1000)(q:Nat)
  (ps:List (Nat×Nat)) (hps:∀ p∈ps,p.1<p.2∧p.2<l.length) (hpl:ps.length≤2000)
  (hP:∀ cfg T',af md (K prim (d+2)) cfg 148 [.ptr 3 0,.agg [il l,.int .i64 lv,.int .i64 st,.int .i64 en]] (none::some (c.map (V.int .i64))::some (y2.map (V.int .i64))::some (pcs t o M n e)::(T++T'))=some (iD ps,none::some (c.map (V.int .i64))::some (y2.map (V.int .i64))::some (pcs t o M n e)::(T++T'))):
  ∃ c',WB c l (qB (eS lv) st (l.map (lvl o)) ps (l.map (lvl c))) c'∧af md (K prim (d+3)) ⟨0,[],q⟩ 108 [.ptr 3 0,.agg [il l,.int .i64 lv,.int .i64 st,.int .i64 en]] (none::some (c.map (V.int .i64))::some (y2.map (V.int .i64))::some (pcs t o M n e)::T) =
   some (.tup [],none::some (c'.map (V.int .i64))::some (y2.map (V.int .i64))::some (pcs t o M n e)::T):=by
 suffices H:∃ r h2,af md (K prim (d+3)) ⟨0,[],q⟩ 108 [.ptr 3 0,.agg [il l,.int .i64 lv,.int .i64 st,.int .i64 en]] (none::some (c.map (V.int .i64))::some (y2.map (V.int .i64))::some (pcs t o M n e)::T)=some (r,h2) ∧
   ∃ c',r=.tup []∧h2=(none::some (c'.map (V.int .i64))::some (y2.map (V.int .i64))::some (pcs t o M n e)::T)∧WB c l (qB (eS lv) st (l.map (lvl o)) ps (l.map (lvl c))) c' by
  obtain⟨r,h2,h3,c',rfl,rfl,h4⟩:=H
  exact⟨c',h4,h3⟩
 refine sr rfl (hp 108 (by decide)) Tryz.func108 rfl rfl rfl ?_
 have b4:∀ x T',isMap x=false→ab (T++some x::T') T.length=some x:=fun x T' hx=>by
  have:=bD (h:=T) (r:=some x::T') (k:=0)
  simp[hx]
 have hDi:=fun cfg h x=>lf (prim:=prim) (d+1) cfg h (hp 149 (by decide)) x
 have hSt:=fun cfg h=>mN (prim:=prim) (d+1) cfg h (hp 147 (by decide)) lv hlv.1
 have hW0:WB c l (l.map (lvl c)) c:=WB.start (by rw[hn];exact hl)
 have hWo:WB o l (l.map (lvl o)) o:=WB.start (by rw[hon];exact hl)
 generalize hss:l.map (lvl c)=s0 at *
 generalize hso:l.map (lvl o)=os at *
 have hsl0:=hW0.sl
 have hslo:=hWo.sl
 have hm61:md 149=0:=rfl
 have hDr:eS lv=0∨eS lv=1:=by unfold eS;split<;>simp
 generalize eS lv=D at *
 simp(disch:=omega)[hSt,hP]
 refine aj (fun m fr H=>∃ (k:Nat) (s c':List Int) (T':Heap),k≤ps.length∧m=ps.length-k∧qB D st os ps s0=qB D st os (ps.drop k) s∧WB c l s c'∧H=none::some (c'.map (V.int .i64))::some (y2.map (V.int .i64))::some (pcs t o M n e)::(T++some [il l,.int .i64 lv,.int .i64 st,.int .i64 en]::T')∧Slots 140 [(0,.ptr 3 0),(3,.ptr (T.length+1+1+1+1) 0),(4,.int .i64 D),(22,iD ps),(23,.int .i64 ps.length),(24,.int .i64 k)] fr) (m:=ps.length) (by omega) ⟨0,s0,c,[],by omega,by omega,rfl,hW0,by simp,by simp⟩ ?_
 rintro m fr H ⟨k,s,c',T',hk,rfl,hF,hW,rfl,hs⟩
 obtain⟨j,rfl⟩:=hs.ex
 clear hs
 have hsl:=hW.sl
 by_cases hlt:k<ps.length
 ·obtain⟨⟨a,b⟩,hx⟩:∃ x,ps[k]?=some x:=⟨_,List.getElem?_eq_getElem hlt⟩
  obtain⟨hab,hbl⟩:=hps _ (List.mem_of_getElem? hx)
  simp only at hab hbl
  have hdr:ps.drop k=(a,b)::ps.drop (k+1):=by
   rw[List.drop_eq_getElem_cons hlt]
   congr 1
   exact (List.getElem?_eq_some_iff.1 hx).2
  have hF2:qB D st os (ps.drop k) s=qB D st os (ps.drop (k+1)) (so D st os s (a,b)):=by rw[hdr];rfl
  have bP:∀ x y,isMap x=false→ab (T++some y::(T'++[some x])) (T.length+(T'.length+1))=some x:=fun x y hx=>by
   have:=bD (h:=T) (r:=some y::(T'++[some x])) (k:=T'.length+1)
   rw[this,dH]
   simp[hx]
  have fin:∀ s' c',so D st os s (a,b)=s'→WB c l s' c'→∀ fr,Slots 140 [(0,.ptr 3 0),(3,.ptr (T.length+1+1+1+1) 0),(4,.int .i64 D),(22,iD ps),(23,.int .i64 ps.length),(24,.int .i64 (k+1:Nat))] fr→@Rnd ⟨fun m fr H=>∃ (k:Nat) (s c':List Int) (T':Heap),k≤ps.length∧m=ps.length-k∧qB D st os ps s0=qB D st os (ps.drop k) s∧WB c l s c'∧H=none::some (c'.map (V.int .i64))::some (y2.map (V.int .i64))::some (pcs t o M n e)::(T++some [il l,.int .i64 lv,.int .i64 st,.int .i64 en]::T')∧Slots 140 [(0,.ptr 3 0),(3,.ptr (T.length+1+1+1+1) 0),(4,.int .i64 D),(22,iD ps),(23,.int .i64 ps.length),(24,.int .i64 k)] fr⟩ ⟨ps.length-k⟩ fr (none::some (c'.map (V.int .i64))::some (y2.map (V.int .i64))::some (pcs t o M n e)::(T++some [il l,.int .i64 lv,.int .i64 st,.int .i64 en]::(T'++[some [.int .i64 a,.int .i64 b]]))):=by
   intro s' c' hs' hW' fr hfr
   exact ae (m':=ps.length-(k+1)) (by omega) ⟨k+1,s',c',T'++[some [.int .i64 a,.int .i64 b]],by omega,rfl,by rw[hF,hF2,hs'],hW',rfl,hfr⟩
  simp(disch:=omega)[hlt,hx,wrap64,-getElem?_pos]
  refine aj (fun m fr H=>∃ (z:Nat),a+1≤z∧z≤b∧m=b-z∧H=none::some (c'.map (V.int .i64))::some (y2.map (V.int .i64))::some (pcs t o M n e)::(T++some [il l,.int .i64 lv,.int .i64 st,.int .i64 en]::(T'++[some [.int .i64 a,.int .i64 b]]))∧Slots 140 [(0,.ptr 3 0),(3,.ptr (T.length+1+1+1+1) 0),(4,.int .i64 D),(22,iD ps),(23,.int .i64 ps.length),(24,.int .i64 k),(6,.ptr (T.length+(T'.length+1)+1+1+1+1) 0),(7,.bool ((seg s a z).any (isD D))),(8,.bool ((seg s a z).any (isO D))),(9,.int .i64 z)] fr) (m:=b-(a+1)) (by omega) ⟨a+1,by omega,by omega,rfl,rfl,by simp[Di]⟩ ?_
  rintro m fr H ⟨z,hz1,hz2,rfl,rfl,hs⟩
  obtain⟨j,rfl⟩:=hs.ex
  clear hs
  by_cases hzb:z<b
  ·obtain⟨i,hi,hin⟩:=hl.at_ (k:=z) (by omega)
   obtain⟨x,hxx⟩:∃ x,s[z]?=some x:=⟨_,List.getElem?_eq_getElem (by omega)⟩
   have hc:=hW.at_ z i hi
   rw[hxx,Int.toNat_natCast]at hc
   have hcl:=hW.len
   have hsg:=Dk hz1 hxx
   simp(disch:=omega)[hzb]
   refine ai 9 (by kernel_rfl) ?_
   simp(disch:=omega)[hi,hc,hDi,-getElem?_pos]
   by_cases h1:ch x=D
   ·simp(disch:=omega)[h1,wrap64]
    exact ae (m':=b-(z+1)) (by omega) ⟨z+1,by omega,by omega,rfl,rfl,by simp(disch:=omega)[hsg,isD,isO,h1]⟩
   ·by_cases h0:ch x=0
    ·have h1':¬ 0=D:=fun e=>h1 (by rw[h0,e])
     simp(disch:=omega)[h0,h1',wrap64]
     exact ae (m':=b-(z+1)) (by omega) ⟨z+1,by omega,by omega,rfl,rfl,by simp(disch:=omega)[hsg,isD,isO,h0,h1']⟩
    ·by_cases h2:ch x=1
     ·have h1':¬ 1=D:=fun e=>h1 (by rw[h2,e])
      simp(disch:=omega)[h2,h1',wrap64]
      exact ae (m':=b-(z+1)) (by omega) ⟨z+1,by omega,by omega,rfl,rfl,by simp(disch:=omega)[hsg,isD,isO,h2,h1']⟩
     ·have hm1:ch x=-1:=by have:=BF x;omega
      have h1':¬ -1=D:=fun e=>h1 (by rw[hm1,e])
      simp(disch:=omega)[hm1,h1',wrap64]
      exact ae (m':=b-(z+1)) (by omega) ⟨z+1,by omega,by omega,rfl,rfl,by simp(disch:=omega)[hsg,isD,isO,hm1,h1']⟩
  ·obtain rfl:b=z:=by omega
   cases hsame:(seg s a b).any (isD D)
   ·cases hopp:(seg s a b).any (isO D)
    ·have hBk:so D st os s (a,b)=s:=by unfold so;simp only;rw[hsame,hopp];rfl
     simp(disch:=omega)
     refine fin _ c' hBk hW _ ?_
     simp(disch:=omega)[wrap64]
    ·have hBk:so D st os s (a,b)=ee os (ee os s a (jW st (s.take a))) b (jW st (s.take a)):=by unfold so;simp only;rw[hsame,hopp];rfl
     simp(disch:=omega)[wrap64]
     refine aj (fun m fr H=>∃ (k2:Nat),k2≤a∧m=k2∧jW st (s.take a)=jW st (s.take k2)∧H=none::some (c'.map (V.int .i64))::some (y2.map (V.int .i64))::some (pcs t o M n e)::(T++some [il l,.int .i64 lv,.int .i64 st,.int .i64 en]::(T'++[some [.int .i64 a,.int .i64 b]]))∧Slots 140 [(0,.ptr 3 0),(3,.ptr (T.length+1+1+1+1) 0),(4,.int .i64 D),(22,iD ps),(23,.int .i64 ps.length),(24,.int .i64 k),(6,.ptr (T.length+(T'.length+1)+1+1+1+1) 0),(11,.int .i64 st),(12,.int .i64 ((k2:Int)-1))] fr) (m:=a) (by omega) ⟨a,Nat.le_refl _,rfl,rfl,rfl,by simp⟩ ?_
     rintro m fr H ⟨k2,hk2,rfl,hL,rfl,hs⟩
     obtain⟨j,rfl⟩:=hs.ex
     clear hs
     rcases m with _|k2
     ·rw[List.take_zero,Aj]at hL
      rw[hL]at hBk
      simp(disch:=omega)
      refine aj (fun m fr H=>∃ (i:Nat) (s2 c2:List Int),i≤2∧m=2-i∧(i=0→s2=s)∧(i=1→s2=ee os s a (st))∧(i=2→s2=ee os (ee os s a (st)) b (st))∧WB c l s2 c2∧H=none::some (c2.map (V.int .i64))::some (y2.map (V.int .i64))::some (pcs t o M n e)::(T++some [il l,.int .i64 lv,.int .i64 st,.int .i64 en]::(T'++[some [.int .i64 a,.int .i64 b]]))∧Slots 140 [(0,.ptr 3 0),(3,.ptr (T.length+1+1+1+1) 0),(4,.int .i64 D),(22,iD ps),(23,.int .i64 ps.length),(24,.int .i64 k),(10,.int .i64 (st)),(89,.agg [.int .i64 a,.int .i64 b]),(90,.int .i64 i)] fr) (m:=2) (by omega) ⟨0,s,c',by omega,rfl,fun _=>rfl,by omega,by omega,hW,rfl,by simp⟩ ?_
      rintro m fr H ⟨i,s2,c2,hi,rfl,hq0,hq1,hq2,hW2,rfl,hs⟩
      obtain⟨j,rfl⟩:=hs.ex
      clear hs
      rcases (show i=0∨i=1∨i=2 by omega) with rfl|rfl|rfl
      ·obtain rfl:=hq0 rfl
       obtain⟨i1,hi1,hin1⟩:=hl.at_ (k:=a) (by omega)
       have hcl:=hW2.len
       have hle:i1+1≤c2.length:=by omega
       have hst:=hW2.set (by rw[hn];exact hl) hi1 (st)
       simp(disch:=omega)
       refine ai 10 (by kernel_rfl) ?_
       simp(disch:=omega)[hi1,hle,wrap64,-getElem?_pos]
       refine aj (fun m fr H=>∃ (z:Nat) (s3 c3:List Int),a+1≤z∧z≤l.length∧m=l.length-z∧ee os (s2) a (st)=fj s3 z (st) (nsm os z)∧WB c l s3 c3∧H=none::some (c3.map (V.int .i64))::some (y2.map (V.int .i64))::some (pcs t o M n e)::(T++some [il l,.int .i64 lv,.int .i64 st,.int .i64 en]::(T'++[some [.int .i64 a,.int .i64 b]]))∧Slots 140 [(0,.ptr 3 0),(3,.ptr (T.length+1+1+1+1) 0),(4,.int .i64 D),(22,iD ps),(23,.int .i64 ps.length),(24,.int .i64 k),(10,.int .i64 (st)),(15,.int .i64 a),(16,.int .i64 z),(89,.agg [.int .i64 a,.int .i64 b]),(90,.int .i64 0)] fr) (m:=l.length-(a+1)) (by omega) ⟨a+1,(s2).set a (st),c2.set i1 (st),by omega,by omega,rfl,rfl,hst,by simp,by simp(disch:=omega)⟩ ?_
       rintro m fr H ⟨z,s3,c3,hz1,hz2,rfl,hB,hW3,rfl,hs⟩
       obtain⟨j,rfl⟩:=hs.ex
       clear hs
       by_cases hzl:z<l.length
       ·obtain⟨i2,hi2,hin2⟩:=hl.at_ hzl
        obtain⟨y,hy⟩:∃ y,os[z]?=some y:=⟨_,List.getElem?_eq_getElem (by omega)⟩
        have hoy:=hWo.at_ z i2 hi2
        rw[hy,Int.toNat_natCast]at hoy
        have hcl:=hW3.len
        have hle2:i2+1≤c3.length:=by omega
        simp(disch:=omega)
        refine ai 15 (by kernel_rfl) ?_
        by_cases hy8:y=8
        ·subst hy8
         rw[jB hy,fj]at hB
         simp(disch:=omega)[hzl,hi2,hoy,-getElem?_pos]
         refine ai 10 (by kernel_rfl) ?_
         simp(disch:=omega)[hi2,hle2,wrap64,-getElem?_pos]
         exact ae (m':=l.length-(z+1)) (by omega) ⟨z+1,s3.set z (st),c3.set i2 (st),by omega,by omega,rfl,hB,hW3.set (by rw[hn];exact hl) hi2 _,by simp,by simp(disch:=omega)⟩
        ·rw[fq (by rw[hy];simpa using hy8),fj]at hB
         simp(disch:=omega)[hzl,hi2,hoy,hy8,wrap64,-getElem?_pos]
         exact ae (m':=2-1) (by omega) ⟨1,_,c3,by omega,rfl,by omega,fun _=>rfl,by omega,by rw[hB];exact hW3,rfl,by simp(disch:=omega)⟩
       ·rw[fq (by rw[List.getElem?_eq_none (by omega)];simp),fj]at hB
        simp(disch:=omega)
        refine ai 15 (by kernel_rfl) ?_
        simp(disch:=omega)[hzl,wrap64]
        exact ae (m':=2-1) (by omega) ⟨1,_,c3,by omega,rfl,by omega,fun _=>rfl,by omega,by rw[hB];exact hW3,rfl,by simp(disch:=omega)⟩
      ·obtain rfl:=hq1 rfl
       obtain⟨i1,hi1,hin1⟩:=hl.at_ (k:=b) (by omega)
       have hcl:=hW2.len
       have hle:i1+1≤c2.length:=by omega
       have hst:=hW2.set (by rw[hn];exact hl) hi1 (st)
       simp(disch:=omega)
       refine ai 10 (by kernel_rfl) ?_
       simp(disch:=omega)[hi1,hle,wrap64,-getElem?_pos]
       refine aj (fun m fr H=>∃ (z:Nat) (s3 c3:List Int),b+1≤z∧z≤l.length∧m=l.length-z∧ee os (ee os s a (st)) b (st)=fj s3 z (st) (nsm os z)∧WB c l s3 c3∧H=none::some (c3.map (V.int .i64))::some (y2.map (V.int .i64))::some (pcs t o M n e)::(T++some [il l,.int .i64 lv,.int .i64 st,.int .i64 en]::(T'++[some [.int .i64 a,.int .i64 b]]))∧Slots 140 [(0,.ptr 3 0),(3,.ptr (T.length+1+1+1+1) 0),(4,.int .i64 D),(22,iD ps),(23,.int .i64 ps.length),(24,.int .i64 k),(10,.int .i64 (st)),(15,.int .i64 b),(16,.int .i64 z),(89,.agg [.int .i64 a,.int .i64 b]),(90,.int .i64 1)] fr) (m:=l.length-(b+1)) (by omega) ⟨b+1,(ee os s a (st)).set b (st),c2.set i1 (st),by omega,by omega,rfl,rfl,hst,by simp,by simp(disch:=omega)⟩ ?_
       rintro m fr H ⟨z,s3,c3,hz1,hz2,rfl,hB,hW3,rfl,hs⟩
       obtain⟨j,rfl⟩:=hs.ex
       clear hs
       by_cases hzl:z<l.length
       ·obtain⟨i2,hi2,hin2⟩:=hl.at_ hzl
        obtain⟨y,hy⟩:∃ y,os[z]?=some y:=⟨_,List.getElem?_eq_getElem (by omega)⟩
        have hoy:=hWo.at_ z i2 hi2
        rw[hy,Int.toNat_natCast]at hoy
        have hcl:=hW3.len
        have hle2:i2+1≤c3.length:=by omega
        simp(disch:=omega)
        refine ai 15 (by kernel_rfl) ?_
        by_cases hy8:y=8
        ·subst hy8
         rw[jB hy,fj]at hB
         simp(disch:=omega)[hzl,hi2,hoy,-getElem?_pos]
         refine ai 10 (by kernel_rfl) ?_
         simp(disch:=omega)[hi2,hle2,wrap64,-getElem?_pos]
         exact ae (m':=l.length-(z+1)) (by omega) ⟨z+1,s3.set z (st),c3.set i2 (st),by omega,by omega,rfl,hB,hW3.set (by rw[hn];exact hl) hi2 _,by simp,by simp(disch:=omega)⟩
        ·rw[fq (by rw[hy];simpa using hy8),fj]at hB
         simp(disch:=omega)[hzl,hi2,hoy,hy8,wrap64,-getElem?_pos]
         exact ae (m':=2-2) (by omega) ⟨2,_,c3,by omega,rfl,by omega,by omega,fun _=>rfl,by rw[hB];exact hW3,rfl,by simp(disch:=omega)⟩
       ·rw[fq (by rw[List.getElem?_eq_none (by omega)];simp),fj]at hB
        simp(disch:=omega)
        refine ai 15 (by kernel_rfl) ?_
        simp(disch:=omega)[hzl,wrap64]
        exact ae (m':=2-2) (by omega) ⟨2,_,c3,by omega,rfl,by omega,by omega,fun _=>rfl,by rw[hB];exact hW3,rfl,by simp(disch:=omega)⟩
      ·obtain rfl:=hq2 rfl
       simp(disch:=omega)[wrap64]
       refine fin _ c2 hBk hW2 _ ?_
       simp(disch:=omega)
     ·obtain⟨i,hi,hin⟩:=hl.at_ (k:=k2) (by omega)
      obtain⟨x,hxx⟩:∃ x,s[k2]?=some x:=⟨_,List.getElem?_eq_getElem (by omega)⟩
      have hc:=hW.at_ k2 i hi
      rw[hxx,Int.toNat_natCast]at hc
      have hcl:=hW.len
      rw[List.take_add_one,hxx,Option.toList_some,wY]at hL
      simp(disch:=omega)
      refine ai 9 (by kernel_rfl) ?_
      by_cases hd0:0≤ch x
      ·rw[if_pos hd0]at hL
       rw[hL]at hBk
       simp(disch:=omega)[hi,hc,hDi,hd0,-getElem?_pos]
       refine aj (fun m fr H=>∃ (i:Nat) (s2 c2:List Int),i≤2∧m=2-i∧(i=0→s2=s)∧(i=1→s2=ee os s a (ch x))∧(i=2→s2=ee os (ee os s a (ch x)) b (ch x))∧WB c l s2 c2∧H=none::some (c2.map (V.int .i64))::some (y2.map (V.int .i64))::some (pcs t o M n e)::(T++some [il l,.int .i64 lv,.int .i64 st,.int .i64 en]::(T'++[some [.int .i64 a,.int .i64 b]]))∧Slots 140 [(0,.ptr 3 0),(3,.ptr (T.length+1+1+1+1) 0),(4,.int .i64 D),(22,iD ps),(23,.int .i64 ps.length),(24,.int .i64 k),(10,.int .i64 (ch x)),(89,.agg [.int .i64 a,.int .i64 b]),(90,.int .i64 i)] fr) (m:=2) (by omega) ⟨0,s,c',by omega,rfl,fun _=>rfl,by omega,by omega,hW,rfl,by simp⟩ ?_
       rintro m fr H ⟨i,s2,c2,hi,rfl,hq0,hq1,hq2,hW2,rfl,hs⟩
       obtain⟨j,rfl⟩:=hs.ex
       clear hs
       rcases (show i=0∨i=1∨i=2 by omega) with rfl|rfl|rfl
       ·obtain rfl:=hq0 rfl
        obtain⟨i1,hi1,hin1⟩:=hl.at_ (k:=a) (by omega)
        have hcl:=hW2.len
        have hle:i1+1≤c2.length:=by omega
        have hst:=hW2.set (by rw[hn];exact hl) hi1 (ch x)
        simp(disch:=omega)
        refine ai 10 (by kernel_rfl) ?_
        simp(disch:=omega)[hi1,hle,wrap64,-getElem?_pos]
        refine aj (fun m fr H=>∃ (z:Nat) (s3 c3:List Int),a+1≤z∧z≤l.length∧m=l.length-z∧ee os (s2) a (ch x)=fj s3 z (ch x) (nsm os z)∧WB c l s3 c3∧H=none::some (c3.map (V.int .i64))::some (y2.map (V.int .i64))::some (pcs t o M n e)::(T++some [il l,.int .i64 lv,.int .i64 st,.int .i64 en]::(T'++[some [.int .i64 a,.int .i64 b]]))∧Slots 140 [(0,.ptr 3 0),(3,.ptr (T.length+1+1+1+1) 0),(4,.int .i64 D),(22,iD ps),(23,.int .i64 ps.length),(24,.int .i64 k),(10,.int .i64 (ch x)),(15,.int .i64 a),(16,.int .i64 z),(89,.agg [.int .i64 a,.int .i64 b]),(90,.int .i64 0)] fr) (m:=l.length-(a+1)) (by omega) ⟨a+1,(s2).set a (ch x),c2.set i1 (ch x),by omega,by omega,rfl,rfl,hst,by simp,by simp(disch:=omega)⟩ ?_
        rintro m fr H ⟨z,s3,c3,hz1,hz2,rfl,hB,hW3,rfl,hs⟩
        obtain⟨j,rfl⟩:=hs.ex
        clear hs
        by_cases hzl:z<l.length
        ·obtain⟨i2,hi2,hin2⟩:=hl.at_ hzl
         obtain⟨y,hy⟩:∃ y,os[z]?=some y:=⟨_,List.getElem?_eq_getElem (by omega)⟩
         have hoy:=hWo.at_ z i2 hi2
         rw[hy,Int.toNat_natCast]at hoy
         have hcl:=hW3.len
         have hle2:i2+1≤c3.length:=by omega
         simp(disch:=omega)
         refine ai 15 (by kernel_rfl) ?_
         by_cases hy8:y=8
         ·subst hy8
          rw[jB hy,fj]at hB
          simp(disch:=omega)[hzl,hi2,hoy,-getElem?_pos]
          refine ai 10 (by kernel_rfl) ?_
          simp(disch:=omega)[hi2,hle2,wrap64,-getElem?_pos]
          exact ae (m':=l.length-(z+1)) (by omega) ⟨z+1,s3.set z (ch x),c3.set i2 (ch x),by omega,by omega,rfl,hB,hW3.set (by rw[hn];exact hl) hi2 _,by simp,by simp(disch:=omega)⟩
         ·rw[fq (by rw[hy];simpa using hy8),fj]at hB
          simp(disch:=omega)[hzl,hi2,hoy,hy8,wrap64,-getElem?_pos]
          exact ae (m':=2-1) (by omega) ⟨1,_,c3,by omega,rfl,by omega,fun _=>rfl,by omega,by rw[hB];exact hW3,rfl,by simp(disch:=omega)⟩
        ·rw[fq (by rw[List.getElem?_eq_none (by omega)];simp),fj]at hB
         simp(disch:=omega)
         refine ai 15 (by kernel_rfl) ?_
         simp(disch:=omega)[hzl,wrap64]
         exact ae (m':=2-1) (by omega) ⟨1,_,c3,by omega,rfl,by omega,fun _=>rfl,by omega,by rw[hB];exact hW3,rfl,by simp(disch:=omega)⟩
       ·obtain rfl:=hq1 rfl
        obtain⟨i1,hi1,hin1⟩:=hl.at_ (k:=b) (by omega)
        have hcl:=hW2.len
        have hle:i1+1≤c2.length:=by omega
        have hst:=hW2.set (by rw[hn];exact hl) hi1 (ch x)
        simp(disch:=omega)
        refine ai 10 (by kernel_rfl) ?_
        simp(disch:=omega)[hi1,hle,wrap64,-getElem?_pos]
        refine aj (fun m fr H=>∃ (z:Nat) (s3 c3:List Int),b+1≤z∧z≤l.length∧m=l.length-z∧ee os (ee os s a (ch x)) b (ch x)=fj s3 z (ch x) (nsm os z)∧WB c l s3 c3∧H=none::some (c3.map (V.int .i64))::some (y2.map (V.int .i64))::some (pcs t o M n e)::(T++some [il l,.int .i64 lv,.int .i64 st,.int .i64 en]::(T'++[some [.int .i64 a,.int .i64 b]]))∧Slots 140 [(0,.ptr 3 0),(3,.ptr (T.length+1+1+1+1) 0),(4,.int .i64 D),(22,iD ps),(23,.int .i64 ps.length),(24,.int .i64 k),(10,.int .i64 (ch x)),(15,.int .i64 b),(16,.int .i64 z),(89,.agg [.int .i64 a,.int .i64 b]),(90,.int .i64 1)] fr) (m:=l.length-(b+1)) (by omega) ⟨b+1,(ee os s a (ch x)).set b (ch x),c2.set i1 (ch x),by omega,by omega,rfl,rfl,hst,by simp,by simp(disch:=omega)⟩ ?_
        rintro m fr H ⟨z,s3,c3,hz1,hz2,rfl,hB,hW3,rfl,hs⟩
        obtain⟨j,rfl⟩:=hs.ex
        clear hs
        by_cases hzl:z<l.length
        ·obtain⟨i2,hi2,hin2⟩:=hl.at_ hzl
         obtain⟨y,hy⟩:∃ y,os[z]?=some y:=⟨_,List.getElem?_eq_getElem (by omega)⟩
         have hoy:=hWo.at_ z i2 hi2
         rw[hy,Int.toNat_natCast]at hoy
         have hcl:=hW3.len
         have hle2:i2+1≤c3.length:=by omega
         simp(disch:=omega)
         refine ai 15 (by kernel_rfl) ?_
         by_cases hy8:y=8
         ·subst hy8
          rw[jB hy,fj]at hB
          simp(disch:=omega)[hzl,hi2,hoy,-getElem?_pos]
          refine ai 10 (by kernel_rfl) ?_
          simp(disch:=omega)[hi2,hle2,wrap64,-getElem?_pos]
          exact ae (m':=l.length-(z+1)) (by omega) ⟨z+1,s3.set z (ch x),c3.set i2 (ch x),by omega,by omega,rfl,hB,hW3.set (by rw[hn];exact hl) hi2 _,by simp,by simp(disch:=omega)⟩
         ·rw[fq (by rw[hy];simpa using hy8),fj]at hB
          simp(disch:=omega)[hzl,hi2,hoy,hy8,wrap64,-getElem?_pos]
          exact ae (m':=2-2) (by omega) ⟨2,_,c3,by omega,rfl,by omega,by omega,fun _=>rfl,by rw[hB];exact hW3,rfl,by simp(disch:=omega)⟩
        ·rw[fq (by rw[List.getElem?_eq_none (by omega)];simp),fj]at hB
         simp(disch:=omega)
         refine ai 15 (by kernel_rfl) ?_
         simp(disch:=omega)[hzl,wrap64]
         exact ae (m':=2-2) (by omega) ⟨2,_,c3,by omega,rfl,by omega,by omega,fun _=>rfl,by rw[hB];exact hW3,rfl,by simp(disch:=omega)⟩
       ·obtain rfl:=hq2 rfl
        simp(disch:=omega)[wrap64]
        refine fin _ c2 hBk hW2 _ ?_
        simp(disch:=omega)
      ·rw[if_neg hd0]at hL
       simp(disch:=omega)[hi,hc,hDi,hd0,wrap64,-getElem?_pos]
       exact ae (m':=k2) (by omega) ⟨k2,by omega,rfl,hL,rfl,by simp(disch:=omega)⟩
   ·have hBk:so D st os s (a,b)=ee os (ee os s a D) b D:=by unfold so;simp only;rw[hsame];rfl
    simp(disch:=omega)
    refine aj (fun m fr H=>∃ (i:Nat) (s2 c2:List Int),i≤2∧m=2-i∧(i=0→s2=s)∧(i=1→s2=ee os s a (D))∧(i=2→s2=ee os (ee os s a (D)) b (D))∧WB c l s2 c2∧H=none::some (c2.map (V.int .i64))::some (y2.map (V.int .i64))::some (pcs t o M n e)::(T++some [il l,.int .i64 lv,.int .i64 st,.int .i64 en]::(T'++[some [.int .i64 a,.int .i64 b]]))∧Slots 140 [(0,.ptr 3 0),(3,.ptr (T.length+1+1+1+1) 0),(4,.int .i64 D),(22,iD ps),(23,.int .i64 ps.length),(24,.int .i64 k),(10,.int .i64 (D)),(89,.agg [.int .i64 a,.int .i64 b]),(90,.int .i64 i)] fr) (m:=2) (by omega) ⟨0,s,c',by omega,rfl,fun _=>rfl,by omega,by omega,hW,rfl,by simp⟩ ?_
    rintro m fr H ⟨i,s2,c2,hi,rfl,hq0,hq1,hq2,hW2,rfl,hs⟩
    obtain⟨j,rfl⟩:=hs.ex
    clear hs
    rcases (show i=0∨i=1∨i=2 by omega) with rfl|rfl|rfl
    ·obtain rfl:=hq0 rfl
     obtain⟨i1,hi1,hin1⟩:=hl.at_ (k:=a) (by omega)
     have hcl:=hW2.len
     have hle:i1+1≤c2.length:=by omega
     have hst:=hW2.set (by rw[hn];exact hl) hi1 (D)
     simp(disch:=omega)
     refine ai 10 (by kernel_rfl) ?_
     simp(disch:=omega)[hi1,hle,wrap64,-getElem?_pos]
     refine aj (fun m fr H=>∃ (z:Nat) (s3 c3:List Int),a+1≤z∧z≤l.length∧m=l.length-z∧ee os (s2) a (D)=fj s3 z (D) (nsm os z)∧WB c l s3 c3∧H=none::some (c3.map (V.int .i64))::some (y2.map (V.int .i64))::some (pcs t o M n e)::(T++some [il l,.int .i64 lv,.int .i64 st,.int .i64 en]::(T'++[some [.int .i64 a,.int .i64 b]]))∧Slots 140 [(0,.ptr 3 0),(3,.ptr (T.length+1+1+1+1) 0),(4,.int .i64 D),(22,iD ps),(23,.int .i64 ps.length),(24,.int .i64 k),(10,.int .i64 (D)),(15,.int .i64 a),(16,.int .i64 z),(89,.agg [.int .i64 a,.int .i64 b]),(90,.int .i64 0)] fr) (m:=l.length-(a+1)) (by omega) ⟨a+1,(s2).set a (D),c2.set i1 (D),by omega,by omega,rfl,rfl,hst,by simp,by simp(disch:=omega)⟩ ?_
     rintro m fr H ⟨z,s3,c3,hz1,hz2,rfl,hB,hW3,rfl,hs⟩
     obtain⟨j,rfl⟩:=hs.ex
     clear hs
     by_cases hzl:z<l.length
     ·obtain⟨i2,hi2,hin2⟩:=hl.at_ hzl
      obtain⟨y,hy⟩:∃ y,os[z]?=some y:=⟨_,List.getElem?_eq_getElem (by omega)⟩
      have hoy:=hWo.at_ z i2 hi2
      rw[hy,Int.toNat_natCast]at hoy
      have hcl:=hW3.len
      have hle2:i2+1≤c3.length:=by omega
      simp(disch:=omega)
      refine ai 15 (by kernel_rfl) ?_
      by_cases hy8:y=8
      ·subst hy8
       rw[jB hy,fj]at hB
       simp(disch:=omega)[hzl,hi2,hoy,-getElem?_pos]
       refine ai 10 (by kernel_rfl) ?_
       simp(disch:=omega)[hi2,hle2,wrap64,-getElem?_pos]
       exact ae (m':=l.length-(z+1)) (by omega) ⟨z+1,s3.set z (D),c3.set i2 (D),by omega,by omega,rfl,hB,hW3.set (by rw[hn];exact hl) hi2 _,by simp,by simp(disch:=omega)⟩
      ·rw[fq (by rw[hy];simpa using hy8),fj]at hB
       simp(disch:=omega)[hzl,hi2,hoy,hy8,wrap64,-getElem?_pos]
       exact ae (m':=2-1) (by omega) ⟨1,_,c3,by omega,rfl,by omega,fun _=>rfl,by omega,by rw[hB];exact hW3,rfl,by simp(disch:=omega)⟩
     ·rw[fq (by rw[List.getElem?_eq_none (by omega)];simp),fj]at hB
      simp(disch:=omega)
      refine ai 15 (by kernel_rfl) ?_
      simp(disch:=omega)[hzl,wrap64]
      exact ae (m':=2-1) (by omega) ⟨1,_,c3,by omega,rfl,by omega,fun _=>rfl,by omega,by rw[hB];exact hW3,rfl,by simp(disch:=omega)⟩
    ·obtain rfl:=hq1 rfl
     obtain⟨i1,hi1,hin1⟩:=hl.at_ (k:=b) (by omega)
     have hcl:=hW2.len
     have hle:i1+1≤c2.length:=by omega
     have hst:=hW2.set (by rw[hn];exact hl) hi1 (D)
     simp(disch:=omega)
     refine ai 10 (by kernel_rfl) ?_
     simp(disch:=omega)[hi1,hle,wrap64,-getElem?_pos]
     refine aj (fun m fr H=>∃ (z:Nat) (s3 c3:List Int),b+1≤z∧z≤l.length∧m=l.length-z∧ee os (ee os s a (D)) b (D)=fj s3 z (D) (nsm os z)∧WB c l s3 c3∧H=none::some (c3.map (V.int .i64))::some (y2.map (V.int .i64))::some (pcs t o M n e)::(T++some [il l,.int .i64 lv,.int .i64 st,.int .i64 en]::(T'++[some [.int .i64 a,.int .i64 b]]))∧Slots 140 [(0,.ptr 3 0),(3,.ptr (T.length+1+1+1+1) 0),(4,.int .i64 D),(22,iD ps),(23,.int .i64 ps.length),(24,.int .i64 k),(10,.int .i64 (D)),(15,.int .i64 b),(16,.int .i64 z),(89,.agg [.int .i64 a,.int .i64 b]),(90,.int .i64 1)] fr) (m:=l.length-(b+1)) (by omega) ⟨b+1,(ee os s a (D)).set b (D),c2.set i1 (D),by omega,by omega,rfl,rfl,hst,by simp,by simp(disch:=omega)⟩ ?_
     rintro m fr H ⟨z,s3,c3,hz1,hz2,rfl,hB,hW3,rfl,hs⟩
     obtain⟨j,rfl⟩:=hs.ex
     clear hs
     by_cases hzl:z<l.length
     ·obtain⟨i2,hi2,hin2⟩:=hl.at_ hzl
      obtain⟨y,hy⟩:∃ y,os[z]?=some y:=⟨_,List.getElem?_eq_getElem (by omega)⟩
      have hoy:=hWo.at_ z i2 hi2
      rw[hy,Int.toNat_natCast]at hoy
      have hcl:=hW3.len
      have hle2:i2+1≤c3.length:=by omega
      simp(disch:=omega)
      refine ai 15 (by kernel_rfl) ?_
      by_cases hy8:y=8
      ·subst hy8
       rw[jB hy,fj]at hB
       simp(disch:=omega)[hzl,hi2,hoy,-getElem?_pos]
       refine ai 10 (by kernel_rfl) ?_
       simp(disch:=omega)[hi2,hle2,wrap64,-getElem?_pos]
       exact ae (m':=l.length-(z+1)) (by omega) ⟨z+1,s3.set z (D),c3.set i2 (D),by omega,by omega,rfl,hB,hW3.set (by rw[hn];exact hl) hi2 _,by simp,by simp(disch:=omega)⟩
      ·rw[fq (by rw[hy];simpa using hy8),fj]at hB
       simp(disch:=omega)[hzl,hi2,hoy,hy8,wrap64,-getElem?_pos]
       exact ae (m':=2-2) (by omega) ⟨2,_,c3,by omega,rfl,by omega,by omega,fun _=>rfl,by rw[hB];exact hW3,rfl,by simp(disch:=omega)⟩
     ·rw[fq (by rw[List.getElem?_eq_none (by omega)];simp),fj]at hB
      simp(disch:=omega)
      refine ai 15 (by kernel_rfl) ?_
      simp(disch:=omega)[hzl,wrap64]
      exact ae (m':=2-2) (by omega) ⟨2,_,c3,by omega,rfl,by omega,by omega,fun _=>rfl,by rw[hB];exact hW3,rfl,by simp(disch:=omega)⟩
    ·obtain rfl:=hq2 rfl
     simp(disch:=omega)[wrap64]
     refine fin _ c2 hBk hW2 _ ?_
     simp(disch:=omega)
 ·obtain rfl:k=ps.length:=by omega
  simp
  rw[hF]
  exact⟨c',rfl,by simpa[qB]using hW⟩
end
end Bi
end Go.Ab
