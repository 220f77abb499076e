/- Explicit levels: the program. -/
import Derived.Test.YtldfgkjmficliaaGreatPiJ
import Derived.Test.YtldfgkjmficliaaGreatPaRef2
set_option linter.unusedSimpArgs false
set_option linter.unusedVariables false
namespace Go.Ab
open Go.Proofs
namespace Bi
@[simp] theorem wr_lo0{ex:List Nat}{q b:Nat}:(Cfg.wr ⟨0,ex,q⟩ b)=true:=by simp[Cfg.wr]
abbrev pcs(t o M:List Int)(n:Nat)(e:Int):List V:=[rl t,il o,.sl 1 0 n n 1,il M,.sl 2 0 n n 1,.int .i64 e]
section
variable {prim:FuncId→Option Prim}(d:Nat)
set_option maxRecDepth 100000 in
set_option maxHeartbeats 8000000 in
theorem uc(hp:∀ f,Np2 f→prim f=none)(t o M:List Int)(hM:MOK o M)(n:Nat)(hn:o.length=n)(hn2:n≤2000)(e:Int)(he:0≤e∧e≤1)(lv0:List Int)(hl:lv0.length=n):
  af md (K prim (d+3)) ⟨0,[],0⟩ 105 [.ptr 3 0] [none,some (o.map (V.int .i64)),some (lv0.map (V.int .i64)),some (pcs t o M n e)] =
   some (.tup [],[none,some (((gH e o).map (·.2)).map (V.int .i64)),some (((gH e o).map (·.1)).map (V.int .i64)),some (pcs t o M n e)]):=by
 refine call1 rfl (hp 105 (by decide)) Tryz.func105 rfl rfl rfl ?_
 simp(disch:=omega)[hn]
 refine aj (fun m fr H=>∃ (i:Nat) (c lv:List Int) (s:ES) (X:Option (List V)) (v:V) (T:Heap),i≤n∧m=n-i∧EI e o i c lv s ∧
  H=none::some (c.map (V.int .i64))::some (lv.map (V.int .i64))::some (pcs t o M n e)::some [.ptr 3 0]::X::some [v]::T∧Stk H 5 3 v (eD s.st)∧cV v≠some 6 ∧
  Slots 226 [(1,.ptr 4 0),(2,.ptr 6 0),(3,.int .i64 s.iso),(4,.int .i64 s.emb),(5,.int .i64 s.val),(24,il o),(25,.int .i64 n),(26,.int .i64 i)] fr) (m:=n) (by omega)
  ⟨0,o,lv0,es0 e,some [.int .i64 e,.int .i64 (-1),.bool false],.sl 5 0 1 1 3,[],by omega,by omega,EI.zero he (by omega),rfl,.inr ⟨5,1,1,[],rfl,by omega,rfl,rfl,rfl,by omega⟩,by simp[cV],by simp[es0]⟩ ?_
 rintro m fr H ⟨i,c,lv,s,X,v,T,hi,rfl,hEI,rfl,hst,hv6,hs⟩
 obtain⟨j,rfl⟩:=hs.ex
 clear hs
 obtain⟨a,r,hsr⟩:=hEI.w.cons
 have hcl:=hEI.cl
 have hll:=hEI.ll
 by_cases hlt:i<n
 ·obtain⟨x,hx⟩:∃ x,o[i]?=some x:=⟨_,List.getElem?_eq_getElem (by omega)⟩
  rw[hsr]at hst
  obtain⟨b,q,cap,J,rfl,hb5,hbl,hq,hbk,hcap,hqc⟩:=hst.pos (by simp[dJ])
  obtain rfl:q=r.length+1:=by rw[ei]at hq;simp at hq;omega
  have hbl':b<T.length+7:=by simpa using hbl
  have hb6:b≠6:=fun e=>hv6 (by rw[e];rfl)
  have hbx:∀ (y1 y2 y6:Option (List V)) (T':Heap),ab (none::y1::y2::some (pcs t o M n e)::some [.ptr 3 0]::X::y6::(T++T')) b=some (eD (a::r)++J):=by
   intro y1 y2 y6 T'
   have h1:=al (r:=T') hbl
   rw[hbk]at h1
   rw[← h1]
   obtain⟨b',rfl⟩:∃ b',b=b'+5:=⟨b-5,by omega⟩
   rcases b' with _|_|b'
   ·simp[ab]
   ·exact absurd rfl hb6
   ·simp
  have hw:=hEI.w
  have hwl:=hw.len
  rw[hsr]at hwl
  simp at hwl
  have hge:=yi a r J
  have hal:=tS a r J
  have hle:i+1≤lv.length:=by omega
  have ha:=hw.rng a (by rw[hsr];exact List.mem_cons_self ..)
  simp(disch:=omega)[hlt,hx,hbx,wrap64,hge,hal,-getElem?_pos]
  refine ai 7 (by kernel_rfl) ?_
  simp(disch:=omega)[hle,-getElem?_pos]
  have hcx:c.set i x=c:=by
   have:=hEI.cd i (Nat.le_refl _)
   rw[hx]at this
   obtain⟨h1,h2⟩:=List.getElem?_eq_some_iff.1 this
   rw[← h2,List.set_getElem_self]
  have hstk:∀ (y1 y2 y6:Option (List V)) (T':Heap),Stk (none::y1::y2::some (pcs t o M n e)::some [.ptr 3 0]::X::y6::(T++T')) 5 3 (.sl b 0 (r.length+1) cap 3) (eD (a::r)):=fun y1 y2 y6 T' =>
   .inr ⟨b,_,cap,J,rfl,hb5,hq,hbx y1 y2 y6 T',hcap,hqc⟩
  have htop:fu s.st=a:=by rw[hsr];rfl
  have hovG:∀ (a':Ent) (r':List Ent) (J':List V),r'.length≤4000→eD (a::r)++J=eD (a'::r')++J'→∀ (y2:Option (List V)) (T':Heap),af md (K prim (d+2)) ⟨0,[],4⟩ 143 [.ptr 6 0,.ptr 4 0,.ptr (T.length+1+1+1+1+1+1+1) 0] (none::some (c.map (V.int .i64))::y2::some (pcs t o M n e)::some [.ptr 3 0]::X::some [.sl b 0 (r'.length+1) cap 3]::(T++some [.int .i64 i]::T')) =
    some (.tup [],none::some ((c.set i (ovr a'.2.1 x)).map (V.int .i64))::y2::some (pcs t o M n e)::some [.ptr 3 0]::X::some [.sl b 0 (r'.length+1) cap 3]::(T++some [.int .i64 i]::T')):=by
   intro a' r' J' hr' heq y2 T'
   have:=vf (prim:=prim) (d+1) ⟨0,[],4⟩ (hp 143 (by decide)) t o M n e c y2 X (T++some [.int .i64 i]::T') a' r' b cap J' T.length i hr' (by simp) (by simp) (by omega) hlt (fun c'=>by rw[← heq];exact hbx _ _ _ _) (by simp;omega) (by simp)
   rw[this]
   unfold ovr
   split
   ·rfl
   ·rw[hcx]
  have hov:=hovG a r J (by omega) rfl
  by_cases h9:x=9
  ·have hs9:bK e x (gz x (o.drop (i+1))) s=(a.1,x,s):=by subst h9;simp[bK,ini,htop]
   have hE:=hEI.step hx _ rfl hs9
   rw[hcx]at hE
   simp[h9]
   exact ae (m':=n-(i+1)) (by omega) ⟨i+1,c,_,s,X,_,T++[some [.int .i64 i],some [.int .i64 a.1,.int .i64 a.2.1,.bool a.2.2]],by omega,rfl,hE,by simp,by first|exact hstk _ _ _ _|(rw[hsr];exact hstk _ _ _ _),hv6,by simp(disch:=omega)[wrap64]⟩
  ·by_cases h10:x=10
   ·have hs10:bK e x (gz x (o.drop (i+1))) s=(e,x,s):=by subst h10;simp[bK,ini]
    have hE:=hEI.step hx _ rfl hs10
    rw[hcx]at hE
    simp[h10]
    refine ai 9 (by kernel_rfl) ?_
    simp(disch:=omega)[wrap64,hle,-getElem?_pos]
    exact ae (m':=n-(i+1)) (by omega) ⟨i+1,c,_,s,X,_,T++[some [.int .i64 i],some [.int .i64 a.1,.int .i64 a.2.1,.bool a.2.2]],by omega,rfl,hE,by simp[bV],by first|exact hstk _ _ _ _|(rw[hsr];exact hstk _ _ _ _),hv6,by simp(disch:=omega)⟩
   ·by_cases h18:x=18
    ·have hpop:=fun y1 y2 y6 T'=>(hstk y1 y2 y6 T').pop (dJ a r) (ei r) (by omega)
     have hx18:∀ s',(if 0<s.iso then s else if 0<s.emb then { s with emb:=s.emb-1 } else if (fu s.st).2.2=false∧1<s.st.length then { s with st:=s.st.tail } else s)=s'→bK e x (gz x (o.drop (i+1))) s=(a.1,x,s'):=by
      rintro s' rfl
      subst h18
      simp[bK,ini,htop]
     rw[htop,hsr]at hx18
     by_cases k1:0<s.iso
     ·have hE:=hEI.step hx _ rfl (hx18 s (by rw[if_pos k1]))
      rw[hcx]at hE
      simp[h18,k1]
      exact ae (m':=n-(i+1)) (by omega) ⟨i+1,c,_,s,X,_,T++[some [.int .i64 i],some [.int .i64 a.1,.int .i64 a.2.1,.bool a.2.2]],by omega,rfl,hE,by simp,by first|exact hstk _ _ _ _|(rw[hsr];exact hstk _ _ _ _),hv6,by simp(disch:=omega)[wrap64]⟩
     ·by_cases k2:0<s.emb
      ·have hE:=hEI.step hx _ rfl (hx18 _ (by rw[if_neg k1,if_pos k2]))
       rw[hcx]at hE
       have hem:=hw.emb
       simp(disch:=omega)[h18,k1,k2,wrap64]
       exact ae (m':=n-(i+1)) (by omega) ⟨i+1,c,_,_,X,_,T++[some [.int .i64 i],some [.int .i64 a.1,.int .i64 a.2.1,.bool a.2.2]],by omega,rfl,hE,by simp,by first|exact hstk _ _ _ _|(rw[hsr];exact hstk _ _ _ _),hv6,by simp(disch:=omega);omega⟩
      ·by_cases k3:a.2.2=false∧1<(a::r).length
       ·have hE:=hEI.step hx _ rfl (hx18 _ (by rw[if_neg k1,if_neg k2,if_pos k3]))
        rw[hcx]at hE
        have k4:0<r.length:=by have:=k3.2;simp at this;omega
        have k5:(1:Int)<(r.length:Int)+1:=by omega
        simp(disch:=omega)[h18,k1,k2,k3.1,k5,wrap64]
        exact ae (m':=n-(i+1)) (by omega) ⟨i+1,c,_,_,X,.sl b 0 r.length cap 3,T++[some [.int .i64 i],some [.int .i64 a.1,.int .i64 a.2.1,.bool a.2.2]],by omega,rfl,hE,by simp[k3.1],by exact hpop _ _ _ _,hv6,by simp(disch:=omega)⟩
       ·have hE:=hEI.step hx _ rfl (hx18 _ (by rw[if_neg k1,if_neg k2,if_neg k3]))
        rw[hcx]at hE
        have k6:(!a.2.2&&decide ((1:Int)<(r.length:Int)+1))=false:=by
         cases h2:a.2.2
         ·simp[h2]at k3 ⊢;rw[k3];simp
         ·rfl
        cases h2:a.2.2
        ·have k7:¬ (1:Int)<(r.length:Int)+1:=by rw[h2]at k6;simpa using k6
         simp(disch:=omega)[h18,k1,k2,k7,wrap64]
         exact ae (m':=n-(i+1)) (by omega) ⟨i+1,c,_,s,X,_,T++[some [.int .i64 i],some [.int .i64 a.1,.int .i64 a.2.1,.bool a.2.2]],by omega,rfl,hE,by simp[h2],by rw[hsr];exact hstk _ _ _ _,hv6,by simp(disch:=omega)⟩
        ·simp(disch:=omega)[h18,k1,k2,wrap64]
         exact ae (m':=n-(i+1)) (by omega) ⟨i+1,c,_,s,X,_,T++[some [.int .i64 i],some [.int .i64 a.1,.int .i64 a.2.1,.bool a.2.2]],by omega,rfl,hE,by simp[h2],by rw[hsr];exact hstk _ _ _ _,hv6,by simp(disch:=omega)⟩
    ·by_cases h22:x=22
     ·subst h22
      have hst22:∀ s',(if 0<s.iso then { s with iso:=s.iso-1 } else if 0<s.val then { s with st:=jk s.st,emb:=0,val:=s.val-1 } else s)=s'→bK e 22 (gz 22 (o.drop (i+1))) s=((fu s'.st).1,ovr (fu s'.st).2.1 22,s'):=by
       rintro s' rfl
       simp[bK,ini]
      have h0:=BG a r J
      by_cases k1:0<s.iso
      ·have hE:=hEI.step hx _ rfl (hst22 _ (by rw[if_pos k1]))
       simp only[htop]at hE
       have hiw:=hw.iso
       simp(disch:=omega)[k1,wrap64]
       refine ai 12 (by kernel_rfl) ?_
       simp(disch:=omega)[hbx,h0,hle,hov,wrap64,-getElem?_pos]
       exact ae (m':=n-(i+1)) (by omega) ⟨i+1,_,_,_,X,_,T++[some [.int .i64 i],some [.int .i64 a.1,.int .i64 a.2.1,.bool a.2.2]],by omega,rfl,hE,by simp[bV],by rw[hsr];exact hstk _ _ _ _,hv6,by simp(disch:=omega);omega⟩
      ·by_cases k2:0<s.val
       ·have hE:=hEI.step hx _ rfl (hst22 _ (by rw[if_neg k1,if_pos k2]))
        have hlast:=hw.last
        have hcnt:=hw.cnt
        obtain⟨g1,g2,g3,g4⟩:=sX s.st e hlast (by omega)
        have hvl:=hw.val
        simp(disch:=omega)[k1,k2]
        refine aj (fun m' fr H=>∃ (a':Ent) (r':List Ent) (J':List V),m'=r'.length∧eD (a::r)++J=eD (a'::r')++J'∧jk s.st=jk (a'::r')∧0<((a'::r').filter fun a=>a.2.2).length∧r'.length≤r.length ∧
         H=none::some (c.map (V.int .i64))::some ((lv.map (V.int .i64)).set i (.int .i64 a.1))::some (pcs t o M n e)::some [.ptr 3 0]::X::some [.sl b 0 (r'.length+1) cap 3]::(T++[some [.int .i64 i],some [.int .i64 a.1,.int .i64 a.2.1,.bool a.2.2]]) ∧
         Slots 226 [(1,.ptr 4 0),(2,.ptr 6 0),(3,.int .i64 s.iso),(4,.int .i64 0),(5,.int .i64 s.val),(6,.ptr (T.length+1+1+1+1+1+1+1) 0),(7,.int .i64 22),(9,.func (.func 143) [] [.ptr 6 0,.ptr 4 0,.ptr (T.length+1+1+1+1+1+1+1) 0]),(24,il o),(25,.int .i64 n),(26,.int .i64 i)] fr) (m:=r.length) (by omega)
         ⟨a,r,J,rfl,rfl,by rw[hsr],by rw[← hsr];omega,Nat.le_refl _,by simp,by simp⟩ ?_
        rintro m' fr H ⟨a',r',J',rfl,heq,hpe,hpf,hrr,rfl,hs⟩
        obtain⟨j,rfl⟩:=hs.ex
        clear hs
        have hbx':∀ (y1 y2 y6:Option (List V)) (T':Heap),ab (none::y1::y2::some (pcs t o M n e)::some [.ptr 3 0]::X::y6::(T++T')) b=some (eD (a'::r')++J'):=fun y1 y2 y6 T'=>by rw[← heq];exact hbx _ _ _ _
        have e2:=Hb a' r' J'
        cases hai:a'.2.2
        ·rw[hai]at e2
         obtain⟨a2,r2,rfl⟩:∃ a2 r2,r'=a2::r2:=by
          cases r' with
          | nil=>simp[hai]at hpf
          | cons a2 r2=>exact⟨a2,r2,rfl⟩
         have hq2:eD (a'::a2::r2)++J'=eD (a2::r2)++([V.int .i64 a'.1,V.int .i64 a'.2.1,V.bool a'.2.2]++J'):=by rw[dJ];simp
         simp at hrr
         simp only[List.length_cons]at e2
         simp(disch:=omega)[hbx',e2,wrap64,-getElem?_pos]
         refine ae (m':=r2.length) (by simp) ⟨a2,r2,_,rfl,heq.trans hq2,?_,?_,by omega,by simp,by simp⟩
         ·rw[hpe,jk,if_neg (by simp[hai])]
         ·rw[List.filter_cons,if_neg (by simp[hai])]at hpf
          exact hpf
        ·rw[hai]at e2
         have hp1:jk (a'::r')=r':=by rw[jk,if_pos hai]
         rw[hpe,hp1]at hE g1
         obtain⟨a2,r2,rfl⟩:∃ a2 r2,r'=a2::r2:=by
          cases r' with
          | nil=>simp at g1
          | cons a2 r2=>exact⟨a2,r2,rfl⟩
         have hq2:eD (a'::a2::r2)++J'=eD (a2::r2)++([V.int .i64 a'.1,V.int .i64 a'.2.1,V.bool a'.2.2]++J'):=by rw[dJ];simp
         have hov2:=hovG a2 r2 _ (by simp at hrr;omega) (heq.trans hq2)
         have hbx2:∀ (y1 y2 y6:Option (List V)) (T':Heap),ab (none::y1::y2::some (pcs t o M n e)::some [.ptr 3 0]::X::y6::(T++T')) b=some (eD (a2::r2)++([V.int .i64 a'.1,V.int .i64 a'.2.1,V.bool a'.2.2]++J')):=fun y1 y2 y6 T'=>by rw[← heq.trans hq2];exact hbx _ _ _ _
         have e0:=BG a2 r2 ([V.int .i64 a'.1,V.int .i64 a'.2.1,V.bool a'.2.2]++J')
         have hstk2:∀ (y1 y2 y6:Option (List V)) (T':Heap),Stk (none::y1::y2::some (pcs t o M n e)::some [.ptr 3 0]::X::y6::(T++T')) 5 3 (.sl b 0 (r2.length+1) cap 3) (eD (a2::r2)):=fun y1 y2 y6 T' =>
          .inr ⟨b,_,cap,_,rfl,hb5,by rw[ei];rfl,hbx2 y1 y2 y6 T',by rw[← heq.trans hq2];exact hcap,by simp at hrr;omega⟩
         simp at hrr
         simp only[fu]at hE
         simp only[List.length_cons]at e2
         simp(disch:=omega)[hbx',e2,wrap64,-getElem?_pos]
         refine ai 12 (by kernel_rfl) ?_
         simp only[List.cons_append,List.nil_append]at hbx2 e0
         simp(disch:=omega)[hbx2,e0,hle,hov2,wrap64,-getElem?_pos]
         exact ae (m':=n-(i+1)) (by omega) ⟨i+1,_,_,_,X,.sl b 0 (r2.length+1) cap 3,T++[some [.int .i64 i],some [.int .i64 a.1,.int .i64 a.2.1,.bool a.2.2]],by omega,rfl,hE,by simp[bV],by exact hstk2 _ _ _ _,hv6,by simp(disch:=omega);omega⟩
       ·have hE:=hEI.step hx _ rfl (hst22 _ (by rw[if_neg k1,if_neg k2]))
        simp only[htop]at hE
        simp(disch:=omega)[k1,k2]
        refine ai 12 (by kernel_rfl) ?_
        simp(disch:=omega)[hbx,h0,hle,hov,wrap64,-getElem?_pos]
        exact ae (m':=n-(i+1)) (by omega) ⟨i+1,_,_,_,X,_,T++[some [.int .i64 i],some [.int .i64 a.1,.int .i64 a.2.1,.bool a.2.2]],by omega,rfl,hE,by simp[bV],by rw[hsr];exact hstk _ _ _ _,hv6,by simp(disch:=omega)⟩
     ·cases hix:ini x
      ·by_cases hem:x=16∨x=14∨x=17∨x=15
       ·rcases hem with rfl|rfl|rfl|rfl
        ·have hN:=fun H=>iz (prim:=prim) (d+1) ⟨0,[],4⟩ H (hp 144 (by decide)) a.1 (by omega) true
         have hs':∀ s',(if nxt a.1 true≤125∧s.iso=0∧s.emb=0 then { s with st:=(nxt a.1 true,(-1),false)::s.st } else if s.iso=0 then { s with emb:=s.emb+1 } else s)=s'→bK e 16 (gz 16 (o.drop (i+1))) s=(a.1,16,s'):=by
          rintro s' rfl
          simp[bK,htop,xq]
         generalize nxt a.1 true=N at hN hs'
         have hie:=hw.iso
         have hee:=hw.emb
         by_cases k2:s.iso=0
         ·by_cases k13:N≤125∧s.emb=0
          ·obtain⟨k1,k3⟩:=k13
           have hE:=hEI.step hx _ rfl (hs' _ (by rw[if_pos ⟨k1,k2,k3⟩]))
           rw[hcx,hsr]at hE
           simp(disch:=omega)[hN,k1,k2,k3,-getElem?_pos]
           refine iM (st:=a::r) (hstk _ _ _ _) hv6 rfl (by simp;omega) (by omega) ?_
           intro d' X' T' hd' hdc hd6
           simp(disch:=omega)[hdc,wrap64]
           exact ae (m':=n-(i+1)) (by omega) ⟨i+1,c,_,_,X',d',T',by omega,rfl,hE,by simp,hd' _,hd6,by simp[k2,k3]⟩
          ·have hE:=hEI.step hx _ rfl (hs' _ (by rw[if_neg (fun h=>k13 ⟨h.1,h.2.2⟩),if_pos k2]))
           rw[hcx]at hE
           have k4:(decide (N≤125)&&decide ((s.emb:Int)=0))=false:=by
            cases hq:decide (N≤125)&&decide ((s.emb:Int)=0)
            ·rfl
            ·simp at hq;exact absurd hq k13
           by_cases k1:N≤125
           ·have k3:¬ s.emb=0:=fun h=>k13 ⟨k1,h⟩
            simp(disch:=omega)[hN,k1,k2,k3,wrap64,-getElem?_pos]
            exact ae (m':=n-(i+1)) (by omega) ⟨i+1,c,_,_,X,_,T++[some [.int .i64 i],some [.int .i64 a.1,.int .i64 a.2.1,.bool a.2.2]],by omega,rfl,hE,by simp,by rw[hsr];exact hstk _ _ _ _,hv6,by simp(disch:=omega)[k2]⟩
           ·simp(disch:=omega)[hN,k1,k2,wrap64,-getElem?_pos]
            exact ae (m':=n-(i+1)) (by omega) ⟨i+1,c,_,_,X,_,T++[some [.int .i64 i],some [.int .i64 a.1,.int .i64 a.2.1,.bool a.2.2]],by omega,rfl,hE,by simp,by rw[hsr];exact hstk _ _ _ _,hv6,by simp(disch:=omega)[k2]⟩
         ·have hE:=hEI.step hx _ rfl (hs' _ (by rw[if_neg (fun h=>k2 h.2.1),if_neg k2]))
          rw[hcx]at hE
          by_cases k1:N≤125
          ·simp(disch:=omega)[hN,k1,k2,wrap64,-getElem?_pos]
           exact ae (m':=n-(i+1)) (by omega) ⟨i+1,c,_,s,X,_,T++[some [.int .i64 i],some [.int .i64 a.1,.int .i64 a.2.1,.bool a.2.2]],by omega,rfl,hE,by simp,by rw[hsr];exact hstk _ _ _ _,hv6,by simp(disch:=omega)⟩
          ·simp(disch:=omega)[hN,k1,k2,wrap64,-getElem?_pos]
           exact ae (m':=n-(i+1)) (by omega) ⟨i+1,c,_,s,X,_,T++[some [.int .i64 i],some [.int .i64 a.1,.int .i64 a.2.1,.bool a.2.2]],by omega,rfl,hE,by simp,by rw[hsr];exact hstk _ _ _ _,hv6,by simp(disch:=omega)⟩
        ·have hN:=fun H=>iz (prim:=prim) (d+1) ⟨0,[],4⟩ H (hp 144 (by decide)) a.1 (by omega) false
         have hs':∀ s',(if nxt a.1 false≤125∧s.iso=0∧s.emb=0 then { s with st:=(nxt a.1 false,(-1),false)::s.st } else if s.iso=0 then { s with emb:=s.emb+1 } else s)=s'→bK e 14 (gz 14 (o.drop (i+1))) s=(a.1,14,s'):=by
          rintro s' rfl
          simp[bK,htop,xq]
         generalize nxt a.1 false=N at hN hs'
         have hie:=hw.iso
         have hee:=hw.emb
         by_cases k2:s.iso=0
         ·by_cases k13:N≤125∧s.emb=0
          ·obtain⟨k1,k3⟩:=k13
           have hE:=hEI.step hx _ rfl (hs' _ (by rw[if_pos ⟨k1,k2,k3⟩]))
           rw[hcx,hsr]at hE
           simp(disch:=omega)[hN,k1,k2,k3,-getElem?_pos]
           refine iM (st:=a::r) (hstk _ _ _ _) hv6 rfl (by simp;omega) (by omega) ?_
           intro d' X' T' hd' hdc hd6
           simp(disch:=omega)[hdc,wrap64]
           exact ae (m':=n-(i+1)) (by omega) ⟨i+1,c,_,_,X',d',T',by omega,rfl,hE,by simp,hd' _,hd6,by simp[k2,k3]⟩
          ·have hE:=hEI.step hx _ rfl (hs' _ (by rw[if_neg (fun h=>k13 ⟨h.1,h.2.2⟩),if_pos k2]))
           rw[hcx]at hE
           have k4:(decide (N≤125)&&decide ((s.emb:Int)=0))=false:=by
            cases hq:decide (N≤125)&&decide ((s.emb:Int)=0)
            ·rfl
            ·simp at hq;exact absurd hq k13
           by_cases k1:N≤125
           ·have k3:¬ s.emb=0:=fun h=>k13 ⟨k1,h⟩
            simp(disch:=omega)[hN,k1,k2,k3,wrap64,-getElem?_pos]
            exact ae (m':=n-(i+1)) (by omega) ⟨i+1,c,_,_,X,_,T++[some [.int .i64 i],some [.int .i64 a.1,.int .i64 a.2.1,.bool a.2.2]],by omega,rfl,hE,by simp,by rw[hsr];exact hstk _ _ _ _,hv6,by simp(disch:=omega)[k2]⟩
           ·simp(disch:=omega)[hN,k1,k2,wrap64,-getElem?_pos]
            exact ae (m':=n-(i+1)) (by omega) ⟨i+1,c,_,_,X,_,T++[some [.int .i64 i],some [.int .i64 a.1,.int .i64 a.2.1,.bool a.2.2]],by omega,rfl,hE,by simp,by rw[hsr];exact hstk _ _ _ _,hv6,by simp(disch:=omega)[k2]⟩
         ·have hE:=hEI.step hx _ rfl (hs' _ (by rw[if_neg (fun h=>k2 h.2.1),if_neg k2]))
          rw[hcx]at hE
          by_cases k1:N≤125
          ·simp(disch:=omega)[hN,k1,k2,wrap64,-getElem?_pos]
           exact ae (m':=n-(i+1)) (by omega) ⟨i+1,c,_,s,X,_,T++[some [.int .i64 i],some [.int .i64 a.1,.int .i64 a.2.1,.bool a.2.2]],by omega,rfl,hE,by simp,by rw[hsr];exact hstk _ _ _ _,hv6,by simp(disch:=omega)⟩
          ·simp(disch:=omega)[hN,k1,k2,wrap64,-getElem?_pos]
           exact ae (m':=n-(i+1)) (by omega) ⟨i+1,c,_,s,X,_,T++[some [.int .i64 i],some [.int .i64 a.1,.int .i64 a.2.1,.bool a.2.2]],by omega,rfl,hE,by simp,by rw[hsr];exact hstk _ _ _ _,hv6,by simp(disch:=omega)⟩
        ·have hN:=fun H=>iz (prim:=prim) (d+1) ⟨0,[],4⟩ H (hp 144 (by decide)) a.1 (by omega) true
         have hs':∀ s',(if nxt a.1 true≤125∧s.iso=0∧s.emb=0 then { s with st:=(nxt a.1 true,1,false)::s.st } else if s.iso=0 then { s with emb:=s.emb+1 } else s)=s'→bK e 17 (gz 17 (o.drop (i+1))) s=(a.1,17,s'):=by
          rintro s' rfl
          simp[bK,htop,xq]
         generalize nxt a.1 true=N at hN hs'
         have hie:=hw.iso
         have hee:=hw.emb
         by_cases k2:s.iso=0
         ·by_cases k13:N≤125∧s.emb=0
          ·obtain⟨k1,k3⟩:=k13
           have hE:=hEI.step hx _ rfl (hs' _ (by rw[if_pos ⟨k1,k2,k3⟩]))
           rw[hcx,hsr]at hE
           simp(disch:=omega)[hN,k1,k2,k3,-getElem?_pos]
           refine iM (st:=a::r) (hstk _ _ _ _) hv6 rfl (by simp;omega) (by omega) ?_
           intro d' X' T' hd' hdc hd6
           simp(disch:=omega)[hdc,wrap64]
           exact ae (m':=n-(i+1)) (by omega) ⟨i+1,c,_,_,X',d',T',by omega,rfl,hE,by simp,hd' _,hd6,by simp[k2,k3]⟩
          ·have hE:=hEI.step hx _ rfl (hs' _ (by rw[if_neg (fun h=>k13 ⟨h.1,h.2.2⟩),if_pos k2]))
           rw[hcx]at hE
           have k4:(decide (N≤125)&&decide ((s.emb:Int)=0))=false:=by
            cases hq:decide (N≤125)&&decide ((s.emb:Int)=0)
            ·rfl
            ·simp at hq;exact absurd hq k13
           by_cases k1:N≤125
           ·have k3:¬ s.emb=0:=fun h=>k13 ⟨k1,h⟩
            simp(disch:=omega)[hN,k1,k2,k3,wrap64,-getElem?_pos]
            exact ae (m':=n-(i+1)) (by omega) ⟨i+1,c,_,_,X,_,T++[some [.int .i64 i],some [.int .i64 a.1,.int .i64 a.2.1,.bool a.2.2]],by omega,rfl,hE,by simp,by rw[hsr];exact hstk _ _ _ _,hv6,by simp(disch:=omega)[k2]⟩
           ·simp(disch:=omega)[hN,k1,k2,wrap64,-getElem?_pos]
            exact ae (m':=n-(i+1)) (by omega) ⟨i+1,c,_,_,X,_,T++[some [.int .i64 i],some [.int .i64 a.1,.int .i64 a.2.1,.bool a.2.2]],by omega,rfl,hE,by simp,by rw[hsr];exact hstk _ _ _ _,hv6,by simp(disch:=omega)[k2]⟩
         ·have hE:=hEI.step hx _ rfl (hs' _ (by rw[if_neg (fun h=>k2 h.2.1),if_neg k2]))
          rw[hcx]at hE
          by_cases k1:N≤125
          ·simp(disch:=omega)[hN,k1,k2,wrap64,-getElem?_pos]
           exact ae (m':=n-(i+1)) (by omega) ⟨i+1,c,_,s,X,_,T++[some [.int .i64 i],some [.int .i64 a.1,.int .i64 a.2.1,.bool a.2.2]],by omega,rfl,hE,by simp,by rw[hsr];exact hstk _ _ _ _,hv6,by simp(disch:=omega)⟩
          ·simp(disch:=omega)[hN,k1,k2,wrap64,-getElem?_pos]
           exact ae (m':=n-(i+1)) (by omega) ⟨i+1,c,_,s,X,_,T++[some [.int .i64 i],some [.int .i64 a.1,.int .i64 a.2.1,.bool a.2.2]],by omega,rfl,hE,by simp,by rw[hsr];exact hstk _ _ _ _,hv6,by simp(disch:=omega)⟩
        ·have hN:=fun H=>iz (prim:=prim) (d+1) ⟨0,[],4⟩ H (hp 144 (by decide)) a.1 (by omega) false
         have hs':∀ s',(if nxt a.1 false≤125∧s.iso=0∧s.emb=0 then { s with st:=(nxt a.1 false,0,false)::s.st } else if s.iso=0 then { s with emb:=s.emb+1 } else s)=s'→bK e 15 (gz 15 (o.drop (i+1))) s=(a.1,15,s'):=by
          rintro s' rfl
          simp[bK,htop,xq]
         generalize nxt a.1 false=N at hN hs'
         have hie:=hw.iso
         have hee:=hw.emb
         by_cases k2:s.iso=0
         ·by_cases k13:N≤125∧s.emb=0
          ·obtain⟨k1,k3⟩:=k13
           have hE:=hEI.step hx _ rfl (hs' _ (by rw[if_pos ⟨k1,k2,k3⟩]))
           rw[hcx,hsr]at hE
           simp(disch:=omega)[hN,k1,k2,k3,-getElem?_pos]
           refine iM (st:=a::r) (hstk _ _ _ _) hv6 rfl (by simp;omega) (by omega) ?_
           intro d' X' T' hd' hdc hd6
           simp(disch:=omega)[hdc,wrap64]
           exact ae (m':=n-(i+1)) (by omega) ⟨i+1,c,_,_,X',d',T',by omega,rfl,hE,by simp,hd' _,hd6,by simp[k2,k3]⟩
          ·have hE:=hEI.step hx _ rfl (hs' _ (by rw[if_neg (fun h=>k13 ⟨h.1,h.2.2⟩),if_pos k2]))
           rw[hcx]at hE
           have k4:(decide (N≤125)&&decide ((s.emb:Int)=0))=false:=by
            cases hq:decide (N≤125)&&decide ((s.emb:Int)=0)
            ·rfl
            ·simp at hq;exact absurd hq k13
           by_cases k1:N≤125
           ·have k3:¬ s.emb=0:=fun h=>k13 ⟨k1,h⟩
            simp(disch:=omega)[hN,k1,k2,k3,wrap64,-getElem?_pos]
            exact ae (m':=n-(i+1)) (by omega) ⟨i+1,c,_,_,X,_,T++[some [.int .i64 i],some [.int .i64 a.1,.int .i64 a.2.1,.bool a.2.2]],by omega,rfl,hE,by simp,by rw[hsr];exact hstk _ _ _ _,hv6,by simp(disch:=omega)[k2]⟩
           ·simp(disch:=omega)[hN,k1,k2,wrap64,-getElem?_pos]
            exact ae (m':=n-(i+1)) (by omega) ⟨i+1,c,_,_,X,_,T++[some [.int .i64 i],some [.int .i64 a.1,.int .i64 a.2.1,.bool a.2.2]],by omega,rfl,hE,by simp,by rw[hsr];exact hstk _ _ _ _,hv6,by simp(disch:=omega)[k2]⟩
         ·have hE:=hEI.step hx _ rfl (hs' _ (by rw[if_neg (fun h=>k2 h.2.1),if_neg k2]))
          rw[hcx]at hE
          by_cases k1:N≤125
          ·simp(disch:=omega)[hN,k1,k2,wrap64,-getElem?_pos]
           exact ae (m':=n-(i+1)) (by omega) ⟨i+1,c,_,s,X,_,T++[some [.int .i64 i],some [.int .i64 a.1,.int .i64 a.2.1,.bool a.2.2]],by omega,rfl,hE,by simp,by rw[hsr];exact hstk _ _ _ _,hv6,by simp(disch:=omega)⟩
          ·simp(disch:=omega)[hN,k1,k2,wrap64,-getElem?_pos]
           exact ae (m':=n-(i+1)) (by omega) ⟨i+1,c,_,s,X,_,T++[some [.int .i64 i],some [.int .i64 a.1,.int .i64 a.2.1,.bool a.2.2]],by omega,rfl,hE,by simp,by rw[hsr];exact hstk _ _ _ _,hv6,by simp(disch:=omega)⟩
       ·have hso:bK e x (gz x (o.drop (i+1))) s=(a.1,ovr a.2.1 x,s):=by
         unfold bK
         rw[if_neg hem,if_neg (by simp[hix]),if_neg h22,if_neg h18,if_neg h10,if_neg h9,htop]
        have hE:=hEI.step hx _ rfl hso
        simp only[not_or]at hem
        unfold ini at hix
        simp at hix
        simp[h9,h10,h18,h22,hem,hix,hov]
        exact ae (m':=n-(i+1)) (by omega) ⟨i+1,_,_,s,X,_,T++[some [.int .i64 i],some [.int .i64 a.1,.int .i64 a.2.1,.bool a.2.2]],by omega,rfl,hE,by simp,by first|exact hstk _ _ _ _|(rw[hsr];exact hstk _ _ _ _),hv6,by simp(disch:=omega)[wrap64]⟩
      ·have hi3:x=20∨x=19∨x=21:=by
        unfold ini at hix
        simp at hix
        omega
       rcases hi3 with rfl|rfl|rfl
       ·have hN:=fun H=>iz (prim:=prim) (d+1) ⟨0,[],4⟩ H (hp 144 (by decide)) a.1 (by omega) (true)
        have hs':∀ s',(if nxt a.1 (true)≤125∧s.iso=0∧s.emb=0 then { s with st:=(nxt a.1 (true),-1,true)::s.st,val:=s.val+1 } else { s with iso:=s.iso+1 })=s'→bK e 20 (gz 20 (o.drop (i+1))) s=(a.1,ovr a.2.1 20,s'):=by
         rintro s' rfl
         simp[bK,ini,htop,gz]
        generalize nxt a.1 (true)=N at hN hs'
        have hie:=hw.iso
        have hvl:=hw.val
        by_cases k:N≤125∧s.iso=0∧s.emb=0
        ·have hE:=hEI.step hx _ rfl (hs' _ (by rw[if_pos k]))
         obtain⟨k1,k2,k3⟩:=k
         rw[hsr]at hE
         simp(disch:=omega)[hov,hN,k1,k2,k3,wrap64,-getElem?_pos]
         refine iM (st:=a::r) (hstk _ _ _ _) hv6 rfl (by simp;omega) (by omega) ?_
         intro d' X' T' hd' hdc hd6
         simp(disch:=omega)[hdc,wrap64]
         exact ae (m':=n-(i+1)) (by omega) ⟨i+1,_,_,_,X',d',T',by omega,rfl,hE,by simp,hd' _,hd6,by simp(disch:=omega)[k2,k3]⟩
        ·have hE:=hEI.step hx _ rfl (hs' _ (by rw[if_neg k]))
         by_cases k1:N≤125
         ·by_cases k2:s.iso=0
          ·have k3:¬ s.emb=0:=fun h=>k ⟨k1,k2,h⟩
           simp(disch:=omega)[hov,hN,k1,k2,k3,wrap64,-getElem?_pos]
           exact ae (m':=n-(i+1)) (by omega) ⟨i+1,_,_,_,X,_,T++[some [.int .i64 i],some [.int .i64 a.1,.int .i64 a.2.1,.bool a.2.2]],by omega,rfl,hE,by simp,by rw[hsr];exact hstk _ _ _ _,hv6,by simp(disch:=omega)[k2]⟩
          ·simp(disch:=omega)[hov,hN,k1,k2,wrap64,-getElem?_pos]
           exact ae (m':=n-(i+1)) (by omega) ⟨i+1,_,_,_,X,_,T++[some [.int .i64 i],some [.int .i64 a.1,.int .i64 a.2.1,.bool a.2.2]],by omega,rfl,hE,by simp,by rw[hsr];exact hstk _ _ _ _,hv6,by simp(disch:=omega)⟩
         ·simp(disch:=omega)[hov,hN,k1,wrap64,-getElem?_pos]
          exact ae (m':=n-(i+1)) (by omega) ⟨i+1,_,_,_,X,_,T++[some [.int .i64 i],some [.int .i64 a.1,.int .i64 a.2.1,.bool a.2.2]],by omega,rfl,hE,by simp,by rw[hsr];exact hstk _ _ _ _,hv6,by simp(disch:=omega)⟩
       ·have hN:=fun H=>iz (prim:=prim) (d+1) ⟨0,[],4⟩ H (hp 144 (by decide)) a.1 (by omega) (false)
        have hs':∀ s',(if nxt a.1 (false)≤125∧s.iso=0∧s.emb=0 then { s with st:=(nxt a.1 (false),-1,true)::s.st,val:=s.val+1 } else { s with iso:=s.iso+1 })=s'→bK e 19 (gz 19 (o.drop (i+1))) s=(a.1,ovr a.2.1 19,s'):=by
         rintro s' rfl
         simp[bK,ini,htop,gz]
        generalize nxt a.1 (false)=N at hN hs'
        have hie:=hw.iso
        have hvl:=hw.val
        by_cases k:N≤125∧s.iso=0∧s.emb=0
        ·have hE:=hEI.step hx _ rfl (hs' _ (by rw[if_pos k]))
         obtain⟨k1,k2,k3⟩:=k
         rw[hsr]at hE
         simp(disch:=omega)[hov,hN,k1,k2,k3,wrap64,-getElem?_pos]
         refine iM (st:=a::r) (hstk _ _ _ _) hv6 rfl (by simp;omega) (by omega) ?_
         intro d' X' T' hd' hdc hd6
         simp(disch:=omega)[hdc,wrap64]
         exact ae (m':=n-(i+1)) (by omega) ⟨i+1,_,_,_,X',d',T',by omega,rfl,hE,by simp,hd' _,hd6,by simp(disch:=omega)[k2,k3]⟩
        ·have hE:=hEI.step hx _ rfl (hs' _ (by rw[if_neg k]))
         by_cases k1:N≤125
         ·by_cases k2:s.iso=0
          ·have k3:¬ s.emb=0:=fun h=>k ⟨k1,k2,h⟩
           simp(disch:=omega)[hov,hN,k1,k2,k3,wrap64,-getElem?_pos]
           exact ae (m':=n-(i+1)) (by omega) ⟨i+1,_,_,_,X,_,T++[some [.int .i64 i],some [.int .i64 a.1,.int .i64 a.2.1,.bool a.2.2]],by omega,rfl,hE,by simp,by rw[hsr];exact hstk _ _ _ _,hv6,by simp(disch:=omega)[k2]⟩
          ·simp(disch:=omega)[hov,hN,k1,k2,wrap64,-getElem?_pos]
           exact ae (m':=n-(i+1)) (by omega) ⟨i+1,_,_,_,X,_,T++[some [.int .i64 i],some [.int .i64 a.1,.int .i64 a.2.1,.bool a.2.2]],by omega,rfl,hE,by simp,by rw[hsr];exact hstk _ _ _ _,hv6,by simp(disch:=omega)⟩
         ·simp(disch:=omega)[hov,hN,k1,wrap64,-getElem?_pos]
          exact ae (m':=n-(i+1)) (by omega) ⟨i+1,_,_,_,X,_,T++[some [.int .i64 i],some [.int .i64 a.1,.int .i64 a.2.1,.bool a.2.2]],by omega,rfl,hE,by simp,by rw[hsr];exact hstk _ _ _ _,hv6,by simp(disch:=omega)⟩
       ·have hMi:=hM.at_ i 21 hx rfl
        have key:∃ to:Nat,i+1≤to∧to≤n∧(mt o i=-1∧to=n∨mt o i=to)∧gz 21 (o.drop (i+1))=decide (fs ((o.take to).drop (i+1))=1):=by
         unfold gz mt
         cases hsc:aW (o.drop (i+1)) 0 with
         | none=>exact⟨n,by omega,Nat.le_refl _,.inl ⟨rfl,rfl⟩,by simp[List.take_of_length_le,hn]⟩
         | some m =>
          have:=je _ _ _ hsc
          simp at this
          exact⟨i+1+m,by omega,by omega,.inr rfl,by simp[List.drop_take]⟩
        obtain⟨to,ht1,ht2,ht3,hodd⟩:=key
        have hF:=fun cfg h=>pj (prim:=prim) d cfg h (hp 112 (by decide)) (hp 142 (by decide)) o M hM (by omega) (i+1) to ht1 (by omega)
        generalize fs ((o.take to).drop (i+1))=fv at hF hodd
        have hN:=fun H=>iz (prim:=prim) (d+1) ⟨0,[],4⟩ H (hp 144 (by decide)) a.1 (by omega) (decide (fv=1))
        have hs':∀ s',(if nxt a.1 (decide (fv=1))≤125∧s.iso=0∧s.emb=0 then { s with st:=(nxt a.1 (decide (fv=1)),-1,true)::s.st,val:=s.val+1 } else { s with iso:=s.iso+1 })=s'→bK e 21 (gz 21 (o.drop (i+1))) s=(a.1,ovr a.2.1 21,s'):=by
         rintro s' rfl
         rw[hodd]
         simp[bK,ini,htop]
        generalize nxt a.1 (decide (fv=1))=N at hN hs'
        have hie:=hw.iso
        have hvl:=hw.val
        simp(disch:=omega)[hov,-getElem?_pos]
        refine ai 5 (by kernel_rfl) ?_
        simp at hF
        rcases ht3 with⟨hm1,rfl⟩|hm1
        case' inl=>simp(disch:=omega)[hMi,hm1,hn,-getElem?_pos]
        case' inr =>
         have n1:¬ (to:Int)<0:=by omega
         simp(disch:=omega)[hMi,hm1,n1,-getElem?_pos]
        all_goals
         refine ai 11 (by kernel_rfl) ?_
         by_cases k:N≤125∧s.iso=0∧s.emb=0
         ·have hE:=hEI.step hx _ rfl (hs' _ (by rw[if_pos k]))
          obtain⟨k1,k2,k3⟩:=k
          rw[hsr]at hE
          simp(disch:=omega)[hF,hN,k1,k2,k3,wrap64,-getElem?_pos]
          refine iM (st:=a::r) (hstk _ _ _ _) hv6 rfl (by simp;omega) (by omega) ?_
          intro d' X' T' hd' hdc hd6
          simp(disch:=omega)[hdc,wrap64]
          exact ae (m':=_-(i+1)) (by omega) ⟨i+1,_,_,_,X',d',T',by omega,rfl,hE,by simp,hd' _,hd6,by simp(disch:=omega)[k2,k3]⟩
         ·have hE:=hEI.step hx _ rfl (hs' _ (by rw[if_neg k]))
          by_cases k1:N≤125
          ·by_cases k2:s.iso=0
           ·have k3:¬ s.emb=0:=fun h=>k ⟨k1,k2,h⟩
            simp(disch:=omega)[hF,hN,k1,k2,k3,wrap64,-getElem?_pos]
            exact ae (m':=_-(i+1)) (by omega) ⟨i+1,_,_,_,X,_,T++[some [.int .i64 i],some [.int .i64 a.1,.int .i64 a.2.1,.bool a.2.2]],by omega,rfl,hE,by simp,by rw[hsr];exact hstk _ _ _ _,hv6,by simp(disch:=omega)[k2]⟩
           ·simp(disch:=omega)[hF,hN,k1,k2,wrap64,-getElem?_pos]
            exact ae (m':=_-(i+1)) (by omega) ⟨i+1,_,_,_,X,_,T++[some [.int .i64 i],some [.int .i64 a.1,.int .i64 a.2.1,.bool a.2.2]],by omega,rfl,hE,by simp,by rw[hsr];exact hstk _ _ _ _,hv6,by simp(disch:=omega)⟩
          ·simp(disch:=omega)[hF,hN,k1,wrap64,-getElem?_pos]
           exact ae (m':=_-(i+1)) (by omega) ⟨i+1,_,_,_,X,_,T++[some [.int .i64 i],some [.int .i64 a.1,.int .i64 a.2.1,.bool a.2.2]],by omega,rfl,hE,by simp,by rw[hsr];exact hstk _ _ _ _,hv6,by simp(disch:=omega)⟩
 ·obtain rfl:i=n:=by omega
  simp
  have:=hEI
  rw[← hn]at this
  obtain⟨rfl,rfl⟩:=this.fin
  simp
end
end Bi
end Go.Ab
