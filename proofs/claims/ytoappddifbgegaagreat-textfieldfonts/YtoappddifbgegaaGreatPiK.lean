/- Explicit levels: the program. -/
import Derived.Test.YtoappddifbgegaaGreatPiJ
set_option linter.all false
set_option maxHeartbeats 8000000
set_option maxRecDepth 100000
namespace Go.Ab
open Go.Proofs
namespace Bi
@[simp] theorem wr_lo0{ex:List Nat}{q b:Nat}:(Cfg.wr ⟨0,ex,q⟩ b)=true:=by simp[Cfg.wr]
abbrev pcs(t o M:List Int)(n:Nat)(e:Int):List V:=[rl t,il o,.sl 1 0 n n 1,il M,.sl 2 0 n n 1,.int .i64 e]
section
variable {prim:FuncId->Option Prim}(d:Nat)
theorem vl(hp:∀ f,Np2 f->prim f=none)(t o M:List Int)(hM:MOK o M)(n:Nat)(hn:o.length=n)(hn2:n<=2000)(e:Int)(he:0<=e/\e<=1)(lv0:List Int)(hl:lv0.length=n):
  af md (K prim (d+3)) ⟨0,[],0⟩ 280 [.ptr 3 0] [none,some (o.map (V.int .i64)),some (lv0.map (V.int .i64)),some (pcs t o M n e)] =
   some (.tup [],[none,some (((gR e o).map (·.2)).map (V.int .i64)),some (((gR e o).map (·.1)).map (V.int .i64)),some (pcs t o M n e)]):=by
 refine call1 rfl (hp 280 (by decide)) Tryz.func280 rfl rfl rfl ?_;simp(disch:=omega)[hn];refine ah (fun m fr H=>∃ (i:Nat) (c lv:List Int) (s:ES) (X:Option (List V)) (v:V) (T:Heap),i<=n/\m=n-i/\EI e o i c lv s /\
  H=none::some (c.map (V.int .i64))::some (lv.map (V.int .i64))::some (pcs t o M n e)::some [.ptr 3 0]::X::some [v]::T/\Stk H 5 3 v (eP s.st)/\cC v≠some 6 /\
  Slots 226 [(1,.ptr 4 0),(2,.ptr 6 0),(3,.int .i64 s.iso),(4,.int .i64 s.emb),(5,.int .i64 s.val),(24,il o),(25,.int .i64 n),(26,.int .i64 i)] fr) (m:=n) (by omega)
  ⟨0,o,lv0,es0 e,some [.int .i64 e,.int .i64 (-1),.bool false],.sl 5 0 1 1 3,[],by omega,by omega,EI.zero he (by omega),rfl,.inr ⟨5,1,1,[],rfl,by omega,rfl,rfl,rfl,by omega⟩,by simp[cC],by simp[es0]⟩ ?_
 rintro m fr H ⟨i,c,lv,s,X,v,T,hi,rfl,h7,rfl,g6,h6,hs⟩;obtain⟨j,rfl⟩:=hs.ex;clear hs;obtain⟨a,r,h4⟩:=h7.w.cons;have hcl:=h7.cl;have hll:=h7.ll;by_cases g7:i<n
 ·obtain⟨x,hx⟩:∃ x,o[i]?=some x:=⟨_,K4 (by omega)⟩;rw[h4]at g6;obtain⟨b,q,cap,J,rfl,g8,g9,hq,w7,hA,w8⟩:=g6.pos (by simp[dM]);obtain rfl:q=r.length+1:=by rw[eD]at hq;simp at hq;omega
  have w9:b<T.length+7:=by simpa using g9
  have z0:b≠6:=fun e=>h6 (by rw[e];rfl);have ht:∀ (y1 y2 y6:Option (List V)) (T':Heap),ab (none::y1::y2::some (pcs t o M n e)::some [.ptr 3 0]::X::y6::(T++T')) b=some (eP (a::r)++J):=by
   intro y1 y2 y6 T';have h1:=aj (r:=T') g9;rw[w7]at h1;rw[<- h1];obtain⟨b',rfl⟩:∃ b',b=b'+5:=⟨b-5,by omega⟩;rcases b' with _|_|b'
   ·simp[ab]
   ·exact absurd rfl z0
   ·simp
  have hw:=h7.w;have k0:=hw.len;rw[h4]at k0;simp at k0;have z1:=zy a r J;have z2:=vc a r J;have hle:i+1<=lv.length:=by omega
  have ha:=hw.rng a (by rw[h4];exact Ll ..);simp(disch:=omega)[g7,hx,ht,wrap64,z1,z2,-getElem?_pos];refine ai 7 (by kernel_rfl) ?_;simp(disch:=omega)[hle,-getElem?_pos];have hd:c.set i x=c:=by
   have:=h7.cd i (La _);rw[hx]at this;obtain⟨h1,h2⟩:=K5.1 this;rw[<- h2,NO]
  have h3:∀ (y1 y2 y6:Option (List V)) (T':Heap),Stk (none::y1::y2::some (pcs t o M n e)::some [.ptr 3 0]::X::y6::(T++T')) 5 3 (.sl b 0 (r.length+1) cap 3) (eP (a::r)):=fun y1 y2 y6 T' =>
   .inr ⟨b,_,cap,J,rfl,g8,hq,ht y1 y2 y6 T',hA,w8⟩
  have hc:fE s.st=a:=by rw[h4];rfl
  have hD:∀ (a':Ent) (r':List Ent) (J':List V),r'.length<=4000->eP (a::r)++J=eP (a'::r')++J'->∀ (y2:Option (List V)) (T':Heap),af md (K prim (d+2)) ⟨0,[],4⟩ 305 [.ptr 6 0,.ptr 4 0,.ptr (T.length+1+1+1+1+1+1+1) 0] (none::some (c.map (V.int .i64))::y2::some (pcs t o M n e)::some [.ptr 3 0]::X::some [.sl b 0 (r'.length+1) cap 3]::(T++some [.int .i64 i]::T')) =
    some (.tup [],none::some ((c.set i (ovr a'.2.1 x)).map (V.int .i64))::y2::some (pcs t o M n e)::some [.ptr 3 0]::X::some [.sl b 0 (r'.length+1) cap 3]::(T++some [.int .i64 i]::T')):=by
   intro a' r' J' z3 heq y2 T';have:=wq (prim:=prim) (d+1) ⟨0,[],4⟩ (hp 305 (by decide)) t o M n e c y2 X (T++some [.int .i64 i]::T') a' r' b cap J' T.length i z3 (by simp) (by simp) (by omega) g7 (fun c'=>by rw[<- heq];exact ht _ _ _ _) (by simp;omega) (by simp);rw[this];unfold ovr;split
   ·rfl
   ·rw[hd]
  have hh:=hD a r J (by omega) rfl;by_cases h9:x=9
  ·have z4:bJ e x (gG x (o.drop (i+1))) s=(a.1,x,s):=by subst h9;simp[bJ,ini,hc]
   have hE:=h7.step hx _ rfl z4;rw[hd]at hE;simp[h9];exact ae (m':=n-(i+1)) (by omega) ⟨i+1,c,_,s,X,_,T++[some [.int .i64 i],some [.int .i64 a.1,.int .i64 a.2.1,.bool a.2.2]],by omega,rfl,hE,by simp,by first|exact h3 _ _ _ _|(rw[h4];exact h3 _ _ _ _),h6,by simp(disch:=omega)[wrap64]⟩
  ·by_cases hP:x=10
   ·have hR:bJ e x (gG x (o.drop (i+1))) s=(e,x,s):=by subst hP;simp[bJ,ini]
    have hE:=h7.step hx _ rfl hR;rw[hd]at hE;simp[hP];refine ai 9 (by kernel_rfl) ?_;simp(disch:=omega)[wrap64,hle,-getElem?_pos];exact ae (m':=n-(i+1)) (by omega) ⟨i+1,c,_,s,X,_,T++[some [.int .i64 i],some [.int .i64 a.1,.int .i64 a.2.1,.bool a.2.2]],by omega,rfl,hE,by simp[bR],by first|exact h3 _ _ _ _|(rw[h4];exact h3 _ _ _ _),h6,by simp(disch:=omega)⟩
   ·by_cases hr:x=18
    ·have hS:=fun y1 y2 y6 T'=>(h3 y1 y2 y6 T').pop (dM a r) (eD r) (by omega);have hj:∀ s',(if 0<s.iso then s else if 0<s.emb then { s with emb:=s.emb-1 } else if (fE s.st).2.2=false/\1<s.st.length then { s with st:=s.st.tail } else s)=s'->bJ e x (gG x (o.drop (i+1))) s=(a.1,x,s'):=by
      rintro s' rfl;subst hr;simp[bJ,ini,hc]
     rw[hc,h4]at hj;by_cases k1:0<s.iso
     ·have hE:=h7.step hx _ rfl (hj s (by rw[if_pos k1]));rw[hd]at hE;simp[hr,k1];exact ae (m':=n-(i+1)) (by omega) ⟨i+1,c,_,s,X,_,T++[some [.int .i64 i],some [.int .i64 a.1,.int .i64 a.2.1,.bool a.2.2]],by omega,rfl,hE,by simp,by first|exact h3 _ _ _ _|(rw[h4];exact h3 _ _ _ _),h6,by simp(disch:=omega)[wrap64]⟩
     ·by_cases k2:0<s.emb
      ·have hE:=h7.step hx _ rfl (hj _ (by rw[if_neg k1,if_pos k2]));rw[hd]at hE;have hH:=hw.emb;simp(disch:=omega)[hr,k1,k2,wrap64];exact ae (m':=n-(i+1)) (by omega) ⟨i+1,c,_,_,X,_,T++[some [.int .i64 i],some [.int .i64 a.1,.int .i64 a.2.1,.bool a.2.2]],by omega,rfl,hE,by simp,by first|exact h3 _ _ _ _|(rw[h4];exact h3 _ _ _ _),h6,by simp(disch:=omega);omega⟩
      ·by_cases k3:a.2.2=false/\1<(a::r).length
       ·have hE:=h7.step hx _ rfl (hj _ (by rw[if_neg k1,if_neg k2,if_pos k3]));rw[hd]at hE;have k4:0<r.length:=by have:=k3.2;simp at this;omega
        have k5:(1:Int)<(r.length:Int)+1:=by omega
        simp(disch:=omega)[hr,k1,k2,k3.1,k5,wrap64];exact ae (m':=n-(i+1)) (by omega) ⟨i+1,c,_,_,X,.sl b 0 r.length cap 3,T++[some [.int .i64 i],some [.int .i64 a.1,.int .i64 a.2.1,.bool a.2.2]],by omega,rfl,hE,by simp[k3.1],by exact hS _ _ _ _,h6,by simp(disch:=omega)⟩
       ·have hE:=h7.step hx _ rfl (hj _ (by rw[if_neg k1,if_neg k2,if_neg k3]));rw[hd]at hE;have k6:(!a.2.2&&decide ((1:Int)<(r.length:Int)+1))=false:=by
         cases h2:a.2.2
         ·simp[h2]at k3 ⊢;rw[k3];simp
         ·rfl
        cases h2:a.2.2
        ·have k7:¬ (1:Int)<(r.length:Int)+1:=by rw[h2]at k6;simpa using k6
         simp(disch:=omega)[hr,k1,k2,k7,wrap64];exact ae (m':=n-(i+1)) (by omega) ⟨i+1,c,_,s,X,_,T++[some [.int .i64 i],some [.int .i64 a.1,.int .i64 a.2.1,.bool a.2.2]],by omega,rfl,hE,by simp[h2],by rw[h4];exact h3 _ _ _ _,h6,by simp(disch:=omega)⟩
        ·simp(disch:=omega)[hr,k1,k2,wrap64];exact ae (m':=n-(i+1)) (by omega) ⟨i+1,c,_,s,X,_,T++[some [.int .i64 i],some [.int .i64 a.1,.int .i64 a.2.1,.bool a.2.2]],by omega,rfl,hE,by simp[h2],by rw[h4];exact h3 _ _ _ _,h6,by simp(disch:=omega)⟩
    ·by_cases hT:x=22
     ·subst hT;have hm:∀ s',(if 0<s.iso then { s with iso:=s.iso-1 } else if 0<s.val then { s with st:=jJ s.st,emb:=0,val:=s.val-1 } else s)=s'->bJ e 22 (gG 22 (o.drop (i+1))) s=((fE s'.st).1,ovr (fE s'.st).2.1 22,s'):=by
       rintro s' rfl;simp[bJ,ini]
      have h0:=CX a r J;by_cases k1:0<s.iso
      ·have hE:=h7.step hx _ rfl (hm _ (by rw[if_pos k1]));simp only[hc]at hE;have hiw:=hw.iso;simp(disch:=omega)[k1,wrap64];refine ai 12 (by kernel_rfl) ?_;simp(disch:=omega)[ht,h0,hle,hh,wrap64,-getElem?_pos];exact ae (m':=n-(i+1)) (by omega) ⟨i+1,_,_,_,X,_,T++[some [.int .i64 i],some [.int .i64 a.1,.int .i64 a.2.1,.bool a.2.2]],by omega,rfl,hE,by simp[bR],by rw[h4];exact h3 _ _ _ _,h6,by simp(disch:=omega);omega⟩
      ·by_cases k2:0<s.val
       ·have hE:=h7.step hx _ rfl (hm _ (by rw[if_neg k1,if_pos k2]));have hI:=hw.last;have z5:=hw.cnt;obtain⟨g1,g2,g3,g4⟩:=uh s.st e hI (by omega);have hX:=hw.val;simp(disch:=omega)[k1,k2];refine ah (fun m' fr H=>∃ (a':Ent) (r':List Ent) (J':List V),m'=r'.length/\eP (a::r)++J=eP (a'::r')++J'/\jJ s.st=jJ (a'::r')/\0<((a'::r').filter fun a=>a.2.2).length/\r'.length<=r.length /\
         H=none::some (c.map (V.int .i64))::some ((lv.map (V.int .i64)).set i (.int .i64 a.1))::some (pcs t o M n e)::some [.ptr 3 0]::X::some [.sl b 0 (r'.length+1) cap 3]::(T++[some [.int .i64 i],some [.int .i64 a.1,.int .i64 a.2.1,.bool a.2.2]]) /\
         Slots 226 [(1,.ptr 4 0),(2,.ptr 6 0),(3,.int .i64 s.iso),(4,.int .i64 0),(5,.int .i64 s.val),(6,.ptr (T.length+1+1+1+1+1+1+1) 0),(7,.int .i64 22),(9,.func (.func 305) [] [.ptr 6 0,.ptr 4 0,.ptr (T.length+1+1+1+1+1+1+1) 0]),(24,il o),(25,.int .i64 n),(26,.int .i64 i)] fr) (m:=r.length) (by omega)
         ⟨a,r,J,rfl,rfl,by rw[h4],by rw[<- h4];omega,La _,by simp,by simp⟩ ?_
        rintro m' fr H ⟨a',r',J',rfl,heq,k8,hY,hQ,rfl,hs⟩;obtain⟨j,rfl⟩:=hs.ex;clear hs;have hJ:∀ (y1 y2 y6:Option (List V)) (T':Heap),ab (none::y1::y2::some (pcs t o M n e)::some [.ptr 3 0]::X::y6::(T++T')) b=some (eP (a'::r')++J'):=fun y1 y2 y6 T'=>by rw[<- heq];exact ht _ _ _ _
        have e2:=ID a' r' J';cases hv:a'.2.2
        ·rw[hv]at e2;obtain⟨a2,r2,rfl⟩:∃ a2 r2,r'=a2::r2:=by
          cases r' with
          | nil=>simp[hv]at hY
          | cons a2 r2=>exact⟨a2,r2,rfl⟩
         have hK:eP (a'::a2::r2)++J'=eP (a2::r2)++([V.int .i64 a'.1,V.int .i64 a'.2.1,V.bool a'.2.2]++J'):=by rw[dM];simp
         simp at hQ;simp only[Lp]at e2;simp(disch:=omega)[hJ,e2,wrap64,-getElem?_pos];refine ae (m':=r2.length) (by simp) ⟨a2,r2,_,rfl,heq.trans hK,?_,?_,by omega,by simp,by simp⟩
         ·rw[k8,jJ,if_neg (by simp[hv])]
         ·rw[M9,if_neg (by simp[hv])]at hY;exact hY
        ·rw[hv]at e2;have z6:jJ (a'::r')=r':=by rw[jJ,if_pos hv]
         rw[k8,z6]at hE g1;obtain⟨a2,r2,rfl⟩:∃ a2 r2,r'=a2::r2:=by
          cases r' with
          | nil=>simp at g1
          | cons a2 r2=>exact⟨a2,r2,rfl⟩
         have hK:eP (a'::a2::r2)++J'=eP (a2::r2)++([V.int .i64 a'.1,V.int .i64 a'.2.1,V.bool a'.2.2]++J'):=by rw[dM];simp
         have hZ:=hD a2 r2 _ (by simp at hQ;omega) (heq.trans hK);have hu:∀ (y1 y2 y6:Option (List V)) (T':Heap),ab (none::y1::y2::some (pcs t o M n e)::some [.ptr 3 0]::X::y6::(T++T')) b=some (eP (a2::r2)++([V.int .i64 a'.1,V.int .i64 a'.2.1,V.bool a'.2.2]++J')):=fun y1 y2 y6 T'=>by rw[<- heq.trans hK];exact ht _ _ _ _
         have e0:=CX a2 r2 ([V.int .i64 a'.1,V.int .i64 a'.2.1,V.bool a'.2.2]++J');have hL:∀ (y1 y2 y6:Option (List V)) (T':Heap),Stk (none::y1::y2::some (pcs t o M n e)::some [.ptr 3 0]::X::y6::(T++T')) 5 3 (.sl b 0 (r2.length+1) cap 3) (eP (a2::r2)):=fun y1 y2 y6 T' =>
          .inr ⟨b,_,cap,_,rfl,g8,by rw[eD];rfl,hu y1 y2 y6 T',by rw[<- heq.trans hK];exact hA,by simp at hQ;omega⟩
         simp at hQ;simp only[fE]at hE;simp only[Lp]at e2;simp(disch:=omega)[hJ,e2,wrap64,-getElem?_pos];refine ai 12 (by kernel_rfl) ?_;simp only[LM,Mp]at hu e0;simp(disch:=omega)[hu,e0,hle,hZ,wrap64,-getElem?_pos];exact ae (m':=n-(i+1)) (by omega) ⟨i+1,_,_,_,X,.sl b 0 (r2.length+1) cap 3,T++[some [.int .i64 i],some [.int .i64 a.1,.int .i64 a.2.1,.bool a.2.2]],by omega,rfl,hE,by simp[bR],by exact hL _ _ _ _,h6,by simp(disch:=omega);omega⟩
       ·have hE:=h7.step hx _ rfl (hm _ (by rw[if_neg k1,if_neg k2]));simp only[hc]at hE;simp(disch:=omega)[k1,k2];refine ai 12 (by kernel_rfl) ?_;simp(disch:=omega)[ht,h0,hle,hh,wrap64,-getElem?_pos];exact ae (m':=n-(i+1)) (by omega) ⟨i+1,_,_,_,X,_,T++[some [.int .i64 i],some [.int .i64 a.1,.int .i64 a.2.1,.bool a.2.2]],by omega,rfl,hE,by simp[bR],by rw[h4];exact h3 _ _ _ _,h6,by simp(disch:=omega)⟩
     ·cases hy:ini x
      ·by_cases hH:x=16\/x=14\/x=17\/x=15
       ·rcases hH with rfl|rfl|rfl|rfl
        ·have hN:=fun H=>iO (prim:=prim) (d+1) ⟨0,[],4⟩ H (hp 306 (by decide)) a.1 (by omega) true;have h8:∀ s',(if nxt a.1 true<=125/\s.iso=0/\s.emb=0 then { s with st:=(nxt a.1 true,(-1),false)::s.st } else if s.iso=0 then { s with emb:=s.emb+1 } else s)=s'->bJ e 16 (gG 16 (o.drop (i+1))) s=(a.1,16,s'):=by
          rintro s' rfl;simp[bJ,hc,yx]
         generalize nxt a.1 true=N at hN h8;have hz:=hw.iso;have g0:=hw.emb;by_cases k2:s.iso=0
         ·by_cases k13:N<=125/\s.emb=0
          ·obtain⟨k1,k3⟩:=k13;have hE:=h7.step hx _ rfl (h8 _ (by rw[if_pos ⟨k1,k2,k3⟩]));rw[hd,h4]at hE;simp(disch:=omega)[hN,k1,k2,k3,-getElem?_pos];refine jg (st:=a::r) (h3 _ _ _ _) h6 rfl (by simp;omega) (by omega) ?_;intro d' X' T' hf hdc hg;simp(disch:=omega)[hdc,wrap64];exact ae (m':=n-(i+1)) (by omega) ⟨i+1,c,_,_,X',d',T',by omega,rfl,hE,by simp,hf _,hg,by simp[k2,k3]⟩
          ·have hE:=h7.step hx _ rfl (h8 _ (by rw[if_neg (fun h=>k13 ⟨h.1,h.2.2⟩),if_pos k2]));rw[hd]at hE;have k4:(decide (N<=125)&&decide ((s.emb:Int)=0))=false:=by
            cases hq:decide (N<=125)&&decide ((s.emb:Int)=0)
            ·rfl
            ·simp at hq;exact absurd hq k13
           by_cases k1:N<=125
           ·have k3:¬ s.emb=0:=fun h=>k13 ⟨k1,h⟩;simp(disch:=omega)[hN,k1,k2,k3,wrap64,-getElem?_pos];exact ae (m':=n-(i+1)) (by omega) ⟨i+1,c,_,_,X,_,T++[some [.int .i64 i],some [.int .i64 a.1,.int .i64 a.2.1,.bool a.2.2]],by omega,rfl,hE,by simp,by rw[h4];exact h3 _ _ _ _,h6,by simp(disch:=omega)[k2]⟩
           ·simp(disch:=omega)[hN,k1,k2,wrap64,-getElem?_pos];exact ae (m':=n-(i+1)) (by omega) ⟨i+1,c,_,_,X,_,T++[some [.int .i64 i],some [.int .i64 a.1,.int .i64 a.2.1,.bool a.2.2]],by omega,rfl,hE,by simp,by rw[h4];exact h3 _ _ _ _,h6,by simp(disch:=omega)[k2]⟩
         ·have hE:=h7.step hx _ rfl (h8 _ (by rw[if_neg (fun h=>k2 h.2.1),if_neg k2]));rw[hd]at hE;by_cases k1:N<=125
          ·simp(disch:=omega)[hN,k1,k2,wrap64,-getElem?_pos];exact ae (m':=n-(i+1)) (by omega) ⟨i+1,c,_,s,X,_,T++[some [.int .i64 i],some [.int .i64 a.1,.int .i64 a.2.1,.bool a.2.2]],by omega,rfl,hE,by simp,by rw[h4];exact h3 _ _ _ _,h6,by simp(disch:=omega)⟩
          ·simp(disch:=omega)[hN,k1,k2,wrap64,-getElem?_pos];exact ae (m':=n-(i+1)) (by omega) ⟨i+1,c,_,s,X,_,T++[some [.int .i64 i],some [.int .i64 a.1,.int .i64 a.2.1,.bool a.2.2]],by omega,rfl,hE,by simp,by rw[h4];exact h3 _ _ _ _,h6,by simp(disch:=omega)⟩
        ·have hN:=fun H=>iO (prim:=prim) (d+1) ⟨0,[],4⟩ H (hp 306 (by decide)) a.1 (by omega) false;have h8:∀ s',(if nxt a.1 false<=125/\s.iso=0/\s.emb=0 then { s with st:=(nxt a.1 false,(-1),false)::s.st } else if s.iso=0 then { s with emb:=s.emb+1 } else s)=s'->bJ e 14 (gG 14 (o.drop (i+1))) s=(a.1,14,s'):=by
          rintro s' rfl;simp[bJ,hc,yx]
         generalize nxt a.1 false=N at hN h8;have hz:=hw.iso;have g0:=hw.emb;by_cases k2:s.iso=0
         ·by_cases k13:N<=125/\s.emb=0
          ·obtain⟨k1,k3⟩:=k13;have hE:=h7.step hx _ rfl (h8 _ (by rw[if_pos ⟨k1,k2,k3⟩]));rw[hd,h4]at hE;simp(disch:=omega)[hN,k1,k2,k3,-getElem?_pos];refine jg (st:=a::r) (h3 _ _ _ _) h6 rfl (by simp;omega) (by omega) ?_;intro d' X' T' hf hdc hg;simp(disch:=omega)[hdc,wrap64];exact ae (m':=n-(i+1)) (by omega) ⟨i+1,c,_,_,X',d',T',by omega,rfl,hE,by simp,hf _,hg,by simp[k2,k3]⟩
          ·have hE:=h7.step hx _ rfl (h8 _ (by rw[if_neg (fun h=>k13 ⟨h.1,h.2.2⟩),if_pos k2]));rw[hd]at hE;have k4:(decide (N<=125)&&decide ((s.emb:Int)=0))=false:=by
            cases hq:decide (N<=125)&&decide ((s.emb:Int)=0)
            ·rfl
            ·simp at hq;exact absurd hq k13
           by_cases k1:N<=125
           ·have k3:¬ s.emb=0:=fun h=>k13 ⟨k1,h⟩;simp(disch:=omega)[hN,k1,k2,k3,wrap64,-getElem?_pos];exact ae (m':=n-(i+1)) (by omega) ⟨i+1,c,_,_,X,_,T++[some [.int .i64 i],some [.int .i64 a.1,.int .i64 a.2.1,.bool a.2.2]],by omega,rfl,hE,by simp,by rw[h4];exact h3 _ _ _ _,h6,by simp(disch:=omega)[k2]⟩
           ·simp(disch:=omega)[hN,k1,k2,wrap64,-getElem?_pos];exact ae (m':=n-(i+1)) (by omega) ⟨i+1,c,_,_,X,_,T++[some [.int .i64 i],some [.int .i64 a.1,.int .i64 a.2.1,.bool a.2.2]],by omega,rfl,hE,by simp,by rw[h4];exact h3 _ _ _ _,h6,by simp(disch:=omega)[k2]⟩
         ·have hE:=h7.step hx _ rfl (h8 _ (by rw[if_neg (fun h=>k2 h.2.1),if_neg k2]));rw[hd]at hE;by_cases k1:N<=125
          ·simp(disch:=omega)[hN,k1,k2,wrap64,-getElem?_pos];exact ae (m':=n-(i+1)) (by omega) ⟨i+1,c,_,s,X,_,T++[some [.int .i64 i],some [.int .i64 a.1,.int .i64 a.2.1,.bool a.2.2]],by omega,rfl,hE,by simp,by rw[h4];exact h3 _ _ _ _,h6,by simp(disch:=omega)⟩
          ·simp(disch:=omega)[hN,k1,k2,wrap64,-getElem?_pos];exact ae (m':=n-(i+1)) (by omega) ⟨i+1,c,_,s,X,_,T++[some [.int .i64 i],some [.int .i64 a.1,.int .i64 a.2.1,.bool a.2.2]],by omega,rfl,hE,by simp,by rw[h4];exact h3 _ _ _ _,h6,by simp(disch:=omega)⟩
        ·have hN:=fun H=>iO (prim:=prim) (d+1) ⟨0,[],4⟩ H (hp 306 (by decide)) a.1 (by omega) true;have h8:∀ s',(if nxt a.1 true<=125/\s.iso=0/\s.emb=0 then { s with st:=(nxt a.1 true,1,false)::s.st } else if s.iso=0 then { s with emb:=s.emb+1 } else s)=s'->bJ e 17 (gG 17 (o.drop (i+1))) s=(a.1,17,s'):=by
          rintro s' rfl;simp[bJ,hc,yx]
         generalize nxt a.1 true=N at hN h8;have hz:=hw.iso;have g0:=hw.emb;by_cases k2:s.iso=0
         ·by_cases k13:N<=125/\s.emb=0
          ·obtain⟨k1,k3⟩:=k13;have hE:=h7.step hx _ rfl (h8 _ (by rw[if_pos ⟨k1,k2,k3⟩]));rw[hd,h4]at hE;simp(disch:=omega)[hN,k1,k2,k3,-getElem?_pos];refine jg (st:=a::r) (h3 _ _ _ _) h6 rfl (by simp;omega) (by omega) ?_;intro d' X' T' hf hdc hg;simp(disch:=omega)[hdc,wrap64];exact ae (m':=n-(i+1)) (by omega) ⟨i+1,c,_,_,X',d',T',by omega,rfl,hE,by simp,hf _,hg,by simp[k2,k3]⟩
          ·have hE:=h7.step hx _ rfl (h8 _ (by rw[if_neg (fun h=>k13 ⟨h.1,h.2.2⟩),if_pos k2]));rw[hd]at hE;have k4:(decide (N<=125)&&decide ((s.emb:Int)=0))=false:=by
            cases hq:decide (N<=125)&&decide ((s.emb:Int)=0)
            ·rfl
            ·simp at hq;exact absurd hq k13
           by_cases k1:N<=125
           ·have k3:¬ s.emb=0:=fun h=>k13 ⟨k1,h⟩;simp(disch:=omega)[hN,k1,k2,k3,wrap64,-getElem?_pos];exact ae (m':=n-(i+1)) (by omega) ⟨i+1,c,_,_,X,_,T++[some [.int .i64 i],some [.int .i64 a.1,.int .i64 a.2.1,.bool a.2.2]],by omega,rfl,hE,by simp,by rw[h4];exact h3 _ _ _ _,h6,by simp(disch:=omega)[k2]⟩
           ·simp(disch:=omega)[hN,k1,k2,wrap64,-getElem?_pos];exact ae (m':=n-(i+1)) (by omega) ⟨i+1,c,_,_,X,_,T++[some [.int .i64 i],some [.int .i64 a.1,.int .i64 a.2.1,.bool a.2.2]],by omega,rfl,hE,by simp,by rw[h4];exact h3 _ _ _ _,h6,by simp(disch:=omega)[k2]⟩
         ·have hE:=h7.step hx _ rfl (h8 _ (by rw[if_neg (fun h=>k2 h.2.1),if_neg k2]));rw[hd]at hE;by_cases k1:N<=125
          ·simp(disch:=omega)[hN,k1,k2,wrap64,-getElem?_pos];exact ae (m':=n-(i+1)) (by omega) ⟨i+1,c,_,s,X,_,T++[some [.int .i64 i],some [.int .i64 a.1,.int .i64 a.2.1,.bool a.2.2]],by omega,rfl,hE,by simp,by rw[h4];exact h3 _ _ _ _,h6,by simp(disch:=omega)⟩
          ·simp(disch:=omega)[hN,k1,k2,wrap64,-getElem?_pos];exact ae (m':=n-(i+1)) (by omega) ⟨i+1,c,_,s,X,_,T++[some [.int .i64 i],some [.int .i64 a.1,.int .i64 a.2.1,.bool a.2.2]],by omega,rfl,hE,by simp,by rw[h4];exact h3 _ _ _ _,h6,by simp(disch:=omega)⟩
        ·have hN:=fun H=>iO (prim:=prim) (d+1) ⟨0,[],4⟩ H (hp 306 (by decide)) a.1 (by omega) false;have h8:∀ s',(if nxt a.1 false<=125/\s.iso=0/\s.emb=0 then { s with st:=(nxt a.1 false,0,false)::s.st } else if s.iso=0 then { s with emb:=s.emb+1 } else s)=s'->bJ e 15 (gG 15 (o.drop (i+1))) s=(a.1,15,s'):=by
          rintro s' rfl;simp[bJ,hc,yx]
         generalize nxt a.1 false=N at hN h8;have hz:=hw.iso;have g0:=hw.emb;by_cases k2:s.iso=0
         ·by_cases k13:N<=125/\s.emb=0
          ·obtain⟨k1,k3⟩:=k13;have hE:=h7.step hx _ rfl (h8 _ (by rw[if_pos ⟨k1,k2,k3⟩]));rw[hd,h4]at hE;simp(disch:=omega)[hN,k1,k2,k3,-getElem?_pos];refine jg (st:=a::r) (h3 _ _ _ _) h6 rfl (by simp;omega) (by omega) ?_;intro d' X' T' hf hdc hg;simp(disch:=omega)[hdc,wrap64];exact ae (m':=n-(i+1)) (by omega) ⟨i+1,c,_,_,X',d',T',by omega,rfl,hE,by simp,hf _,hg,by simp[k2,k3]⟩
          ·have hE:=h7.step hx _ rfl (h8 _ (by rw[if_neg (fun h=>k13 ⟨h.1,h.2.2⟩),if_pos k2]));rw[hd]at hE;have k4:(decide (N<=125)&&decide ((s.emb:Int)=0))=false:=by
            cases hq:decide (N<=125)&&decide ((s.emb:Int)=0)
            ·rfl
            ·simp at hq;exact absurd hq k13
           by_cases k1:N<=125
           ·have k3:¬ s.emb=0:=fun h=>k13 ⟨k1,h⟩;simp(disch:=omega)[hN,k1,k2,k3,wrap64,-getElem?_pos];exact ae (m':=n-(i+1)) (by omega) ⟨i+1,c,_,_,X,_,T++[some [.int .i64 i],some [.int .i64 a.1,.int .i64 a.2.1,.bool a.2.2]],by omega,rfl,hE,by simp,by rw[h4];exact h3 _ _ _ _,h6,by simp(disch:=omega)[k2]⟩
           ·simp(disch:=omega)[hN,k1,k2,wrap64,-getElem?_pos];exact ae (m':=n-(i+1)) (by omega) ⟨i+1,c,_,_,X,_,T++[some [.int .i64 i],some [.int .i64 a.1,.int .i64 a.2.1,.bool a.2.2]],by omega,rfl,hE,by simp,by rw[h4];exact h3 _ _ _ _,h6,by simp(disch:=omega)[k2]⟩
         ·have hE:=h7.step hx _ rfl (h8 _ (by rw[if_neg (fun h=>k2 h.2.1),if_neg k2]));rw[hd]at hE;by_cases k1:N<=125
          ·simp(disch:=omega)[hN,k1,k2,wrap64,-getElem?_pos];exact ae (m':=n-(i+1)) (by omega) ⟨i+1,c,_,s,X,_,T++[some [.int .i64 i],some [.int .i64 a.1,.int .i64 a.2.1,.bool a.2.2]],by omega,rfl,hE,by simp,by rw[h4];exact h3 _ _ _ _,h6,by simp(disch:=omega)⟩
          ·simp(disch:=omega)[hN,k1,k2,wrap64,-getElem?_pos];exact ae (m':=n-(i+1)) (by omega) ⟨i+1,c,_,s,X,_,T++[some [.int .i64 i],some [.int .i64 a.1,.int .i64 a.2.1,.bool a.2.2]],by omega,rfl,hE,by simp,by rw[h4];exact h3 _ _ _ _,h6,by simp(disch:=omega)⟩
       ·have z7:bJ e x (gG x (o.drop (i+1))) s=(a.1,ovr a.2.1 x,s):=by
         unfold bJ;rw[if_neg hH,if_neg (by simp[hy]),if_neg hT,if_neg hr,if_neg hP,if_neg h9,hc]
        have hE:=h7.step hx _ rfl z7;simp only[not_or]at hH;unfold ini at hy;simp at hy;simp[h9,hP,hr,hT,hH,hy,hh];exact ae (m':=n-(i+1)) (by omega) ⟨i+1,_,_,s,X,_,T++[some [.int .i64 i],some [.int .i64 a.1,.int .i64 a.2.1,.bool a.2.2]],by omega,rfl,hE,by simp,by first|exact h3 _ _ _ _|(rw[h4];exact h3 _ _ _ _),h6,by simp(disch:=omega)[wrap64]⟩
      ·have z8:x=20\/x=19\/x=21:=by
        unfold ini at hy;simp at hy;omega
       rcases z8 with rfl|rfl|rfl
       ·have hN:=fun H=>iO (prim:=prim) (d+1) ⟨0,[],4⟩ H (hp 306 (by decide)) a.1 (by omega) (true);have h8:∀ s',(if nxt a.1 (true)<=125/\s.iso=0/\s.emb=0 then { s with st:=(nxt a.1 (true),-1,true)::s.st,val:=s.val+1 } else { s with iso:=s.iso+1 })=s'->bJ e 20 (gG 20 (o.drop (i+1))) s=(a.1,ovr a.2.1 20,s'):=by
         rintro s' rfl;simp[bJ,ini,hc,gG]
        generalize nxt a.1 (true)=N at hN h8;have hz:=hw.iso;have hX:=hw.val;by_cases k:N<=125/\s.iso=0/\s.emb=0
        ·have hE:=h7.step hx _ rfl (h8 _ (by rw[if_pos k]));obtain⟨k1,k2,k3⟩:=k;rw[h4]at hE;simp(disch:=omega)[hh,hN,k1,k2,k3,wrap64,-getElem?_pos];refine jg (st:=a::r) (h3 _ _ _ _) h6 rfl (by simp;omega) (by omega) ?_;intro d' X' T' hf hdc hg;simp(disch:=omega)[hdc,wrap64];exact ae (m':=n-(i+1)) (by omega) ⟨i+1,_,_,_,X',d',T',by omega,rfl,hE,by simp,hf _,hg,by simp(disch:=omega)[k2,k3]⟩
        ·have hE:=h7.step hx _ rfl (h8 _ (by rw[if_neg k]));by_cases k1:N<=125
         ·by_cases k2:s.iso=0
          ·have k3:¬ s.emb=0:=fun h=>k ⟨k1,k2,h⟩;simp(disch:=omega)[hh,hN,k1,k2,k3,wrap64,-getElem?_pos];exact ae (m':=n-(i+1)) (by omega) ⟨i+1,_,_,_,X,_,T++[some [.int .i64 i],some [.int .i64 a.1,.int .i64 a.2.1,.bool a.2.2]],by omega,rfl,hE,by simp,by rw[h4];exact h3 _ _ _ _,h6,by simp(disch:=omega)[k2]⟩
          ·simp(disch:=omega)[hh,hN,k1,k2,wrap64,-getElem?_pos];exact ae (m':=n-(i+1)) (by omega) ⟨i+1,_,_,_,X,_,T++[some [.int .i64 i],some [.int .i64 a.1,.int .i64 a.2.1,.bool a.2.2]],by omega,rfl,hE,by simp,by rw[h4];exact h3 _ _ _ _,h6,by simp(disch:=omega)⟩
         ·simp(disch:=omega)[hh,hN,k1,wrap64,-getElem?_pos];exact ae (m':=n-(i+1)) (by omega) ⟨i+1,_,_,_,X,_,T++[some [.int .i64 i],some [.int .i64 a.1,.int .i64 a.2.1,.bool a.2.2]],by omega,rfl,hE,by simp,by rw[h4];exact h3 _ _ _ _,h6,by simp(disch:=omega)⟩
       ·have hN:=fun H=>iO (prim:=prim) (d+1) ⟨0,[],4⟩ H (hp 306 (by decide)) a.1 (by omega) (false);have h8:∀ s',(if nxt a.1 (false)<=125/\s.iso=0/\s.emb=0 then { s with st:=(nxt a.1 (false),-1,true)::s.st,val:=s.val+1 } else { s with iso:=s.iso+1 })=s'->bJ e 19 (gG 19 (o.drop (i+1))) s=(a.1,ovr a.2.1 19,s'):=by
         rintro s' rfl;simp[bJ,ini,hc,gG]
        generalize nxt a.1 (false)=N at hN h8;have hz:=hw.iso;have hX:=hw.val;by_cases k:N<=125/\s.iso=0/\s.emb=0
        ·have hE:=h7.step hx _ rfl (h8 _ (by rw[if_pos k]));obtain⟨k1,k2,k3⟩:=k;rw[h4]at hE;simp(disch:=omega)[hh,hN,k1,k2,k3,wrap64,-getElem?_pos];refine jg (st:=a::r) (h3 _ _ _ _) h6 rfl (by simp;omega) (by omega) ?_;intro d' X' T' hf hdc hg;simp(disch:=omega)[hdc,wrap64];exact ae (m':=n-(i+1)) (by omega) ⟨i+1,_,_,_,X',d',T',by omega,rfl,hE,by simp,hf _,hg,by simp(disch:=omega)[k2,k3]⟩
        ·have hE:=h7.step hx _ rfl (h8 _ (by rw[if_neg k]));by_cases k1:N<=125
         ·by_cases k2:s.iso=0
          ·have k3:¬ s.emb=0:=fun h=>k ⟨k1,k2,h⟩;simp(disch:=omega)[hh,hN,k1,k2,k3,wrap64,-getElem?_pos];exact ae (m':=n-(i+1)) (by omega) ⟨i+1,_,_,_,X,_,T++[some [.int .i64 i],some [.int .i64 a.1,.int .i64 a.2.1,.bool a.2.2]],by omega,rfl,hE,by simp,by rw[h4];exact h3 _ _ _ _,h6,by simp(disch:=omega)[k2]⟩
          ·simp(disch:=omega)[hh,hN,k1,k2,wrap64,-getElem?_pos];exact ae (m':=n-(i+1)) (by omega) ⟨i+1,_,_,_,X,_,T++[some [.int .i64 i],some [.int .i64 a.1,.int .i64 a.2.1,.bool a.2.2]],by omega,rfl,hE,by simp,by rw[h4];exact h3 _ _ _ _,h6,by simp(disch:=omega)⟩
         ·simp(disch:=omega)[hh,hN,k1,wrap64,-getElem?_pos];exact ae (m':=n-(i+1)) (by omega) ⟨i+1,_,_,_,X,_,T++[some [.int .i64 i],some [.int .i64 a.1,.int .i64 a.2.1,.bool a.2.2]],by omega,rfl,hE,by simp,by rw[h4];exact h3 _ _ _ _,h6,by simp(disch:=omega)⟩
       ·have k9:=hM.at_ i 21 hx rfl;have key:∃ to:Nat,i+1<=to/\to<=n/\(mt o i=-1/\to=n\/mt o i=to)/\gG 21 (o.drop (i+1))=decide (fs ((o.take to).drop (i+1))=1):=by
         unfold gG mt;cases z9:aY (o.drop (i+1)) 0 with
         | none=>exact⟨n,by omega,La _,.inl ⟨rfl,rfl⟩,by simp[Li,hn]⟩
         | some m =>
          have:=jD _ _ _ z9;simp at this;exact⟨i+1+m,by omega,by omega,.inr rfl,by simp[List.drop_take]⟩
        obtain⟨to,ht1,ht2,ht3,hO⟩:=key;have hF:=fun cfg h=>qn (prim:=prim) d cfg h (hp 277 (by decide)) (hp 304 (by decide)) o M hM (by omega) (i+1) to ht1 (by omega);generalize fs ((o.take to).drop (i+1))=fv at hF hO;have hN:=fun H=>iO (prim:=prim) (d+1) ⟨0,[],4⟩ H (hp 306 (by decide)) a.1 (by omega) (decide (fv=1));have h8:∀ s',(if nxt a.1 (decide (fv=1))<=125/\s.iso=0/\s.emb=0 then { s with st:=(nxt a.1 (decide (fv=1)),-1,true)::s.st,val:=s.val+1 } else { s with iso:=s.iso+1 })=s'->bJ e 21 (gG 21 (o.drop (i+1))) s=(a.1,ovr a.2.1 21,s'):=by
         rintro s' rfl;rw[hO];simp[bJ,ini,hc]
        generalize nxt a.1 (decide (fv=1))=N at hN h8;have hz:=hw.iso;have hX:=hw.val;simp(disch:=omega)[hh,-getElem?_pos];refine ai 5 (by kernel_rfl) ?_;simp at hF;rcases ht3 with⟨g5,rfl⟩|g5
        case' inl=>simp(disch:=omega)[k9,g5,hn,-getElem?_pos]
        case' inr =>
         have n1:¬ (to:Int)<0:=by omega
         simp(disch:=omega)[k9,g5,n1,-getElem?_pos]
        all_goals
         refine ai 11 (by kernel_rfl) ?_;by_cases k:N<=125/\s.iso=0/\s.emb=0
         ·have hE:=h7.step hx _ rfl (h8 _ (by rw[if_pos k]));obtain⟨k1,k2,k3⟩:=k;rw[h4]at hE;simp(disch:=omega)[hF,hN,k1,k2,k3,wrap64,-getElem?_pos];refine jg (st:=a::r) (h3 _ _ _ _) h6 rfl (by simp;omega) (by omega) ?_;intro d' X' T' hf hdc hg;simp(disch:=omega)[hdc,wrap64];exact ae (m':=_-(i+1)) (by omega) ⟨i+1,_,_,_,X',d',T',by omega,rfl,hE,by simp,hf _,hg,by simp(disch:=omega)[k2,k3]⟩
         ·have hE:=h7.step hx _ rfl (h8 _ (by rw[if_neg k]));by_cases k1:N<=125
          ·by_cases k2:s.iso=0
           ·have k3:¬ s.emb=0:=fun h=>k ⟨k1,k2,h⟩;simp(disch:=omega)[hF,hN,k1,k2,k3,wrap64,-getElem?_pos];exact ae (m':=_-(i+1)) (by omega) ⟨i+1,_,_,_,X,_,T++[some [.int .i64 i],some [.int .i64 a.1,.int .i64 a.2.1,.bool a.2.2]],by omega,rfl,hE,by simp,by rw[h4];exact h3 _ _ _ _,h6,by simp(disch:=omega)[k2]⟩
           ·simp(disch:=omega)[hF,hN,k1,k2,wrap64,-getElem?_pos];exact ae (m':=_-(i+1)) (by omega) ⟨i+1,_,_,_,X,_,T++[some [.int .i64 i],some [.int .i64 a.1,.int .i64 a.2.1,.bool a.2.2]],by omega,rfl,hE,by simp,by rw[h4];exact h3 _ _ _ _,h6,by simp(disch:=omega)⟩
          ·simp(disch:=omega)[hF,hN,k1,wrap64,-getElem?_pos];exact ae (m':=_-(i+1)) (by omega) ⟨i+1,_,_,_,X,_,T++[some [.int .i64 i],some [.int .i64 a.1,.int .i64 a.2.1,.bool a.2.2]],by omega,rfl,hE,by simp,by rw[h4];exact h3 _ _ _ _,h6,by simp(disch:=omega)⟩
 ·obtain rfl:i=n:=by omega
  simp;have:=h7;rw[<- hn]at this;obtain⟨rfl,rfl⟩:=this.fin;simp
end
end Bi
end Go.Ab
