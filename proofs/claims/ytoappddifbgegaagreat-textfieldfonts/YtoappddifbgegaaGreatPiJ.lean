/- Several texts of this proof in one. -/
import Derived.Test.YtoappddifbgegaaGreatPaRef
set_option linter.all false
set_option maxHeartbeats 2000000
namespace Go.Ab
open Go.Proofs Go.Proofs.Tryz
namespace Bi
attribute [local congr] az
section
variable {prim:FuncId->Option Prim}(d:Nat) (cfg:Cfg) (h:Heap)
end
end Bi
end Go.Ab
namespace Go.Ab
open Go.Proofs Go.Proofs.Tryz
namespace Bi
structure MOK(c M:List Int):Prop where
 len:M.length=c.length
 at_:∀ (i:Nat) (x:Int),c[i]?=some x->ini x=true->M[i]?=some (mt c i)
theorem HP{c:List Int}{i:Nat}(h:i<c.length):mt c i=-1\/∃ m:Nat,mt c i=m/\i<m/\m<c.length/\aY (c.drop (i+1)) 0=some (m-(i+1)):=by
 unfold mt;cases hm:aY (c.drop (i+1)) 0 with
 | none=>exact .inl rfl
 | some m =>
  have:=jD _ _ _ hm;simp at this;refine .inr ⟨i+1+m,rfl,by omega,by omega,by congr 1;omega⟩
section
variable {P:Program}{md':FuncId->Nat}{n:Nat}{prim:FuncId->Option Prim}
theorem Iw{d:Nat}{f:FuncId}{fn:Func}{c:Code}{k:Nat}{rs:List ResultVar}{args:List V}{Post:V->Prop}(hm:md' f=0)(hp:prim f=none)(hf:P.funcs[f]?=some fn)(hb:fn.body=some c)(hk:fn.ntmps=k)
  (hr:fn.results.toList=rs) (ha:args.all V.noref=true)
  (hw:@wC P md' (aH P md' prim n d) ⟨0,[],0⟩ n ⟨c⟩ (args++List.replicate (k-args.length) .no) [] ⟨@kFn P ⟨rs⟩ ⟨fun r' h'=>∃ r,frz h' 0 6 r'=some r/\Post r⟩⟩):
  ∃ r,(∀ cfg h,af md' (aH P md' prim n (d+1)) cfg f args h=some (r,h))/\Post r:=by
 obtain⟨r',h',h1,r,h2,h3⟩:=cn hp hf hb hk hr hw;exact⟨r,fun cfg h=>by simp only[af,hm,ha,if_true,h1,h2],h3⟩
end
section
variable {prim:FuncId->Option Prim}(d:Nat) (cfg:Cfg) (h:Heap)
theorem lD(hp:prim 304=none)(x:Int):af md (K prim (d+1)) cfg 304 [.int .i64 x] h=some (.bool (ini x),h):=by
 refine aP rfl hp func304 rfl rfl rfl (by simp) ?_;unfold ini;simp;by_cases h1:x=19<;>by_cases h2:x=20<;>by_cases h3:x=21<;>simp_all
theorem ly(hp:prim 276=none)(B:Int->Int)(hB:∀ cfg h r,af md (K prim (d+1)) cfg 288 [.int .i32 r] h=some (.int .i64 (B r),h))(t:List Int)(ht:t.length<=2000):
  af md (K prim (d+2)) cfg 276 [rl t] h=some (il (t.map B),h):=by
 refine aP rfl hp func276 rfl rfl rfl (by simp) ?_;simp(disch:=omega);refine ah (fun m fr H=>∃ (i:Nat) (o:List Int),i<=t.length/\m=t.length-i/\o.length=t.length/\o.take i=(t.map B).take i/\H=[some (o.map (V.int .i64))] /\
  Slots 23 [(0,rl t),(3,.sl 0 0 t.length t.length 1),(9,rl t),(10,.int .i64 t.length),(11,.int .i64 i)] fr) (m:=t.length) (by omega) ⟨0,List.replicate t.length 0,by omega,by omega,by simp,rfl,by simp[di],by simp⟩ ?_
 rintro m fr H ⟨i,o,hi,rfl,ho,h0,rfl,hs⟩;obtain⟨j,rfl⟩:=hs.ex;clear hs;by_cases h3:i<t.length
 ·obtain⟨x,hx⟩:∃ x,t[i]?=some x:=⟨_,K4 h3⟩;have hle:i+1<=o.length:=by omega
  simp(disch:=omega)[h3,hx,hB,hle,-getElem?_pos];refine ae (m':=t.length-(i+1)) (by omega) ⟨i+1,o.set i (B x),by omega,rfl,by simpa using ho,?_,by simp,by simp(disch:=omega)[wrap64]⟩;rw[LD,LD,Mf (La _),h0,Lm (by omega)];simp[hx]
 ·obtain rfl:i=t.length:=by omega
  have e:o=t.map B:=by
   rw[Li (by omega),Li (by simp)]at h0;exact h0
  subst e;simp;have h4:ab [some ((t.map B).map (V.int .i64))] 0=some ((t.map B).map (V.int .i64)):=by
   rw[lS];simp only[gk];rfl
  have:=cK (d:=4) (cap:=t.length) (k:=.i64) h4 (LA _) ho;simpa[il,Function.comp_def]using this
end
def Opens(c M:List Int)(i:Nat)(st:List Nat):Prop:=∀ (q k:Nat),st[q]?=some k->k<i/\M[k]?=some (-1)/\aY (c.drop (k+1)) 0=(aY (c.drop i) q).map (·+(i-(k+1)))
structure MI(c M:List Int)(i:Nat)(st:List Nat):Prop where
 len:M.length=c.length
 op:Opens c M i st
 dec:st.Pairwise (· > ·)
 ok:∀ (j:Nat) (x:Int),j<i->c[j]?=some x->ini x=true->j∈st\/M[j]?=some (mt c j)
theorem MI.stl{c M:List Int}{i:Nat}{st:List Nat}(h:MI c M i st):st.length<=i:=by
 have key:∀ (st:List Nat) (i:Nat),st.Pairwise (· > ·)->(∀ k∈st,k<i)->st.length<=i:=by
  intro st
  induction st with
  | nil=>intro i _ _;simp
  | cons a st ih =>
   intro i hp hk;have hp:=L8.1 hp;have:=ih a hp.2 (fun k hk=>hp.1 k hk);have:=hk a (Ll ..);simp;omega
 refine key st i h.dec fun k hk=>?_;obtain⟨q,hq,rfl⟩:=Ni.1 hk;exact (h.op q _ (K4 hq)).1
theorem MI.zero{c:List Int}:MI c (List.replicate c.length 0) 0 []:=⟨by simp,fun q k h=>by simp at h,List.Pairwise.nil,fun j x h=>by omega⟩
theorem MI.fin{c M:List Int}{st:List Nat}(h:MI c M c.length st):MOK c M:=by
 refine⟨h.len,fun i x hx hi=>?_⟩;have h0:=(K5.1 hx).1;rcases h.ok i x h0 hx hi with hs|hs
 ·obtain⟨q,hq,rfl⟩:=Ni.1 hs;obtain⟨_,h1,h2⟩:=h.op q _ (K4 hq);rw[MH (La _)]at h2;rw[h1,mt,h2];rfl
 ·exact hs
theorem eC{c:List Int}{i:Nat}{x:Int}(hx:c[i]?=some x):c.drop i=x::c.drop (i+1):=by
 have h0:=(K5.1 hx).1;rw[Lq h0];congr 1;exact (K5.1 hx).2
theorem ny{o:Option Nat}{i k:Nat}(hk:k<i):(o.map (·+1)).map (·+(i-(k+1)))=o.map (·+(i+1-(k+1))):=by
 cases o with
 | none=>rfl
 | some m=>simp;omega
theorem MI.open_{c M:List Int}{i:Nat}{st:List Nat}{x:Int}(h:MI c M i st)(hx:c[i]?=some x)(hi:ini x=true):MI c (M.set i (-1)) (i+1) (i::st):=by
 have h4:=(K5.1 hx).1;have hM:=h.len;refine⟨by simpa using h.len,fun q k hq=>?_,L8.2 ⟨fun k hk=>?_,h.dec⟩,fun j y hj hy h0=>?_⟩
 ·rcases q with _|q
  ·simp at hq;subst hq;refine⟨by omega,by rw[Lm (by omega)],?_⟩;cases aY (c.drop (i+1)) 0<;>simp
  ·obtain⟨h1,h2,h3⟩:=h.op q k (by simpa using hq);refine⟨by omega,by rw[Lb (by omega)];exact h2,?_⟩;rw[h3,eC hx,jX hi,ny h1]
 ·obtain⟨q,hq,rfl⟩:=Ni.1 hk;exact (h.op q _ (K4 hq)).1
 ·by_cases e:j=i
  ·exact .inl (by simp[e])
  ·rcases h.ok j y (by omega) hy h0 with hs|hs
   ·exact .inl (Lc _ hs)
   ·exact .inr (by rw[Lb (by omega)];exact hs)
theorem MI.other{c M:List Int}{i:Nat}{st:List Nat}{x:Int}(h:MI c M i st)(hx:c[i]?=some x)(hi:ini x=false)(hp:x≠22\/st=[]):MI c (M.set i (-1)) (i+1) st:=by
 have h4:=(K5.1 hx).1;have hM:=h.len;refine⟨by simpa using h.len,fun q k hq=>?_,h.dec,fun j y hj hy h0=>?_⟩
 ·obtain⟨h1,h2,h3⟩:=h.op q k hq;refine⟨by omega,by rw[Lb (by omega)];exact h2,?_⟩;rcases hp with hp|rfl
  ·rw[h3,eC hx,nA hi hp,ny h1]
  ·simp at hq
 ·by_cases e:j=i
  ·subst e;rw[hx]at hy;cases hy;rw[hi]at h0;cases h0
  ·rcases h.ok j y (by omega) hy h0 with hs|hs
   ·exact .inl hs
   ·exact .inr (by rw[Lb (by omega)];exact hs)
theorem MI.close{c M:List Int}{i k0:Nat}{st:List Nat}(h:MI c M i (k0::st))(hx:c[i]?=some 22):MI c (((M.set i (-1)).set i k0).set k0 i) (i+1) st:=by
 have h6:=(K5.1 hx).1;have hM:=h.len;have hd:=L8.1 h.dec;obtain⟨g1,g2,g3⟩:=h.op 0 k0 rfl;have h4:mt c k0=i:=by
  rw[mt,g3,eC hx,nB];simp;omega
 refine⟨by simpa using h.len,fun q k hq=>?_,hd.2,fun j y hj hy h0=>?_⟩
 ·obtain⟨h1,h2,h3⟩:=h.op (q+1) k (by simpa using hq);have hne:k0 > k:=hd.1 k (K6 hq);refine⟨by omega,by rw[Lb (by omega),Lb (by omega),Lb (by omega)];exact h2,?_⟩;rw[h3,eC hx,gX];exact ny h1
 ·by_cases e:j=i
  ·subst e;rw[hx]at hy;cases hy;cases h0
  ·by_cases e2:j=k0
   ·subst e2;right;rw[Lm (by simp;omega),h4]
   ·rcases h.ok j y (by omega) hy h0 with hs|hs
    ·rcases Lt.1 hs with hs|hs
     ·exact absurd hs e2
     ·exact .inl hs
    ·right;rw[Lb (by omega),Lb (by omega),Lb (by omega)];exact hs
def opc(st:List Nat):List V:=st.reverse.map fun k:Nat=>V.int .i64 (k:Int)
theorem mE(k:Nat)(st:List Nat):opc (k::st)=opc st++[V.int .i64 k]:=by simp[opc]
theorem ke(st:List Nat):(opc st).length=st.length:=by simp[opc]
section
variable {prim:FuncId->Option Prim}(d:Nat)
theorem jC(hp:prim 278=none)(hl:prim 304=none)(c:List Int)(hc:c.length<=2000):
  ∃ M,(∀ cfg h,af md (K prim (d+2)) cfg 278 [il c] h=some (il M,h))/\MOK c M:=by
 suffices H:∃ r,(∀ cfg h,af md (K prim (d+2)) cfg 278 [il c] h=some (r,h))/\∃ M,r=il M/\MOK c M by
  obtain⟨r,h1,M,rfl,h2⟩:=H;exact⟨M,h1,h2⟩
 refine Iw rfl hp func278 rfl rfl rfl (by simp) ?_;have hI:=fun cfg h x=>lD (prim:=prim) d cfg h hl x;simp(disch:=omega);refine ah (fun m fr H=>∃ (i:Nat) (M:List Int) (st:List Nat) (v:V),i<=c.length/\m=c.length-i/\MI c M i st/\H.take 1=[some (M.map (V.int .i64))]/\1<=H.length/\Stk H 1 1 v (opc st) /\
  Slots 57 [(0,il c),(3,.sl 0 0 c.length c.length 1),(4,v),(11,il c),(12,.int .i64 c.length),(13,.int .i64 i)] fr) (m:=c.length) (by omega) ⟨0,_,[],.nils,by omega,by omega,MI.zero,by simp[di],by simp,.inl ⟨rfl,rfl⟩,by simp⟩ ?_
 rintro m fr H ⟨i,M,st,v,hi,rfl,h0,ht,hg,h8,hs⟩;obtain⟨j,rfl⟩:=hs.ex;clear hs;have hlen:=h0.len;obtain⟨T,rfl⟩:∃ T,H=some (M.map (V.int .i64))::T:=by
  rcases H with _|⟨a,T⟩
  ·simp at hg
  ·simp at ht;exact⟨T,by rw[ht]⟩
 clear ht hg;by_cases h6:i<c.length
 ·obtain⟨x,hx⟩:∃ x,c[i]?=some x:=⟨_,K4 h6⟩;have hle:i+1<=M.length:=by omega
  have h3:∀ y:Option (List V),Stk (y::T) 1 1 v (opc st):=fun y=>h8.of_blk fun b hb=>by
   obtain⟨b',rfl⟩:∃ b',b=b'+1:=⟨b-1,by have:=(h8.blk hb).1;omega⟩;simp
  have h9:=h8.len (show prog.underlying 52=some (.slice 3) by kernel_rfl) (by omega);simp only[Oc,ke]at h9;cases h4:ini x
  ·by_cases ha:x=22
   ·subst ha;rcases st with _|⟨k0,st⟩
    ·simp at h9;simp(disch:=omega)[h6,hx,hle,hI,h4,h9,-getElem?_pos];exact ae (m':=c.length-(i+1)) (by omega) ⟨i+1,_,[],v,by omega,rfl,h0.other hx h4 (.inr rfl),by simp,by simp,by simpa using h3 _,by simp(disch:=omega)[wrap64]⟩
    ·simp at h9;obtain⟨b,n,cap,J,rfl,hr,hu,hn,hh,hJ,hv⟩:=h8.pos (by simp[mE]);simp[ke]at hn;subst hn;obtain⟨b,rfl⟩:∃ b',b=b'+1:=⟨b-1,by omega⟩;rw[de]at hh;have hm:slot (opc (k0::st)++J) st.length=some (.int .i64 k0):=by
      rw[<- ke st,mE,Ly,slot,Lg (La _)];simp
     have hw:=(h0.op 0 k0 rfl).1;have hd:=h0.stl;simp at hd;have he:k0+1<=M.length:=by omega
     simp(disch:=omega)[h6,hx,hle,he,hI,h4,hh,hm,wrap64,-getElem?_pos,-List.map_set];refine ae (m':=c.length-(i+1)) (by omega) ⟨i+1,_,st,.sl (b+1) 0 st.length cap 1,by omega,rfl,h0.close hx,by simp,by simp,?_,by simp(disch:=omega)⟩;refine (h3 _).pop (mE k0 st) (by simp[ke]) (by omega)
   ·simp(disch:=omega)[h6,hx,hle,hI,h4,ha,-getElem?_pos];exact ae (m':=c.length-(i+1)) (by omega) ⟨i+1,_,st,v,by omega,rfl,h0.other hx h4 (.inl ha),by simp,by simp,by simpa using h3 _,by simp(disch:=omega)[wrap64]⟩
  ·simp(disch:=omega)[h6,hx,hle,hI,h4,-getElem?_pos];refine kB (lo:=1) (cs:=opc st) ?_ (by simp) (by simp) (by simp) rfl rfl (by omega) (by simp[ke];have:=h0.stl;omega) (by simp[ke];have:=h0.stl;omega) ?_
   ·have:=(h3 (some ((M.map (V.int .i64)).set i (.int .i64 (-1))))).push [some [V.int .i64 i]];simpa using this
   ·intro d' h' hf hy hj h7 hz hb;have h1:∃ T',h'=some ((M.map (V.int .i64)).set i (.int .i64 (-1)))::T':=by
     rcases h' with _|⟨a,T'⟩
     ·simp at h7
     ·simp at hj;exact⟨T',by rw[hj]⟩
    obtain⟨T',rfl⟩:=h1;simp(disch:=omega)[wrap64];exact ae (m':=c.length-(i+1)) (by omega) ⟨i+1,_,i::st,d',by omega,rfl,h0.open_ hx h4,by simp,by simp,by rw[mE];exact hf,by simp⟩
 ·obtain rfl:i=c.length:=by omega
  simp;have hq:ab (some (M.map (V.int .i64))::T) 0=some (M.map (V.int .i64)):=by simp
  exact⟨_,cK (d:=4) (k:=.i64) hq (LA _) hlen,M,rfl,h0.fin⟩
end
theorem Gx{c:List Int}{b i:Nat}{x:Int}(hx:c[i]?=some x)(hi:i<b):(c.take b).drop i=x::(c.take b).drop (i+1):=eC (by rw[LI hi];exact hx)
theorem BG(c:List Int)(b i:Nat):aY ((c.take b).drop i) 0=match aY (c.drop i) 0 with
  | some m=>if m<b-i then some m else none
  | none=>none:=by
 rw[List.drop_take,qN];cases aY (c.drop i) 0<;>rfl
section
variable {prim:FuncId->Option Prim}(d:Nat) (cfg:Cfg) (h:Heap)
theorem qn(hp:prim 277=none)(hd:prim 304=none)(c M:List Int)(hM:MOK c M)(hc:c.length<=2000)(a b:Nat)(he:a<=b)(hb:b<=c.length):
  af md (K prim (d+2)) cfg 277 [il c,il M,.int .i64 a,.int .i64 b] h=some (.int .i64 (fs ((c.take b).drop a)),h):=by
 refine aP rfl hp func277 rfl rfl rfl (by simp) ?_;have hI:=fun cfg h x=>lD (prim:=prim) d cfg h hd x;simp;refine ah (fun m fr H=>∃ i:Nat,i<=b/\m=b-i/\fs ((c.take b).drop a)=fs ((c.take b).drop i)/\H=[]/\Slots 66 [(0,il c),(1,il M),(3,.int .i64 b),(9,.int .i64 i)] fr) (m:=b-a) (by omega) ⟨a,he,rfl,rfl,rfl,by simp⟩ ?_;rintro m fr H ⟨i,hi,rfl,hf,rfl,hs⟩;obtain⟨j,rfl⟩:=hs.ex;clear hs;rw[hf];by_cases h4:i<b
 ·obtain⟨x,hx⟩:∃ x,c[i]?=some x:=⟨_,K4 (by omega)⟩;have h3:=FK x ((c.take b).drop (i+1));rw[<- Gx hx h4,BG]at h3;by_cases h0:x=0
  ·rw[if_pos h0]at h3;simp[h4,hx,h0,h3,-getElem?_pos]
  ·by_cases h8:x=1\/x=2
   ·rw[if_neg h0,if_pos h8]at h3;rcases h8 with rfl|rfl<;>simp[h4,hx,h3,-getElem?_pos]
   ·have h1:¬ x=1:=fun e=>h8 (.inl e);have h2:¬ x=2:=fun e=>h8 (.inr e);rw[if_neg h0,if_neg h8]at h3;cases h6:ini x
    ·rw[h6,if_neg (by simp)]at h3;simp[h4,hx,h0,h1,h2,hI,h6,-getElem?_pos];exact ae (m':=b-(i+1)) (by omega) ⟨i+1,by omega,rfl,by rw[h3],rfl,by simp(disch:=omega)[wrap64]⟩
    ·rw[h6,if_pos rfl]at h3;have h9:=hM.at_ i x hx h6;rcases HP (c:=c) (i:=i) (by omega) with h7|⟨m,h7,hg,hh,ha⟩
     ·have ha:aY (c.drop (i+1)) 0=none:=by
       unfold mt at h7;cases hq:aY (c.drop (i+1)) 0 with
       | none=>rfl
       | some m=>rw[hq]at h7;simp at h7;omega
      rw[ha]at h3;rw[h7]at h9;simp[h4,hx,h0,h1,h2,hI,h6,h9,h3,-getElem?_pos]
     ·rw[ha]at h3;rw[h7]at h9;by_cases hj:m<b
      ·simp only[show m-(i+1)<b-(i+1) by omega,if_true]at h3;rw[Oz,show i+1+(m-(i+1)+1)=m+1 by omega]at h3;have n1:¬ (m:Int)<0:=by omega
       have n2:¬ b<=m:=by omega
       simp[h4,hx,h0,h1,h2,hI,h6,h9,n1,n2,-getElem?_pos];exact ae (m':=b-(m+1)) (by omega) ⟨m+1,by omega,rfl,by rw[h3],rfl,by simp(disch:=omega)[wrap64]⟩
      ·simp only[show ¬ m-(i+1)<b-(i+1) by omega,if_false]at h3;have n1:¬ (m:Int)<0:=by omega
       have n2:b<=m:=by omega
       simp[h4,hx,h0,h1,h2,hI,h6,h9,n1,n2,h3,-getElem?_pos]
 ·obtain rfl:i=b:=by omega
  rw[MH (by simp;omega)];simp[IK]
def dw(B:Int->Int)(t:List Int)(base:Int):Int:=if base=0\/base=1 then base else fs (t.map B)
theorem Fh(hp:∀ f,Np2 f->prim f=none)(B:Int->Int)(hB:∀ cfg h r,af md (K prim (d+1)) cfg 288 [.int .i32 r] h=some (.int .i64 (B r),h))(t:List Int)(ht:t.length<=2000)(base:Int):
  af md (K prim (d+3)) cfg 235 [rl t,.int .i64 base] h=some (.int .i64 (dw B t base),h):=by
 refine call3 rfl (hp 235 (by decide)) func235 rfl rfl rfl (args':=[rl t,.int .i64 base]) (by simp) ?_;by_cases h3:base=0\/base=1
 ·rcases h3 with rfl|rfl<;>simp[dw]
 ·have h0:¬ base=0:=fun e=>h3 (.inl e);have h1:¬ base=1:=fun e=>h3 (.inr e);have hC:=fun cfg h=>ly (prim:=prim) d cfg h (hp 276 (by decide)) B hB t ht;obtain⟨M,h4,h6⟩:=jC (prim:=prim) d (hp 278 (by decide)) (hp 304 (by decide)) (t.map B) (by simpa using ht);have hF:=fun cfg h=>qn (prim:=prim) d cfg h (hp 277 (by decide)) (hp 304 (by decide)) (t.map B) M h6 (by simpa using ht) 0 t.length (by omega) (by simp);have e:((t.map B).take t.length).drop 0=t.map B:=by rw[Mo,Li (by simp)]
  rw[e]at hF;simp at hC h4 hF;simp[h0,h1,hC,h4,hF,dw]
end
def eP(st:List Ent):List V:=st.reverse.flatMap fun a=>[V.int .i64 a.1,V.int .i64 a.2.1,V.bool a.2.2]
theorem dM(a:Ent)(st:List Ent):eP (a::st)=eP st++[V.int .i64 a.1,V.int .i64 a.2.1,V.bool a.2.2]:=by simp[eP]
theorem eD(st:List Ent):(eP st).length=st.length*3:=by
 induction st with
 | nil=>rfl
 | cons a st ih=>rw[dM,Ln,ih];simp;omega
theorem CX(a:Ent)(r:List Ent)(J:List V):slot (eP (a::r)++J) (r.length*3)=some (.int .i64 a.1):=by
 rw[<- eD r,dM,Ly,slot,Lg (La _)];simp
theorem ID(a:Ent)(r:List Ent)(J:List V):slot (eP (a::r)++J) (r.length*3+2)=some (.bool a.2.2):=by
 rw[<- eD r,dM,Ly,slot,Lg (by omega)];simp
theorem vc(a:Ent)(r:List Ent)(J:List V):((eP (a::r)++J).drop (r.length*3)).take 3=[V.int .i64 a.1,V.int .i64 a.2.1,V.bool a.2.2]:=by
 rw[<- eD r,dM,Ly,List.drop_left];rfl
theorem zy(a:Ent)(r:List Ent)(J:List V):r.length*3+3<=(eP (a::r)).length+J.length:=by
 rw[eD];simp;omega
section
variable {prim:FuncId->Option Prim}(d:Nat) (cfg:Cfg) (h:Heap)
theorem iO(hp:prim 306=none)(n:Int)(hn:0<=n/\n<=1000)(odd:Bool):af md (K prim (d+1)) cfg 306 [.int .i64 n,.bool odd] h=some (.int .i64 (nxt n odd),h):=by
 refine aP rfl hp func306 rfl rfl rfl (by simp) ?_;have m1:n.tmod 2=n%2:=Mw hn.1;unfold nxt;by_cases h0:n%2=0
 ·cases odd<;>simp(disch:=omega)[m1,h0,wrap64]
 ·cases odd<;>simp(disch:=omega)[m1,h0,wrap64]
theorem wq(hp:prim 305=none)(t o M:List Int)(n:Nat)(e:Int)(c:List Int)(y2 X:Option (List V))(T:Heap)(a:Ent)(r:List Ent)(b cap:Nat)(J:List V)(bi i:Nat)(hr:r.length<=4000)
  (hw:cfg.wr 1=true) (hd:cfg.lo<=T.length+7) (hn:c.length=n) (hi:i<n)
  (hb:∀ c',ab (none::some c'::y2::some [rl t,il o,.sl 1 0 n n 1,il M,.sl 2 0 n n 1,.int .i64 e]::some [.ptr 3 0]::X::some [.sl b 0 (r.length+1) cap 3]::T) b=some (eP (a::r)++J))
  (ha:b<T.length+7) (h6:ab T bi=some [.int .i64 i]):
  af md (K prim (d+1)) cfg 305 [.ptr 6 0,.ptr 4 0,.ptr (bi+1+1+1+1+1+1+1) 0] (none::some (c.map (V.int .i64))::y2::some [rl t,il o,.sl 1 0 n n 1,il M,.sl 2 0 n n 1,.int .i64 e]::some [.ptr 3 0]::X::some [.sl b 0 (r.length+1) cap 3]::T) =
   some (.tup [],none::some ((if 0<=a.2.1 then c.set i a.2.1 else c).map (V.int .i64))::y2::some [rl t,il o,.sl 1 0 n n 1,il M,.sl 2 0 n n 1,.int .i64 e]::some [.ptr 3 0]::X::some [.sl b 0 (r.length+1) cap 3]::T):=by
 have hc:∀ q,(Cfg.wr ⟨cfg.lo,cfg.ex,q⟩ 1)=true:=fun q=>hw;refine call1 rfl hp func305 rfl rfl rfl ?_;have he:∀ c' T',ab (none::some c'::y2::some [rl t,il o,.sl 1 0 n n 1,il M,.sl 2 0 n n 1,.int .i64 e]::some [.ptr 3 0]::X::some [.sl b 0 (r.length+1) cap 3]::(T++T')) b=some (eP (a::r)++J):=by
  intro c' T';have:=aj (h:=none::some c'::y2::some [rl t,il o,.sl 1 0 n n 1,il M,.sl 2 0 n n 1,.int .i64 e]::some [.ptr 3 0]::X::some [.sl b 0 (r.length+1) cap 3]::T) (r:=T') (b:=b) (by simpa using ha);rw[hb]at this;simpa using this
 have h7:=zy a r J;have h8:=vc a r J;have h9:∀ q,(Cfg.wr ⟨cfg.lo,cfg.ex,q⟩ (List.length T+1+1+1+1+1+1+1))=true:=fun q=>bH (by omega);have h3:bi<T.length:=ao h6;have h4:∀ x,ab (T++x) bi=some [.int .i64 i]:=fun x=>(aj h3).trans h6;have hle:i+1<=c.length:=by omega
 by_cases h0:0<=a.2.1
 ·simp(disch:=omega)[hb,wrap64,h7,h8,h9,h0];refine ai 7 (by kernel_rfl) ?_;simp(disch:=omega)[h4,h0,hc,hle]
 ·simp(disch:=omega)[hb,wrap64,h7,h8,h9,h0]
end
structure EW(e:Int)(i:Nat)(s:ES):Prop where
 last:s.st.getLast?=some (e,-1,false)
 cnt:s.val=(s.st.filter fun a=>a.2.2).length
 rng:∀ a∈s.st,0<=a.1/\a.1<=125/\(a.2.1=-1\/a.2.1=a.1%2)
 len:s.st.length<=i+1
 iso:s.iso<=i
 emb:s.emb<=i
theorem EW.zero{e:Int}(he:0<=e/\e<=1):EW e 0 (es0 e):=⟨rfl,rfl,by
 intro a ha;simp[es0]at ha;subst ha;exact⟨he.1,by omega,.inl rfl⟩,by simp[es0],by simp[es0],by simp[es0]⟩
theorem EW.up{e:Int}{i j:Nat}{s:ES}(h:EW e i s)(hj:i<=j):EW e j s:=⟨h.last,h.cnt,h.rng,by have:=h.len;omega,by have:=h.iso;omega,by have:=h.emb;omega⟩
theorem EW.cons{e:Int}{i:Nat}{s:ES}(h:EW e i s):∃ a r,s.st=a::r:=by
 have:=h.last;cases hs:s.st with
 | nil=>rw[hs]at this;simp at this
 | cons a r=>exact⟨a,r,rfl⟩
theorem EW.val{e:Int}{i:Nat}{s:ES}(h:EW e i s):s.val<=i+1:=by
 have:=h.cnt;have:=List.length_filter_le (fun a:Ent=>a.2.2) s.st;have:=h.len;omega
theorem zW{n:Int}(h:0<=n)(odd:Bool):n<nxt n odd/\nxt n odd<=n+2/\(nxt n odd%2=if odd then 1 else 0):=by
 unfold nxt;cases odd
 ·by_cases h0:n%2=0<;>simp[h0]<;>omega
 ·by_cases h0:n%2=0<;>simp[h0]<;>omega
theorem EW.push{e:Int}{i:Nat}{s:ES}(h:EW e i s)(a:Ent)(ha:0<=a.1/\a.1<=125/\(a.2.1=-1\/a.2.1=a.1%2))(v:Nat)(hv:v=s.val+if a.2.2 then 1 else 0):EW e (i+1) { s with st:=a::s.st,val:=v }:=by
 obtain⟨b,r,hs⟩:=h.cons;refine⟨?_,?_,?_,by have:=h.len;simp;omega,by have:=h.iso;simp;omega,by have:=h.emb;simp;omega⟩
 ·have:=h.last;rw[hs]at this ⊢;rw[NC];exact this
 ·simp only[M9];rw[hv,h.cnt];split<;>simp
 ·intro x hx;rcases Lt.1 hx with rfl|hx
  ·exact ha
  ·exact h.rng x hx
theorem EW.tail{e:Int}{i:Nat}{s:ES}(h:EW e i s)(hl:1<s.st.length)(ht:(fE s.st).2.2=false):EW e i { s with st:=s.st.tail }:=by
 obtain⟨b,r,hs⟩:=h.cons;have h1:=h.last;have h2:=h.cnt;have h3:=h.len;rw[hs]at h1 h2 ht hl h3;obtain⟨b2,r2,rfl⟩:∃ b2 r2,r=b2::r2:=by
  cases r with
  | nil=>simp at hl
  | cons b2 r2=>exact⟨b2,r2,rfl⟩
 simp only[fE]at ht;refine⟨?_,?_,?_,?_,h.iso,h.emb⟩
 ·rw[hs];rw[NC]at h1;exact h1
 ·rw[hs,h2];simp[M9,ht]
 ·intro x hx;rw[hs]at hx;exact h.rng x (by rw[hs];exact Lc _ hx)
 ·rw[hs];simp at h3 ⊢;omega
theorem uh:∀ (st:List Ent) (e:Int),st.getLast?=some (e,-1,false)->0<(st.filter fun a=>a.2.2).length ->
  (jJ st).getLast?=some (e,-1,false)/\((jJ st).filter fun a=>a.2.2).length+1=(st.filter fun a=>a.2.2).length/\(∀ a∈jJ st,a∈st)/\(jJ st).length<st.length
 | [],e,h,_=>by simp at h
 | a::r,e,h,hf=>by
  have hr:r≠[]:=by
   rintro rfl;simp at h;subst h;simp at hf
  obtain⟨b,r',rfl⟩:∃ b r',r=b::r':=by
   cases r with
   | nil=>exact absurd rfl hr
   | cons b r'=>exact⟨b,r',rfl⟩
  rw[NC]at h;cases ha:a.2.2
  ·have e1:jJ (a::b::r')=jJ (b::r'):=by rw[jJ,ha];rfl
   have e2:(a::b::r').filter (fun a=>a.2.2)=(b::r').filter fun a=>a.2.2:=by rw[M9,ha];rfl
   rw[e2]at hf ⊢;rw[e1];obtain⟨h1,h2,h3,h4⟩:=uh (b::r') e h hf;exact⟨h1,h2,fun x hx=>Lc _ (h3 x hx),by simp at h4 ⊢;omega⟩
  ·have e1:jJ (a::b::r')=b::r':=by rw[jJ,ha];rfl
   have e2:(a::b::r').filter (fun a=>a.2.2)=a::(b::r').filter fun a=>a.2.2:=by rw[M9,ha];rfl
   rw[e1,e2];exact⟨h,by simp,fun x hx=>Lc _ hx,by simp⟩
theorem EW.step{e:Int}{i:Nat}{s:ES}(h:EW e i s)(x:Int)(odd:Bool):EW e (i+1) (bJ e x odd s).2.2:=by
 obtain⟨a,r,hs⟩:=h.cons;have ha:=h.rng a (by rw[hs];exact Ll ..);have ht:fE s.st=a:=by rw[hs];rfl
 unfold bJ;split
 ·rename_i hx;simp only;split
  ·rename_i hc;have hn:=zW ha.1 (decide (x=16\/x=17));rw[ht]at hc ⊢;refine h.push (nxt a.1 (decide (x=16\/x=17)),yx x,false) ⟨by simp only;omega,hc.1,?_⟩ s.val (by simp);simp only;rw[hn.2.2];unfold yx;rcases hx with rfl|rfl|rfl|rfl<;>simp
  ·split
   ·refine⟨h.last,h.cnt,h.rng,by have:=h.len;simp;omega,by have:=h.iso;simp;omega,by have:=h.emb;simp;omega⟩
   ·exact h.up (by omega)
 ·split
  ·simp only;split
   ·rename_i hc;have hn:=zW ha.1 odd;rw[ht]at hc ⊢;exact h.push (nxt a.1 odd,-1,true) ⟨by simp only;omega,hc.1,.inl rfl⟩ (s.val+1) (by simp)
   ·refine⟨h.last,h.cnt,h.rng,by have:=h.len;simp;omega,by have:=h.iso;simp;omega,by have:=h.emb;simp;omega⟩
  ·split
   ·simp only;split
    ·refine⟨h.last,h.cnt,h.rng,by have:=h.len;simp;omega,by have:=h.iso;simp;omega,by have:=h.emb;simp;omega⟩
    ·split
     ·rename_i hv;obtain⟨h1,h2,h3,h4⟩:=uh s.st e h.last (by rw[<- h.cnt];exact hv);refine⟨h1,?_,fun a ha=>h.rng a (h3 a ha),by have:=h.len;simp;omega,by have:=h.iso;simp;omega,by simp⟩;have:=h.cnt;simp only;omega
     ·exact h.up (by omega)
   ·split
    ·simp only;split
     ·exact h.up (by omega)
     ·split
      ·refine⟨h.last,h.cnt,h.rng,by have:=h.len;simp;omega,by have:=h.iso;simp;omega,by have:=h.emb;simp;omega⟩
      ·split
       ·rename_i hc;exact (h.tail hc.2 hc.1).up (by omega)
       ·exact h.up (by omega)
    ·split
     ·exact h.up (by omega)
     ·split<;>exact h.up (by omega)
structure EI(e:Int)(o:List Int)(i:Nat)(c lv:List Int)(s:ES):Prop where
 w:EW e i s
 cl:c.length=o.length
 ll:lv.length=o.length
 ct:∀ j,j<i->c[j]?=((gR e o)[j]?).map (·.2)
 cd:∀ j,i<=j->c[j]?=o[j]?
 lt:∀ j,j<i->lv[j]?=((gR e o)[j]?).map (·.1)
 rest:∀ k,(gR e o)[i+k]?=(qf e (o.drop i) s)[k]?
theorem vi(e:Int):∀ (l:List Int) (s:ES),(qf e l s).length=l.length
 | [],_=>rfl
 | x::l,s=>by simp[qf,vi e l]
theorem qg(e:Int)(o:List Int):(gR e o).length=o.length:=vi e o _
theorem EI.zero{e:Int}{o lv:List Int}(he:0<=e/\e<=1)(hl:lv.length=o.length):EI e o 0 o lv (es0 e):=
 ⟨EW.zero he,rfl,hl,fun j hj=>by omega,fun j _=>rfl,fun j hj=>by omega,fun k=>by simp[gR]⟩
theorem EI.step{e:Int}{o c lv:List Int}{i:Nat}{s:ES}{x:Int}(h:EI e o i c lv s)(hx:o[i]?=some x)(odd:Bool)(h3:odd=gG x (o.drop (i+1))){l1 c1:Int}{s':ES}(h4:bJ e x odd s=(l1,c1,s')):
  EI e o (i+1) (c.set i c1) (lv.set i l1) s':=by
 subst h3;have h8:=(K5.1 hx).1;have h6:=h.cl;have h7:=h.ll;have hr:qf e (o.drop i) s=(l1,c1)::qf e (o.drop (i+1)) s':=by rw[eC hx,qf,h4]
 have h0:=h.rest 0;rw[hr]at h0;simp at h0;refine⟨?_,by simpa using h6,by simpa using h7,fun j hj=>?_,fun j hj=>?_,fun j hj=>?_,fun k=>?_⟩
 ·have:=h.w.step x (gG x (o.drop (i+1)));rw[h4]at this;exact this
 ·by_cases e1:i=j
  ·subst e1;rw[Lm (by omega),h0];rfl
  ·rw[Lb e1,h.ct j (by omega)]
 ·rw[Lb (by omega),h.cd j (by omega)]
 ·by_cases e1:i=j
  ·subst e1;rw[Lm (by omega),h0];rfl
  ·rw[Lb e1,h.lt j (by omega)]
 ·have:=h.rest (k+1);rw[hr]at this;rw[show i+1+k=i+(k+1) by omega,this];simp
theorem EI.fin{e:Int}{o c lv:List Int}{s:ES}(h:EI e o o.length c lv s):c=(gR e o).map (·.2)/\lv=(gR e o).map (·.1):=by
 have h0:=h.cl;have h3:=h.ll;have h4:=qg e o;constructor
 ·apply LJ;intro j;by_cases hj:j<o.length
  ·rw[h.ct j hj,Lh]
  ·rw[Lz (by omega),Lz (by simp;omega)]
 ·apply LJ;intro j;by_cases hj:j<o.length
  ·rw[h.lt j hj,Lh]
  ·rw[Lz (by omega),Lz (by simp;omega)]
theorem lit7{h:Heap}{a0 a1 a2 a3 a4 y:Option (List V)}(ht:h.take 5=[a0,a1,a2,a3,a4])(h6:h[6]?=some y):∃ X T,h=a0::a1::a2::a3::a4::X::y::T:=by
 rcases h with _|⟨b0,_|⟨b1,_|⟨b2,_|⟨b3,_|⟨b4,_|⟨b5,_|⟨b6,T⟩⟩⟩⟩⟩⟩⟩<;>simp at ht h6;obtain⟨rfl,rfl,rfl,rfl,rfl⟩:=ht;subst h6;exact⟨b5,T,rfl⟩
section
variable {P:Program}{md':FuncId->Nat}{call:aF}
theorem jg{dst:Option Tmp}{fr:List V}{ops:Array Oper}{rest:List Oper}{Q:ca}{y1 y2 y3 y4 X:Option (List V)}{v:V}{T:Heap}{st:List Ent}{N O:Int}{I:Bool}{y:Nat}
  (ho:Stk (none::y1::y2::y3::y4::X::some [v]::T) 5 3 v (eP st)) (h6:cC v≠some 6) (hv:v.leaf=true) (hl:st.length<=4000) (hy:y<=100)
  (H:∀ d' X' T',(∀ y6,Stk (none::y1::y2::y3::y4::X'::y6::T') 5 3 d' (eP ((N,O,I)::st)))->cellsOf d'=some [d']->cC d'≠some 6->@wO P md' call ⟨0,[],4⟩ ⟨ops⟩ ⟨rest⟩ (put fr dst d') (none::y1::y2::y3::y4::X'::some [v]::T') ⟨Q⟩):
  @wS P md' call ⟨0,[],4⟩ ⟨dst⟩ ⟨fr⟩ (fX ⟨0,[],4⟩ (none::y1::y2::y3::y4::X::some [v]::T) 3 y v 1 [.int .i64 N,.int .i64 O,.bool I]) ⟨ops⟩ ⟨rest⟩ ⟨Q⟩:=by
 have h7:(st.length+1)*y<=1099511627776:=by
  have:(st.length+1)*y<=4001*100:=Nj (by omega) hy;omega
 refine kB (lo:=5) (cs:=eP st) ho (by simp) (by simp) (by simp) rfl rfl (by omega) (by rw[eD,Lw _ (by omega)];exact h7) (by rw[eD,Lw _ (by omega)];omega) ?_;intro d' h' h0 hc h8 h3 h9 hb;have hm:isMap [v]=false:=by cases v<;>first|rfl|simp[V.leaf]at hv
 have ha:h'[6]?=some (some [v]):=by
  have h1:=h9 6 h6 (by simp);have h2:ab (none::y1::y2::y3::y4::X::some [v]::T) 6=some [v]:=by simp[hm]
  rw[h2]at h1;exact aA h1
 obtain⟨X',T',rfl⟩:=lit7 (a0:=none) (a1:=y1) (a2:=y2) (a3:=y3) (a4:=y4) (by rw[h8];rfl) ha;have h4:cC d'≠some 6:=by
  rcases hb with hb|hb
  ·rw[hb];exact h6
  ·rw[hb];simp
 refine H d' X' T' (fun y6=>?_) h0.cells h4;rw[dM];have:=h0.set h4 y6;simpa using this
end
end Bi
end Go.Ab
