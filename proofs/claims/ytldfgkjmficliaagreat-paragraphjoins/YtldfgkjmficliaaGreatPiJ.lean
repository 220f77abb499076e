/- Several texts of this proof in one. -/
import Derived.Test.YtldfgkjmficliaaGreatPaRef2
import Derived.Test.YtldfgkjmficliaaGreatAbW7
set_option linter.unusedSimpArgs false
set_option linter.unusedVariables false
namespace Go.Ab
open Go.Proofs Go.Proofs.Tryz
namespace Bi
section
variable {prim:FuncId→Option Prim}(d:Nat)
def cBr(r:Int):Int:=IntKind.i64.wrap (findS r).2.2.1
def cLn(r:Int):Int:=IntKind.i64.wrap (findS r).2.2.2.2.1
theorem wq(hp:∀ f,Np5 f→prim f=none)(cfg:Cfg)(h:Heap)(r:Int):af md (K prim (d+3)) cfg 90 [.int .i32 r] h=some (.int .i64 (cBr r),h):=by
 refine bo rfl (hp 90 (by decide)) func90 rfl rfl rfl (by simp) ?_
 have hf:=fun cfg h=>nQ (prim:=prim) d cfg h hp r
 unfold cBr
 generalize findS r=x at hf ⊢
 obtain⟨a,b,c,d,e,f,g⟩:=x
 simp only[dM]at hf
 simp[hf]
theorem wx(hp:∀ f,Np5 f→prim f=none)(cfg:Cfg)(h:Heap)(r:Int):af md (K prim (d+3)) cfg 93 [.int .i32 r] h=some (.int .i64 (cLn r),h):=by
 refine bo rfl (hp 93 (by decide)) func93 rfl rfl rfl (by simp) ?_
 have hf:=fun cfg h=>nQ (prim:=prim) d cfg h hp r
 unfold cLn
 generalize findS r=x at hf ⊢
 obtain⟨a,b,c,d,e,f,g⟩:=x
 simp only[dM]at hf
 simp[hf]
def cJn(r:Int):Int:=IntKind.i64.wrap (findS r).2.2.2.2.2.2
theorem Bt(hp:∀ f,Np5 f→prim f=none)(cfg:Cfg)(h:Heap)(r:Int):af md (K prim (d+3)) cfg 129 [.int .i32 r] h=some (.int .i64 (cJn r),h):=by
 refine bo rfl (hp 129 (by decide)) func129 rfl rfl rfl (by simp) ?_
 have hf:=fun cfg h=>nQ (prim:=prim) d cfg h hp r
 unfold cJn
 generalize findS r=x at hf ⊢
 obtain⟨a,b,c,d,e,f,g⟩:=x
 simp only[dM]at hf
 simp[hf]
end
end Bi
end Go.Ab
namespace Go.Ab
open Go.Proofs Go.Proofs.Tryz
namespace Bi
structure MOK(c M:List Int):Prop where
 len:M.length=c.length
 at_:∀ (i:Nat) (x:Int),c[i]?=some x→ini x=true→M[i]?=some (mt c i)
theorem GB{c:List Int}{i:Nat}(h:i<c.length):mt c i=-1∨∃ m:Nat,mt c i=m∧i<m∧m<c.length∧aW (c.drop (i+1)) 0=some (m-(i+1)):=by
 unfold mt
 cases hm:aW (c.drop (i+1)) 0 with
 | none=>exact .inl rfl
 | some m =>
  have:=je _ _ _ hm
  simp at this
  refine .inr ⟨i+1+m,rfl,by omega,by omega,by congr 1;omega⟩
section
variable {P:Program}{md':FuncId→Nat}{n:Nat}{prim:FuncId→Option Prim}
theorem G6{d:Nat}{f:FuncId}{fn:Func}{c:Code}{k:Nat}{rs:List ResultVar}{args:List V}{Post:V→Prop}(hm:md' f=0)(hp:prim f=none)(hf:P.funcs[f]?=some fn)(hb:fn.body=some c)(hk:fn.ntmps=k)
  (hr:fn.results.toList=rs) (ha:args.all V.noref=true)
  (hw:@wC P md' (aI P md' prim n d) ⟨0,[],0⟩ n ⟨c⟩ (args++List.replicate (k-args.length) .no) [] ⟨@kFn P ⟨rs⟩ ⟨fun r' h'=>∃ r,frz h' 0 6 r'=some r∧Post r⟩⟩):
  ∃ r,(∀ cfg h,af md' (aI P md' prim n (d+1)) cfg f args h=some (r,h))∧Post r:=by
 obtain⟨r',h',h1,r,h2,h3⟩:=cx hp hf hb hk hr hw
 exact⟨r,fun cfg h=>by simp only[af,hm,ha,if_true,h1,h2],h3⟩
end
section
variable {prim:FuncId→Option Prim}(d:Nat) (cfg:Cfg) (h:Heap)
theorem kD(hp:prim 142=none)(x:Int):af md (K prim (d+1)) cfg 142 [.int .i64 x] h=some (.bool (ini x),h):=by
 refine bo rfl hp func142 rfl rfl rfl (by simp) ?_
 unfold ini
 simp
 by_cases h1:x=19<;>by_cases h2:x=20<;>by_cases h3:x=21<;>simp_all
theorem ku(hp:prim 103=none)(B:Int→Int)(hB:∀ cfg h r,af md (K prim (d+1)) cfg 101 [.int .i32 r] h=some (.int .i64 (B r),h))(t:List Int)(ht:t.length≤2000):
  af md (K prim (d+2)) cfg 103 [rl t] h=some (il (t.map B),h):=by
 refine bo rfl hp func103 rfl rfl rfl (by simp) ?_
 simp(disch:=omega)
 refine aj (fun m fr H=>∃ (i:Nat) (o:List Int),i≤t.length∧m=t.length-i∧o.length=t.length∧o.take i=(t.map B).take i∧H=[some (o.map (V.int .i64))] ∧
  Slots 23 [(0,rl t),(3,.sl 0 0 t.length t.length 1),(9,rl t),(10,.int .i64 t.length),(11,.int .i64 i)] fr) (m:=t.length) (by omega) ⟨0,List.replicate t.length 0,by omega,by omega,by simp,rfl,by simp[dm],by simp⟩ ?_
 rintro m fr H ⟨i,o,hi,rfl,ho,htk,rfl,hs⟩
 obtain⟨j,rfl⟩:=hs.ex
 clear hs
 by_cases hlt:i<t.length
 ·obtain⟨x,hx⟩:∃ x,t[i]?=some x:=⟨_,List.getElem?_eq_getElem hlt⟩
  have hle:i+1≤o.length:=by omega
  simp(disch:=omega)[hlt,hx,hB,hle,-getElem?_pos]
  refine ae (m':=t.length-(i+1)) (by omega) ⟨i+1,o.set i (B x),by omega,rfl,by simpa using ho,?_,by simp,by simp(disch:=omega)[wrap64]⟩
  rw[List.take_add_one,List.take_add_one,List.take_set_of_le (Nat.le_refl _),htk,List.getElem?_set_self (by omega)]
  simp[hx]
 ·obtain rfl:i=t.length:=by omega
  have e:o=t.map B:=by
   rw[List.take_of_length_le (by omega),List.take_of_length_le (by simp)]at htk
   exact htk
  subst e
  simp
  have hb0:ab [some ((t.map B).map (V.int .i64))] 0=some ((t.map B).map (V.int .i64)):=by
   rw[kT];simp only[eH];rfl
  have:=ek (d:=4) (cap:=t.length) (k:=.i64) hb0 (Nat.zero_le _) ho
  simpa[il,Function.comp_def]using this
end
def Opens(c M:List Int)(i:Nat)(st:List Nat):Prop:=∀ (q k:Nat),st[q]?=some k→k<i∧M[k]?=some (-1)∧aW (c.drop (k+1)) 0=(aW (c.drop i) q).map (·+(i-(k+1)))
structure MI(c M:List Int)(i:Nat)(st:List Nat):Prop where
 len:M.length=c.length
 op:Opens c M i st
 dec:st.Pairwise (· > ·)
 ok:∀ (j:Nat) (x:Int),j<i→c[j]?=some x→ini x=true→j∈st∨M[j]?=some (mt c j)
theorem MI.stl{c M:List Int}{i:Nat}{st:List Nat}(h:MI c M i st):st.length≤i:=by
 have key:∀ (st:List Nat) (i:Nat),st.Pairwise (· > ·)→(∀ k∈st,k<i)→st.length≤i:=by
  intro st
  induction st with
  | nil=>intro i _ _;simp
  | cons a st ih =>
   intro i hp hk
   have hp:=List.pairwise_cons.1 hp
   have:=ih a hp.2 (fun k hk=>hp.1 k hk)
   have:=hk a (List.mem_cons_self ..)
   simp
   omega
 refine key st i h.dec fun k hk=>?_
 obtain⟨q,hq,rfl⟩:=List.mem_iff_getElem.1 hk
 exact (h.op q _ (List.getElem?_eq_getElem hq)).1
theorem MI.zero{c:List Int}:MI c (List.replicate c.length 0) 0 []:=⟨by simp,fun q k h=>by simp at h,List.Pairwise.nil,fun j x h=>by omega⟩
theorem MI.fin{c M:List Int}{st:List Nat}(h:MI c M c.length st):MOK c M:=by
 refine⟨h.len,fun i x hx hi=>?_⟩
 have hil:=(List.getElem?_eq_some_iff.1 hx).1
 rcases h.ok i x hil hx hi with hs|hs
 ·obtain⟨q,hq,rfl⟩:=List.mem_iff_getElem.1 hs
  obtain⟨_,h1,h2⟩:=h.op q _ (List.getElem?_eq_getElem hq)
  rw[List.drop_eq_nil_of_le (Nat.le_refl _)]at h2
  rw[h1,mt,h2]
  rfl
 ·exact hs
theorem eh{c:List Int}{i:Nat}{x:Int}(hx:c[i]?=some x):c.drop i=x::c.drop (i+1):=by
 have hil:=(List.getElem?_eq_some_iff.1 hx).1
 rw[List.drop_eq_getElem_cons hil]
 congr 1
 exact (List.getElem?_eq_some_iff.1 hx).2
theorem mr{o:Option Nat}{i k:Nat}(hk:k<i):(o.map (·+1)).map (·+(i-(k+1)))=o.map (·+(i+1-(k+1))):=by
 cases o with
 | none=>rfl
 | some m=>simp;omega
theorem MI.open_{c M:List Int}{i:Nat}{st:List Nat}{x:Int}(h:MI c M i st)(hx:c[i]?=some x)(hi:ini x=true):MI c (M.set i (-1)) (i+1) (i::st):=by
 have hil:=(List.getElem?_eq_some_iff.1 hx).1
 have hM:=h.len
 refine⟨by simpa using h.len,fun q k hq=>?_,List.pairwise_cons.2 ⟨fun k hk=>?_,h.dec⟩,fun j y hj hy hyi=>?_⟩
 ·rcases q with _|q
  ·simp at hq
   subst hq
   refine⟨by omega,by rw[List.getElem?_set_self (by omega)],?_⟩
   cases aW (c.drop (i+1)) 0<;>simp
  ·obtain⟨h1,h2,h3⟩:=h.op q k (by simpa using hq)
   refine⟨by omega,by rw[List.getElem?_set_ne (by omega)];exact h2,?_⟩
   rw[h3,eh hx,jz hi,mr h1]
 ·obtain⟨q,hq,rfl⟩:=List.mem_iff_getElem.1 hk
  exact (h.op q _ (List.getElem?_eq_getElem hq)).1
 ·by_cases e:j=i
  ·exact .inl (by simp[e])
  ·rcases h.ok j y (by omega) hy hyi with hs|hs
   ·exact .inl (List.mem_cons_of_mem _ hs)
   ·exact .inr (by rw[List.getElem?_set_ne (by omega)];exact hs)
theorem MI.other{c M:List Int}{i:Nat}{st:List Nat}{x:Int}(h:MI c M i st)(hx:c[i]?=some x)(hi:ini x=false)(hp:x≠22∨st=[]):MI c (M.set i (-1)) (i+1) st:=by
 have hil:=(List.getElem?_eq_some_iff.1 hx).1
 have hM:=h.len
 refine⟨by simpa using h.len,fun q k hq=>?_,h.dec,fun j y hj hy hyi=>?_⟩
 ·obtain⟨h1,h2,h3⟩:=h.op q k hq
  refine⟨by omega,by rw[List.getElem?_set_ne (by omega)];exact h2,?_⟩
  rcases hp with hp|rfl
  ·rw[h3,eh hx,mv hi hp,mr h1]
  ·simp at hq
 ·by_cases e:j=i
  ·subst e;rw[hx]at hy;cases hy;rw[hi]at hyi;cases hyi
  ·rcases h.ok j y (by omega) hy hyi with hs|hs
   ·exact .inl hs
   ·exact .inr (by rw[List.getElem?_set_ne (by omega)];exact hs)
theorem MI.close{c M:List Int}{i k0:Nat}{st:List Nat}(h:MI c M i (k0::st))(hx:c[i]?=some 22):MI c (((M.set i (-1)).set i k0).set k0 i) (i+1) st:=by
 have hil:=(List.getElem?_eq_some_iff.1 hx).1
 have hM:=h.len
 have hd:=List.pairwise_cons.1 h.dec
 obtain⟨g1,g2,g3⟩:=h.op 0 k0 rfl
 have hk0:mt c k0=i:=by
  rw[mt,g3,eh hx,my]
  simp
  omega
 refine⟨by simpa using h.len,fun q k hq=>?_,hd.2,fun j y hj hy hyi=>?_⟩
 ·obtain⟨h1,h2,h3⟩:=h.op (q+1) k (by simpa using hq)
  have hne:k0 > k:=hd.1 k (List.mem_of_getElem? hq)
  refine⟨by omega,by rw[List.getElem?_set_ne (by omega),List.getElem?_set_ne (by omega),List.getElem?_set_ne (by omega)];exact h2,?_⟩
  rw[h3,eh hx,gO]
  exact mr h1
 ·by_cases e:j=i
  ·subst e;rw[hx]at hy;cases hy;cases hyi
  ·by_cases e2:j=k0
   ·subst e2
    right
    rw[List.getElem?_set_self (by simp;omega),hk0]
   ·rcases h.ok j y (by omega) hy hyi with hs|hs
    ·rcases List.mem_cons.1 hs with hs|hs
     ·exact absurd hs e2
     ·exact .inl hs
    ·right
     rw[List.getElem?_set_ne (by omega),List.getElem?_set_ne (by omega),List.getElem?_set_ne (by omega)]
     exact hs
def opc(st:List Nat):List V:=st.reverse.map fun k:Nat=>V.int .i64 (k:Int)
theorem lE(k:Nat)(st:List Nat):opc (k::st)=opc st++[V.int .i64 k]:=by simp[opc]
theorem jD(st:List Nat):(opc st).length=st.length:=by simp[opc]
section
variable {prim:FuncId→Option Prim}(d:Nat)
set_option maxHeartbeats 2000000 in
theorem jc(hp:prim 104=none)(hp2:prim 142=none)(c:List Int)(hc:c.length≤2000):
  ∃ M,(∀ cfg h,af md (K prim (d+2)) cfg 104 [il c] h=some (il M,h))∧MOK c M:=by
 suffices H:∃ r,(∀ cfg h,af md (K prim (d+2)) cfg 104 [il c] h=some (r,h))∧∃ M,r=il M∧MOK c M by
  obtain⟨r,h1,M,rfl,h2⟩:=H
  exact⟨M,h1,h2⟩
 refine G6 rfl hp func104 rfl rfl rfl (by simp) ?_
 have hI:=fun cfg h x=>kD (prim:=prim) d cfg h hp2 x
 simp(disch:=omega)
 refine aj (fun m fr H=>∃ (i:Nat) (M:List Int) (st:List Nat) (v:V),i≤c.length∧m=c.length-i∧MI c M i st∧H.take 1=[some (M.map (V.int .i64))]∧1≤H.length∧Stk H 1 1 v (opc st) ∧
  Slots 57 [(0,il c),(3,.sl 0 0 c.length c.length 1),(4,v),(11,il c),(12,.int .i64 c.length),(13,.int .i64 i)] fr) (m:=c.length) (by omega) ⟨0,_,[],.nils,by omega,by omega,MI.zero,by simp[dm],by simp,.inl ⟨rfl,rfl⟩,by simp⟩ ?_
 rintro m fr H ⟨i,M,st,v,hi,rfl,hMI,ht,hH1,hst,hs⟩
 obtain⟨j,rfl⟩:=hs.ex
 clear hs
 have hlen:=hMI.len
 obtain⟨T,rfl⟩:∃ T,H=some (M.map (V.int .i64))::T:=by
  rcases H with _|⟨a,T⟩
  ·simp at hH1
  ·simp at ht;exact⟨T,by rw[ht]⟩
 clear ht hH1
 by_cases hlt:i<c.length
 ·obtain⟨x,hx⟩:∃ x,c[i]?=some x:=⟨_,List.getElem?_eq_getElem hlt⟩
  have hle:i+1≤M.length:=by omega
  have hset:∀ y:Option (List V),Stk (y::T) 1 1 v (opc st):=fun y=>hst.of_blk fun b hb=>by
   obtain⟨b',rfl⟩:∃ b',b=b'+1:=⟨b-1,by have:=(hst.blk hb).1;omega⟩
   simp
  have hsl:=hst.len (show prog.underlying 22=some (.slice 3) by kernel_rfl) (by omega)
  simp only[Nat.div_one,jD]at hsl
  cases hix:ini x
  ·by_cases hpd:x=22
   ·subst hpd
    rcases st with _|⟨k0,st⟩
    ·simp at hsl
     simp(disch:=omega)[hlt,hx,hle,hI,hix,hsl,-getElem?_pos]
     exact ae (m':=c.length-(i+1)) (by omega) ⟨i+1,_,[],v,by omega,rfl,hMI.other hx hix (.inr rfl),by simp,by simp,by simpa using hset _,by simp(disch:=omega)[wrap64]⟩
    ·simp at hsl
     obtain⟨b,n,cap,J,rfl,hb1,hbl,hn,hbk,hJ,hnc⟩:=hst.pos (by simp[lE])
     simp[jD]at hn
     subst hn
     obtain⟨b,rfl⟩:∃ b',b=b'+1:=⟨b-1,by omega⟩
     rw[dH]at hbk
     have hsk:slot (opc (k0::st)++J) st.length=some (.int .i64 k0):=by
      rw[← jD st,lE,List.append_assoc,slot,List.getElem?_append_right (Nat.le_refl _)]
      simp
     have hk0:=(hMI.op 0 k0 rfl).1
     have hstl:=hMI.stl
     simp at hstl
     have hle2:k0+1≤M.length:=by omega
     simp(disch:=omega)[hlt,hx,hle,hle2,hI,hix,hbk,hsk,wrap64,-getElem?_pos,-List.map_set]
     refine ae (m':=c.length-(i+1)) (by omega) ⟨i+1,_,st,.sl (b+1) 0 st.length cap 1,by omega,rfl,hMI.close hx,by simp,by simp,?_,by simp(disch:=omega)⟩
     refine (hset _).pop (lE k0 st) (by simp[jD]) (by omega)
   ·simp(disch:=omega)[hlt,hx,hle,hI,hix,hpd,-getElem?_pos]
    exact ae (m':=c.length-(i+1)) (by omega) ⟨i+1,_,st,v,by omega,rfl,hMI.other hx hix (.inl hpd),by simp,by simp,by simpa using hset _,by simp(disch:=omega)[wrap64]⟩
  ·simp(disch:=omega)[hlt,hx,hle,hI,hix,-getElem?_pos]
   refine jL (lo:=1) (cs:=opc st) ?_ (by simp) (by simp) (by simp) rfl rfl (by omega) (by simp[jD];have:=hMI.stl;omega) (by simp[jD];have:=hMI.stl;omega) ?_
   ·have:=(hset (some ((M.map (V.int .i64)).set i (.int .i64 (-1))))).push [some [V.int .i64 i]]
    simpa using this
   ·intro d' h' hst' hd' htk hlen' hot hb
    have h1:∃ T',h'=some ((M.map (V.int .i64)).set i (.int .i64 (-1)))::T':=by
     rcases h' with _|⟨a,T'⟩
     ·simp at hlen'
     ·simp at htk;exact⟨T',by rw[htk]⟩
    obtain⟨T',rfl⟩:=h1
    simp(disch:=omega)[wrap64]
    exact ae (m':=c.length-(i+1)) (by omega) ⟨i+1,_,i::st,d',by omega,rfl,hMI.open_ hx hix,by simp,by simp,by rw[lE];exact hst',by simp⟩
 ·obtain rfl:i=c.length:=by omega
  simp
  have hb0:ab (some (M.map (V.int .i64))::T) 0=some (M.map (V.int .i64)):=by simp
  exact⟨_,ek (d:=4) (k:=.i64) hb0 (Nat.zero_le _) hlen,M,rfl,hMI.fin⟩
end
end Bi
end Go.Ab
namespace Go.Ab
open Go.Proofs Go.Proofs.Tryz
namespace Bi
theorem Fv{c:List Int}{b i:Nat}{x:Int}(hx:c[i]?=some x)(hi:i<b):(c.take b).drop i=x::(c.take b).drop (i+1):=eh (by rw[List.getElem?_take_of_lt hi];exact hx)
theorem AA(c:List Int)(b i:Nat):aW ((c.take b).drop i) 0=match aW (c.drop i) 0 with
  | some m=>if m<b-i then some m else none
  | none=>none:=by
 rw[List.drop_take,pP]
 cases aW (c.drop i) 0<;>rfl
section
variable {prim:FuncId→Option Prim}(d:Nat) (cfg:Cfg) (h:Heap)
set_option maxHeartbeats 2000000 in
theorem pj(hp:prim 112=none)(hp2:prim 142=none)(c M:List Int)(hM:MOK c M)(hc:c.length≤2000)(a b:Nat)(hab:a≤b)(hb:b≤c.length):
  af md (K prim (d+2)) cfg 112 [il c,il M,.int .i64 a,.int .i64 b] h=some (.int .i64 (fs ((c.take b).drop a)),h):=by
 refine bo rfl hp func112 rfl rfl rfl (by simp) ?_
 have hI:=fun cfg h x=>kD (prim:=prim) d cfg h hp2 x
 simp
 refine aj (fun m fr H=>∃ i:Nat,i≤b∧m=b-i∧fs ((c.take b).drop a)=fs ((c.take b).drop i)∧H=[]∧Slots 66 [(0,il c),(1,il M),(3,.int .i64 b),(9,.int .i64 i)] fr) (m:=b-a) (by omega) ⟨a,hab,rfl,rfl,rfl,by simp⟩ ?_
 rintro m fr H ⟨i,hi,rfl,hfs,rfl,hs⟩
 obtain⟨j,rfl⟩:=hs.ex
 clear hs
 rw[hfs]
 by_cases hlt:i<b
 ·obtain⟨x,hx⟩:∃ x,c[i]?=some x:=⟨_,List.getElem?_eq_getElem (by omega)⟩
  have hcons:=EC x ((c.take b).drop (i+1))
  rw[← Fv hx hlt,AA]at hcons
  by_cases h0:x=0
  ·rw[if_pos h0]at hcons
   simp[hlt,hx,h0,hcons,-getElem?_pos]
  ·by_cases h12:x=1∨x=2
   ·rw[if_neg h0,if_pos h12]at hcons
    rcases h12 with rfl|rfl<;>simp[hlt,hx,hcons,-getElem?_pos]
   ·have h1:¬ x=1:=fun e=>h12 (.inl e)
    have h2:¬ x=2:=fun e=>h12 (.inr e)
    rw[if_neg h0,if_neg h12]at hcons
    cases hix:ini x
    ·rw[hix,if_neg (by simp)]at hcons
     simp[hlt,hx,h0,h1,h2,hI,hix,-getElem?_pos]
     exact ae (m':=b-(i+1)) (by omega) ⟨i+1,by omega,rfl,by rw[hcons],rfl,by simp(disch:=omega)[wrap64]⟩
    ·rw[hix,if_pos rfl]at hcons
     have hMi:=hM.at_ i x hx hix
     rcases GB (c:=c) (i:=i) (by omega) with hmt|⟨m,hmt,him,hmc,hsc⟩
     ·have hsc:aW (c.drop (i+1)) 0=none:=by
       unfold mt at hmt
       cases hq:aW (c.drop (i+1)) 0 with
       | none=>rfl
       | some m=>rw[hq]at hmt;simp at hmt;omega
      rw[hsc]at hcons
      rw[hmt]at hMi
      simp[hlt,hx,h0,h1,h2,hI,hix,hMi,hcons,-getElem?_pos]
     ·rw[hsc]at hcons
      rw[hmt]at hMi
      by_cases hmb:m<b
      ·simp only[show m-(i+1)<b-(i+1) by omega,if_true]at hcons
       rw[List.drop_drop,show i+1+(m-(i+1)+1)=m+1 by omega]at hcons
       have n1:¬ (m:Int)<0:=by omega
       have n2:¬ b≤m:=by omega
       simp[hlt,hx,h0,h1,h2,hI,hix,hMi,n1,n2,-getElem?_pos]
       exact ae (m':=b-(m+1)) (by omega) ⟨m+1,by omega,rfl,by rw[hcons],rfl,by simp(disch:=omega)[wrap64]⟩
      ·simp only[show ¬ m-(i+1)<b-(i+1) by omega,if_false]at hcons
       have n1:¬ (m:Int)<0:=by omega
       have n2:b≤m:=by omega
       simp[hlt,hx,h0,h1,h2,hI,hix,hMi,n1,n2,hcons,-getElem?_pos]
 ·obtain rfl:i=b:=by omega
  rw[List.drop_eq_nil_of_le (by simp;omega)]
  simp[Hm]
def dx(B:Int→Int)(t:List Int)(base:Int):Int:=if base=0∨base=1 then base else fs (t.map B)
theorem Ea(hp:∀ f,Np2 f→prim f=none)(B:Int→Int)(hB:∀ cfg h r,af md (K prim (d+1)) cfg 101 [.int .i32 r] h=some (.int .i64 (B r),h))(t:List Int)(ht:t.length≤2000)(base:Int):
  af md (K prim (d+3)) cfg 69 [rl t,.int .i64 base] h=some (.int .i64 (dx B t base),h):=by
 refine call3 rfl (hp 69 (by decide)) func69 rfl rfl rfl (args':=[rl t,.int .i64 base]) (by simp) ?_
 by_cases h01:base=0∨base=1
 ·rcases h01 with rfl|rfl<;>simp[dx]
 ·have h0:¬ base=0:=fun e=>h01 (.inl e)
  have h1:¬ base=1:=fun e=>h01 (.inr e)
  have hC:=fun cfg h=>ku (prim:=prim) d cfg h (hp 103 (by decide)) B hB t ht
  obtain⟨M,hMc,hMO⟩:=jc (prim:=prim) d (hp 104 (by decide)) (hp 142 (by decide)) (t.map B) (by simpa using ht)
  have hF:=fun cfg h=>pj (prim:=prim) d cfg h (hp 112 (by decide)) (hp 142 (by decide)) (t.map B) M hMO (by simpa using ht) 0 t.length (by omega) (by simp)
  have e:((t.map B).take t.length).drop 0=t.map B:=by rw[List.drop_zero,List.take_of_length_le (by simp)]
  rw[e]at hF
  simp at hC hMc hF
  simp[h0,h1,hC,hMc,hF,dx]
end
end Bi
end Go.Ab
namespace Go.Ab
open Go.Proofs Go.Proofs.Tryz
namespace Bi
def eD(st:List Ent):List V:=st.reverse.flatMap fun a=>[V.int .i64 a.1,V.int .i64 a.2.1,V.bool a.2.2]
theorem dJ(a:Ent)(st:List Ent):eD (a::st)=eD st++[V.int .i64 a.1,V.int .i64 a.2.1,V.bool a.2.2]:=by simp[eD]
theorem ei(st:List Ent):(eD st).length=st.length*3:=by
 induction st with
 | nil=>rfl
 | cons a st ih=>rw[dJ,List.length_append,ih];simp;omega
theorem BG(a:Ent)(r:List Ent)(J:List V):slot (eD (a::r)++J) (r.length*3)=some (.int .i64 a.1):=by
 rw[← ei r,dJ,List.append_assoc,slot,List.getElem?_append_right (Nat.le_refl _)]
 simp
theorem Hb(a:Ent)(r:List Ent)(J:List V):slot (eD (a::r)++J) (r.length*3+2)=some (.bool a.2.2):=by
 rw[← ei r,dJ,List.append_assoc,slot,List.getElem?_append_right (by omega)]
 simp
theorem tS(a:Ent)(r:List Ent)(J:List V):((eD (a::r)++J).drop (r.length*3)).take 3=[V.int .i64 a.1,V.int .i64 a.2.1,V.bool a.2.2]:=by
 rw[← ei r,dJ,List.append_assoc,List.drop_left]
 rfl
theorem yi(a:Ent)(r:List Ent)(J:List V):r.length*3+3≤(eD (a::r)).length+J.length:=by
 rw[ei];simp;omega
section
variable {prim:FuncId→Option Prim}(d:Nat) (cfg:Cfg) (h:Heap)
theorem iz(hp:prim 144=none)(n:Int)(hn:0≤n∧n≤1000)(odd:Bool):af md (K prim (d+1)) cfg 144 [.int .i64 n,.bool odd] h=some (.int .i64 (nxt n odd),h):=by
 refine bo rfl hp func144 rfl rfl rfl (by simp) ?_
 have m1:n.tmod 2=n%2:=Int.tmod_eq_emod_of_nonneg hn.1
 unfold nxt
 by_cases h0:n%2=0
 ·cases odd<;>simp(disch:=omega)[m1,h0,wrap64]
 ·cases odd<;>simp(disch:=omega)[m1,h0,wrap64]
theorem vf(hp:prim 143=none)(t o M:List Int)(n:Nat)(e:Int)(c:List Int)(y2 X:Option (List V))(T:Heap)(a:Ent)(r:List Ent)(b cap:Nat)(J:List V)(bi i:Nat)(hr:r.length≤4000)
  (hw:cfg.wr 1=true) (hlo:cfg.lo≤T.length+7) (hn:c.length=n) (hi:i<n)
  (hb:∀ c',ab (none::some c'::y2::some [rl t,il o,.sl 1 0 n n 1,il M,.sl 2 0 n n 1,.int .i64 e]::some [.ptr 3 0]::X::some [.sl b 0 (r.length+1) cap 3]::T) b=some (eD (a::r)++J))
  (hbl:b<T.length+7) (hbi:ab T bi=some [.int .i64 i]):
  af md (K prim (d+1)) cfg 143 [.ptr 6 0,.ptr 4 0,.ptr (bi+1+1+1+1+1+1+1) 0] (none::some (c.map (V.int .i64))::y2::some [rl t,il o,.sl 1 0 n n 1,il M,.sl 2 0 n n 1,.int .i64 e]::some [.ptr 3 0]::X::some [.sl b 0 (r.length+1) cap 3]::T) =
   some (.tup [],none::some ((if 0≤a.2.1 then c.set i a.2.1 else c).map (V.int .i64))::y2::some [rl t,il o,.sl 1 0 n n 1,il M,.sl 2 0 n n 1,.int .i64 e]::some [.ptr 3 0]::X::some [.sl b 0 (r.length+1) cap 3]::T):=by
 have hw':∀ q,(Cfg.wr ⟨cfg.lo,cfg.ex,q⟩ 1)=true:=fun q=>hw
 refine call1 rfl hp func143 rfl rfl rfl ?_
 have hb1:∀ c' T',ab (none::some c'::y2::some [rl t,il o,.sl 1 0 n n 1,il M,.sl 2 0 n n 1,.int .i64 e]::some [.ptr 3 0]::X::some [.sl b 0 (r.length+1) cap 3]::(T++T')) b=some (eD (a::r)++J):=by
  intro c' T'
  have:=al (h:=none::some c'::y2::some [rl t,il o,.sl 1 0 n n 1,il M,.sl 2 0 n n 1,.int .i64 e]::some [.ptr 3 0]::X::some [.sl b 0 (r.length+1) cap 3]::T) (r:=T') (b:=b) (by simpa using hbl)
  rw[hb]at this
  simpa using this
 have hge:=yi a r J
 have hal:=tS a r J
 have hwl:∀ q,(Cfg.wr ⟨cfg.lo,cfg.ex,q⟩ (List.length T+1+1+1+1+1+1+1))=true:=fun q=>bE (by omega)
 have hbil:bi<T.length:=aw hbi
 have hbi1:∀ x,ab (T++x) bi=some [.int .i64 i]:=fun x=>(al hbil).trans hbi
 have hle:i+1≤c.length:=by omega
 by_cases h0:0≤a.2.1
 ·simp(disch:=omega)[hb,wrap64,hge,hal,hwl,h0]
  refine ai 7 (by kernel_rfl) ?_
  simp(disch:=omega)[hbi1,h0,hw',hle]
 ·simp(disch:=omega)[hb,wrap64,hge,hal,hwl,h0]
end
end Bi
end Go.Ab
namespace Go.Ab
open Go.Proofs Go.Proofs.Tryz
namespace Bi
structure EW(e:Int)(i:Nat)(s:ES):Prop where
 last:s.st.getLast?=some (e,-1,false)
 cnt:s.val=(s.st.filter fun a=>a.2.2).length
 rng:∀ a∈s.st,0≤a.1∧a.1≤125∧(a.2.1=-1∨a.2.1=a.1%2)
 len:s.st.length≤i+1
 iso:s.iso≤i
 emb:s.emb≤i
theorem EW.zero{e:Int}(he:0≤e∧e≤1):EW e 0 (es0 e):=⟨rfl,rfl,by
 intro a ha
 simp[es0]at ha
 subst ha
 exact⟨he.1,by omega,.inl rfl⟩,by simp[es0],by simp[es0],by simp[es0]⟩
theorem EW.up{e:Int}{i j:Nat}{s:ES}(h:EW e i s)(hj:i≤j):EW e j s:=⟨h.last,h.cnt,h.rng,by have:=h.len;omega,by have:=h.iso;omega,by have:=h.emb;omega⟩
theorem EW.cons{e:Int}{i:Nat}{s:ES}(h:EW e i s):∃ a r,s.st=a::r:=by
 have:=h.last
 cases hs:s.st with
 | nil=>rw[hs]at this;simp at this
 | cons a r=>exact⟨a,r,rfl⟩
theorem EW.val{e:Int}{i:Nat}{s:ES}(h:EW e i s):s.val≤i+1:=by
 have:=h.cnt
 have:=List.length_filter_le (fun a:Ent=>a.2.2) s.st
 have:=h.len
 omega
theorem yQ{n:Int}(h:0≤n)(odd:Bool):n<nxt n odd∧nxt n odd≤n+2∧(nxt n odd%2=if odd then 1 else 0):=by
 unfold nxt
 cases odd
 ·by_cases h0:n%2=0<;>simp[h0]<;>omega
 ·by_cases h0:n%2=0<;>simp[h0]<;>omega
theorem EW.push{e:Int}{i:Nat}{s:ES}(h:EW e i s)(a:Ent)(ha:0≤a.1∧a.1≤125∧(a.2.1=-1∨a.2.1=a.1%2))(v:Nat)(hv:v=s.val+if a.2.2 then 1 else 0):EW e (i+1) { s with st:=a::s.st,val:=v }:=by
 obtain⟨b,r,hs⟩:=h.cons
 refine⟨?_,?_,?_,by have:=h.len;simp;omega,by have:=h.iso;simp;omega,by have:=h.emb;simp;omega⟩
 ·have:=h.last
  rw[hs]at this ⊢
  rw[List.getLast?_cons_cons]
  exact this
 ·simp only[List.filter_cons]
  rw[hv,h.cnt]
  split<;>simp
 ·intro x hx
  rcases List.mem_cons.1 hx with rfl|hx
  ·exact ha
  ·exact h.rng x hx
theorem EW.tail{e:Int}{i:Nat}{s:ES}(h:EW e i s)(hl:1<s.st.length)(ht:(fu s.st).2.2=false):EW e i { s with st:=s.st.tail }:=by
 obtain⟨b,r,hs⟩:=h.cons
 have h1:=h.last
 have h2:=h.cnt
 have h3:=h.len
 rw[hs]at h1 h2 ht hl h3
 obtain⟨b2,r2,rfl⟩:∃ b2 r2,r=b2::r2:=by
  cases r with
  | nil=>simp at hl
  | cons b2 r2=>exact⟨b2,r2,rfl⟩
 simp only[fu]at ht
 refine⟨?_,?_,?_,?_,h.iso,h.emb⟩
 ·rw[hs];rw[List.getLast?_cons_cons]at h1;exact h1
 ·rw[hs,h2];simp[List.filter_cons,ht]
 ·intro x hx
  rw[hs]at hx
  exact h.rng x (by rw[hs];exact List.mem_cons_of_mem _ hx)
 ·rw[hs];simp at h3 ⊢;omega
theorem sX:∀ (st:List Ent) (e:Int),st.getLast?=some (e,-1,false)→0<(st.filter fun a=>a.2.2).length →
  (jk st).getLast?=some (e,-1,false)∧((jk st).filter fun a=>a.2.2).length+1=(st.filter fun a=>a.2.2).length∧(∀ a∈jk st,a∈st)∧(jk st).length<st.length
 | [],e,h,_=>by simp at h
 | a::r,e,h,hf=>by
  have hr:r≠[]:=by
   rintro rfl
   simp at h
   subst h
   simp at hf
  obtain⟨b,r',rfl⟩:∃ b r',r=b::r':=by
   cases r with
   | nil=>exact absurd rfl hr
   | cons b r'=>exact⟨b,r',rfl⟩
  rw[List.getLast?_cons_cons]at h
  cases ha:a.2.2
  ·have e1:jk (a::b::r')=jk (b::r'):=by rw[jk,ha];rfl
   have e2:(a::b::r').filter (fun a=>a.2.2)=(b::r').filter fun a=>a.2.2:=by rw[List.filter_cons,ha];rfl
   rw[e2]at hf ⊢
   rw[e1]
   obtain⟨h1,h2,h3,h4⟩:=sX (b::r') e h hf
   exact⟨h1,h2,fun x hx=>List.mem_cons_of_mem _ (h3 x hx),by simp at h4 ⊢;omega⟩
  ·have e1:jk (a::b::r')=b::r':=by rw[jk,ha];rfl
   have e2:(a::b::r').filter (fun a=>a.2.2)=a::(b::r').filter fun a=>a.2.2:=by rw[List.filter_cons,ha];rfl
   rw[e1,e2]
   exact⟨h,by simp,fun x hx=>List.mem_cons_of_mem _ hx,by simp⟩
theorem EW.step{e:Int}{i:Nat}{s:ES}(h:EW e i s)(x:Int)(odd:Bool):EW e (i+1) (bK e x odd s).2.2:=by
 obtain⟨a,r,hs⟩:=h.cons
 have ha:=h.rng a (by rw[hs];exact List.mem_cons_self ..)
 have ht:fu s.st=a:=by rw[hs];rfl
 unfold bK
 split
 ·rename_i hx
  simp only
  split
  ·rename_i hc
   have hn:=yQ ha.1 (decide (x=16∨x=17))
   rw[ht]at hc ⊢
   refine h.push (nxt a.1 (decide (x=16∨x=17)),xq x,false) ⟨by simp only;omega,hc.1,?_⟩ s.val (by simp)
   simp only
   rw[hn.2.2]
   unfold xq
   rcases hx with rfl|rfl|rfl|rfl<;>simp
  ·split
   ·refine⟨h.last,h.cnt,h.rng,by have:=h.len;simp;omega,by have:=h.iso;simp;omega,by have:=h.emb;simp;omega⟩
   ·exact h.up (by omega)
 ·split
  ·simp only
   split
   ·rename_i hc
    have hn:=yQ ha.1 odd
    rw[ht]at hc ⊢
    exact h.push (nxt a.1 odd,-1,true) ⟨by simp only;omega,hc.1,.inl rfl⟩ (s.val+1) (by simp)
   ·refine⟨h.last,h.cnt,h.rng,by have:=h.len;simp;omega,by have:=h.iso;simp;omega,by have:=h.emb;simp;omega⟩
  ·split
   ·simp only
    split
    ·refine⟨h.last,h.cnt,h.rng,by have:=h.len;simp;omega,by have:=h.iso;simp;omega,by have:=h.emb;simp;omega⟩
    ·split
     ·rename_i hv
      obtain⟨h1,h2,h3,h4⟩:=sX s.st e h.last (by rw[← h.cnt];exact hv)
      refine⟨h1,?_,fun a ha=>h.rng a (h3 a ha),by have:=h.len;simp;omega,by have:=h.iso;simp;omega,by simp⟩
      have:=h.cnt
      simp only
      omega
     ·exact h.up (by omega)
   ·split
    ·simp only
     split
     ·exact h.up (by omega)
     ·split
      ·refine⟨h.last,h.cnt,h.rng,by have:=h.len;simp;omega,by have:=h.iso;simp;omega,by have:=h.emb;simp;omega⟩
      ·split
       ·rename_i hc
        exact (h.tail hc.2 hc.1).up (by omega)
       ·exact h.up (by omega)
    ·split
     ·exact h.up (by omega)
     ·split<;>exact h.up (by omega)
structure EI(e:Int)(o:List Int)(i:Nat)(c lv:List Int)(s:ES):Prop where
 w:EW e i s
 cl:c.length=o.length
 ll:lv.length=o.length
 ct:∀ j,j<i→c[j]?=((gH e o)[j]?).map (·.2)
 cd:∀ j,i≤j→c[j]?=o[j]?
 lt:∀ j,j<i→lv[j]?=((gH e o)[j]?).map (·.1)
 rest:∀ k,(gH e o)[i+k]?=(pa e (o.drop i) s)[k]?
theorem tX(e:Int):∀ (l:List Int) (s:ES),(pa e l s).length=l.length
 | [],_=>rfl
 | x::l,s=>by simp[pa,tX e l]
theorem pc(e:Int)(o:List Int):(gH e o).length=o.length:=tX e o _
theorem EI.zero{e:Int}{o lv:List Int}(he:0≤e∧e≤1)(hl:lv.length=o.length):EI e o 0 o lv (es0 e):=
 ⟨EW.zero he,rfl,hl,fun j hj=>by omega,fun j _=>rfl,fun j hj=>by omega,fun k=>by simp[gH]⟩
theorem EI.step{e:Int}{o c lv:List Int}{i:Nat}{s:ES}{x:Int}(h:EI e o i c lv s)(hx:o[i]?=some x)(odd:Bool)(hodd:odd=gz x (o.drop (i+1))){l1 c1:Int}{s':ES}(hst:bK e x odd s=(l1,c1,s')):
  EI e o (i+1) (c.set i c1) (lv.set i l1) s':=by
 subst hodd
 have hil:=(List.getElem?_eq_some_iff.1 hx).1
 have hcl:=h.cl
 have hll:=h.ll
 have hr:pa e (o.drop i) s=(l1,c1)::pa e (o.drop (i+1)) s':=by rw[eh hx,pa,hst]
 have h0:=h.rest 0
 rw[hr]at h0
 simp at h0
 refine⟨?_,by simpa using hcl,by simpa using hll,fun j hj=>?_,fun j hj=>?_,fun j hj=>?_,fun k=>?_⟩
 ·have:=h.w.step x (gz x (o.drop (i+1)))
  rw[hst]at this
  exact this
 ·by_cases e1:i=j
  ·subst e1;rw[List.getElem?_set_self (by omega),h0];rfl
  ·rw[List.getElem?_set_ne e1,h.ct j (by omega)]
 ·rw[List.getElem?_set_ne (by omega),h.cd j (by omega)]
 ·by_cases e1:i=j
  ·subst e1;rw[List.getElem?_set_self (by omega),h0];rfl
  ·rw[List.getElem?_set_ne e1,h.lt j (by omega)]
 ·have:=h.rest (k+1)
  rw[hr]at this
  rw[show i+1+k=i+(k+1) by omega,this]
  simp
theorem EI.fin{e:Int}{o c lv:List Int}{s:ES}(h:EI e o o.length c lv s):c=(gH e o).map (·.2)∧lv=(gH e o).map (·.1):=by
 have hcl:=h.cl
 have hll:=h.ll
 have hel:=pc e o
 constructor
 ·apply List.ext_getElem?
  intro j
  by_cases hj:j<o.length
  ·rw[h.ct j hj,List.getElem?_map]
  ·rw[List.getElem?_eq_none (by omega),List.getElem?_eq_none (by simp;omega)]
 ·apply List.ext_getElem?
  intro j
  by_cases hj:j<o.length
  ·rw[h.lt j hj,List.getElem?_map]
  ·rw[List.getElem?_eq_none (by omega),List.getElem?_eq_none (by simp;omega)]
theorem lit7{h:Heap}{a0 a1 a2 a3 a4 y:Option (List V)}(ht:h.take 5=[a0,a1,a2,a3,a4])(h6:h[6]?=some y):∃ X T,h=a0::a1::a2::a3::a4::X::y::T:=by
 rcases h with _|⟨b0,_|⟨b1,_|⟨b2,_|⟨b3,_|⟨b4,_|⟨b5,_|⟨b6,T⟩⟩⟩⟩⟩⟩⟩<;>simp at ht h6
 obtain⟨rfl,rfl,rfl,rfl,rfl⟩:=ht
 subst h6
 exact⟨b5,T,rfl⟩
section
variable {P:Program}{md':FuncId→Nat}{call:aR}
theorem iM{dst:Option Tmp}{fr:List V}{ops:Array Oper}{rest:List Oper}{Q:ck}{y1 y2 y3 y4 X:Option (List V)}{v:V}{T:Heap}{st:List Ent}{N O:Int}{I:Bool}{y:Nat}
  (ho:Stk (none::y1::y2::y3::y4::X::some [v]::T) 5 3 v (eD st)) (h6:cV v≠some 6) (hv:v.leaf=true) (hl:st.length≤4000) (hy:y≤100)
  (H:∀ d' X' T',(∀ y6,Stk (none::y1::y2::y3::y4::X'::y6::T') 5 3 d' (eD ((N,O,I)::st)))→cellsOf d'=some [d']→cV d'≠some 6→@wO P md' call ⟨0,[],4⟩ ⟨ops⟩ ⟨rest⟩ (put fr dst d') (none::y1::y2::y3::y4::X'::some [v]::T') ⟨Q⟩):
  @wS P md' call ⟨0,[],4⟩ ⟨dst⟩ ⟨fr⟩ (gj ⟨0,[],4⟩ (none::y1::y2::y3::y4::X::some [v]::T) 3 y v 1 [.int .i64 N,.int .i64 O,.bool I]) ⟨ops⟩ ⟨rest⟩ ⟨Q⟩:=by
 have hsz:(st.length+1)*y≤1099511627776:=by
  have:(st.length+1)*y≤4001*100:=Nat.mul_le_mul (by omega) hy
  omega
 refine jL (lo:=5) (cs:=eD st) ho (by simp) (by simp) (by simp) rfl rfl (by omega) (by rw[ei,Nat.mul_div_cancel _ (by omega)];exact hsz) (by rw[ei,Nat.mul_div_cancel _ (by omega)];omega) ?_
 intro d' h' hst' hd' htk hlen' hot hb
 have hm:isMap [v]=false:=by cases v<;>first|rfl|simp[V.leaf]at hv
 have h6':h'[6]?=some (some [v]):=by
  have h1:=hot 6 h6 (by simp)
  have h2:ab (none::y1::y2::y3::y4::X::some [v]::T) 6=some [v]:=by simp[hm]
  rw[h2]at h1
  exact aA h1
 obtain⟨X',T',rfl⟩:=lit7 (a0:=none) (a1:=y1) (a2:=y2) (a3:=y3) (a4:=y4) (by rw[htk];rfl) h6'
 have hd6:cV d'≠some 6:=by
  rcases hb with hb|hb
  ·rw[hb];exact h6
  ·rw[hb];simp
 refine H d' X' T' (fun y6=>?_) hst'.cells hd6
 rw[dJ]
 have:=hst'.set hd6 y6
 simpa using this
end
end Bi
end Go.Ab
