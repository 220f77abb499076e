/- Several texts of this proof in one. -/
import Derived.Test.YtldfgkjmficliaaGreatAbW2
import Derived.Test.YtldfgkjmficliaaGreatPaPr
import Derived.Shelf.Spec.SlicesGrow
set_option linter.unusedSimpArgs false
set_option linter.unusedVariables false
namespace Go.Ab
open Go.Proofs Go.Shelf Go.RowKit Go.Lib
def fQ(s y:Nat):Prim:=fun _ args h=>match args with
 | [.nils,.int .i64 n]=>if n=0 then some (.nils,h) else if 0<n∧n*y≤140737488355328∧n≤4611686018427387904 then some (.sl h.length 0 0 0 s,h++[some []]) else none
 | _=>none
theorem B5{P:Program}{ρ:Ren}(L:Lays8.n4 P ρ){i0:TypeInfo}{z:Value}(hi0:P.info? (ρ.t 25)=some i0)(hz0:i0.zero=some z)(hs0:0<i0.size)(hzs:z.cells.size=i0.size)(hex:∃ fn,P.funcs[ρ.f 4]?=some fn∧fn.body.isNone=false):
  cj P (ρ.f 4) (fQ i0.size i0.bytes):=by
 intro cfg args h r h' hx
 unfold fQ at hx
 split at hx
 ·rename_i n
  have hargs:∀ m w vs,PW m h w [V.nils,.int .i64 n] vs→vs=#[.slice none 0 0,.int .i64 n]:=by
   intro m w vs hp
   have hl:vs.size=2:=hp.1
   obtain⟨v,u,rfl⟩:∃ v u,vs=#[v,u]:=by
    obtain⟨l⟩:=vs
    match l,hl with
    | [v,u],_=>exact⟨v,u,rfl⟩
   have h0:=hp.2 0 _ v rfl rfl
   have h1:=hp.2 1 _ u rfl rfl
   cases h0
   cases h1
   rfl
  split at hx
  ·rename_i hn
   subst hn
   cases hx
   refine⟨.refl _ _,hex,fun m w vs hr hp=>?_⟩
   rw[hargs m w vs hp]
   refine (Any8.slices_Grow_room L none 0 0 0 w (by omega) (by omega) (by omega) (by omega)).mono ?_
   rintro e w' ⟨rfl,rfl⟩
   exact⟨_,rfl,.same hr .nils⟩
  ·split at hx
   ·rename_i hn0 hn
    cases hx
    obtain⟨k,rfl⟩:∃ k:Nat,n=k:=⟨n.toNat,by omega⟩
    obtain⟨hk1,hk2,hk3⟩:=hn
    refine⟨.push _ _ _,hex,fun m w vs hr hp=>?_⟩
    rw[hargs m w vs hp]
    have hk2':(0+k)*i0.bytes≤140737488355328:=by
     rw[Nat.zero_add]
     rw[← Int.natCast_mul]at hk2
     omega
    refine (Any8.slices_Grow_grow L i0 z hi0 hz0 hs0 none 0 0 k [] w (by omega) (by omega) hk2' (by omega) (by simp) (fun _=>rfl) (fun a ha=>by cases ha)).mono ?_
    rintro e w' ⟨rfl,rfl⟩
    have hgc:=grownCap_ge w (0+k) 0 (ρ.t 25)
    refine⟨_,rfl,_,(gG (w:=w) (w':=w.drew) rfl rfl rfl rfl).trans (dd _ _),fH (lN hr (w':=w.drew) rfl rfl rfl rfl) (by simp) (fun i c hc=>by simp at hc),?_⟩
    refine pQ (w:=w.drew) (Nat.zero_le _) ?_ _ (Nat.zero_le _)
    rw[jH]
    simp only[Array.size_append,List.size_toArray,size_zeroCells,hzs,List.length_nil,Nat.zero_add,← Nat.add_mul]
    exact Nat.mul_le_mul_right _ (by omega)
   ·cases hx
 ·cases hx
end Go.Ab
namespace Go.Ab
open Go.Proofs
namespace Bi
attribute [local congr] az
def Swq{α:Type}(l:List α)(i to k:Nat)(l':List α):Prop:=l'.length=l.length∧∀ q,l'[q]?=if i≤q∧q<to∧(q<i+k∨to≤q+k) then l[i+to-1-q]? else l[q]?
theorem Swq.zero{α:Type}{l:List α}{i to:Nat}:Swq l i to 0 l:=⟨rfl,fun q=>by rw[if_neg (by omega)]⟩
theorem Swq.at{α:Type}{l l':List α}{i to k q:Nat}(h:Swq l i to k l')(h1:i+k≤q)(h2:q+k<to):l'[q]?=l[q]?:=by
 rw[h.2,if_neg (by omega)]
theorem Swq.step{α:Type}{l l':List α}{i to k:Nat}{x y:α}(h:Swq l i to k l')(hk:i+k+k+1<to)(ht:to≤l.length)(hx:l[i+k]?=some x)(hy:l[to-1-k]?=some y):
  Swq l i to (k+1) ((l'.set (i+k) y).set (to-1-k) x):=by
 refine⟨by simp[h.1],fun q=>?_⟩
 rw[List.getElem?_set,List.getElem?_set,h.2]
 have hl:=h.1
 by_cases e1:to-1-k=q
 ·subst e1
  rw[if_pos rfl,if_pos (by simp;omega),if_pos (by omega),show i+to-1-(to-1-k)=i+k by omega,hx]
 ·rw[if_neg e1]
  by_cases e2:i+k=q
  ·subst e2
   rw[if_pos rfl,if_pos (by omega),if_pos (by omega),show i+to-1-(i+k)=to-1-k by omega,hy]
  ·rw[if_neg e2]
   by_cases e3:i≤q∧q<to∧(q<i+k∨to≤q+k)
   ·rw[if_pos e3,if_pos (by omega)]
   ·rw[if_neg e3,if_neg (by omega)]
theorem Swq.fin{α:Type}{a run b l':List α}{k:Nat}(h:Swq (a++run++b) a.length (a.length+run.length) k l')(hk:run.length≤k+k+1):l'=a++run.reverse++b:=by
 apply List.ext_getElem?
 intro q
 rw[h.2]
 by_cases h1:q<a.length
 ·rw[if_neg (by omega)]
  simp[List.getElem?_append_left,h1]
 ·by_cases h2:q<a.length+run.length
  ·have e:(a++run.reverse++b)[q]?=run.reverse[q-a.length]?:=by
    rw[List.append_assoc,List.getElem?_append_right (by omega),List.getElem?_append_left (by simp;omega)]
   have e':∀ p,a.length≤p→p<a.length+run.length→(a++run++b)[p]?=run[p-a.length]?:=fun p p1 p2=>by
    rw[List.append_assoc,List.getElem?_append_right (by omega),List.getElem?_append_left (by omega)]
   rw[e,List.getElem?_reverse (by omega)]
   split
   ·rw[e' _ (by omega) (by omega)]
    congr 1
    omega
   ·rw[e' _ (by omega) (by omega)]
    congr 1
    omega
  ·rw[if_neg (by omega)]
   rw[List.getElem?_append_right (by simp;omega),List.getElem?_append_right (by simp;omega)]
   simp
theorem eJ{l:List V}(h:∀ x∈l,x.leaf=true):isMap l=false:=by
 cases l with
 | nil=>rfl
 | cons x l =>
  have:=h x (List.mem_cons_self ..)
  cases x<;>first|rfl|cases this
theorem kV{x:V}(h:x.leaf=true):cellsOf x=some [x]:=by
 cases x<;>first|rfl|cases h
section
variable {prim:FuncId→Option Prim}(d:Nat)
theorem FI(hp:∀ f,Np5 f→prim f=none)(cfg:Cfg)(vs:List V)(hv:∀ x∈vs,x.leaf=true)(hn:vs.length≤4000)(H:Heap)(b:Nat)(hb:ab H b=some vs)(hw:cfg.wr b=true)(hthr:cfg.thr≤b):
  af md (K prim (d+1)) cfg 165 [.sl b 0 vs.length vs.length 1] H=some (.tup [],H.set b (some vs.reverse)):=by
 have hbl:=aw hb
 refine call2 rfl (hp 165 (by decide)) Tryz.func165 rfl rfl rfl ?_
 simp(disch:=omega)[wrap64]
 refine aj (fun m fr Hc=>∃ (k:Nat) (l:List V),m=vs.length-k∧k≤vs.length∧(∀ x∈l,x.leaf=true)∧Swq ([]++vs++[]) ([]:List V).length (([]:List V).length+vs.length) k l∧Hc=H.set b (some l) ∧
  Slots 28 [(0,.sl b 0 vs.length vs.length 1),(2,.int .i64 k),(3,.int .i64 ((vs.length:Int)-1-k))] fr) (m:=vs.length) (by omega) ⟨0,vs,by omega,by omega,hv,by simpa using Swq.zero,(fk hb).symm,by simp⟩ ?_
 rintro m fr Hc ⟨k,l,rfl,hk,hlf,hS,rfl,hs⟩
 obtain⟨j,rfl⟩:=hs.ex
 clear hs
 have hll:=hS.1
 simp at hll
 by_cases hlt:(k:Int)<(vs.length:Int)-1-k
 ·obtain⟨x,hx⟩:=atG (show k<l.length by omega)
  obtain⟨y,hy⟩:=atG (show vs.length-1-k<l.length by omega)
  have e1:((vs.length:Int)-1-k).toNat=vs.length-1-k:=by omega
  have l1:k+1≤vs.length:=by omega
  have l2:vs.length-1-k+1≤vs.length:=by omega
  have hm:=eJ hlf
  have hxl:=hlf x (List.mem_of_getElem? hx)
  have hyl:=hlf y (List.mem_of_getElem? hy)
  have s1:slot l k=some x:=hx
  have s2:slot l (vs.length-1-k)=some y:=hy
  simp[hlt]
  refine ai 12 (by kernel_rfl) ?_
  simp(disch:=omega)[hm,s1,s2,e1,l1,hll,hw,hthr,kV hxl,kV hyl,-getElem?_pos]
  have hset:∀ (l:List V) i x,bV l i x=l.set i x:=fun _ _ _=>rfl
  have hl1:∀ z∈l.set k y,z.leaf=true:=fun z hz=>(List.mem_or_eq_of_mem_set hz).elim (hlf z) (fun h=>h ▸ hyl)
  have hl2:∀ z∈(l.set k y).set (vs.length-1-k) x,z.leaf=true:=fun z hz=>(List.mem_or_eq_of_mem_set hz).elim (hl1 z) (fun h=>h ▸ hxl)
  have hx':=(hS.at (q:=k) (by simp) (by simp;omega)).symm.trans hx
  have hy':=(hS.at (q:=vs.length-1-k) (by simp;omega) (by simp;omega)).symm.trans hy
  have hst:=hS.step (x:=x) (y:=y) (by simp;omega) (by simp) (by simpa using hx') (by simpa using hy')
  simp only[List.length_nil,Nat.zero_add]at hst
  simp(disch:=omega)[hset,eJ hl1,hll,l2,wrap64,-List.map_set]
  refine ae (m':=vs.length-(k+1)) (by omega) ⟨k+1,_,rfl,by omega,hl2,by simpa using hst,rfl,?_⟩
  simp(disch:=omega)
  omega
 ·have hfin:=hS.fin (by omega)
  simp at hfin
  subst hfin
  simp[hlt]
end
end Bi
end Go.Ab
namespace Go.Ab
open Go.Proofs
namespace Bi
attribute [local congr] az
theorem Ft{h:Heap}{lo:Nat}{v:V}{l:List Gly}(ho:OwnC h lo 8 v (l.flatMap au)):bu h 8 v=some (l.length,l.flatMap au):=by
 have hf:=br l
 rcases ho with⟨rfl,h2⟩|⟨b,n,rfl,h2,_,h3⟩
 ·rw[h2]at hf ⊢
  have:l.length=0:=by have:=hf.symm;simp at this;omega
  rw[this]
  rfl
 ·have hn:n=l.length:=by omega
  subst hn
  unfold bu
  simp only[h3]
  rw[if_pos (by simp[hf])]
  simp only[List.drop_zero]
  rw[List.take_of_length_le (by omega)]
theorem Im{l:List Gly}:(l.flatMap au).all V.leaf=true:=by
 rw[List.all_eq_true]
 intro x hx
 obtain⟨g,_,hg⟩:=List.mem_flatMap.1 hx
 exact List.all_eq_true.1 (rfl:(au g).all V.leaf=true) x hg
section
variable {prim:FuncId→Option Prim}(d:Nat)
theorem EH(hG:prim 174=some (fQ 8 64))(cfg:Cfg)(h:Heap)(n:Nat)(hn:n≤4000):
  af md (K prim (d+1)) cfg 174 [.nils,.int .i64 n] h=if n=0 then some (.nils,h) else some (.sl h.length 0 0 0 8,h++[some []]):=by
 have hm:md 174=2:=rfl
 have hc:K prim (d+1) cfg 174 [.nils,.int .i64 n] h=fQ 8 64 cfg [.nils,.int .i64 n] h:=by
  show aI Tryz.prog md prim 10000 (d+1) cfg _ _ h=_
  simp only[aI,hG]
 have hg:fQ 8 64 cfg [.nils,.int .i64 n] h=if n=0 then some (.nils,h) else some (.sl h.length 0 0 0 8,h++[some []]):=by
  unfold fQ
  by_cases h0:n=0
  ·simp[h0]
  ·rw[if_neg h0]
   simp only
   rw[if_neg (by omega),if_pos (by omega)]
 unfold af
 simp only[hm,hc,hg]
set_option maxRecDepth 100000 in
set_option maxHeartbeats 16000000 in
theorem zK(hp:∀ f,Np5 f→prim f=none)(hG:prim 174=some (fQ 8 64))(cfg:Cfg)(ps:List (V×List Gly))(hps:ps.length≤4000)(hsum:(ps.flatMap Prod.snd).length≤4000)(H:Heap)(b:Nat)(hb:ab H b=some (ps.map Prod.fst))(ho:∀ p∈ps,OwnC H 0 8 p.1 (p.2.flatMap au))(hlo:cfg.lo≤H.length):
  ∃ r H',Hp H' H [(8,r,(ps.flatMap Prod.snd).flatMap au)] ∧
   af md (K prim (d+2)) cfg 166 [.sl b 0 ps.length ps.length 1] H=some (r,H'):=by
 suffices HH:∃ r h2,af md (K prim (d+2)) cfg 166 [.sl b 0 ps.length ps.length 1] H=some (r,h2)∧Hp h2 H [(8,r,(ps.flatMap Prod.snd).flatMap au)] by
  obtain⟨r,h2,h3,h4⟩:=HH
  exact⟨r,h2,h4,h3⟩
 refine su (Post:=fun r h2=>Hp h2 H [(8,r,(ps.flatMap Prod.snd).flatMap au)]) rfl (hp 166 (by decide)) Tryz.func166 rfl rfl rfl ?_
 have hbl:=aw hb
 have hu:Tryz.prog.underlying 39=some (.slice 97):=by kernel_rfl
 have hmap:isMap (ps.map Prod.fst)=false:=eJ fun x hx=>by
  obtain⟨p,hp1,rfl⟩:=List.mem_map.1 hx
  exact (ho p hp1).leaf
 have htk:∀ i,((ps.take i).flatMap Prod.snd).length≤4000:=fun i=>by
  refine Nat.le_trans ?_ hsum
  conv=>rhs;rw[← List.take_append_drop i ps,List.flatMap_append,List.length_append]
  omega
 have hsn:∀ {i:Nat} {p:V×List Gly},ps[i]?=some p→(ps.take (i+1)).flatMap Prod.snd=(ps.take i).flatMap Prod.snd++p.2:=fun h=>by
  rw[List.take_add_one,h]
  simp
 obtain⟨sm,hsm⟩:∃ sm:Nat→Nat,∀ i,((ps.take i).flatMap Prod.snd).length=sm i:=⟨fun i=>((ps.take i).flatMap Prod.snd).length,fun _=>rfl⟩
 have hs0:sm 0=0:=(hsm 0).symm
 have hsn':∀ {i:Nat} {p:V×List Gly},ps[i]?=some p→sm (i+1)=sm i+p.2.length:=fun h=>by rw[← hsm,← hsm,hsn h,List.length_append]
 have hs4:∀ i,sm i≤4000:=fun i=>by rw[← hsm];exact htk i
 simp(disch:=omega)
 refine aj (fun m fr Hc=>∃ (i:Nat),i≤ps.length∧m=ps.length-i∧H=Hc ∧
  Slots 36 [(0,.sl b 0 ps.length ps.length 1),(3,.int .i64 (sm i)),(9,.sl b 0 ps.length ps.length 1),(10,.int .i64 ps.length),(11,.int .i64 i)] fr) (m:=ps.length) (by omega) ⟨0,by omega,by omega,rfl,by simp[hs0]⟩ ?_
 rintro m fr Hc ⟨i,hi,rfl,rfl,hs'⟩
 obtain⟨j,rfl⟩:=hs'.ex
 clear hs'
 by_cases hlt:i<ps.length
 ·have hI:(i:Int)<ps.length:=by omega
  obtain⟨p,hpp⟩:=atG hlt
  have hop:=ho p (List.mem_of_getElem? hpp)
  have hvl:=hop.lenF aP (by omega) hu
  have hat:slot (ps.map Prod.fst) i=some p.1:=by rw[slot,List.getElem?_map,hpp];rfl
  have h1:=hs4 (i+1)
  have h2:=hsn' hpp
  have q1:i+1≤ps.length:=by omega
  have q3:¬ (sm i:Int)+p.2.length<0:=by omega
  simp(disch:=omega)[hI,hb,hat,hvl,wrap64,q3,-getElem?_pos]
  exact ae (m':=ps.length-(i+1)) (by omega) ⟨i+1,by omega,by omega,rfl,by rw[h2];simp(disch:=omega)⟩
 ·obtain rfl:i=ps.length:=by omega
  have hgr:=fun cfg h=>EH (prim:=prim) d hG cfg h (sm ps.length) (hs4 _)
  have hgo:∃ v0 H0,(if sm ps.length=0 then some (V.nils,H) else some (V.sl H.length 0 0 0 8,H++[some []]))=some (v0,H0)∧Hp H0 H [(8,v0,[])]:=by
   by_cases h0:sm ps.length=0
   ·rw[if_pos h0]
    exact⟨_,_,rfl,Hp.start.nil 8⟩
   ·rw[if_neg h0]
    exact⟨_,_,rfl,Hp.start.new (n:=0) rfl rfl []⟩
  obtain⟨v0,H0,he,hh0⟩:=hgo
  simp(disch:=omega)[hgr,he]
  refine aj (fun m fr Hc=>∃ (i:Nat) (v:V),i≤ps.length∧m=ps.length-i∧Hp Hc H [(8,v,((ps.take i).flatMap Prod.snd).flatMap au)] ∧
   Slots 36 [(6,v),(25,.sl b 0 ps.length ps.length 1),(26,.int .i64 ps.length),(27,.int .i64 i)] fr) (m:=ps.length) (by omega) ⟨0,v0,by omega,by omega,by simpa using hh0,by simp⟩ ?_
  rintro m fr Hc ⟨i,v,hi,rfl,hhp,hs'⟩
  obtain⟨j,rfl⟩:=hs'.ex
  clear hs'
  by_cases hlt:i<ps.length
  ·have hI:(i:Int)<ps.length:=by omega
   obtain⟨p,hpp⟩:=atG hlt
   have hop0:=ho p (List.mem_of_getElem? hpp)
   have hop:OwnC Hc 0 8 p.1 (p.2.flatMap au):=hop0.of_blk fun q hq=>hhp.block (hop0.blk hq).2
   have hbc:ab Hc b=some (ps.map Prod.fst):=by rw[hhp.block hbl];exact hb
   have hat:slot (ps.map Prod.fst) i=some p.1:=by rw[slot,List.getElem?_map,hpp];rfl
   have q1:i+1≤ps.length:=by omega
   have hsrc:=Ft hop
   have hlf:=Im (l:=p.2)
   have h1:=hs4 (i+1)
   have h2:=hsn' hpp
   have h3:=hsm i
   simp(disch:=omega)[hI,hbc,hat,hsrc,hlf,-vO,-getElem?_pos,-List.all_flatMap,-List.all_eq_true]
   refine lX (m:=p.2.length) hhp hlo (br _) (fA _) (by omega) (by rw[br,h3,Nat.mul_div_cancel _ (by omega)];omega) (by rw[br,h3,Nat.mul_div_cancel _ (by omega)];omega) ?_
   intro v' H' hhp2
   simp(disch:=omega)[wrap64]
   refine ae (m':=ps.length-(i+1)) (by omega) ⟨i+1,v',by omega,by omega,by rw[hsn hpp,List.flatMap_append];exact hhp2,by simp(disch:=omega)⟩
  ·obtain rfl:i=ps.length:=by omega
   rw[List.take_length]at hhp
   simp(disch:=omega)
   exact hhp
end
end Bi
end Go.Ab
namespace Go.Ab
open Go.Proofs
namespace Bi
attribute [local congr] az
def lM(B:List Bool)(ps:List (List Gly))(g:Gly):List (List Gly):=if ps.length=0∨bdA B g.f=true then ps++[[g]] else ps.dropLast++[ps.getLastD []++[g]]
def gU(B:List Bool)(l:List Gly):List (List Gly):=l.foldl (lM B) []
def jl(B:List Bool)(l:List Gly):List Gly:=(gU B l).reverse.flatten
theorem AH{B:List Bool}{ps:List (List Gly)}{g:Gly}:(lM B ps g).flatten=ps.flatten++[g]:=by
 unfold lM
 split
 ·simp
 ·rename_i h
  have hne:ps≠[]:=fun e=>h (.inl (by rw[e];rfl))
  obtain⟨qs,q,rfl⟩:∃ qs q,ps=qs++[q]:=⟨ps.dropLast,ps.getLast hne,(List.dropLast_concat_getLast hne).symm⟩
  simp
theorem fG{B:List Bool}:∀ (l:List Gly),(gU B l).flatten=l:=by
 intro l
 unfold gU
 suffices H:∀ (l:List Gly) ps,(l.foldl (lM B) ps).flatten=ps.flatten++l by simpa using H l []
 intro l
 induction l with
 | nil=>intro ps;simp
 | cons g l ih=>intro ps;rw[List.foldl_cons,ih,AH];simp
theorem rO{B:List Bool}{l:List Gly}{g:Gly}:gU B (l++[g])=lM B (gU B l) g:=by
 unfold gU
 rw[List.foldl_append]
 rfl
theorem qa{B:List Bool}:∀ (l:List Gly),(gU B l).length≤l.length:=by
 intro l
 unfold gU
 suffices H:∀ (l:List Gly) ps,(l.foldl (lM B) ps).length≤ps.length+l.length by simpa using H l []
 intro l
 induction l with
 | nil=>intro ps;simp
 | cons g l ih =>
  intro ps
  rw[List.foldl_cons]
  have:=ih (lM B ps g)
  have h2:(lM B ps g).length≤ps.length+1:=by
   unfold lM
   split
   ·simp
   ·simp
  simp only[List.length_cons]
  omega
theorem vn{B:List Bool}{l:List Gly}(h:0<l.length):0<(gU B l).length:=by
 have h1:=fG (B:=B) l
 rcases Nat.eq_zero_or_pos (gU B l).length with h2|h2
 ·rw[List.eq_nil_of_length_eq_zero h2]at h1
  rw[← h1]at h
  simp at h
 ·exact h2
theorem pW{h:Heap}{lo k b n:Nat}{cs:List V}(ho:OwnC h lo k (.sl b 0 n n k) cs):lo≤b∧b<h.length∧ab h b=some cs∧cs.length=n*k:=by
 rcases ho with⟨h1,_⟩|⟨b',n',h1,h2,h3,h4⟩
 ·cases h1
 ·simp only[V.sl.injEq]at h1
  obtain⟨rfl,_,rfl,_⟩:=h1
  exact⟨h3,aw h4,h4,h2⟩
abbrev gk(p:V×List Gly):Own:=(8,p.1,p.2.flatMap au)
section
variable {prim:FuncId→Option Prim}(d:Nat)
set_option maxRecDepth 100000 in
set_option maxHeartbeats 16000000 in
theorem I0(hp:∀ f,Np5 f→prim f=none)(hG:prim 174=some (fQ 8 64))(t:List Int)(ht:t.length≤2000)(B:List Bool)(hB:B.length=t.length+1)
  (H:Heap) (mw mu bb:Nat) (hbb:ab H bb=some (B.map V.bool)) (fo:List Int) (l:List Gly) (a b:Int) (hl:Chn a b l) (hpos:0<l.length) (ha:0≤a) (hb:b≤t.length) (v:V) (hov:OwnC H 0 8 v (l.flatMap au))
  (cfg:Cfg) (hlo:cfg.lo≤H.length) (hthr:cfg.thr≤H.length):
  ∃ r H',Hp H' H [(8,r,(jl B l).flatMap au)] ∧
   af md (K prim (d+3)) cfg 138 [.agg (prC t fo (.sl bb 0 B.length B.length 1) mw mu),v] H=some (r,H'):=by
 suffices HH:∃ r h2,af md (K prim (d+3)) cfg 138 [.agg (prC t fo (.sl bb 0 B.length B.length 1) mw mu),v] H=some (r,h2)∧Hp h2 H [(8,r,(jl B l).flatMap au)] by
  obtain⟨r,h2,h3,h4⟩:=HH
  exact⟨r,h2,h4,h3⟩
 refine su (Post:=fun r h2=>Hp h2 H [(8,r,(jl B l).flatMap au)]) rfl (hp 138 (by decide)) Tryz.func138 rfl rfl rfl ?_
 have hbl:=aw hbb
 have hll:=hl.len
 obtain⟨p1,p2,p3,p4,p5,p6,p7,p8,p9⟩:=xw t fo bb B.length B.length mw mu
 have hu:Tryz.prog.underlying 39=some (.slice 97):=by kernel_rfl
 have hu2:Tryz.prog.underlying 212=some (.slice 39):=by kernel_rfl
 have hvl:=hov.lenF aP (by omega) hu
 simp(disch:=omega)[p1,hvl]
 refine aj (fun m fr Hc=>∃ (i:Nat) (vp:V) (ps:List (V×List Gly)),i≤l.length∧m=l.length-i∧ps.map Prod.snd=gU B (l.take i) ∧
  Hp Hc (H++[some (prC t fo (.sl bb 0 B.length B.length 1) mw mu)]) ((1,vp,ps.map Prod.fst)::ps.map gk) ∧
  Slots 47 [(1,v),(2,.ptr H.length 0),(5,vp),(8,v),(9,.int .i64 l.length),(10,.int .i64 i)] fr) (m:=l.length) (by omega)
  ⟨0,.nils,[],by omega,by omega,by simp[gU],by exact Hp.start.nil 1,by simp⟩ ?_
 rintro m fr Hc ⟨i,vp,ps,hi,rfl,hps,hhp,hs'⟩
 obtain⟨j,rfl⟩:=hs'.ex
 clear hs'
 have hpl:ps.length=(gU B (l.take i)).length:=by rw[← hps,List.length_map]
 have hpl2:=qa (B:=B) (l.take i)
 rw[← hpl,List.length_take]at hpl2
 by_cases hlt:i<l.length
 ·have hI:(i:Int)<l.length:=by omega
  obtain⟨g,hg⟩:=atG hlt
  obtain⟨c1,c2,c3,c4⟩:=hl.get hg
  obtain⟨F,hF⟩:∃ F:Nat,g.f=F:=⟨g.f.toNat,by omega⟩
  obtain⟨bl,rfl,_,hbl2,hbl3⟩:=hov.posF aP (by omega) (by omega)
  have hHc:H.length+1≤Hc.length:=by have:=hhp.le;simpa using this
  have bX:ab Hc H.length=some (prC t fo (.sl bb 0 B.length B.length 1) mw mu):=by rw[hhp.block (by simp)];simp[p2]
  have bL:ab Hc bl=some (l.flatMap au):=by rw[hhp.block (by simp;omega),al hbl2];exact hbl3
  have bB:ab Hc bb=some (B.map V.bool):=by rw[hhp.block (by simp;omega),al hbl];exact hbb
  have hgp:=fE aP hg
  have hgl8:=br l
  have q8:i*8+8≤l.length*8:=by omega
  obtain⟨y1,y2,y3,y4,y5,y6,y7,y8,z0,z1,z3,z4,z5,y0⟩:=Gl g
  have y1':=eq_true y1
  have y0':=eq_true y0
  rw[hF]at y6
  have hwl:(Cfg.wr cfg Hc.length)=true:=bE (by omega)
  have w0:slot (B.map V.bool) F=some (.bool (lgB B F)):=by rw[slot,List.getElem?_map,atB (by omega)];rfl
  have hbd:bdA B g.f=lgB B F:=by rw[hF];rfl
  simp +contextual (disch:=first|omega|(simp;done)|(simp[Decidable.imp_iff_not_or];done)|fail) [-ao,bM,aq,ax,bC,-getElem?_pos,hI,bL,bX,bB,hgp,hgl8,q8,y1',y0',y2,y3,y5,y6,p7,hwl,w0]
  have hhp1:=(hhp.new (k:=8) (n:=1) (cs:=au g) rfl rfl []).swap
  have htk:l.take (i+1)=l.take i++[g]:=by rw[List.take_add_one,hg];rfl
  refine ak (fun hc=>?_) (fun hc=>?_)
  ·obtain⟨pg,hpg0⟩:∃ pg:List Gly,pg=[]:=⟨_,rfl⟩
   have hnew:∀ pv':V,(ps++[(pv',pg++[g])]).map Prod.snd=gU B (l.take (i+1)):=fun pv'=>by
    rw[hpg0,htk,rO,← hps,lM,if_pos]
    ·simp
    ·rw[hbd]
     simp at hc
     rcases hc with h|h
     ·left
      rw[hps,h]
      simp[gU]
     ·exact .inr h
   obtain⟨qs,hqs⟩:∃ qs,qs=ps:=⟨_,rfl⟩
   subst hqs
   simp(disch:=omega)
   refine bZ (m:=1) (hhp.new (k:=8) (n:=1) (cs:=au g) rfl rfl [some [.nils]]).swap (by simp;omega) rfl rfl (by omega) (by omega) (by simp;omega) (by simp;omega) ?_
   intro vp Hd hhp2
   have hhp1:Hp Hd (H++[some (prC t fo (.sl bb 0 B.length B.length 1) mw mu)]) ((1,vp,(qs++[(V.nils,pg)]).map Prod.fst)::(8,.sl Hc.length 0 1 1 8,au g)::(qs++[(V.nils,pg)]).map gk):=by
    have h3:=hhp2.nil 8
    rw[List.map_append,List.map_append]
    rw[hpg0]
    exact h3.perm (List.perm_append_singleton (gk (.nils,[])) ((1,vp,qs.map Prod.fst++[V.nils])::(8,.sl Hc.length 0 1 1 8,au g)::qs.map gk)).symm
   obtain⟨pv,hpv⟩:∃ pv:V,pv=.nils:=⟨_,rfl⟩
   rw[← hpv]at hhp1
   simp(disch:=omega)
   have hps1:=congrArg List.length (congrArg List.flatten (hnew .nils))
   rw[fG,List.length_take]at hps1
   have hpg:pg.length+1≤2000:=by simp at hps1;omega
   have hv1:=hhp1.head.len1 hu2
   have hq4:qs.length+1≤2000:=by
    have h1:=congrArg List.length (hnew .nils)
    rw[List.length_map,List.length_append,List.length_singleton]at h1
    have h2:=qa (B:=B) (l.take (i+1))
    rw[List.length_take]at h2
    omega
   obtain⟨bp,hvp,hbp1,hbp2,hbp3⟩:∃ bp,vp=.sl bp 0 (qs.length+1) (qs.length+1) 1∧H.length+1≤bp∧bp<Hd.length∧ab Hd bp=some ((qs++[(pv,pg)]).map Prod.fst):=by
    obtain⟨bp,n,h1,h2,h3,h4,h5⟩:=hhp1.head.pos (by simp)
    simp at h2 h3
    subst h2
    exact⟨bp,h1,h3,h4,h5⟩
   subst hvp
   have bG:ab Hd Hc.length=some (au g):=(pW hhp1.snd).2.2.1
   have sl1:slot (qs.map Prod.fst++[pv]) qs.length=some pv:=by rw[slot];simp
   have hq:=(hhp1.perm (os':=gk (pv,pg)::(1,.sl bp 0 (qs.length+1) (qs.length+1) 1,(qs++[(pv,pg)]).map Prod.fst)::(8,.sl Hc.length 0 1 1 8,au g)::qs.map gk) (by rw[List.map_append (f:=gk)];exact List.perm_append_singleton (gk (pv,pg)) ((1,.sl bp 0 (qs.length+1) (qs.length+1) 1,(qs++[(pv,pg)]).map Prod.fst)::(8,.sl Hc.length 0 1 1 8,au g)::qs.map gk)))
   refine ai 12 (by kernel_rfl) ?_
   simp(disch:=omega)[hv1,wrap64,hbp3,sl1,bG,y1',y2,y3,y4]
   refine bZ (m:=1) (hq.push _) (by simp;omega) rfl rfl (by omega) (by omega) (by rw[br,Nat.mul_div_cancel _ (by omega)];simp only;omega) (by rw[br,Nat.mul_div_cancel _ (by omega)];simp only;omega) ?_
   intro pv' H' hhp2
   have hpc:=hhp2.head.cells
   have hplf:=hhp2.head.leaf
   obtain⟨_,hbp4,hbp5,_⟩:=pW hhp2.snd
   have hwp:(Cfg.wr cfg bp)=true:=bE (by omega)
   have htp:cfg.thr≤bp:=by omega
   have hset:bV (qs.map Prod.fst++[pv]) qs.length pv'=qs.map Prod.fst++[pv']:=by rw[bV,List.set_append_right _ _ (by simp)];simp
   have hmm:isMap (qs.map Prod.fst++[pv'])=false:=eJ fun x hx=>by
    rcases List.mem_append.1 hx with h|h
    ·obtain⟨q,hq1,rfl⟩:=List.mem_map.1 h
     exact (hhp2.own (gk q) (List.mem_cons_of_mem _ (List.mem_cons_of_mem _ (List.mem_cons_of_mem _ (List.mem_map_of_mem hq1))))).leaf
    ·rw[List.mem_singleton.1 h];exact hplf
   have hhp3:=hhp2.swap.setO (cs':=qs.map Prod.fst++[pv']) hmm (by simp)
   have hhp4:=(hhp3.perm (os':=(8,.sl Hc.length 0 1 1 8,au g)::(1,.sl bp 0 (qs.length+1) (qs.length+1) 1,qs.map Prod.fst++[pv'])::(qs.map gk++[(8,pv',pg.flatMap au++au g)])) ((List.Perm.cons _ (List.Perm.swap ..)).trans ((List.Perm.swap ..).trans (List.Perm.cons _ (List.Perm.cons _ (List.perm_append_singleton _ _).symm))))).tail
   simp only[List.map_append,List.map_cons,List.map_nil]at hbp5
   simp(disch:=omega)[hbp5,hwp,htp,hpc,hset,wrap64]
   refine ae (m':=l.length-(i+1)) (by omega) ⟨i+1,.sl bp 0 (qs.length+1) (qs.length+1) 1,qs++[(pv',pg++[g])],by omega,by omega,hnew pv',?_,by simp(disch:=omega)⟩
   rw[List.map_append,List.map_append]
   have e:(pg++[g]).flatMap au=pg.flatMap au++au g:=by simp
   show Hp _ _ ((1,_,qs.map Prod.fst++[pv'])::(qs.map gk++[(8,pv',(pg++[g]).flatMap au)]))
   rw[e]
   exact hhp4
  ·have hps0:0<ps.length:=by
    rw[hpl]
    refine vn ?_
    rw[List.length_take]
    simp at hc
    omega
   obtain⟨qs,⟨pv,pg⟩,rfl⟩:∃ qs q,ps=qs++[q]:=by
    have hne:ps≠[]:=fun e=>by rw[e]at hps0;cases hps0
    exact⟨ps.dropLast,ps.getLast hne,(List.dropLast_concat_getLast hne).symm⟩
   have hnew:∀ pv':V,(qs++[(pv',pg++[g])]).map Prod.snd=gU B (l.take (i+1)):=fun pv'=>by
    rw[htk,rO,← hps,lM,if_neg]
    ·simp
    ·rw[hbd]
     simp at hc
     simp[hc.2]
   generalize hHd:Hc++[some (au g)]=Hd at *
   simp(disch:=omega)
   have hps1:=congrArg List.length (congrArg List.flatten (hnew .nils))
   rw[fG,List.length_take]at hps1
   have hpg:pg.length+1≤2000:=by simp at hps1;omega
   have hv1:=hhp1.head.len1 hu2
   have hq4:qs.length+1≤2000:=by
    have h1:=congrArg List.length (hnew .nils)
    rw[List.length_map,List.length_append,List.length_singleton]at h1
    have h2:=qa (B:=B) (l.take (i+1))
    rw[List.length_take]at h2
    omega
   obtain⟨bp,hvp,hbp1,hbp2,hbp3⟩:∃ bp,vp=.sl bp 0 (qs.length+1) (qs.length+1) 1∧H.length+1≤bp∧bp<Hd.length∧ab Hd bp=some ((qs++[(pv,pg)]).map Prod.fst):=by
    obtain⟨bp,n,h1,h2,h3,h4,h5⟩:=hhp1.head.pos (by simp)
    simp at h2 h3
    subst h2
    exact⟨bp,h1,h3,h4,h5⟩
   subst hvp
   have bG:ab Hd Hc.length=some (au g):=(pW hhp1.snd).2.2.1
   have sl1:slot (qs.map Prod.fst++[pv]) qs.length=some pv:=by rw[slot];simp
   have hq:=(hhp1.perm (os':=gk (pv,pg)::(1,.sl bp 0 (qs.length+1) (qs.length+1) 1,(qs++[(pv,pg)]).map Prod.fst)::(8,.sl Hc.length 0 1 1 8,au g)::qs.map gk) (by rw[List.map_append (f:=gk)];exact List.perm_append_singleton (gk (pv,pg)) ((1,.sl bp 0 (qs.length+1) (qs.length+1) 1,(qs++[(pv,pg)]).map Prod.fst)::(8,.sl Hc.length 0 1 1 8,au g)::qs.map gk)))
   refine ai 12 (by kernel_rfl) ?_
   simp(disch:=omega)[hv1,wrap64,hbp3,sl1,bG,y1',y2,y3,y4]
   refine bZ (m:=1) (hq.push _) (by simp;omega) rfl rfl (by omega) (by omega) (by rw[br,Nat.mul_div_cancel _ (by omega)];simp only;omega) (by rw[br,Nat.mul_div_cancel _ (by omega)];simp only;omega) ?_
   intro pv' H' hhp2
   have hpc:=hhp2.head.cells
   have hplf:=hhp2.head.leaf
   obtain⟨_,hbp4,hbp5,_⟩:=pW hhp2.snd
   have hwp:(Cfg.wr cfg bp)=true:=bE (by omega)
   have htp:cfg.thr≤bp:=by omega
   have hset:bV (qs.map Prod.fst++[pv]) qs.length pv'=qs.map Prod.fst++[pv']:=by rw[bV,List.set_append_right _ _ (by simp)];simp
   have hmm:isMap (qs.map Prod.fst++[pv'])=false:=eJ fun x hx=>by
    rcases List.mem_append.1 hx with h|h
    ·obtain⟨q,hq1,rfl⟩:=List.mem_map.1 h
     exact (hhp2.own (gk q) (List.mem_cons_of_mem _ (List.mem_cons_of_mem _ (List.mem_cons_of_mem _ (List.mem_map_of_mem hq1))))).leaf
    ·rw[List.mem_singleton.1 h];exact hplf
   have hhp3:=hhp2.swap.setO (cs':=qs.map Prod.fst++[pv']) hmm (by simp)
   have hhp4:=(hhp3.perm (os':=(8,.sl Hc.length 0 1 1 8,au g)::(1,.sl bp 0 (qs.length+1) (qs.length+1) 1,qs.map Prod.fst++[pv'])::(qs.map gk++[(8,pv',pg.flatMap au++au g)])) ((List.Perm.cons _ (List.Perm.swap ..)).trans ((List.Perm.swap ..).trans (List.Perm.cons _ (List.Perm.cons _ (List.perm_append_singleton _ _).symm))))).tail
   simp only[List.map_append,List.map_cons,List.map_nil]at hbp5
   simp(disch:=omega)[hbp5,hwp,htp,hpc,hset,wrap64]
   refine ae (m':=l.length-(i+1)) (by omega) ⟨i+1,.sl bp 0 (qs.length+1) (qs.length+1) 1,qs++[(pv',pg++[g])],by omega,by omega,hnew pv',?_,by simp(disch:=omega)⟩
   rw[List.map_append,List.map_append]
   have e:(pg++[g]).flatMap au=pg.flatMap au++au g:=by simp
   show Hp _ _ ((1,_,qs.map Prod.fst++[pv'])::(qs.map gk++[(8,pv',(pg++[g]).flatMap au)]))
   rw[e]
   exact hhp4
 ·obtain rfl:i=l.length:=by omega
  rw[List.take_length]at hps
  have hps0:0<ps.length:=by
   have:=vn (B:=B) hpos
   rw[← hps,List.length_map]at this
   exact this
  obtain⟨bp,hvp,hbp1,hbp2,hbp3⟩:∃ bp,vp=.sl bp 0 ps.length ps.length 1∧H.length+1≤bp∧bp<Hc.length∧ab Hc bp=some (ps.map Prod.fst):=by
   obtain⟨bp,n,h1,h2,h3,h4,h5⟩:=hhp.head.pos (fun e=>by simp at e;rw[e]at hps0;cases hps0)
   simp at h2 h3
   subst h2
   exact⟨bp,h1,h3,h4,h5⟩
  subst hvp
  have hlfp:∀ x∈ps.map Prod.fst,x.leaf=true:=fun x hx=>by
   obtain⟨q,hq1,rfl⟩:=List.mem_map.1 hx
   exact (hhp.own (gk q) (List.mem_cons_of_mem _ (List.mem_map_of_mem hq1))).leaf
  have hR:=FI (prim:=prim) (d+1) hp cfg (ps.map Prod.fst) hlfp (by simp;omega) Hc bp hbp3 (bE (by omega)) (by omega)
  rw[List.length_map]at hR
  have hhp2:=hhp.setO (cs':=(ps.map Prod.fst).reverse) (eJ fun x hx=>hlfp x (List.mem_reverse.1 hx)) (by simp)
  have hfl:ps.reverse.flatMap Prod.snd=jl B l:=by
   rw[jl,← hps,← List.map_reverse]
   rfl
  have hrl:(jl B l).length=l.length:=by
   have h1:=(List.Perm.flatten (List.reverse_perm (gU B l))).length_eq
   rw[fG]at h1
   exact h1
  obtain⟨r,H',hC1,hC2⟩:=zK (prim:=prim) d hp hG cfg ps.reverse (by simp;omega) (by rw[hfl,hrl];omega) (Hc.set bp (some (ps.map Prod.fst).reverse)) bp (by rw[(pW hhp2.head).2.2.1,List.map_reverse]) (fun p hp1=>(hhp2.own (gk p) (List.mem_cons_of_mem _ (List.mem_map_of_mem (List.mem_reverse.1 hp1)))).lo (Nat.zero_le _)) (by simp;omega)
  rw[List.length_reverse]at hC2
  rw[hfl]at hC1
  simp(disch:=omega)[hR,hC2]
  have h4:=(hhp2.call1 hC1).drop (os':=[(8,r,(jl B l).flatMap au)]) (by simp)
  have h5:=h4.cut (n:=H.length) (by simp)
  rwa [List.take_left' rfl]at h5
end
end Bi
end Go.Ab
