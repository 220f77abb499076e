/- Several texts of this proof in one. -/
import Derived.Test.YtldfgkjmficliaaGreatPaPr
import Derived.Shelf.Spec.SlicesGrow
set_option linter.all false
set_option maxHeartbeats 16000000
set_option maxRecDepth 100000
namespace Go.Ab
open Go.Proofs Go.Shelf Go.RowKit Go.Lib
def gw(s y:Nat):Prim:=fun _ args h=>match args with
 | [.nils,.int .i64 n]=>if n=0 then some (.nils,h) else if 0<n/\n*y<=140737488355328/\n<=4611686018427387904 then some (.sl h.length 0 0 0 s,h++[some []]) else none
 | _=>none
theorem CU{P:Program}{ρ:Ren}(L:Lays8.n4 P ρ){i0:TypeInfo}{z:Value}(h6:P.info? (ρ.t 25)=some i0)(h7:i0.zero=some z)(h8:0<i0.size)(h9:z.cells.size=i0.size)(hex:∃ fn,P.funcs[ρ.f 4]?=some fn/\fn.body.isNone=false):
  cM P (ρ.f 4) (gw i0.size i0.bytes):=by
 intro cfg args h r h' hx;unfold gw at hx;split at hx
 ·rename_i n;have h3:∀ m w vs,PW m h w [V.nils,.int .i64 n] vs->vs=#[.slice none 0 0,.int .i64 n]:=by
   intro m w vs hp;have hl:vs.size=2:=hp.1;obtain⟨v,u,rfl⟩:∃ v u,vs=#[v,u]:=by
    obtain⟨l⟩:=vs
    match l,hl with
    | [v,u],_=>exact⟨v,u,rfl⟩
   have h0:=hp.2 0 _ v rfl rfl;have h1:=hp.2 1 _ u rfl rfl;cases h0;cases h1;rfl
  split at hx
  ·rename_i hn;subst hn;cases hx;refine⟨.refl _ _,hex,fun m w vs hr hp=>?_⟩;rw[h3 m w vs hp];refine (Any8.slices_Grow_room L none 0 0 0 w (by omega) (by omega) (by omega) (by omega)).mono ?_;rintro e w' ⟨rfl,rfl⟩;exact⟨_,rfl,.same hr .nils⟩
  ·split at hx
   ·rename_i he hn;cases hx;obtain⟨k,rfl⟩:∃ k:Nat,n=k:=⟨n.toNat,by omega⟩;obtain⟨hf,hd,hg⟩:=hn;refine⟨.push _ _ _,hex,fun m w vs hr hp=>?_⟩;rw[h3 m w vs hp];have h4:(0+k)*i0.bytes<=140737488355328:=by
     rw[L3];rw[<- Int.natCast_mul]at hd;omega
    refine (Any8.slices_Grow_grow L i0 z h6 h7 h8 none 0 0 k [] w (by omega) (by omega) h4 (by omega) (by simp) (fun _=>rfl) (fun a ha=>by cases ha)).mono ?_;rintro e w' ⟨rfl,rfl⟩;have hh:=grownCap_ge w (0+k) 0 (ρ.t 25);refine⟨_,rfl,_,(gr (w:=w) (w':=w.drew) rfl rfl rfl rfl).trans (dw _ _),fZ (jM hr (w':=w.drew) rfl rfl rfl rfl) (by simp) (fun i c hc=>by simp at hc),?_⟩;refine qJ (w:=w.drew) (LJ _) ?_ _ (LJ _);rw[kz];simp only[Ow,Nc,size_zeroCells,h9,Me,L3,<- Nat.add_mul];exact Nn _ (by omega)
   ·cases hx
 ·cases hx
end Go.Ab
namespace Go.Ab
open Go.Proofs
namespace Bi
attribute [local congr] aw
def Swq{α:Type}(l:List α)(i to k:Nat)(l':List α):Prop:=l'.length=l.length/\∀ q,l'[q]?=if i<=q/\q<to/\(q<i+k\/to<=q+k) then l[i+to-1-q]? else l[q]?
theorem Swq.zero{α:Type}{l:List α}{i to:Nat}:Swq l i to 0 l:=⟨rfl,fun q=>by rw[if_neg (by omega)]⟩
theorem Swq.at{α:Type}{l l':List α}{i to k q:Nat}(h:Swq l i to k l')(h1:i+k<=q)(h2:q+k<to):l'[q]?=l[q]?:=by
 rw[h.2,if_neg (by omega)]
theorem Swq.step{α:Type}{l l':List α}{i to k:Nat}{x y:α}(h:Swq l i to k l')(hk:i+k+k+1<to)(ht:to<=l.length)(hx:l[i+k]?=some x)(hy:l[to-1-k]?=some y):
  Swq l i to (k+1) ((l'.set (i+k) y).set (to-1-k) x):=by
 refine⟨by simp[h.1],fun q=>?_⟩;rw[Np,Np,h.2];have hl:=h.1;by_cases e1:to-1-k=q
 ·subst e1;rw[if_pos rfl,if_pos (by simp;omega),if_pos (by omega),show i+to-1-(to-1-k)=i+k by omega,hx]
 ·rw[if_neg e1];by_cases e2:i+k=q
  ·subst e2;rw[if_pos rfl,if_pos (by omega),if_pos (by omega),show i+to-1-(i+k)=to-1-k by omega,hy]
  ·rw[if_neg e2];by_cases e3:i<=q/\q<to/\(q<i+k\/to<=q+k)
   ·rw[if_pos e3,if_pos (by omega)]
   ·rw[if_neg e3,if_neg (by omega)]
theorem Swq.fin{α:Type}{a run b l':List α}{k:Nat}(h:Swq (a++run++b) a.length (a.length+run.length) k l')(hk:run.length<=k+k+1):l'=a++run.reverse++b:=by
 apply LY;intro q;rw[h.2];by_cases h1:q<a.length
 ·rw[if_neg (by omega)];simp[Lf,h1]
 ·by_cases h2:q<a.length+run.length
  ·have e:(a++run.reverse++b)[q]?=run.reverse[q-a.length]?:=by
    rw[LD,Lk (by omega),Lf (by simp;omega)]
   have e':∀ p,a.length<=p->p<a.length+run.length->(a++run++b)[p]?=run[p-a.length]?:=fun p p1 p2=>by
    rw[LD,Lk (by omega),Lf (by omega)]
   rw[e,List.getElem?_reverse (by omega)];split
   ·rw[e' _ (by omega) (by omega)];congr 1;omega
   ·rw[e' _ (by omega) (by omega)];congr 1;omega
  ·rw[if_neg (by omega)];rw[Lk (by simp;omega),Lk (by simp;omega)];simp
theorem eZ{l:List V}(h:∀ x∈l,x.leaf=true):isMap l=false:=by
 cases l with
 | nil=>rfl
 | cons x l =>
  have:=h x (Lv ..);cases x<;>first|rfl|cases this
theorem lV{x:V}(h:x.leaf=true):cellsOf x=some [x]:=by
 cases x<;>first|rfl|cases h
section
variable {prim:FuncId->Option Prim}(d:Nat)
theorem Gt(hp:∀ f,Np5 f->prim f=none)(cfg:Cfg)(vs:List V)(hv:∀ x∈vs,x.leaf=true)(hn:vs.length<=4000)(H:Heap)(b:Nat)(hb:ab H b=some vs)(hw:cfg.wr b=true)(h4:cfg.thr<=b):
  af md (K prim (d+1)) cfg 165 [.sl b 0 vs.length vs.length 1] H=some (.tup [],H.set b (some vs.reverse)):=by
 have hh:=al hb;refine call2 rfl (hp 165 (by decide)) Tryz.func165 rfl rfl rfl ?_;simp(disch:=omega)[wrap64];refine ai (fun m fr Hc=>∃ (k:Nat) (l:List V),m=vs.length-k/\k<=vs.length/\(∀ x∈l,x.leaf=true)/\Swq ([]++vs++[]) ([]:List V).length (([]:List V).length+vs.length) k l/\Hc=H.set b (some l) /\
  Slots 28 [(0,.sl b 0 vs.length vs.length 1),(2,.int .i64 k),(3,.int .i64 ((vs.length:Int)-1-k))] fr) (m:=vs.length) (by omega) ⟨0,vs,by omega,by omega,hv,by simpa using Swq.zero,(eR hb).symm,by simp⟩ ?_
 rintro m fr Hc ⟨k,l,rfl,hk,h3,hS,rfl,hs⟩;obtain⟨j,rfl⟩:=hs.ex;clear hs;have h6:=hS.1;simp at h6;by_cases h8:(k:Int)<(vs.length:Int)-1-k
 ·obtain⟨x,hx⟩:=atG (show k<l.length by omega);obtain⟨y,hy⟩:=atG (show vs.length-1-k<l.length by omega);have e1:((vs.length:Int)-1-k).toNat=vs.length-1-k:=by omega
  have l1:k+1<=vs.length:=by omega
  have l2:vs.length-1-k+1<=vs.length:=by omega
  have hm:=eZ h3;have h9:=h3 x (Le hx);have ha:=h3 y (Le hy);have s1:slot l k=some x:=hx;have s2:slot l (vs.length-1-k)=some y:=hy;simp[h8];refine ah 12 (by kernel_rfl) ?_;simp(disch:=omega)[hm,s1,s2,e1,l1,h6,hw,h4,lV h9,lV ha,-getElem?_pos];have h7:∀ (l:List V) i x,bz l i x=l.set i x:=fun _ _ _=>rfl;have hc:∀ z∈l.set k y,z.leaf=true:=fun z hz=>(Nk hz).elim (h3 z) (fun h=>h ▸ ha);have he:∀ z∈(l.set k y).set (vs.length-1-k) x,z.leaf=true:=fun z hz=>(Nk hz).elim (hc z) (fun h=>h ▸ h9);have hf:=(hS.at (q:=k) (by simp) (by simp;omega)).symm.trans hx;have hg:=(hS.at (q:=vs.length-1-k) (by simp;omega) (by simp;omega)).symm.trans hy;have hd:=hS.step (x:=x) (y:=y) (by simp;omega) (by simp) (by simpa using hf) (by simpa using hg);simp only[Me,L3]at hd;simp(disch:=omega)[h7,eZ hc,h6,l2,wrap64,-List.map_set];refine ae (m':=vs.length-(k+1)) (by omega) ⟨k+1,_,rfl,by omega,he,by simpa using hd,rfl,?_⟩;simp(disch:=omega);omega
 ·have h0:=hS.fin (by omega);simp at h0;subst h0;simp[h8]
end
theorem Gd{h:Heap}{lo:Nat}{v:V}{l:List Gly}(ho:OwnC h lo 8 v (l.flatMap ao)):aZ h 8 v=some (l.length,l.flatMap ao):=by
 have hf:=bK l;rcases ho with⟨rfl,h2⟩|⟨b,n,rfl,h2,_,h3⟩
 ·rw[h2]at hf ⊢;have:l.length=0:=by have:=hf.symm;simp at this;omega
  rw[this];rfl
 ·have hn:n=l.length:=by omega
  subst hn;unfold aZ;simp only[h3];rw[if_pos (by simp[hf])];simp only[ML];rw[Lu (by omega)]
theorem Ju{l:List Gly}:(l.flatMap ao).all V.leaf=true:=by
 rw[Lp];intro x hx;obtain⟨g,_,hg⟩:=NI.1 hx;exact Lp.1 (rfl:(ao g).all V.leaf=true) x hg
section
variable {prim:FuncId->Option Prim}(d:Nat)
theorem FB(hG:prim 174=some (gw 8 64))(cfg:Cfg)(h:Heap)(n:Nat)(hn:n<=4000):
  af md (K prim (d+1)) cfg 174 [.nils,.int .i64 n] h=if n=0 then some (.nils,h) else some (.sl h.length 0 0 0 8,h++[some []]):=by
 have hm:md 174=2:=rfl;have hc:K prim (d+1) cfg 174 [.nils,.int .i64 n] h=gw 8 64 cfg [.nils,.int .i64 n] h:=by
  show aN Tryz.prog md prim 10000 (d+1) cfg _ _ h=_;simp only[aN,hG]
 have hg:gw 8 64 cfg [.nils,.int .i64 n] h=if n=0 then some (.nils,h) else some (.sl h.length 0 0 0 8,h++[some []]):=by
  unfold gw;by_cases h0:n=0
  ·simp[h0]
  ·rw[if_neg h0];simp only;rw[if_neg (by omega),if_pos (by omega)]
 unfold af;simp only[hm,hc,hg]
theorem AL(hp:∀ f,Np5 f->prim f=none)(hG:prim 174=some (gw 8 64))(cfg:Cfg)(ps:List (V×List Gly))(hK:ps.length<=4000)(hd:(ps.flatMap Prod.snd).length<=4000)(H:Heap)(b:Nat)(hb:ab H b=some (ps.map Prod.fst))(ho:∀ p∈ps,OwnC H 0 8 p.1 (p.2.flatMap ao))(hr:cfg.lo<=H.length):
  ∃ r H',Hp H' H [(8,r,(ps.flatMap Prod.snd).flatMap ao)] /\
   af md (K prim (d+2)) cfg 166 [.sl b 0 ps.length ps.length 1] H=some (r,H'):=by
 suffices HH:∃ r h2,af md (K prim (d+2)) cfg 166 [.sl b 0 ps.length ps.length 1] H=some (r,h2)/\Hp h2 H [(8,r,(ps.flatMap Prod.snd).flatMap ao)] by
  obtain⟨r,h2,h3,h4⟩:=HH;exact⟨r,h2,h4,h3⟩
 refine pG (Post:=fun r h2=>Hp h2 H [(8,r,(ps.flatMap Prod.snd).flatMap ao)]) rfl (hp 166 (by decide)) Tryz.func166 rfl rfl rfl ?_;have ht:=al hb;have hu:Tryz.prog.underlying 39=some (.slice 97):=by kernel_rfl
 have hv:isMap (ps.map Prod.fst)=false:=eZ fun x hx=>by
  obtain⟨p,hw,rfl⟩:=Mp.1 hx;exact (ho p hw).leaf
 have hy:∀ i,((ps.take i).flatMap Prod.snd).length<=4000:=fun i=>by
  refine Mv ?_ hd
  conv=>rhs;rw[<- List.take_append_drop i ps,List.flatMap_append,Lt]
  omega
 have hn:∀ {i:Nat} {p:V×List Gly},ps[i]?=some p->(ps.take (i+1)).flatMap Prod.snd=(ps.take i).flatMap Prod.snd++p.2:=fun h=>by
  rw[LO,h];simp
 obtain⟨sm,h7⟩:∃ sm:Nat->Nat,∀ i,((ps.take i).flatMap Prod.snd).length=sm i:=⟨fun i=>((ps.take i).flatMap Prod.snd).length,fun _=>rfl⟩;have hz:sm 0=0:=(h7 0).symm;have h8:∀ {i:Nat} {p:V×List Gly},ps[i]?=some p->sm (i+1)=sm i+p.2.length:=fun h=>by rw[<- h7,<- h7,hn h,Lt]
 have hf:∀ i,sm i<=4000:=fun i=>by rw[<- h7];exact hy i
 simp(disch:=omega);refine ai (fun m fr Hc=>∃ (i:Nat),i<=ps.length/\m=ps.length-i/\H=Hc /\
  Slots 36 [(0,.sl b 0 ps.length ps.length 1),(3,.int .i64 (sm i)),(9,.sl b 0 ps.length ps.length 1),(10,.int .i64 ps.length),(11,.int .i64 i)] fr) (m:=ps.length) (by omega) ⟨0,by omega,by omega,rfl,by simp[hz]⟩ ?_
 rintro m fr Hc ⟨i,hi,rfl,rfl,h9⟩;obtain⟨j,rfl⟩:=h9.ex;clear h9;by_cases hg:i<ps.length
 ·have hI:(i:Int)<ps.length:=by omega
  obtain⟨p,h6⟩:=atG hg;have hh:=ho p (Le h6);have hA:=hh.lenF ba (by omega) hu;have hj:slot (ps.map Prod.fst) i=some p.1:=by rw[slot,Ln,h6];rfl
  have h1:=hf (i+1);have h2:=h8 h6;have q1:i+1<=ps.length:=by omega
  have q3:¬ (sm i:Int)+p.2.length<0:=by omega
  simp(disch:=omega)[hI,hb,hj,hA,wrap64,q3,-getElem?_pos];exact ae (m':=ps.length-(i+1)) (by omega) ⟨i+1,by omega,by omega,rfl,by rw[h2];simp(disch:=omega)⟩
 ·obtain rfl:i=ps.length:=by omega
  have hD:=fun cfg h=>FB (prim:=prim) d hG cfg h (sm ps.length) (hf _);have hE:∃ v0 H0,(if sm ps.length=0 then some (V.nils,H) else some (V.sl H.length 0 0 0 8,H++[some []]))=some (v0,H0)/\Hp H0 H [(8,v0,[])]:=by
   by_cases h0:sm ps.length=0
   ·rw[if_pos h0];exact⟨_,_,rfl,Hp.start.nil 8⟩
   ·rw[if_neg h0];exact⟨_,_,rfl,Hp.start.new (n:=0) rfl rfl []⟩
  obtain⟨v0,H0,he,hF⟩:=hE;simp(disch:=omega)[hD,he];refine ai (fun m fr Hc=>∃ (i:Nat) (v:V),i<=ps.length/\m=ps.length-i/\Hp Hc H [(8,v,((ps.take i).flatMap Prod.snd).flatMap ao)] /\
   Slots 36 [(6,v),(25,.sl b 0 ps.length ps.length 1),(26,.int .i64 ps.length),(27,.int .i64 i)] fr) (m:=ps.length) (by omega) ⟨0,v0,by omega,by omega,by simpa using hF,by simp⟩ ?_
  rintro m fr Hc ⟨i,v,hi,rfl,ha,h9⟩;obtain⟨j,rfl⟩:=h9.ex;clear h9;by_cases hg:i<ps.length
  ·have hI:(i:Int)<ps.length:=by omega
   obtain⟨p,h6⟩:=atG hg;have hc:=ho p (Le h6);have hh:OwnC Hc 0 8 p.1 (p.2.flatMap ao):=hc.of_blk fun q hq=>ha.block (hc.blk hq).2;have hH:ab Hc b=some (ps.map Prod.fst):=by rw[ha.block ht];exact hb
   have hj:slot (ps.map Prod.fst) i=some p.1:=by rw[slot,Ln,h6];rfl
   have q1:i+1<=ps.length:=by omega
   have hl:=Gd hh;have hJ:=Ju (l:=p.2);have h1:=hf (i+1);have h2:=h8 h6;have h3:=h7 i;simp(disch:=omega)[hI,hH,hj,hl,hJ,-wU,-getElem?_pos,-List.all_flatMap,-List.all_eq_true];refine Ao (m:=p.2.length) ha hr (bK _) (fS _) (by omega) (by rw[bK,h3,LI _ (by omega)];omega) (by rw[bK,h3,LI _ (by omega)];omega) ?_;intro v' H' hm;simp(disch:=omega)[wrap64];refine ae (m':=ps.length-(i+1)) (by omega) ⟨i+1,v',by omega,by omega,by rw[hn h6,List.flatMap_append];exact hm,by simp(disch:=omega)⟩
  ·obtain rfl:i=ps.length:=by omega
   rw[LQ]at ha;simp(disch:=omega);exact ha
end
def qR(B:List Bool)(ps:List (List Gly))(g:Gly):List (List Gly):=if ps.length=0\/bdA B g.f=true then ps++[[g]] else ps.dropLast++[ps.getLastD []++[g]]
def jc(B:List Bool)(l:List Gly):List (List Gly):=l.foldl (qR B) []
def lL(B:List Bool)(l:List Gly):List Gly:=(jc B l).reverse.flatten
theorem Bq{B:List Bool}{ps:List (List Gly)}{g:Gly}:(qR B ps g).flatten=ps.flatten++[g]:=by
 unfold qR;split
 ·simp
 ·rename_i h;have hne:ps≠[]:=fun e=>h (.inl (by rw[e];rfl));obtain⟨qs,q,rfl⟩:∃ qs q,ps=qs++[q]:=⟨ps.dropLast,ps.getLast hne,(MD hne).symm⟩;simp
theorem fY{B:List Bool}:∀ (l:List Gly),(jc B l).flatten=l:=by
 intro l;unfold jc;suffices H:∀ (l:List Gly) ps,(l.foldl (qR B) ps).flatten=ps.flatten++l by simpa using H l []
 intro l
 induction l with
 | nil=>intro ps;simp
 | cons g l ih=>intro ps;rw[MP,ih,Bq];simp
theorem sO{B:List Bool}{l:List Gly}{g:Gly}:jc B (l++[g])=qR B (jc B l) g:=by
 unfold jc;rw[NZ];rfl
theorem qS{B:List Bool}:∀ (l:List Gly),(jc B l).length<=l.length:=by
 intro l;unfold jc;suffices H:∀ (l:List Gly) ps,(l.foldl (qR B) ps).length<=ps.length+l.length by simpa using H l []
 intro l
 induction l with
 | nil=>intro ps;simp
 | cons g l ih =>
  intro ps;rw[MP];have:=ih (qR B ps g);have h2:(qR B ps g).length<=ps.length+1:=by
   unfold qR;split
   ·simp
   ·simp
  simp only[Lx];omega
theorem wq{B:List Bool}{l:List Gly}(h:0<l.length):0<(jc B l).length:=by
 have h1:=fY (B:=B) l;rcases M8 (jc B l).length with h2|h2
 ·rw[My h2]at h1;rw[<- h1]at h;simp at h
 ·exact h2
theorem qP{h:Heap}{lo k b n:Nat}{cs:List V}(ho:OwnC h lo k (.sl b 0 n n k) cs):lo<=b/\b<h.length/\ab h b=some cs/\cs.length=n*k:=by
 rcases ho with⟨h1,_⟩|⟨b',n',h1,h2,h3,h4⟩
 ·cases h1
 ·simp only[V.sl.injEq]at h1;obtain⟨rfl,_,rfl,_⟩:=h1;exact⟨h3,al h4,h4,h2⟩
abbrev gI(p:V×List Gly):Own:=(8,p.1,p.2.flatMap ao)
section
variable {prim:FuncId->Option Prim}(d:Nat)
theorem JW(hp:∀ f,Np5 f->prim f=none)(hG:prim 174=some (gw 8 64))(t:List Int)(ht:t.length<=2000)(B:List Bool)(hB:B.length=t.length+1)
  (H:Heap) (mw mu bb:Nat) (hT:ab H bb=some (B.map V.bool)) (fo:List Int) (l:List Gly) (a b:Int) (hl:Chn a b l) (hE:0<l.length) (ha:0<=a) (hb:b<=t.length) (v:V) (hX:OwnC H 0 8 v (l.flatMap ao))
  (cfg:Cfg) (k8:cfg.lo<=H.length) (g6:cfg.thr<=H.length):
  ∃ r H',Hp H' H [(8,r,(lL B l).flatMap ao)] /\
   af md (K prim (d+3)) cfg 138 [.agg (prC t fo (.sl bb 0 B.length B.length 1) mw mu),v] H=some (r,H'):=by
 suffices HH:∃ r h2,af md (K prim (d+3)) cfg 138 [.agg (prC t fo (.sl bb 0 B.length B.length 1) mw mu),v] H=some (r,h2)/\Hp h2 H [(8,r,(lL B l).flatMap ao)] by
  obtain⟨r,h2,h3,h4⟩:=HH;exact⟨r,h2,h4,h3⟩
 refine pG (Post:=fun r h2=>Hp h2 H [(8,r,(lL B l).flatMap ao)]) rfl (hp 138 (by decide)) Tryz.func138 rfl rfl rfl ?_;have g7:=al hT;have k9:=hl.len;obtain⟨p1,p2,p3,p4,p5,p6,p7,p8,p9⟩:=yk t fo bb B.length B.length mw mu;have hu:Tryz.prog.underlying 39=some (.slice 97):=by kernel_rfl
 have hY:Tryz.prog.underlying 212=some (.slice 39):=by kernel_rfl
 have g8:=hX.lenF ba (by omega) hu;simp(disch:=omega)[p1,g8];refine ai (fun m fr Hc=>∃ (i:Nat) (vp:V) (ps:List (V×List Gly)),i<=l.length/\m=l.length-i/\ps.map Prod.snd=jc B (l.take i) /\
  Hp Hc (H++[some (prC t fo (.sl bb 0 B.length B.length 1) mw mu)]) ((1,vp,ps.map Prod.fst)::ps.map gI) /\
  Slots 47 [(1,v),(2,.ptr H.length 0),(5,vp),(8,v),(9,.int .i64 l.length),(10,.int .i64 i)] fr) (m:=l.length) (by omega)
  ⟨0,.nils,[],by omega,by omega,by simp[jc],by exact Hp.start.nil 1,by simp⟩ ?_
 rintro m fr Hc ⟨i,vp,ps,hi,rfl,hh,hf,hZ⟩;obtain⟨j,rfl⟩:=hZ.ex;clear hZ;have g0:ps.length=(jc B (l.take i)).length:=by rw[<- hh,MQ]
 have hH:=qS (B:=B) (l.take i);rw[<- g0,Mi]at hH;by_cases g9:i<l.length
 ·have hI:(i:Int)<l.length:=by omega
  obtain⟨g,hg⟩:=atG g9;obtain⟨c1,c2,c3,c4⟩:=hl.get hg;obtain⟨F,hF⟩:∃ F:Nat,g.f=F:=⟨g.f.toNat,by omega⟩;obtain⟨bl,rfl,_,hJ,hK⟩:=hX.posF ba (by omega) (by omega);have w7:H.length+1<=Hc.length:=by have:=hf.le;simpa using this
  have bX:ab Hc H.length=some (prC t fo (.sl bb 0 B.length B.length 1) mw mu):=by rw[hf.block (by simp)];simp[p2]
  have bL:ab Hc bl=some (l.flatMap ao):=by rw[hf.block (by simp;omega),aj hJ];exact hK
  have bB:ab Hc bb=some (B.map V.bool):=by rw[hf.block (by simp;omega),aj g7];exact hT
  have k0:=fW ba hg;have hL:=bK l;have q8:i*8+8<=l.length*8:=by omega
  obtain⟨y1,y2,y3,y4,y5,y6,y7,y8,z0,z1,z3,z4,z5,y0⟩:=Hb g;have y1':=eq_true y1;have y0':=eq_true y0;rw[hF]at y6;have k1:(Cfg.wr cfg Hc.length)=true:=bq (by omega);have w0:slot (B.map V.bool) F=some (.bool (lgB B F)):=by rw[slot,Ln,atB (by omega)];rfl
  have g1:bdA B g.f=lgB B F:=by rw[hF];rfl
  simp +contextual (disch:=first|omega|(simp;done)|(simp[Lj];done)|fail) [-ar,cC,ax,aG,cr,-getElem?_pos,hI,bL,bX,bB,k0,hL,q8,y1',y0',y2,y3,y5,y6,p7,k1,w0];have h6:=(hf.new (k:=8) (n:=1) (cs:=ao g) rfl rfl []).swap;have g2:l.take (i+1)=l.take i++[g]:=by rw[LO,hg];rfl
  refine aq (fun hc=>?_) (fun hc=>?_)
  ·obtain⟨pg,hv⟩:∃ pg:List Gly,pg=[]:=⟨_,rfl⟩;have h7:∀ pv':V,(ps++[(pv',pg++[g])]).map Prod.snd=jc B (l.take (i+1)):=fun pv'=>by
    rw[hv,g2,sO,<- hh,qR,if_pos]
    ·simp
    ·rw[g1];simp at hc;rcases hc with h|h
     ·left;rw[hh,h];simp[jc]
     ·exact .inr h
   obtain⟨qs,k2⟩:∃ qs,qs=ps:=⟨_,rfl⟩;subst k2;simp(disch:=omega);refine bH (m:=1) (hf.new (k:=8) (n:=1) (cs:=ao g) rfl rfl [some [.nils]]).swap (by simp;omega) rfl rfl (by omega) (by omega) (by simp;omega) (by simp;omega) ?_;intro vp Hd h0;have h6:Hp Hd (H++[some (prC t fo (.sl bb 0 B.length B.length 1) mw mu)]) ((1,vp,(qs++[(V.nils,pg)]).map Prod.fst)::(8,.sl Hc.length 0 1 1 8,ao g)::(qs++[(V.nils,pg)]).map gI):=by
    have h3:=h0.nil 8;rw[Mm,Mm];rw[hv];exact h3.perm (MN (gI (.nils,[])) ((1,vp,qs.map Prod.fst++[V.nils])::(8,.sl Hc.length 0 1 1 8,ao g)::qs.map gI)).symm
   obtain⟨pv,k3⟩:∃ pv:V,pv=.nils:=⟨_,rfl⟩;rw[<- k3]at h6;simp(disch:=omega);have h8:=congrArg List.length (congrArg List.flatten (h7 .nils));rw[fY,Mi]at h8;have k4:pg.length+1<=2000:=by simp at h8;omega
   have hM:=h6.head.len1 hY;have k5:qs.length+1<=2000:=by
    have h1:=congrArg List.length (h7 .nils);rw[MQ,Lt,Ml]at h1;have h2:=qS (B:=B) (l.take (i+1));rw[Mi]at h2;omega
   obtain⟨bp,hw,hy,hz,h9⟩:∃ bp,vp=.sl bp 0 (qs.length+1) (qs.length+1) 1/\H.length+1<=bp/\bp<Hd.length/\ab Hd bp=some ((qs++[(pv,pg)]).map Prod.fst):=by
    obtain⟨bp,n,h1,h2,h3,h4,h5⟩:=h6.head.pos (by simp);simp at h2 h3;subst h2;exact⟨bp,h1,h3,h4,h5⟩
   subst hw;have bG:ab Hd Hc.length=some (ao g):=(qP h6.snd).2.2.1;have sl1:slot (qs.map Prod.fst++[pv]) qs.length=some pv:=by rw[slot];simp
   have hq:=(h6.perm (os':=gI (pv,pg)::(1,.sl bp 0 (qs.length+1) (qs.length+1) 1,(qs++[(pv,pg)]).map Prod.fst)::(8,.sl Hc.length 0 1 1 8,ao g)::qs.map gI) (by rw[Mm (f:=gI)];exact MN (gI (pv,pg)) ((1,.sl bp 0 (qs.length+1) (qs.length+1) 1,(qs++[(pv,pg)]).map Prod.fst)::(8,.sl Hc.length 0 1 1 8,ao g)::qs.map gI)));refine ah 12 (by kernel_rfl) ?_;simp(disch:=omega)[hM,wrap64,h9,sl1,bG,y1',y2,y3,y4];refine bH (m:=1) (hq.push _) (by simp;omega) rfl rfl (by omega) (by omega) (by rw[bK,LI _ (by omega)];simp only;omega) (by rw[bK,LI _ (by omega)];simp only;omega) ?_;intro pv' H' h0;have hN:=h0.head.cells;have hj:=h0.head.leaf;obtain⟨_,hO,hd,_⟩:=qP h0.snd;have hP:(Cfg.wr cfg bp)=true:=bq (by omega);have hQ:cfg.thr<=bp:=by omega
   have hm:bz (qs.map Prod.fst++[pv]) qs.length pv'=qs.map Prod.fst++[pv']:=by rw[bz,LU _ _ (by simp)];simp
   have hS:isMap (qs.map Prod.fst++[pv'])=false:=eZ fun x hx=>by
    rcases LA.1 hx with h|h
    ·obtain⟨q,hA,rfl⟩:=Mp.1 h;exact (h0.own (gI q) (Lm _ (Lm _ (Lm _ (Nd hA))))).leaf
    ·rw[LP.1 h];exact hj
   have hn:=h0.swap.setO (cs':=qs.map Prod.fst++[pv']) hS (by simp);have hr:=(hn.perm (os':=(8,.sl Hc.length 0 1 1 8,ao g)::(1,.sl bp 0 (qs.length+1) (qs.length+1) 1,qs.map Prod.fst++[pv'])::(qs.map gI++[(8,pv',pg.flatMap ao++ao g)])) ((M5 _ (ND ..)).trans ((ND ..).trans (M5 _ (M5 _ (MN _ _).symm))))).tail;simp only[Mm,MF,List.map_nil]at hd;simp(disch:=omega)[hd,hP,hQ,hN,hm,wrap64];refine ae (m':=l.length-(i+1)) (by omega) ⟨i+1,.sl bp 0 (qs.length+1) (qs.length+1) 1,qs++[(pv',pg++[g])],by omega,by omega,h7 pv',?_,by simp(disch:=omega)⟩;rw[Mm,Mm];have e:(pg++[g]).flatMap ao=pg.flatMap ao++ao g:=by simp
   show Hp _ _ ((1,_,qs.map Prod.fst++[pv'])::(qs.map gI++[(8,pv',(pg++[g]).flatMap ao)]));rw[e];exact hr
  ·have he:0<ps.length:=by
    rw[g0];refine wq ?_;rw[Mi];simp at hc;omega
   obtain⟨qs,⟨pv,pg⟩,rfl⟩:∃ qs q,ps=qs++[q]:=by
    have hne:ps≠[]:=fun e=>by rw[e]at he;cases he
    exact⟨ps.dropLast,ps.getLast hne,(MD hne).symm⟩
   have h7:∀ pv':V,(qs++[(pv',pg++[g])]).map Prod.snd=jc B (l.take (i+1)):=fun pv'=>by
    rw[g2,sO,<- hh,qR,if_neg]
    ·simp
    ·rw[g1];simp at hc;simp[hc.2]
   generalize w8:Hc++[some (ao g)]=Hd at *;simp(disch:=omega);have h8:=congrArg List.length (congrArg List.flatten (h7 .nils));rw[fY,Mi]at h8;have k4:pg.length+1<=2000:=by simp at h8;omega
   have hM:=h6.head.len1 hY;have k5:qs.length+1<=2000:=by
    have h1:=congrArg List.length (h7 .nils);rw[MQ,Lt,Ml]at h1;have h2:=qS (B:=B) (l.take (i+1));rw[Mi]at h2;omega
   obtain⟨bp,hw,hy,hz,h9⟩:∃ bp,vp=.sl bp 0 (qs.length+1) (qs.length+1) 1/\H.length+1<=bp/\bp<Hd.length/\ab Hd bp=some ((qs++[(pv,pg)]).map Prod.fst):=by
    obtain⟨bp,n,h1,h2,h3,h4,h5⟩:=h6.head.pos (by simp);simp at h2 h3;subst h2;exact⟨bp,h1,h3,h4,h5⟩
   subst hw;have bG:ab Hd Hc.length=some (ao g):=(qP h6.snd).2.2.1;have sl1:slot (qs.map Prod.fst++[pv]) qs.length=some pv:=by rw[slot];simp
   have hq:=(h6.perm (os':=gI (pv,pg)::(1,.sl bp 0 (qs.length+1) (qs.length+1) 1,(qs++[(pv,pg)]).map Prod.fst)::(8,.sl Hc.length 0 1 1 8,ao g)::qs.map gI) (by rw[Mm (f:=gI)];exact MN (gI (pv,pg)) ((1,.sl bp 0 (qs.length+1) (qs.length+1) 1,(qs++[(pv,pg)]).map Prod.fst)::(8,.sl Hc.length 0 1 1 8,ao g)::qs.map gI)));refine ah 12 (by kernel_rfl) ?_;simp(disch:=omega)[hM,wrap64,h9,sl1,bG,y1',y2,y3,y4];refine bH (m:=1) (hq.push _) (by simp;omega) rfl rfl (by omega) (by omega) (by rw[bK,LI _ (by omega)];simp only;omega) (by rw[bK,LI _ (by omega)];simp only;omega) ?_;intro pv' H' h0;have hN:=h0.head.cells;have hj:=h0.head.leaf;obtain⟨_,hO,hd,_⟩:=qP h0.snd;have hP:(Cfg.wr cfg bp)=true:=bq (by omega);have hQ:cfg.thr<=bp:=by omega
   have hm:bz (qs.map Prod.fst++[pv]) qs.length pv'=qs.map Prod.fst++[pv']:=by rw[bz,LU _ _ (by simp)];simp
   have hS:isMap (qs.map Prod.fst++[pv'])=false:=eZ fun x hx=>by
    rcases LA.1 hx with h|h
    ·obtain⟨q,hA,rfl⟩:=Mp.1 h;exact (h0.own (gI q) (Lm _ (Lm _ (Lm _ (Nd hA))))).leaf
    ·rw[LP.1 h];exact hj
   have hn:=h0.swap.setO (cs':=qs.map Prod.fst++[pv']) hS (by simp);have hr:=(hn.perm (os':=(8,.sl Hc.length 0 1 1 8,ao g)::(1,.sl bp 0 (qs.length+1) (qs.length+1) 1,qs.map Prod.fst++[pv'])::(qs.map gI++[(8,pv',pg.flatMap ao++ao g)])) ((M5 _ (ND ..)).trans ((ND ..).trans (M5 _ (M5 _ (MN _ _).symm))))).tail;simp only[Mm,MF,List.map_nil]at hd;simp(disch:=omega)[hd,hP,hQ,hN,hm,wrap64];refine ae (m':=l.length-(i+1)) (by omega) ⟨i+1,.sl bp 0 (qs.length+1) (qs.length+1) 1,qs++[(pv',pg++[g])],by omega,by omega,h7 pv',?_,by simp(disch:=omega)⟩;rw[Mm,Mm];have e:(pg++[g]).flatMap ao=pg.flatMap ao++ao g:=by simp
   show Hp _ _ ((1,_,qs.map Prod.fst++[pv'])::(qs.map gI++[(8,pv',(pg++[g]).flatMap ao)]));rw[e];exact hr
 ·obtain rfl:i=l.length:=by omega
  rw[LQ]at hh;have he:0<ps.length:=by
   have:=wq (B:=B) hE;rw[<- hh,MQ]at this;exact this
  obtain⟨bp,hw,hy,hz,h9⟩:∃ bp,vp=.sl bp 0 ps.length ps.length 1/\H.length+1<=bp/\bp<Hc.length/\ab Hc bp=some (ps.map Prod.fst):=by
   obtain⟨bp,n,h1,h2,h3,h4,h5⟩:=hf.head.pos (fun e=>by simp at e;rw[e]at he;cases he);simp at h2 h3;subst h2;exact⟨bp,h1,h3,h4,h5⟩
  subst hw;have hD:∀ x∈ps.map Prod.fst,x.leaf=true:=fun x hx=>by
   obtain⟨q,hA,rfl⟩:=Mp.1 hx;exact (hf.own (gI q) (Lm _ (Nd hA))).leaf
  have hR:=Gt (prim:=prim) (d+1) hp cfg (ps.map Prod.fst) hD (by simp;omega) Hc bp h9 (bq (by omega)) (by omega);rw[MQ]at hR;have h0:=hf.setO (cs':=(ps.map Prod.fst).reverse) (eZ fun x hx=>hD x (List.mem_reverse.1 hx)) (by simp);have g3:ps.reverse.flatMap Prod.snd=lL B l:=by
   rw[lL,<- hh,<- List.map_reverse];rfl
  have k6:(lL B l).length=l.length:=by
   have h1:=(OA (OB (jc B l))).length_eq;rw[fY]at h1;exact h1
  obtain⟨r,H',g4,g5⟩:=AL (prim:=prim) d hp hG cfg ps.reverse (by simp;omega) (by rw[g3,k6];omega) (Hc.set bp (some (ps.map Prod.fst).reverse)) bp (by rw[(qP h0.head).2.2.1,List.map_reverse]) (fun p k7=>(h0.own (gI p) (Lm _ (Nd (List.mem_reverse.1 k7)))).lo (LJ _)) (by simp;omega);rw[List.length_reverse]at g5;rw[g3]at g4;simp(disch:=omega)[hR,g5];have h4:=(h0.call1 g4).drop (os':=[(8,r,(lL B l).flatMap ao)]) (by simp);have h5:=h4.cut (n:=H.length) (by simp);rwa [MS rfl]at h5
end
end Bi
end Go.Ab
