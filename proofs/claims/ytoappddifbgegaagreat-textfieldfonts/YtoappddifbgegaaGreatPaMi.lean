/- Several texts of this proof in one. -/
import Derived.Test.YtoappddifbgegaaGreatPaLd
import Derived.Shelf.Spec.SlicesGrow
set_option linter.all false
set_option maxHeartbeats 16000000
set_option maxRecDepth 100000
namespace Go.Ab
open Go.Proofs Go.Proofs.Tryz
namespace Bi
attribute [local congr] az
def kE(t cl:List Int):List Int:=(List.range t.length).map fun q=>if q+1<t.length then fZ (dB t) (clS (dB t)) (mkS (t.length+1) cl) q else 2
theorem pP{t cl:List Int}:(kE t cl).length=t.length:=by simp[kE]
theorem Fj{t cl:List Int}{q:Nat}(h:q+1<t.length):(kE t cl)[q]?=some (fZ (dB t) (clS (dB t)) (mkS (t.length+1) cl) q):=by
 have h1:q<t.length:=by omega
 simp[kE,h1,h]
theorem sj{t cl:List Int}(h:0<t.length):(kE t cl)[t.length-1]?=some 2:=by
 have h1:t.length-1<t.length:=by omega
 have h2:¬ (t.length-1+1<t.length):=by omega
 simp[kE,h1];omega
section
variable {prim:FuncId->Option Prim}(d:Nat)
theorem Ir(hp:∀ f,Np5 f->prim f=none)(t:List Int)(ht:t.length<=2000)(cl:List Int)(hd:∀ x∈cl,0<=x/\x<=t.length)(he:cl.length<=4000)(hC:∀ cfg h,af md (K prim (d+4)) cfg 72 [rl t] h=some (il cl,h))(cfg:Cfg)(h:Heap):
  af md (K prim (d+6)) cfg 167 [rl t] h=some (il (kE t cl),h):=by
 refine aP rfl (hp 167 (by decide)) func167 rfl rfl rfl (by simp) ?_;have hf:¬ (2000:Int)<t.length:=by omega
 have h1:=fun cfg h=>Gc (prim:=prim) d hp t ht cl hd he hC cfg h;by_cases h0:t=[]
 ·subst h0;simp;rfl
 have h7:0<t.length:=LW.2 h0;have h3:=fun cfg h q hq=>AU (prim:=prim) (d+3) hp t.length ht (dB t) (clS (dB t)) (mkS (t.length+1) cl) eH (by rw[oX,eH]) (mo _) q hq cfg h;generalize h4:scC (dB t) (clS (dB t)) (mkS (t.length+1) cl)=S at *;have h9:S.length=3:=by rw[<- h4];rfl
 have hg:S.take 3=S:=by rw[<- h4];rfl
 have hh:isMap S=false:=by rw[<- h4];rfl
 have hj:S.all V.leaf=true:=by rw[<- h4];rfl
 have hl:putAt [V.nils,V.nils,V.nils] 0 S=S:=by rw[<- h4];rfl
 have hF:=@pP t cl;have hz:(List.replicate t.length (0:Int)).length=t.length:=by simp
 simp(disch:=omega)[h0,hf,h1,lM,h9,hj,hl,-List.map_replicate];generalize List.replicate t.length (0:Int)=z0 at *;have hR:(kE t cl).length=z0.length:=by rw[hF,hz]
 refine ah (fun m fr H=>∃ (q:Nat),q+1<=t.length/\m=t.length-(q+1)/\H=[some S,some (((kE t cl).take q++z0.drop q).map (V.int .i64))] /\
  Slots 38 [(0,rl t),(3,.ptr 0 0),(4,.sl 1 0 t.length t.length 1),(5,.int .i64 ((q:Int)+1))] fr) (m:=t.length-1) (by omega) ⟨0,by omega,by omega,by simp,by simp⟩ ?_
 rintro m fr H ⟨q,hq,rfl,rfl,hs⟩;obtain⟨j,rfl⟩:=hs.ex;clear hs;have hle:q+1<=t.length:=hq;have h8:=@bh _ _ _ hR q;rw[hz]at h8;have h6:=fun x=>dG (x:=x) hR (i:=q);by_cases ha:q+1<t.length
 ·have hI:(q:Int)+1<t.length:=by omega
  have hm:=fun cfg h=>h3 cfg h q ha;have hb:=h6 _ (Fj ha);generalize hA:(kE t cl).take q++z0.drop q=A at *;simp(disch:=omega)[hI,hm,hle,wrap64,-getElem?_pos,h9,hg,hh,h8,-List.map_set];refine ae (m':=t.length-(q+1+1)) (by omega) ⟨q+1,by omega,by omega,by rw[hb],by simp(disch:=omega)⟩
 ·have hI:¬ (q:Int)+1<t.length:=by omega
  have hc:q=t.length-1:=by omega
  have hb:=h6 2 (by rw[hc];exact sj h7);rw[dF (i:=q+1) hR (by rw[hz];omega)]at hb;generalize hA:(kE t cl).take q++z0.drop q=A at *;simp(disch:=omega)[hI,wrap64,-getElem?_pos,h8,-List.map_set];rw[<- hc,hb];exact cK (h:=[some S,some ((kE t cl).map (V.int .i64))]) (n:=0) (b:=1) (len:=t.length) (cap:=t.length) (d:=4) (k:=.i64) (l:=kE t cl) (by simp[ab]) (LA _) hF
end
end Bi
end Go.Ab
namespace Go.Ab
open Go.Proofs Go.Shelf Go.RowKit Go.Lib Go.Proofs.Tryz
def gj(s y:Nat):Prim:=fun _ args h=>match args with
 | [.nils,.int .i64 n]=>if n=0 then some (.nils,h) else if 0<n/\n*y<=140737488355328/\n<=4611686018427387904 then some (.sl h.length 0 0 0 s,h++[some []]) else none
 | _=>none
theorem De{P:Program}{ρ:Ren}(L:Lays8.n4 P ρ){i0:TypeInfo}{z:Value}(h6:P.info? (ρ.t 25)=some i0)(h7:i0.zero=some z)(h8:0<i0.size)(h9:z.cells.size=i0.size)(hex:∃ fn,P.funcs[ρ.f 4]?=some fn/\fn.body.isNone=false):
  bw P (ρ.f 4) (gj i0.size i0.bytes):=by
 intro cfg args h r h' hx;unfold gj at hx;split at hx
 ·rename_i n;have h3:∀ m w vs,PW m h w [V.nils,.int .i64 n] vs->vs=#[.slice none 0 0,.int .i64 n]:=by
   intro m w vs hp;have hl:vs.size=2:=hp.1;obtain⟨v,u,rfl⟩:∃ v u,vs=#[v,u]:=by
    obtain⟨l⟩:=vs
    match l,hl with
    | [v,u],_=>simp
   have h0:=hp.2 0 _ v rfl rfl;have h1:=hp.2 1 _ u rfl rfl;cases h0;cases h1;rfl
  split at hx
  ·rename_i hn;subst hn;cases hx;refine⟨.refl _ _,hex,fun m w vs hr hp=>?_⟩;rw[h3 m w vs hp];refine (Any8.slices_Grow_room L none 0 0 0 w (by omega) (by omega) (by omega) (by omega)).mono ?_;rintro e w' ⟨rfl,rfl⟩;exact⟨_,rfl,.same hr .nils⟩
  ·split at hx
   ·rename_i hd hn;cases hx;obtain⟨k,rfl⟩:∃ k:Nat,n=k:=⟨n.toNat,by omega⟩;obtain⟨he,hf,hg⟩:=hn;refine⟨.push _ _ _,hex,fun m w vs hr hp=>?_⟩;rw[h3 m w vs hp];have h4:(0+k)*i0.bytes<=140737488355328:=by
     grind
    refine (Any8.slices_Grow_grow L i0 z h6 h7 h8 none 0 0 k [] w (by omega) (by omega) h4 (by omega) (by simp) (fun _=>rfl) (fun a ha=>by cases ha)).mono ?_;rintro e w' ⟨rfl,rfl⟩;have hh:=grownCap_ge w (0+k) 0 (ρ.t 25);refine⟨_,rfl,_,(fq (w:=w) (w':=w.drew) rfl rfl rfl rfl).trans (cR _ _),fQ (ie hr (w':=w.drew) rfl rfl rfl rfl) (by simp) (fun i c hc=>by grind),?_⟩;refine qO (w:=w.drew) (LA _) ?_ _ (LA _);rw[ku];simp only[N9,MS,size_zeroCells,h9,L3,LU,<- Nat.add_mul];simp_all
   grind
 grind
end Go.Ab
namespace Go.Ab
open Go.Proofs Go.Proofs.Tryz
namespace Bi
attribute [local congr] az
def Swq{α:Type}(l:List α)(i to k:Nat)(l':List α):Prop:=l'.length=l.length/\∀ q,l'[q]?=if i<=q/\q<to/\(q<i+k\/to<=q+k) then l[i+to-1-q]? else l[q]?
theorem Swq.zero{α:Type}{l:List α}{i to:Nat}:Swq l i to 0 l:=⟨rfl,fun q=>by rw[if_neg (by omega)]⟩
theorem Swq.at{α:Type}{l l':List α}{i to k q:Nat}(h:Swq l i to k l')(h1:i+k<=q)(h2:q+k<to):l'[q]?=l[q]?:=by
 rw[h.2,if_neg (by omega)]
theorem Swq.step{α:Type}{l l':List α}{i to k:Nat}{x y:α}(h:Swq l i to k l')(hk:i+k+k+1<to)(ht:to<=l.length)(hx:l[i+k]?=some x)(hy:l[to-1-k]?=some y):
  Swq l i to (k+1) ((l'.set (i+k) y).set (to-1-k) x):=by
 refine⟨by simp[h.1],fun q=>?_⟩;rw[NJ,NJ,h.2];have hl:=h.1;by_cases e1:to-1-k=q
 ·subst e1;rw[if_pos rfl,if_pos (by simp;omega),if_pos (by omega),show i+to-1-(to-1-k)=i+k by omega,hx]
 ·rw[if_neg e1];by_cases e2:i+k=q
  ·subst e2;rw[if_pos rfl,if_pos (by omega),if_pos (by omega),show i+to-1-(i+k)=to-1-k by omega,hy]
  ·rw[if_neg e2];by_cases e3:i<=q/\q<to/\(q<i+k\/to<=q+k)
   ·rw[if_pos e3,if_pos (by omega)]
   ·rw[if_neg e3,if_neg (by omega)]
theorem Swq.fin{α:Type}{a run b l':List α}{k:Nat}(h:Swq (a++run++b) a.length (a.length+run.length) k l')(hk:run.length<=k+k+1):l'=a++run.reverse++b:=by
 apply LJ;intro q;rw[h.2];by_cases h1:q<a.length
 ·rw[if_neg (by omega)];simp[K8,h1]
 ·by_cases h2:q<a.length+run.length
  ·have e:(a++run.reverse++b)[q]?=run.reverse[q-a.length]?:=by
    rw[Ly,Lg (by omega),K8 (by simp;omega)]
   have e':∀ p,a.length<=p->p<a.length+run.length->(a++run++b)[p]?=run[p-a.length]?:=fun p p1 p2=>by
    rw[Ly,Lg (by omega),K8 (by omega)]
   rw[e,List.getElem?_reverse (by omega)];split
   ·rw[e' _ (by omega) (by omega)];congr 1;omega
   ·rw[e' _ (by omega) (by omega)];congr 1;omega
  ·rw[if_neg (by omega)];rw[Lg (by simp;omega),Lg (by simp;omega)];simp
theorem eQ{l:List V}(h:∀ x∈l,x.leaf=true):isMap l=false:=by
 cases l with
 | nil=>rfl
 | cons x l =>
  have:=h x (Ll ..);cases x<;>first|rfl|cases this
theorem lU{x:V}(h:x.leaf=true):cellsOf x=some [x]:=by
 cases x<;>first|rfl|cases h
section
variable {prim:FuncId->Option Prim}(d:Nat)
theorem GK(hp:∀ f,Np5 f->prim f=none)(cfg:Cfg)(vs:List V)(hv:∀ x∈vs,x.leaf=true)(hn:vs.length<=4000)(H:Heap)(b:Nat)(hb:ab H b=some vs)(hw:cfg.wr b=true)(h4:cfg.thr<=b):
  af md (K prim (d+1)) cfg 319 [.sl b 0 vs.length vs.length 1] H=some (.tup [],H.set b (some vs.reverse)):=by
 have hh:=ao hb;refine call2 rfl (hp 319 (by decide)) func319 rfl rfl rfl ?_;simp(disch:=omega)[wrap64];refine ah (fun m fr Hc=>∃ (k:Nat) (l:List V),m=vs.length-k/\k<=vs.length/\(∀ x∈l,x.leaf=true)/\Swq ([]++vs++[]) ([]:List V).length (([]:List V).length+vs.length) k l/\Hc=H.set b (some l) /\
  Slots 28 [(0,.sl b 0 vs.length vs.length 1),(2,.int .i64 k),(3,.int .i64 ((vs.length:Int)-1-k))] fr) (m:=vs.length) (by omega) ⟨0,vs,by omega,by omega,hv,by simpa using Swq.zero,(eK hb).symm,by simp⟩ ?_
 rintro m fr Hc ⟨k,l,rfl,hk,h3,hS,rfl,hs⟩;obtain⟨j,rfl⟩:=hs.ex;clear hs;have h6:=hS.1;simp at h6;by_cases h8:(k:Int)<(vs.length:Int)-1-k
 ·obtain⟨x,hx⟩:=atG (show k<l.length by omega);obtain⟨y,hy⟩:=atG (show vs.length-1-k<l.length by omega);have e1:((vs.length:Int)-1-k).toNat=vs.length-1-k:=by omega
  have l1:k+1<=vs.length:=by omega
  have l2:vs.length-1-k+1<=vs.length:=by omega
  have hm:=eQ h3;have h9:=h3 x (K6 hx);have ha:=h3 y (K6 hy);have s1:slot l k=some x:=hx;have s2:slot l (vs.length-1-k)=some y:=hy;simp[h8];refine ai 12 (by kernel_rfl) ?_;simp(disch:=omega)[hm,s1,s2,e1,l1,h6,hw,h4,lU h9,lU ha,-getElem?_pos];have h7:∀ (l:List V) i x,bR l i x=l.set i x:=fun _ _ _=>rfl;have hc:∀ z∈l.set k y,z.leaf=true:=fun z hz=>(MM hz).elim (h3 z) (fun h=>h ▸ ha);have he:∀ z∈(l.set k y).set (vs.length-1-k) x,z.leaf=true:=fun z hz=>(MM hz).elim (hc z) (fun h=>h ▸ h9);have hf:=(hS.at (q:=k) (by simp) (by simp;omega)).symm.trans hx;have hg:=(hS.at (q:=vs.length-1-k) (by simp;omega) (by simp;omega)).symm.trans hy;have hd:=hS.step (x:=x) (y:=y) (by simp;omega) (by simp) (by simpa using hf) (by simpa using hg);simp only[L3,LU]at hd;simp(disch:=omega)[h7,eQ hc,h6,l2,wrap64,-List.map_set];refine ae (m':=vs.length-(k+1)) (by omega) ⟨k+1,_,rfl,by omega,he,by simpa using hd,rfl,?_⟩;simp(disch:=omega);omega
 ·have h0:=hS.fin (by omega);simp at h0;subst h0;simp[h8]
end
theorem Gv{h:Heap}{lo:Nat}{v:V}{l:List Gly}(ho:OwnC h lo 8 v (l.flatMap aq)):bc h 8 v=some (l.length,l.flatMap aq):=by
 have hf:=bq l;rcases ho with⟨rfl,h2⟩|⟨b,n,rfl,h2,_,h3⟩
 ·rw[h2]at hf ⊢;have:l.length=0:=by have:=hf.symm;simp at this;omega
  rw[this];rfl
 ·have hn:n=l.length:=by omega
  subst hn;unfold bc;simp only[h3];rw[if_pos (by simp[hf])];simp only[Mo];rw[Li (by omega)]
theorem Jx{l:List Gly}:(l.flatMap aq).all V.leaf=true:=by
 rw[Lk];intro x hx;obtain⟨g,_,hg⟩:=M8.1 hx;exact Lk.1 (rfl:(aq g).all V.leaf=true) x hg
section
variable {prim:FuncId->Option Prim}(d:Nat)
theorem FP(hG:prim 329=some (gj 8 64))(cfg:Cfg)(h:Heap)(n:Nat)(hn:n<=4000):
  af md (K prim (d+1)) cfg 329 [.nils,.int .i64 n] h=if n=0 then some (.nils,h) else some (.sl h.length 0 0 0 8,h++[some []]):=by
 have hm:md 329=2:=rfl;have hc:K prim (d+1) cfg 329 [.nils,.int .i64 n] h=gj 8 64 cfg [.nils,.int .i64 n] h:=by
  show aH prog md prim 10000 (d+1) cfg _ _ h=_;simp only[aH,hG]
 have hg:gj 8 64 cfg [.nils,.int .i64 n] h=if n=0 then some (.nils,h) else some (.sl h.length 0 0 0 8,h++[some []]):=by
  unfold gj;by_cases h0:n=0
  ·simp[h0]
  ·rw[if_neg h0];simp only;rw[if_neg (by omega),if_pos (by omega)]
 unfold af;simp only[hm,hc,hg]
theorem A4(hp:∀ f,Np5 f->prim f=none)(hG:prim 329=some (gj 8 64))(cfg:Cfg)(ps:List (V×List Gly))(hK:ps.length<=4000)(hd:(ps.flatMap Prod.snd).length<=4000)(H:Heap)(b:Nat)(hb:ab H b=some (ps.map Prod.fst))(ho:∀ p∈ps,OwnC H 0 8 p.1 (p.2.flatMap aq))(hr:cfg.lo<=H.length):
  ∃ r H',Hp H' H [(8,r,(ps.flatMap Prod.snd).flatMap aq)] /\
   af md (K prim (d+2)) cfg 320 [.sl b 0 ps.length ps.length 1] H=some (r,H'):=by
 suffices HH:∃ r h2,af md (K prim (d+2)) cfg 320 [.sl b 0 ps.length ps.length 1] H=some (r,h2)/\Hp h2 H [(8,r,(ps.flatMap Prod.snd).flatMap aq)] by
  obtain⟨r,h2,h3,h4⟩:=HH;exact⟨r,h2,h4,h3⟩
 refine tD (Post:=fun r h2=>Hp h2 H [(8,r,(ps.flatMap Prod.snd).flatMap aq)]) rfl (hp 320 (by decide)) func320 rfl rfl rfl ?_;have ht:=ao hb;have hu:prog.underlying 160=some (.slice 225):=by kernel_rfl
 have hv:isMap (ps.map Prod.fst)=false:=eQ fun x hx=>by
  obtain⟨p,hw,rfl⟩:=Me.1 hx;exact (ho p hw).leaf
 have hy:∀ i,((ps.take i).flatMap Prod.snd).length<=4000:=fun i=>by
  refine L9 ?_ hd
  conv=>rhs;rw[<- List.take_append_drop i ps,List.flatMap_append,Ln]
  omega
 have hn:∀ {i:Nat} {p:V×List Gly},ps[i]?=some p->(ps.take (i+1)).flatMap Prod.snd=(ps.take i).flatMap Prod.snd++p.2:=fun h=>by
  rw[LD,h];simp
 obtain⟨sm,h7⟩:∃ sm:Nat->Nat,∀ i,((ps.take i).flatMap Prod.snd).length=sm i:=⟨fun i=>((ps.take i).flatMap Prod.snd).length,fun _=>rfl⟩;have hz:sm 0=0:=(h7 0).symm;have h8:∀ {i:Nat} {p:V×List Gly},ps[i]?=some p->sm (i+1)=sm i+p.2.length:=fun h=>by rw[<- h7,<- h7,hn h,Ln]
 have hf:∀ i,sm i<=4000:=fun i=>by rw[<- h7];exact hy i
 simp(disch:=omega);refine ah (fun m fr Hc=>∃ (i:Nat),i<=ps.length/\m=ps.length-i/\H=Hc /\
  Slots 36 [(0,.sl b 0 ps.length ps.length 1),(3,.int .i64 (sm i)),(9,.sl b 0 ps.length ps.length 1),(10,.int .i64 ps.length),(11,.int .i64 i)] fr) (m:=ps.length) (by omega) ⟨0,by omega,by omega,rfl,by simp[hz]⟩ ?_
 rintro m fr Hc ⟨i,hi,rfl,rfl,h9⟩;obtain⟨j,rfl⟩:=h9.ex;clear h9;by_cases hg:i<ps.length
 ·have hI:(i:Int)<ps.length:=by omega
  obtain⟨p,h6⟩:=atG hg;have hh:=ho p (K6 h6);have hA:=hh.lenF aO (by omega) hu;have hj:slot (ps.map Prod.fst) i=some p.1:=by rw[slot,Lh,h6];rfl
  have h1:=hf (i+1);have h2:=h8 h6;have q1:i+1<=ps.length:=by omega
  have q3:¬ (sm i:Int)+p.2.length<0:=by omega
  simp(disch:=omega)[hI,hb,hj,hA,wrap64,q3,-getElem?_pos];exact ae (m':=ps.length-(i+1)) (by omega) ⟨i+1,by omega,by omega,rfl,by rw[h2];simp(disch:=omega)⟩
 ·obtain rfl:i=ps.length:=by omega
  have hD:=fun cfg h=>FP (prim:=prim) d hG cfg h (sm ps.length) (hf _);have hE:∃ v0 H0,(if sm ps.length=0 then some (V.nils,H) else some (V.sl H.length 0 0 0 8,H++[some []]))=some (v0,H0)/\Hp H0 H [(8,v0,[])]:=by
   by_cases h0:sm ps.length=0
   ·rw[if_pos h0];exact⟨_,_,rfl,Hp.start.nil 8⟩
   ·rw[if_neg h0];exact⟨_,_,rfl,Hp.start.new (n:=0) rfl rfl []⟩
  obtain⟨v0,H0,he,hF⟩:=hE;simp(disch:=omega)[hD,he];refine ah (fun m fr Hc=>∃ (i:Nat) (v:V),i<=ps.length/\m=ps.length-i/\Hp Hc H [(8,v,((ps.take i).flatMap Prod.snd).flatMap aq)] /\
   Slots 36 [(6,v),(25,.sl b 0 ps.length ps.length 1),(26,.int .i64 ps.length),(27,.int .i64 i)] fr) (m:=ps.length) (by omega) ⟨0,v0,by omega,by omega,by simpa using hF,by simp⟩ ?_
  rintro m fr Hc ⟨i,v,hi,rfl,ha,h9⟩;obtain⟨j,rfl⟩:=h9.ex;clear h9;by_cases hg:i<ps.length
  ·have hI:(i:Int)<ps.length:=by omega
   obtain⟨p,h6⟩:=atG hg;have hc:=ho p (K6 h6);have hh:OwnC Hc 0 8 p.1 (p.2.flatMap aq):=hc.of_blk fun q hq=>ha.block (hc.blk hq).2;have hH:ab Hc b=some (ps.map Prod.fst):=by rw[ha.block ht];exact hb
   have hj:slot (ps.map Prod.fst) i=some p.1:=by rw[slot,Lh,h6];rfl
   have q1:i+1<=ps.length:=by omega
   have hl:=Gv hh;have hJ:=Jx (l:=p.2);have h1:=hf (i+1);have h2:=h8 h6;have h3:=h7 i;simp(disch:=omega)[hI,hH,hj,hl,hJ,-xh,-getElem?_pos,-List.all_flatMap,-List.all_eq_true];refine AK (m:=p.2.length) ha hr (bq _) (fI _) (by omega) (by rw[bq,h3,Lw _ (by omega)];omega) (by rw[bq,h3,Lw _ (by omega)];omega) ?_;intro v' H' hm;simp(disch:=omega)[wrap64];refine ae (m':=ps.length-(i+1)) (by omega) ⟨i+1,v',by omega,by omega,by rw[hn h6,List.flatMap_append];exact hm,by simp(disch:=omega)⟩
  ·obtain rfl:i=ps.length:=by omega
   rw[LF]at ha;simp(disch:=omega);exact ha
end
def rh(B:List Bool)(ps:List (List Gly))(g:Gly):List (List Gly):=if ps.length=0\/bdA B g.f=true then ps++[[g]] else ps.dropLast++[ps.getLastD []++[g]]
def iW(B:List Bool)(l:List Gly):List (List Gly):=l.foldl (rh B) []
def lK(B:List Bool)(l:List Gly):List Gly:=(iW B l).reverse.flatten
theorem BK{B:List Bool}{ps:List (List Gly)}{g:Gly}:(rh B ps g).flatten=ps.flatten++[g]:=by
 unfold rh;split
 ·simp
 ·rename_i h;have hne:ps≠[]:=fun e=>h (.inl (by rw[e];rfl));obtain⟨qs,q,rfl⟩:∃ qs q,ps=qs++[q]:=⟨ps.dropLast,ps.getLast hne,(ME hne).symm⟩;simp
theorem fP{B:List Bool}:∀ (l:List Gly),(iW B l).flatten=l:=by
 intro l;unfold iW;suffices H:∀ (l:List Gly) ps,(l.foldl (rh B) ps).flatten=ps.flatten++l by simpa using H l []
 intro l
 induction l with
 | nil=>intro ps;simp
 | cons g l ih=>intro ps;rw[Nd,ih,BK];simp
theorem tf{B:List Bool}{l:List Gly}{g:Gly}:iW B (l++[g])=rh B (iW B l) g:=by
 unfold iW;rw[NI];rfl
theorem ri{B:List Bool}:∀ (l:List Gly),(iW B l).length<=l.length:=by
 intro l;unfold iW;suffices H:∀ (l:List Gly) ps,(l.foldl (rh B) ps).length<=ps.length+l.length by simpa using H l []
 intro l
 induction l with
 | nil=>intro ps;simp
 | cons g l ih =>
  intro ps;rw[Nd];have:=ih (rh B ps g);have h2:(rh B ps g).length<=ps.length+1:=by
   unfold rh;split
   ·simp
   ·simp
  simp only[Lp];omega
theorem wI{B:List Bool}{l:List Gly}(h:0<l.length):0<(iW B l).length:=by
 have h1:=fP (B:=B) l;rcases MN (iW B l).length with h2|h2
 ·rw[Ml h2]at h1;rw[<- h1]at h;simp at h
 ·exact h2
theorem qU{h:Heap}{lo k b n:Nat}{cs:List V}(ho:OwnC h lo k (.sl b 0 n n k) cs):lo<=b/\b<h.length/\ab h b=some cs/\cs.length=n*k:=by
 rcases ho with⟨h1,_⟩|⟨b',n',h1,h2,h3,h4⟩
 ·cases h1
 ·simp only[V.sl.injEq]at h1;obtain⟨rfl,_,rfl,_⟩:=h1;exact⟨h3,ao h4,h4,h2⟩
abbrev gA(p:V×List Gly):Own:=(8,p.1,p.2.flatMap aq)
section
variable {prim:FuncId->Option Prim}(d:Nat)
theorem JM(hp:∀ f,Np5 f->prim f=none)(hG:prim 329=some (gj 8 64))(t:List Int)(ht:t.length<=2000)(B:List Bool)(hB:B.length=t.length+1)
  (H:Heap) (mw mu bb:Nat) (hT:ab H bb=some (B.map V.bool)) (fo:List Int) (l:List Gly) (a b:Int) (hl:Chn a b l) (hE:0<l.length) (ha:0<=a) (hb:b<=t.length) (v:V) (hX:OwnC H 0 8 v (l.flatMap aq))
  (cfg:Cfg) (k8:cfg.lo<=H.length) (g6:cfg.thr<=H.length):
  ∃ r H',Hp H' H [(8,r,(lK B l).flatMap aq)] /\
   af md (K prim (d+3)) cfg 294 [.agg (prC t fo (.sl bb 0 B.length B.length 1) mw mu),v] H=some (r,H'):=by
 suffices HH:∃ r h2,af md (K prim (d+3)) cfg 294 [.agg (prC t fo (.sl bb 0 B.length B.length 1) mw mu),v] H=some (r,h2)/\Hp h2 H [(8,r,(lK B l).flatMap aq)] by
  obtain⟨r,h2,h3,h4⟩:=HH;exact⟨r,h2,h4,h3⟩
 refine tD (Post:=fun r h2=>Hp h2 H [(8,r,(lK B l).flatMap aq)]) rfl (hp 294 (by decide)) func294 rfl rfl rfl ?_;have g7:=ao hT;have k9:=hl.len;obtain⟨p1,p2,p3,p4,p5,p6,p7,p8,p9⟩:=yB t fo bb B.length B.length mw mu;have hu:prog.underlying 160=some (.slice 225):=by kernel_rfl
 have hY:prog.underlying 342=some (.slice 160):=by kernel_rfl
 have g8:=hX.lenF aO (by omega) hu;simp(disch:=omega)[p1,g8];refine ah (fun m fr Hc=>∃ (i:Nat) (vp:V) (ps:List (V×List Gly)),i<=l.length/\m=l.length-i/\ps.map Prod.snd=iW B (l.take i) /\
  Hp Hc (H++[some (prC t fo (.sl bb 0 B.length B.length 1) mw mu)]) ((1,vp,ps.map Prod.fst)::ps.map gA) /\
  Slots 47 [(1,v),(2,.ptr H.length 0),(5,vp),(8,v),(9,.int .i64 l.length),(10,.int .i64 i)] fr) (m:=l.length) (by omega)
  ⟨0,.nils,[],by omega,by omega,by simp[iW],by exact Hp.start.nil 1,by simp⟩ ?_
 rintro m fr Hc ⟨i,vp,ps,hi,rfl,hh,hf,hZ⟩;obtain⟨j,rfl⟩:=hZ.ex;clear hZ;have g0:ps.length=(iW B (l.take i)).length:=by rw[<- hh,ML]
 have hH:=ri (B:=B) (l.take i);rw[<- g0,L6]at hH;by_cases g9:i<l.length
 ·have hI:(i:Int)<l.length:=by omega
  obtain⟨g,hg⟩:=atG g9;obtain⟨c1,c2,c3,c4⟩:=hl.get hg;obtain⟨F,hF⟩:∃ F:Nat,g.f=F:=⟨g.f.toNat,by omega⟩;obtain⟨bl,rfl,_,hJ,hK⟩:=hX.posF aO (by omega) (by omega);have w7:H.length+1<=Hc.length:=by have:=hf.le;simpa using this
  have bX:ab Hc H.length=some (prC t fo (.sl bb 0 B.length B.length 1) mw mu):=by rw[hf.block (by simp)];simp[p2]
  have bL:ab Hc bl=some (l.flatMap aq):=by rw[hf.block (by simp;omega),aj hJ];exact hK
  have bB:ab Hc bb=some (B.map V.bool):=by rw[hf.block (by simp;omega),aj g7];exact hT
  have k0:=fN aO hg;have hL:=bq l;have q8:i*8+8<=l.length*8:=by omega
  obtain⟨y1,y2,y3,y4,y5,y6,y7,y8,z0,z1,z3,z4,z5,y0⟩:=HA g;have y1':=eq_true y1;have y0':=eq_true y0;rw[hF]at y6;have k1:(Cfg.wr cfg Hc.length)=true:=bH (by omega);have w0:slot (B.map V.bool) F=some (.bool (lgB B F)):=by rw[slot,Lh,atB (by omega)];rfl
  have g1:bdA B g.f=lgB B F:=by rw[hF];rfl
  simp +contextual (disch:=first|omega|(simp;done)|(simp[Le];done)|fail) [-au,cu,aw,aD,cp,-getElem?_pos,hI,bL,bX,bB,k0,hL,q8,y1',y0',y2,y3,y5,y6,p7,k1,w0];have h6:=(hf.new (k:=8) (n:=1) (cs:=aq g) rfl rfl []).swap;have g2:l.take (i+1)=l.take i++[g]:=by rw[LD,hg];rfl
  refine ar (fun hc=>?_) (fun hc=>?_)
  ·obtain⟨pg,hv⟩:∃ pg:List Gly,pg=[]:=⟨_,rfl⟩;have h7:∀ pv':V,(ps++[(pv',pg++[g])]).map Prod.snd=iW B (l.take (i+1)):=fun pv'=>by
    rw[hv,g2,tf,<- hh,rh,if_pos]
    ·simp
    ·rw[g1];simp at hc;rcases hc with h|h
     ·left;rw[hh,h];simp[iW]
     ·exact .inr h
   obtain⟨qs,k2⟩:∃ qs,qs=ps:=⟨_,rfl⟩;subst k2;simp(disch:=omega);refine cg (m:=1) (hf.new (k:=8) (n:=1) (cs:=aq g) rfl rfl [some [.nils]]).swap (by simp;omega) rfl rfl (by omega) (by omega) (by simp;omega) (by simp;omega) ?_;intro vp Hd h0;have h6:Hp Hd (H++[some (prC t fo (.sl bb 0 B.length B.length 1) mw mu)]) ((1,vp,(qs++[(V.nils,pg)]).map Prod.fst)::(8,.sl Hc.length 0 1 1 8,aq g)::(qs++[(V.nils,pg)]).map gA):=by
    have h3:=h0.nil 8;rw[LR,LR];rw[hv];exact h3.perm (My (gA (.nils,[])) ((1,vp,qs.map Prod.fst++[V.nils])::(8,.sl Hc.length 0 1 1 8,aq g)::qs.map gA)).symm
   obtain⟨pv,k3⟩:∃ pv:V,pv=.nils:=⟨_,rfl⟩;rw[<- k3]at h6;simp(disch:=omega);have h8:=congrArg List.length (congrArg List.flatten (h7 .nils));rw[fP,L6]at h8;have k4:pg.length+1<=2000:=by simp at h8;omega
   have hM:=h6.head.len1 hY;have k5:qs.length+1<=2000:=by
    have h1:=congrArg List.length (h7 .nils);rw[ML,Ln,LZ]at h1;have h2:=ri (B:=B) (l.take (i+1));rw[L6]at h2;omega
   obtain⟨bp,hw,hy,hz,h9⟩:∃ bp,vp=.sl bp 0 (qs.length+1) (qs.length+1) 1/\H.length+1<=bp/\bp<Hd.length/\ab Hd bp=some ((qs++[(pv,pg)]).map Prod.fst):=by
    obtain⟨bp,n,h1,h2,h3,h4,h5⟩:=h6.head.pos (by simp);simp at h2 h3;subst h2;exact⟨bp,h1,h3,h4,h5⟩
   subst hw;have bG:ab Hd Hc.length=some (aq g):=(qU h6.snd).2.2.1;have sl1:slot (qs.map Prod.fst++[pv]) qs.length=some pv:=by rw[slot];simp
   have hq:=(h6.perm (os':=gA (pv,pg)::(1,.sl bp 0 (qs.length+1) (qs.length+1) 1,(qs++[(pv,pg)]).map Prod.fst)::(8,.sl Hc.length 0 1 1 8,aq g)::qs.map gA) (by rw[LR (f:=gA)];exact My (gA (pv,pg)) ((1,.sl bp 0 (qs.length+1) (qs.length+1) 1,(qs++[(pv,pg)]).map Prod.fst)::(8,.sl Hc.length 0 1 1 8,aq g)::qs.map gA)));refine ai 12 (by kernel_rfl) ?_;simp(disch:=omega)[hM,wrap64,h9,sl1,bG,y1',y2,y3,y4];refine cg (m:=1) (hq.push _) (by simp;omega) rfl rfl (by omega) (by omega) (by rw[bq,Lw _ (by omega)];simp only;omega) (by rw[bq,Lw _ (by omega)];simp only;omega) ?_;intro pv' H' h0;have hN:=h0.head.cells;have hj:=h0.head.leaf;obtain⟨_,hO,hd,_⟩:=qU h0.snd;have hP:(Cfg.wr cfg bp)=true:=bH (by omega);have hQ:cfg.thr<=bp:=by omega
   have hm:bR (qs.map Prod.fst++[pv]) qs.length pv'=qs.map Prod.fst++[pv']:=by rw[bR,LO _ _ (by simp)];simp
   have hS:isMap (qs.map Prod.fst++[pv'])=false:=eQ fun x hx=>by
    rcases LB.1 hx with h|h
    ·obtain⟨q,hA,rfl⟩:=Me.1 h;exact (h0.own (gA q) (Lc _ (Lc _ (Lc _ (MX hA))))).leaf
    ·rw[LN.1 h];exact hj
   have hn:=h0.swap.setO (cs':=qs.map Prod.fst++[pv']) hS (by simp);have hr:=(hn.perm (os':=(8,.sl Hc.length 0 1 1 8,aq g)::(1,.sl bp 0 (qs.length+1) (qs.length+1) 1,qs.map Prod.fst++[pv'])::(qs.map gA++[(8,pv',pg.flatMap aq++aq g)])) ((MJ _ (Nl ..)).trans ((Nl ..).trans (MJ _ (MJ _ (My _ _).symm))))).tail;simp only[LR,Mk,List.map_nil]at hd;simp(disch:=omega)[hd,hP,hQ,hN,hm,wrap64];refine ae (m':=l.length-(i+1)) (by omega) ⟨i+1,.sl bp 0 (qs.length+1) (qs.length+1) 1,qs++[(pv',pg++[g])],by omega,by omega,h7 pv',?_,by simp(disch:=omega)⟩;rw[LR,LR];have e:(pg++[g]).flatMap aq=pg.flatMap aq++aq g:=by simp
   show Hp _ _ ((1,_,qs.map Prod.fst++[pv'])::(qs.map gA++[(8,pv',(pg++[g]).flatMap aq)]));rw[e];exact hr
  ·have he:0<ps.length:=by
    rw[g0];refine wI ?_;rw[L6];simp at hc;omega
   obtain⟨qs,⟨pv,pg⟩,rfl⟩:∃ qs q,ps=qs++[q]:=by
    have hne:ps≠[]:=fun e=>by rw[e]at he;cases he
    exact⟨ps.dropLast,ps.getLast hne,(ME hne).symm⟩
   have h7:∀ pv':V,(qs++[(pv',pg++[g])]).map Prod.snd=iW B (l.take (i+1)):=fun pv'=>by
    rw[g2,tf,<- hh,rh,if_neg]
    ·simp
    ·rw[g1];simp at hc;simp[hc.2]
   generalize w8:Hc++[some (aq g)]=Hd at *;simp(disch:=omega);have h8:=congrArg List.length (congrArg List.flatten (h7 .nils));rw[fP,L6]at h8;have k4:pg.length+1<=2000:=by simp at h8;omega
   have hM:=h6.head.len1 hY;have k5:qs.length+1<=2000:=by
    have h1:=congrArg List.length (h7 .nils);rw[ML,Ln,LZ]at h1;have h2:=ri (B:=B) (l.take (i+1));rw[L6]at h2;omega
   obtain⟨bp,hw,hy,hz,h9⟩:∃ bp,vp=.sl bp 0 (qs.length+1) (qs.length+1) 1/\H.length+1<=bp/\bp<Hd.length/\ab Hd bp=some ((qs++[(pv,pg)]).map Prod.fst):=by
    obtain⟨bp,n,h1,h2,h3,h4,h5⟩:=h6.head.pos (by simp);simp at h2 h3;subst h2;exact⟨bp,h1,h3,h4,h5⟩
   subst hw;have bG:ab Hd Hc.length=some (aq g):=(qU h6.snd).2.2.1;have sl1:slot (qs.map Prod.fst++[pv]) qs.length=some pv:=by rw[slot];simp
   have hq:=(h6.perm (os':=gA (pv,pg)::(1,.sl bp 0 (qs.length+1) (qs.length+1) 1,(qs++[(pv,pg)]).map Prod.fst)::(8,.sl Hc.length 0 1 1 8,aq g)::qs.map gA) (by rw[LR (f:=gA)];exact My (gA (pv,pg)) ((1,.sl bp 0 (qs.length+1) (qs.length+1) 1,(qs++[(pv,pg)]).map Prod.fst)::(8,.sl Hc.length 0 1 1 8,aq g)::qs.map gA)));refine ai 12 (by kernel_rfl) ?_;simp(disch:=omega)[hM,wrap64,h9,sl1,bG,y1',y2,y3,y4];refine cg (m:=1) (hq.push _) (by simp;omega) rfl rfl (by omega) (by omega) (by rw[bq,Lw _ (by omega)];simp only;omega) (by rw[bq,Lw _ (by omega)];simp only;omega) ?_;intro pv' H' h0;have hN:=h0.head.cells;have hj:=h0.head.leaf;obtain⟨_,hO,hd,_⟩:=qU h0.snd;have hP:(Cfg.wr cfg bp)=true:=bH (by omega);have hQ:cfg.thr<=bp:=by omega
   have hm:bR (qs.map Prod.fst++[pv]) qs.length pv'=qs.map Prod.fst++[pv']:=by rw[bR,LO _ _ (by simp)];simp
   have hS:isMap (qs.map Prod.fst++[pv'])=false:=eQ fun x hx=>by
    rcases LB.1 hx with h|h
    ·obtain⟨q,hA,rfl⟩:=Me.1 h;exact (h0.own (gA q) (Lc _ (Lc _ (Lc _ (MX hA))))).leaf
    ·rw[LN.1 h];exact hj
   have hn:=h0.swap.setO (cs':=qs.map Prod.fst++[pv']) hS (by simp);have hr:=(hn.perm (os':=(8,.sl Hc.length 0 1 1 8,aq g)::(1,.sl bp 0 (qs.length+1) (qs.length+1) 1,qs.map Prod.fst++[pv'])::(qs.map gA++[(8,pv',pg.flatMap aq++aq g)])) ((MJ _ (Nl ..)).trans ((Nl ..).trans (MJ _ (MJ _ (My _ _).symm))))).tail;simp only[LR,Mk,List.map_nil]at hd;simp(disch:=omega)[hd,hP,hQ,hN,hm,wrap64];refine ae (m':=l.length-(i+1)) (by omega) ⟨i+1,.sl bp 0 (qs.length+1) (qs.length+1) 1,qs++[(pv',pg++[g])],by omega,by omega,h7 pv',?_,by simp(disch:=omega)⟩;rw[LR,LR];have e:(pg++[g]).flatMap aq=pg.flatMap aq++aq g:=by simp
   show Hp _ _ ((1,_,qs.map Prod.fst++[pv'])::(qs.map gA++[(8,pv',(pg++[g]).flatMap aq)]));rw[e];exact hr
 ·obtain rfl:i=l.length:=by omega
  rw[LF]at hh;have he:0<ps.length:=by
   have:=wI (B:=B) hE;rw[<- hh,ML]at this;exact this
  obtain⟨bp,hw,hy,hz,h9⟩:∃ bp,vp=.sl bp 0 ps.length ps.length 1/\H.length+1<=bp/\bp<Hc.length/\ab Hc bp=some (ps.map Prod.fst):=by
   obtain⟨bp,n,h1,h2,h3,h4,h5⟩:=hf.head.pos (fun e=>by simp at e;rw[e]at he;cases he);simp at h2 h3;subst h2;exact⟨bp,h1,h3,h4,h5⟩
  subst hw;have hD:∀ x∈ps.map Prod.fst,x.leaf=true:=fun x hx=>by
   obtain⟨q,hA,rfl⟩:=Me.1 hx;exact (hf.own (gA q) (Lc _ (MX hA))).leaf
  have hR:=GK (prim:=prim) (d+1) hp cfg (ps.map Prod.fst) hD (by simp;omega) Hc bp h9 (bH (by omega)) (by omega);rw[ML]at hR;have h0:=hf.setO (cs':=(ps.map Prod.fst).reverse) (eQ fun x hx=>hD x (List.mem_reverse.1 hx)) (by simp);have g3:ps.reverse.flatMap Prod.snd=lK B l:=by
   rw[lK,<- hh,<- List.map_reverse];rfl
  have k6:(lK B l).length=l.length:=by
   have h1:=(Oe (Og (iW B l))).length_eq;rw[fP]at h1;exact h1
  obtain⟨r,H',g4,g5⟩:=A4 (prim:=prim) d hp hG cfg ps.reverse (by simp;omega) (by rw[g3,k6];omega) (Hc.set bp (some (ps.map Prod.fst).reverse)) bp (by rw[(qU h0.head).2.2.1,List.map_reverse]) (fun p k7=>(h0.own (gA p) (Lc _ (MX (List.mem_reverse.1 k7)))).lo (LA _)) (by simp;omega);rw[List.length_reverse]at g5;rw[g3]at g4;simp(disch:=omega)[hR,g5];have h4:=(h0.call1 g4).drop (os':=[(8,r,(lK B l).flatMap aq)]) (by simp);have h5:=h4.cut (n:=H.length) (by simp);rwa [Mz rfl]at h5
end
end Bi
end Go.Ab
namespace Go.Ab
open Go.Proofs Go.Proofs.Tryz
namespace Bi
def otTab:List (Int×Int):=[(60,62),(171,187),(8804,8805)]
def mirS(r:Int):Int:=if (iU brTab r).2<0 then (iU otTab r).1 else (iU brTab r).1
section
variable {prim:FuncId->Option Prim}(d:Nat) (cfg:Cfg) (h:Heap)
theorem BF(hp:prim 317=none):af md (K prim (d+1)) cfg 317 [] h=some (prl otTab,h):=by
 have hk:∃ v H,K prim (d+1) ⟨0,[],0⟩ 317 [] []=some (v,H)/\frz H 0 6 v=some (prl otTab):=by
  simp only[K,aH,hp];exact⟨.sl 0 0 3 3 2,[some (otTab.flatMap fun x=>[.int .i32 x.1,.int .i32 x.2])],by kernel_rfl,by kernel_rfl⟩
 obtain⟨v,H,h1,h2⟩:=hk;simp only[af,show md 317=0 from rfl,Np,if_true,h1,h2]
theorem FD(hp:∀ f,Np5 f->prim f=none)(r:Int):af md (K prim (d+2)) cfg 291 [.int .i32 r] h=some (.int .i32 (mirS r),h):=by
 refine aP rfl (hp 291 (by decide)) func291 rfl rfl rfl (by simp) ?_;have h1:=fun cfg h=>kM (prim:=prim) d cfg h (hp 316 (by decide));have h2:=fun cfg h=>qT (prim:=prim) d cfg h (hp 315 (by decide)) brTab (by decide) r;have h3:=fun cfg h=>BF (prim:=prim) d cfg h (hp 317 (by decide));have h4:=fun cfg h=>qT (prim:=prim) d cfg h (hp 315 (by decide)) otTab (by decide) r;unfold mirS;generalize iU brTab r=x at *;generalize iU otTab r=y at *;obtain⟨x1,x2⟩:=x;generalize brTab=bt at *;generalize otTab=ot at *;by_cases c1:x2<0
 ·simp[h1,h2,h3,h4,c1]
 ·simp[h1,h2,c1]
end
end Bi
end Go.Ab
