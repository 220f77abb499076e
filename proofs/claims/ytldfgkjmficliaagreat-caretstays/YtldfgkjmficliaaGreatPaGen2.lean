/- The generator: lists of fonts, paragraphs. -/
import Derived.Test.YtldfgkjmficliaaGreatPaGen
set_option linter.all false
set_option maxHeartbeats 8000000
namespace Go.Ab
open Go.Proofs
namespace Bi
structure Spn where
 f:Int
 t:Int
 n:Int
 z:Int
def cg(s:Spn):List V:=[.int .i64 s.f,.int .i64 s.t,.int .i64 s.n,.int .i64 s.z]
structure Par where
 t:List Int
 s:List Spn
 b:Int
 a:Int
 w:Int
def aO(p:Par):List V:=[rl p.t,.lst (p.s.map cg),.int .i64 p.b,.int .i64 p.a,.int .i64 p.w]
def Cov:Int->Int->List Spn->Prop
 | a,b,[]=>a=b
 | a,b,s::l=>s.f=a/\a<s.t/\Cov s.t b l
theorem Cov.snoc:∀ {l:List Spn}{a b:Int}{s:Spn},Cov a b l->s.f=b->b<s.t->Cov a s.t (l++[s])
 | [],_,_,_,h,h1,h2=>⟨h1.trans h.symm,by rw[h];exact h2,rfl⟩
 | _::_,_,_,_,⟨h1,h2,h3⟩,g1,g2=>⟨h1,h2,h3.snoc g1 g2⟩
structure BW(p:Par)(n fonts:Nat):Prop where
 len:p.t.length<=n
 b:-1<=p.b/\p.b<=1
 a:0<=p.a/\p.a<=2
 w:0<=p.w/\p.w<=1048576
 sp:∀ s∈p.s,0<=s.n/\s.n<fonts/\1<=s.z/\s.z<=40
 cov:(p.t=[]/\∃ s,p.s=[s]/\s.f=0/\s.t=0)\/(p.t≠[]/\Cov 0 p.t.length p.s)
 sl:p.s.length<=n+1
section
variable {prim:FuncId->Option Prim}(d:Nat) (cfg:Cfg) (h:Heap)
theorem CL(hp:∀ f,Np5 f->prim f=none)(L:List Int)(k:Nat)(hL:L.length<=4000)(b:Nat)(r:Rd h b L k)(hw:cfg.wr b=true)(hr:cfg.lo<=h.length):
  ∃ (fs:List Fnt) (k':Nat),1<=fs.length/\fs.length<=3/\(∀ f∈fs,pw f)/\k'<=L.length/\af md (K prim (d+4)) cfg 33 [.ptr b 0] h=some (.lst (fs.map aJ),hk h b L k'):=by
 have h9:(Cfg.wr ⟨cfg.lo,cfg.ex,h.length⟩ b)=true:=hw;have ht:=r.lt;suffices HH:∃ r h2,af md (K prim (d+4)) cfg 33 [.ptr b 0] h=some (r,h2)/\∃ (fs:List Fnt) (k':Nat),1<=fs.length/\fs.length<=3/\(∀ f∈fs,pw f)/\k'<=L.length/\r=.lst (fs.map aJ)/\h2=hk h b L k' by
  obtain⟨r,h2,h3,fs,k',h4,h5,h6,h7,rfl,rfl⟩:=HH;exact⟨fs,k',h4,h5,h6,h7,h3⟩
 refine iL rfl (hp 33 (by decide)) Tryz.func33 rfl rfl rfl ?_;have g0:Gn h b L k [] h []:=⟨r.le,by rw[Mn,<- r.same];exact Hp.start⟩;obtain⟨n,k1,hu,hv,g1,c1⟩:=g0.r (d+1) hp r hL 1 3 (by omega) (by omega) (by omega);have c1':=c1 ⟨cfg.lo,cfg.ex,h.length⟩ h9;obtain⟨n,rfl⟩:∃ m:Nat,n=m:=⟨n.toNat,by omega⟩;simp(disch:=omega)[c1'];refine ai (fun m fr H=>∃ (i k:Nat) (v:V) (fs:List Fnt),fs.length+i=n/\m=i/\(∀ f∈fs,pw f)/\Gn h b L k [] H [(8,v,fs.flatMap aJ)] /\
  Slots 17 [(0,.ptr b 0),(3,v),(4,.int .i64 i)] fr) (m:=n) (by omega) ⟨n,k1,.nils,[],by simp,rfl,by simp,⟨g1.le,g1.hp.nil 8⟩,by simp⟩ ?_
 rintro m fr H ⟨i,k,v,fs,hi,hm,ha,hg,hs⟩;replace hm:=hm.symm;subst hm;obtain⟨j,rfl⟩:=hs.ex;clear hs;by_cases h0:0<i
 ·have hI:(0:Int)<i:=by omega
  obtain⟨f,k2,hf,hh,c2⟩:=Ft (prim:=prim) d ⟨cfg.lo,cfg.ex,h.length⟩ H hp L k hL b (hg.rd r) h9 (by have:=hg.len;simp at this;show cfg.lo<=_;omega);have hd:=(hg.step r hh).push [some (aJ f)];have hj:(aJ f).all V.leaf=true:=rfl;have hl:(aJ f).length=8:=rfl;have hn:ab (hk H b L k2++[some (aJ f)]) H.length=some (aJ f):=bAt rfl;simp(disch:=omega)[h0,c2,hj,hl,hn];have he:=bJ (f:=aJ) (n:=8) (fun _=>rfl) fs;have hq:List.take 8 (aJ f)=aJ f:=rfl;rw[hq];refine bH (m:=1) hd.hp (by simp;omega) rfl rfl (by omega) (by omega) (by rw[he];omega) (by rw[he];omega) ?_;intro v' H' h8;simp(disch:=omega)[wrap64];refine ae (m':=i-1) (by omega) ⟨i-1,k2,v',fs++[f],by simp;omega,rfl,?_,⟨hd.le,by simpa using h8⟩,by simp(disch:=omega);omega⟩;intro x hx;rcases LA.1 hx with hx|hx
  ·exact ha x hx
  ·simp at hx;subst hx;exact hf
 ·obtain rfl:i=0:=by omega
  simp(disch:=omega);have f1:=OwnC.frzF (ho:=hg.hp.head) (f:=aJ) (n:=8) (m:=h.length) (d:=4) (fun _=>rfl) (by omega) (by simp) (fun _=>rfl) (fun x c hc=>by simp[aJ]at hc;rcases hc with rfl|rfl|rfl|rfl|rfl|rfl|rfl|rfl<;>simp);exact⟨_,f1,fs,by omega,by omega,ha,k,hg.le,rfl,hg.take⟩
theorem vD{h:Heap}{b:Nat}{L:List Int}{k:Nat}(i:Nat){X:Heap}{Y:List V}(hX:X[i]?=some (some Y))(hm:isMap Y=false):ab (hk h b L k++X) (h.length+i)=some Y:=by
 rw[ab,Lk (by simp),qy,MJ,hX];simp[hm]
theorem C2{h:Heap}{b:Nat}{L:List Int}{k:Nat}(i:Nat){X:Heap}(Y:Option (List V)):(hk h b L k++X).set (h.length+i) Y=hk h b L k++X.set i Y:=by
 rw[LU _ _ (by simp),qy,MJ]
def wids:List Int:=[0,1,10,20,30,40,60,100,200,400,1000,1048576]
theorem Jx(hp:∀ f,Np5 f->prim f=none)(L:List Int)(k:Nat)(hL:L.length<=4000)(b:Nat)(r:Rd h b L k)(hw:cfg.wr b=true)(hK:cfg.lo<=h.length)(n fonts:Nat)(hn:n<=1000)(k8:1<=fonts)(k9:fonts<=1000):
  ∃ (p:Par) (k':Nat),BW p n fonts/\k'<=L.length/\af md (K prim (d+5)) cfg 34 [.ptr b 0,.int .i64 n,.int .i64 fonts] h=some (.agg (aO p),hk h b L k'):=by
 have h6:(Cfg.wr ⟨cfg.lo,cfg.ex,h.length⟩ b)=true:=hw;have g0:=r.lt;suffices HH:∃ r h2,af md (K prim (d+5)) cfg 34 [.ptr b 0,.int .i64 n,.int .i64 fonts] h=some (r,h2)/\∃ p k',BW p n fonts/\k'<=L.length/\r=.agg (aO p)/\h2=hk h b L k' by
  obtain⟨r,h2,h3,p,k',h4,h5,rfl,rfl⟩:=HH;exact⟨p,k',h4,h5,h3⟩
 refine iL rfl (hp 34 (by decide)) Tryz.func34 rfl rfl rfl ?_;have hN:=fun {k:Nat} (hd:k<=L.length) (n:Int) h1 h2=>r.nx (d+3) hp hL hd n h1 h2;have hR:=fun {k:Nat} (hd:k<=L.length) (lo hi:Int) h1 h2 h3=>r.rx (d+2) hp hL hd lo hi h1 h2 h3;obtain⟨tb,k1,hM,he,hd,c1⟩:=hR r.le (-1) 1 (by omega) (by omega) (by omega);obtain⟨ta,k2,w7,g1,c2⟩:=hN hd 3 (by omega) (by omega);obtain⟨v,k3,hv,hO,c3⟩:=hN g1 12 (by omega) (by omega);replace c1:=fun x=>c1 ⟨cfg.lo,cfg.ex,h.length⟩ x h6;replace c2:=fun x=>c2 ⟨cfg.lo,cfg.ex,h.length⟩ x h6;replace c3:=fun x=>c3 ⟨cfg.lo,cfg.ex,h.length⟩ x h6;rw[<- r.same]at c1;obtain⟨tw,hu⟩:∃ tw,wids[v]?=some tw:=⟨_,Lc (show v<wids.length by show v<12;omega)⟩;have hf:0<=tw/\tw<=1048576:=(show ∀ x∈wids,0<=x/\x<=1048576 by decide) tw (Le hu);have g2:[V.int .i64 0,V.int .i64 1,V.int .i64 10,V.int .i64 20,V.int .i64 30,V.int .i64 40,V.int .i64 60,V.int .i64 100,V.int .i64 200,V.int .i64 400,V.int .i64 1000,V.int .i64 1048576]=wids.map (V.int .i64):=rfl;have g3:wids.length=12:=rfl;have wP:(Cfg.wr ⟨cfg.lo,cfg.ex,h.length⟩ (h.length+1))=true:=bq (by omega);unfold hk at c1 c2 c3;have bP:∀ (k:Nat) (z:Option (List V)) (A B x:V) (Y:Heap) (F:List V),isMap (A::F)=false->ab (h.set b (some [il L,.int .i64 k])++z::some (A::F)::Y) (h.length+1)=some (A::F):=fun k z A B x Y F hm=>vD 1 rfl hm;have sP:∀ (k:Nat) (z F X:Option (List V)) (Y:Heap),(h.set b (some [il L,.int .i64 k])++z::F::Y).set (h.length+1) X=h.set b (some [il L,.int .i64 k])++z::X::Y:=fun k z F X Y=>C2 1 X;have bN:=fun k z Y F=>bP k z .nils .nils .nils Y F rfl;have bW:∀ (k:Nat) (z p:Option (List V)) (l:List Int) (Y:Heap),ab (h.set b (some [il L,.int .i64 k])++z::p::some (l.map (V.int .i64))::Y) (h.length+1+1)=some (l.map (V.int .i64)):=fun k z p l Y=>vD 2 rfl dN;simp(disch:=omega)[c1,c2,bN,sP,wP];rw[g2];generalize wids=W at hu g3;simp(disch:=omega)[c3,bN,bW,sP,wP,hu,-getElem?_pos];obtain⟨X,hX⟩:∃ X:Heap,X=[some [V.nils,.nils,.int .i64 0,.int .i64 0,.int .i64 0],some [V.nils,.nils,.int .i64 tb,.int .i64 ta,.int .i64 tw],some (W.map (V.int .i64))]:=⟨_,rfl⟩;obtain⟨T,k4,g4,hP,c4⟩:=GF (prim:=prim) d ⟨cfg.lo,cfg.ex,h.length⟩ (hk h b L k3++X) hp L k3 hL hO n hn b ((r.set hO).push X).blk h6 (by simp;omega);rw[L5 _ _ (by simpa using g0),L6,hX]at c4;unfold hk at c4;have bT:=fun k z Y F=>bP k z (rl T) .nils .nils Y F rfl;simp(disch:=omega)[c4,bN,bT,sP,wP];by_cases hr:T=[]
 ·subst hr;obtain⟨v1,k5,g5,g6,c5⟩:=hN hP fonts (by omega) (by omega);obtain⟨v2,k6,hQ,g7,g8,c6⟩:=hR g6 1 40 (by omega) (by omega) (by omega);replace c5:=fun x=>c5 ⟨cfg.lo,cfg.ex,h.length⟩ x h6;replace c6:=fun x=>c6 ⟨cfg.lo,cfg.ex,h.length⟩ x h6;unfold hk at c5 c6;have bT0:=fun k z Y F=>bP k z (.lst []) .nils .nils Y F rfl;have b0:∀ (k:Nat) (F:List V) (Y:Heap),ab (h.set b (some [il L,.int .i64 k])++some (.nils::F)::Y) h.length=some (.nils::F):=fun k F Y=>vD 0 rfl rfl;have s0:∀ (k:Nat) (F X:Option (List V)) (Y:Heap),(h.set b (some [il L,.int .i64 k])++F::Y).set h.length X=h.set b (some [il L,.int .i64 k])++X::Y:=fun k F X Y=>C2 0 X;have b0':∀ (k:Nat) (F:List V) (Y:Heap),ab (h.set b (some [il L,.int .i64 k])++some (.lst []::F)::Y) h.length=some (.lst []::F):=fun k F Y=>vD 0 rfl rfl;have bS:∀ (k:Nat) (u1 u2 u3:Option (List V)) (a:Int) (F:List V) (Y:Heap),ab (h.set b (some [il L,.int .i64 k])++u1::u2::u3::some (.int .i64 a::F)::Y) (h.length+3)=some (.int .i64 a::F):=fun k u1 u2 u3 a F Y=>vD 3 rfl rfl;have w0:(Cfg.wr ⟨cfg.lo,cfg.ex,h.length⟩ h.length)=true:=bq hK;have hle:h.length<=h.length+3:=by omega
  simp(disch:=omega)[c5,c6,bT0,sP,wP,b0,s0,b0',w0];have f1:∀ (u1 u2 u3:Option (List V)),frz (h.set b (some [il L,.int .i64 k6])++[u1,u2,u3,some [.int .i64 0,.int .i64 0,.int .i64 v1,.int .i64 v2]]) h.length 5 (.sl (h.length+3) 0 1 1 4)=some (.lst [cg ⟨0,0,v1,v2⟩]):=fun u1 u2 u3=>by
   rw[iR,if_neg (by omega),bS];rfl
  simp only[f1,Mb,Function.comp,LW];refine⟨_,rfl,⟨[],[⟨0,0,v1,v2⟩],tb,ta,tw⟩,⟨by simp,⟨hM,he⟩,by simp;omega,hf,by simp;omega,.inl ⟨rfl,_,rfl,rfl,rfl⟩,by simp⟩,k6,g8,rfl,?_⟩;rw[LM (by simp),Lu (by simp)]
 ·have w8:¬ T.length=0:=fun e=>hr (L9.1 e);simp(disch:=omega)[hr];have ht:Gn h b L k4 [some [.nils,.nils,.int .i64 0,.int .i64 0,.int .i64 0],some [rl T,.nils,.int .i64 tb,.int .i64 ta,.int .i64 tw]] (hk h b L k4++[some [.nils,.nils,.int .i64 0,.int .i64 0,.int .i64 0],some [rl T,.nils,.int .i64 tb,.int .i64 ta,.int .i64 tw]]++[some (W.map (V.int .i64))]) []:=(Gn.start hP _).push _;simp only[LD,L8,Mf]at ht;refine ai (fun m fr H=>∃ (k at_:Nat) (vs:V) (ss:List Spn),at_<=T.length/\m=T.length-at_/\Cov 0 at_ ss/\ss.length<=at_/\(∀ s∈ss,0<=s.n/\s.n<fonts/\1<=s.z/\s.z<=40) /\
   Gn h b L k [some [.nils,.nils,.int .i64 0,.int .i64 0,.int .i64 0],some [rl T,vs,.int .i64 tb,.int .i64 ta,.int .i64 tw]] H [(4,vs,ss.flatMap cg)] /\
   Slots 78 [(0,.ptr b 0),(2,.int .i64 fonts),(6,.ptr h.length 0),(7,.ptr (h.length+1) 0),(9,.int .i64 at_)] fr) (m:=T.length) (by omega) ⟨k4,0,.nils,[],by omega,by omega,rfl,by simp,by simp,⟨ht.le,ht.hp.nil 4⟩,by simp⟩ ?_
  clear ht c1 c2 c3 c4 bN bW bT bP sP;rintro m fr H ⟨k,at_,vs,ss,w9,rfl,h7,z0,hy,hg,hs⟩;obtain⟨j,rfl⟩:=hs.ex;clear hs;have hh:=hg.at 1 rfl rfl;by_cases z1:at_<T.length
  ·have hI:(at_:Int)<T.length:=by omega
   obtain⟨v1,k1',g5,hS,e1⟩:=hg.n (d+3) hp r hL T.length (by omega) (by omega);replace e1:=e1 ⟨cfg.lo,cfg.ex,h.length⟩ h6;have hm:=md_N;have hT:=md_R;have hY:=(hg.rd r).lt;have hne:¬ b=h.length+1:=by omega
   simp(disch:=omega)[hh,hI,e1,wrap64];by_cases z2:T.length<at_+1+v1
   ·have h8:(T.length:Int)<at_+1+v1:=by omega
    simp(disch:=omega)[h8,hh];obtain⟨v2,k2',hQ,hj,e2⟩:=hS.n (d+3) hp r hL fonts (by omega) (by omega);simp only[L6]at hj e2;have e2':=fun lo thr=>e2 ⟨lo,[b],thr⟩ jn;obtain⟨v3,k3',g9,hz,h9,e3⟩:=hj.r (d+2) hp r hL 1 40 (by omega) (by omega) (by omega);simp only[L6]at h9 e3;have e3':=fun lo thr=>e3 ⟨lo,[b],thr⟩ jn;refine ah 11 (by kernel_rfl) ?_;have hA:ab (H.set b (some [il L,.int .i64 k3'])++[some [V.int .i64 at_,V.int .i64 (T.length:Int),V.int .i64 v2,V.int .i64 v3]]) H.length=some [V.int .i64 at_,V.int .i64 (T.length:Int),V.int .i64 v2,V.int .i64 v3]:=bAt rfl;simp(disch:=omega)[hh,hm,hT,h6,e2',e3',hne,hY,hA];have hD:=(h9.push [some [V.int .i64 at_,V.int .i64 (T.length:Int),V.int .i64 v2,V.int .i64 v3]]);have hq:=bJ (f:=cg) (n:=4) (fun _=>rfl) ss;refine bH (m:=1) hD.hp (by simp;omega) rfl rfl (by omega) (by omega) (by rw[hq];omega) (by rw[hq];omega) ?_;intro vs' H' h0;have ha:Gn h b L k3' _ H' _:=⟨h9.le,h0⟩;have hE:=ha.at 1 rfl rfl;have k0:=ha.len;have hF:=h0.head.cells;simp(disch:=omega)[hE,wP,hF];have hH:=ha.put 1 (by simp) (some [rl T,vs',.int .i64 tb,.int .i64 ta,.int .i64 tw]);refine ae (m':=T.length-(T.length)) (by omega) ⟨k3',T.length,vs',ss++[⟨at_,(T.length:Int),v2,v3⟩],by omega,rfl,?_,by simp;omega,?_,by simpa[cg]using hH,by simp(disch:=omega)⟩
    ·have:=h7.snoc (s:=⟨at_,(T.length:Int),v2,v3⟩) rfl (by simp;omega);simpa using this
    ·intro x hx;rcases LA.1 hx with hx|hx
     ·exact hy x hx
     ·simp at hx;subst hx;simp;omega
   ·have h8:¬ (T.length:Int)<at_+1+v1:=by omega
    simp(disch:=omega)[h8];obtain⟨v2,k2',hQ,hj,e2⟩:=hS.n (d+3) hp r hL fonts (by omega) (by omega);simp only[L6]at hj e2;have e2':=fun lo thr=>e2 ⟨lo,[b],thr⟩ jn;obtain⟨v3,k3',g9,hz,h9,e3⟩:=hj.r (d+2) hp r hL 1 40 (by omega) (by omega) (by omega);simp only[L6]at h9 e3;have e3':=fun lo thr=>e3 ⟨lo,[b],thr⟩ jn;refine ah 11 (by kernel_rfl) ?_;have hA:ab (H.set b (some [il L,.int .i64 k3'])++[some [V.int .i64 at_,V.int .i64 ((at_:Int)+1+v1),V.int .i64 v2,V.int .i64 v3]]) H.length=some [V.int .i64 at_,V.int .i64 ((at_:Int)+1+v1),V.int .i64 v2,V.int .i64 v3]:=bAt rfl;simp(disch:=omega)[hh,hm,hT,h6,e2',e3',hne,hY,hA];have hD:=(h9.push [some [V.int .i64 at_,V.int .i64 ((at_:Int)+1+v1),V.int .i64 v2,V.int .i64 v3]]);have hq:=bJ (f:=cg) (n:=4) (fun _=>rfl) ss;refine bH (m:=1) hD.hp (by simp;omega) rfl rfl (by omega) (by omega) (by rw[hq];omega) (by rw[hq];omega) ?_;intro vs' H' h0;have ha:Gn h b L k3' _ H' _:=⟨h9.le,h0⟩;have hE:=ha.at 1 rfl rfl;have k0:=ha.len;have hF:=h0.head.cells;simp(disch:=omega)[hE,wP,hF];have hH:=ha.put 1 (by simp) (some [rl T,vs',.int .i64 tb,.int .i64 ta,.int .i64 tw]);refine ae (m':=T.length-(at_+1+v1)) (by omega) ⟨k3',at_+1+v1,vs',ss++[⟨at_,((at_:Int)+1+v1),v2,v3⟩],by omega,rfl,?_,by simp;omega,?_,by simpa[cg]using hH,by simp(disch:=omega)⟩
    ·have:=h7.snoc (s:=⟨at_,((at_:Int)+1+v1),v2,v3⟩) rfl (by simp;omega);simpa using this
    ·intro x hx;rcases LA.1 hx with hx|hx
     ·exact hy x hx
     ·simp at hx;subst hx;simp;omega
  ·obtain rfl:at_=T.length:=by omega
   have hZ:=hg.at 0 rfl rfl;rw[MT]at hZ;have k7:=hg.hp.head.leaf;have w0:(Cfg.wr ⟨cfg.lo,cfg.ex,h.length⟩ h.length)=true:=bq hK;have hl:=hg.len;have z3:h.length<H.length:=by simp at hl;omega
   simp(disch:=omega)[hh,hZ,k7,w0];have hJ:=hg.put 0 (by simp) (some [rl T,vs,.int .i64 tb,.int .i64 ta,.int .i64 tw]);rw[MT]at hJ;have f1:=OwnC.frzF (ho:=hJ.hp.head) (f:=cg) (n:=4) (m:=h.length) (d:=3) (fun _=>rfl) (by omega) (by simp) (fun _=>rfl) (fun x c hc=>by simp[cg]at hc;rcases hc with rfl|rfl|rfl|rfl<;>simp);simp only[f1,Mb,Function.comp,LW];exact⟨_,rfl,⟨T,ss,tb,ta,tw⟩,⟨g4,⟨hM,he⟩,by simp;omega,hf,hy,.inr ⟨hr,h7⟩,by simp;omega⟩,k,hg.le,rfl,hJ.take⟩
end
end Bi
end Go.Ab
