/- The generator: lists of fonts, paragraphs. -/
import Derived.Test.YteddnfbjjbcmgaaGreatPaGen
set_option linter.unusedSimpArgs false
set_option linter.unusedVariables false
namespace Go.Ab
open Go.Proofs
namespace Bi
structure Spn where
 f:Int
 t:Int
 n:Int
 z:Int
def bn(s:Spn):List V:=[.int .i64 s.f,.int .i64 s.t,.int .i64 s.n,.int .i64 s.z]
structure Par where
 t:List Int
 s:List Spn
 b:Int
 a:Int
 w:Int
def bU(p:Par):List V:=[rl p.t,.lst (p.s.map bn),.int .i64 p.b,.int .i64 p.a,.int .i64 p.w]
def Cov:Int→Int→List Spn→Prop
 | a,b,[]=>a=b
 | a,b,s::l=>s.f=a∧a<s.t∧Cov s.t b l
theorem Cov.snoc:∀ {l:List Spn}{a b:Int}{s:Spn},Cov a b l→s.f=b→b<s.t→Cov a s.t (l++[s])
 | [],_,_,_,h,h1,h2=>⟨h1.trans h.symm,by rw[h];exact h2,rfl⟩
 | _::_,_,_,_,⟨h1,h2,h3⟩,g1,g2=>⟨h1,h2,h3.snoc g1 g2⟩
structure uo(p:Par)(n fonts:Nat):Prop where
 len:p.t.length≤n
 b:-1≤p.b∧p.b≤1
 a:0≤p.a∧p.a≤2
 w:0≤p.w∧p.w≤1048576
 sp:∀ s∈p.s,0≤s.n∧s.n<fonts∧1≤s.z∧s.z≤40
 cov:(p.t=[]∧∃ s,p.s=[s]∧s.f=0∧s.t=0)∨(p.t≠[]∧Cov 0 p.t.length p.s)
 sl:p.s.length≤n+1
section
variable {prim:FuncId→Option Prim}(d:Nat) (cfg:Cfg) (h:Heap)
set_option maxHeartbeats 4000000 in
theorem gW(hp:∀ f,Np5 f→prim f=none)(L:List Int)(k:Nat)(hL:L.length≤4000)(b:Nat)(r:Rd h b L k)(hw:cfg.wr b=true)(hlo:cfg.lo≤h.length):
  ∃ (fs:List Fnt) (k':Nat),1≤fs.length∧fs.length≤3∧(∀ f∈fs,nv f)∧k'≤L.length∧af md (K prim (d+4)) cfg 10 [.ptr b 0] h=some (.lst (fs.map aD),hk h b L k'):=by
 have hw':(Cfg.wr ⟨cfg.lo,cfg.ex,h.length⟩ b)=true:=hw
 have hbl:=r.lt
 suffices HH:∃ r h2,af md (K prim (d+4)) cfg 10 [.ptr b 0] h=some (r,h2)∧∃ (fs:List Fnt) (k':Nat),1≤fs.length∧fs.length≤3∧(∀ f∈fs,nv f)∧k'≤L.length∧r=.lst (fs.map aD)∧h2=hk h b L k' by
  obtain⟨r,h2,h3,fs,k',h4,h5,h6,h7,rfl,rfl⟩:=HH
  exact⟨fs,k',h4,h5,h6,h7,h3⟩
 refine jo rfl (hp 10 (by decide)) Tryz.func10 rfl rfl rfl ?_
 have g0:Gn h b L k [] h []:=⟨r.le,by rw[List.append_nil,← r.same];exact Hp.start⟩
 obtain⟨n,k1,hn1,hn2,g1,c1⟩:=g0.r (d+1) hp r hL 1 3 (by omega) (by omega) (by omega)
 have c1':=c1 ⟨cfg.lo,cfg.ex,h.length⟩ hw'
 obtain⟨n,rfl⟩:∃ m:Nat,n=m:=⟨n.toNat,by omega⟩
 simp(disch:=omega)[c1']
 refine ah (fun m fr H=>∃ (i k:Nat) (v:V) (fs:List Fnt),fs.length+i=n∧m=i∧(∀ f∈fs,nv f)∧Gn h b L k [] H [(8,v,fs.flatMap aD)] ∧
  Slots 17 [(0,.ptr b 0),(3,v),(4,.int .i64 i)] fr) (m:=n) (by omega) ⟨n,k1,.nils,[],by simp,rfl,by simp,⟨g1.le,g1.hp.nil 8⟩,by simp⟩ ?_
 rintro m fr H ⟨i,k,v,fs,hi,hm,hfs,hg,hs⟩
 replace hm:=hm.symm
 subst hm
 obtain⟨j,rfl⟩:=hs.ex
 clear hs
 by_cases h0:0<i
 ·have hI:(0:Int)<i:=by omega
  obtain⟨f,k2,hf,hk2,c2⟩:=E9 (prim:=prim) d ⟨cfg.lo,cfg.ex,h.length⟩ H hp L k hL b (hg.rd r) hw' (by have:=hg.len;simp at this;show cfg.lo≤_;omega)
  have hg2:=(hg.step r hk2).push [some (aD f)]
  have hlf:(aD f).all V.leaf=true:=rfl
  have hln:(aD f).length=8:=rfl
  have hbn:ab (hk H b L k2++[some (aD f)]) H.length=some (aD f):=bAt rfl
  simp(disch:=omega)[h0,c2,hlf,hln,hbn]
  have hfl:=cb (f:=aD) (n:=8) (fun _=>rfl) fs
  have htk:List.take 8 (aD f)=aD f:=rfl
  rw[htk]
  refine bM (m:=1) hg2.hp (by simp;omega) rfl rfl (by omega) (by omega) (by rw[hfl];omega) (by rw[hfl];omega) ?_
  intro v' H' hhp5
  simp(disch:=omega)[wrap64]
  refine ae (m':=i-1) (by omega) ⟨i-1,k2,v',fs++[f],by simp;omega,rfl,?_,⟨hg2.le,by simpa using hhp5⟩,by simp(disch:=omega);omega⟩
  intro x hx
  rcases List.mem_append.1 hx with hx|hx
  ·exact hfs x hx
  ·simp at hx;subst hx;exact hf
 ·obtain rfl:i=0:=by omega
  simp(disch:=omega)
  have f1:=OwnC.frzF (ho:=hg.hp.head) (f:=aD) (n:=8) (m:=h.length) (d:=4) (fun _=>rfl) (by omega) (by simp) (fun _=>rfl) (fun x c hc=>by simp[aD]at hc;rcases hc with rfl|rfl|rfl|rfl|rfl|rfl|rfl|rfl<;>simp)
  exact⟨_,f1,fs,by omega,by omega,hfs,k,hg.le,rfl,hg.take⟩
theorem vD{h:Heap}{b:Nat}{L:List Int}{k:Nat}(i:Nat){X:Heap}{Y:List V}(hX:X[i]?=some (some Y))(hm:isMap Y=false):ab (hk h b L k++X) (h.length+i)=some Y:=by
 rw[ab,List.getElem?_append_right (by simp),pQ,Nat.add_sub_cancel_left,hX]
 simp[hm]
theorem CP{h:Heap}{b:Nat}{L:List Int}{k:Nat}(i:Nat){X:Heap}(Y:Option (List V)):(hk h b L k++X).set (h.length+i) Y=hk h b L k++X.set i Y:=by
 rw[List.set_append_right _ _ (by simp),pQ,Nat.add_sub_cancel_left]
def wids:List Int:=[0,1,10,20,30,40,60,100,200,400,1000,1048576]
set_option maxHeartbeats 8000000 in
theorem ni(hp:∀ f,Np5 f→prim f=none)(L:List Int)(k:Nat)(hL:L.length≤4000)(b:Nat)(r:Rd h b L k)(hw:cfg.wr b=true)(hlo:cfg.lo≤h.length)(n fonts:Nat)(hn:n≤1000)(hf1:1≤fonts)(hf2:fonts≤1000):
  ∃ (p:Par) (k':Nat),uo p n fonts∧k'≤L.length∧af md (K prim (d+5)) cfg 11 [.ptr b 0,.int .i64 n,.int .i64 fonts] h=some (.agg (bU p),hk h b L k'):=by
 have hw':(Cfg.wr ⟨cfg.lo,cfg.ex,h.length⟩ b)=true:=hw
 have hbl:=r.lt
 suffices HH:∃ r h2,af md (K prim (d+5)) cfg 11 [.ptr b 0,.int .i64 n,.int .i64 fonts] h=some (r,h2)∧∃ p k',uo p n fonts∧k'≤L.length∧r=.agg (bU p)∧h2=hk h b L k' by
  obtain⟨r,h2,h3,p,k',h4,h5,rfl,rfl⟩:=HH
  exact⟨p,k',h4,h5,h3⟩
 refine jo rfl (hp 11 (by decide)) Tryz.func11 rfl rfl rfl ?_
 have hN:=fun {k:Nat} (hk1:k≤L.length) (n:Int) h1 h2=>r.nx (d+3) hp hL hk1 n h1 h2
 have hR:=fun {k:Nat} (hk1:k≤L.length) (lo hi:Int) h1 h2 h3=>r.rx (d+2) hp hL hk1 lo hi h1 h2 h3
 obtain⟨tb,k1,htb,htb',hk1,c1⟩:=hR r.le (-1) 1 (by omega) (by omega) (by omega)
 obtain⟨ta,k2,hta,hk2,c2⟩:=hN hk1 3 (by omega) (by omega)
 obtain⟨v,k3,hv,hk3,c3⟩:=hN hk2 12 (by omega) (by omega)
 replace c1:=fun x=>c1 ⟨cfg.lo,cfg.ex,h.length⟩ x hw'
 replace c2:=fun x=>c2 ⟨cfg.lo,cfg.ex,h.length⟩ x hw'
 replace c3:=fun x=>c3 ⟨cfg.lo,cfg.ex,h.length⟩ x hw'
 rw[← r.same]at c1
 obtain⟨tw,htw⟩:∃ tw,wids[v]?=some tw:=⟨_,List.getElem?_eq_getElem (show v<wids.length by show v<12;omega)⟩
 have htwr:0≤tw∧tw≤1048576:=(show ∀ x∈wids,0≤x∧x≤1048576 by decide) tw (List.mem_of_getElem? htw)
 have hWe:[V.int .i64 0,V.int .i64 1,V.int .i64 10,V.int .i64 20,V.int .i64 30,V.int .i64 40,V.int .i64 60,V.int .i64 100,V.int .i64 200,V.int .i64 400,V.int .i64 1000,V.int .i64 1048576]=wids.map (V.int .i64):=rfl
 have hwl:wids.length=12:=rfl
 have wP:(Cfg.wr ⟨cfg.lo,cfg.ex,h.length⟩ (h.length+1))=true:=aP (by omega)
 unfold hk at c1 c2 c3
 have bP:∀ (k:Nat) (z:Option (List V)) (A B x:V) (Y:Heap) (F:List V),isMap (A::F)=false→ab (h.set b (some [il L,.int .i64 k])++z::some (A::F)::Y) (h.length+1)=some (A::F):=fun k z A B x Y F hm=>vD 1 rfl hm
 have sP:∀ (k:Nat) (z F X:Option (List V)) (Y:Heap),(h.set b (some [il L,.int .i64 k])++z::F::Y).set (h.length+1) X=h.set b (some [il L,.int .i64 k])++z::X::Y:=fun k z F X Y=>CP 1 X
 have bN:=fun k z Y F=>bP k z .nils .nils .nils Y F rfl
 have bW:∀ (k:Nat) (z p:Option (List V)) (l:List Int) (Y:Heap),ab (h.set b (some [il L,.int .i64 k])++z::p::some (l.map (V.int .i64))::Y) (h.length+1+1)=some (l.map (V.int .i64)):=fun k z p l Y=>vD 2 rfl iM
 simp(disch:=omega)[c1,c2,bN,sP,wP]
 rw[hWe]
 generalize wids=W at htw hwl
 simp(disch:=omega)[c3,bN,bW,sP,wP,htw,-getElem?_pos]
 obtain⟨X,hX⟩:∃ X:Heap,X=[some [V.nils,.nils,.int .i64 0,.int .i64 0,.int .i64 0],some [V.nils,.nils,.int .i64 tb,.int .i64 ta,.int .i64 tw],some (W.map (V.int .i64))]:=⟨_,rfl⟩
 obtain⟨T,k4,hTl,hk4,c4⟩:=Gv (prim:=prim) d ⟨cfg.lo,cfg.ex,h.length⟩ (hk h b L k3++X) hp L k3 hL hk3 n hn b ((r.set hk3).push X).blk hw' (by simp;omega)
 rw[List.set_append_left _ _ (by simpa using hbl),List.set_set,hX]at c4
 unfold hk at c4
 have bT:=fun k z Y F=>bP k z (rl T) .nils .nils Y F rfl
 simp(disch:=omega)[c4,bN,bT,sP,wP]
 by_cases hT0:T=[]
 ·subst hT0
  obtain⟨v1,k5,hv1,hk5,c5⟩:=hN hk4 fonts (by omega) (by omega)
  obtain⟨v2,k6,hv2,hv2',hk6,c6⟩:=hR hk5 1 40 (by omega) (by omega) (by omega)
  replace c5:=fun x=>c5 ⟨cfg.lo,cfg.ex,h.length⟩ x hw'
  replace c6:=fun x=>c6 ⟨cfg.lo,cfg.ex,h.length⟩ x hw'
  unfold hk at c5 c6
  have bT0:=fun k z Y F=>bP k z (.lst []) .nils .nils Y F rfl
  have b0:∀ (k:Nat) (F:List V) (Y:Heap),ab (h.set b (some [il L,.int .i64 k])++some (.nils::F)::Y) h.length=some (.nils::F):=fun k F Y=>vD 0 rfl rfl
  have s0:∀ (k:Nat) (F X:Option (List V)) (Y:Heap),(h.set b (some [il L,.int .i64 k])++F::Y).set h.length X=h.set b (some [il L,.int .i64 k])++X::Y:=fun k F X Y=>CP 0 X
  have b0':∀ (k:Nat) (F:List V) (Y:Heap),ab (h.set b (some [il L,.int .i64 k])++some (.lst []::F)::Y) h.length=some (.lst []::F):=fun k F Y=>vD 0 rfl rfl
  have bS:∀ (k:Nat) (u1 u2 u3:Option (List V)) (a:Int) (F:List V) (Y:Heap),ab (h.set b (some [il L,.int .i64 k])++u1::u2::u3::some (.int .i64 a::F)::Y) (h.length+3)=some (.int .i64 a::F):=fun k u1 u2 u3 a F Y=>vD 3 rfl rfl
  have w0:(Cfg.wr ⟨cfg.lo,cfg.ex,h.length⟩ h.length)=true:=aP hlo
  have hle:h.length≤h.length+3:=by omega
  simp(disch:=omega)[c5,c6,bT0,sP,wP,b0,s0,b0',w0]
  have f1:∀ (u1 u2 u3:Option (List V)),frz (h.set b (some [il L,.int .i64 k6])++[u1,u2,u3,some [.int .i64 0,.int .i64 0,.int .i64 v1,.int .i64 v2]]) h.length 5 (.sl (h.length+3) 0 1 1 4)=some (.lst [bn ⟨0,0,v1,v2⟩]):=fun u1 u2 u3=>by
   rw[iK,if_neg (by omega),bS]
   rfl
  simp only[f1,Option.bind_some,Function.comp,Option.map_some]
  refine⟨_,rfl,⟨[],[⟨0,0,v1,v2⟩],tb,ta,tw⟩,⟨by simp,⟨htb,htb'⟩,by simp;omega,htwr,by simp;omega,.inl ⟨rfl,_,rfl,rfl,rfl⟩,by simp⟩,k6,hk6,rfl,?_⟩
  rw[List.take_append_of_le_length (by simp),List.take_of_length_le (by simp)]
 ·have hTp:¬ T.length=0:=fun e=>hT0 (List.length_eq_zero_iff.1 e)
  simp(disch:=omega)[hT0]
  have hg0:Gn h b L k4 [some [.nils,.nils,.int .i64 0,.int .i64 0,.int .i64 0],some [rl T,.nils,.int .i64 tb,.int .i64 ta,.int .i64 tw]] (hk h b L k4++[some [.nils,.nils,.int .i64 0,.int .i64 0,.int .i64 0],some [rl T,.nils,.int .i64 tb,.int .i64 ta,.int .i64 tw]]++[some (W.map (V.int .i64))]) []:=(Gn.start hk4 _).push _
  simp only[List.append_assoc,List.cons_append,List.nil_append]at hg0
  refine ah (fun m fr H=>∃ (k at_:Nat) (vs:V) (ss:List Spn),at_≤T.length∧m=T.length-at_∧Cov 0 at_ ss∧ss.length≤at_∧(∀ s∈ss,0≤s.n∧s.n<fonts∧1≤s.z∧s.z≤40) ∧
   Gn h b L k [some [.nils,.nils,.int .i64 0,.int .i64 0,.int .i64 0],some [rl T,vs,.int .i64 tb,.int .i64 ta,.int .i64 tw]] H [(4,vs,ss.flatMap bn)] ∧
   Slots 78 [(0,.ptr b 0),(2,.int .i64 fonts),(6,.ptr h.length 0),(7,.ptr (h.length+1) 0),(9,.int .i64 at_)] fr) (m:=T.length) (by omega) ⟨k4,0,.nils,[],by omega,by omega,rfl,by simp,by simp,⟨hg0.le,hg0.hp.nil 4⟩,by simp⟩ ?_
  clear hg0 c1 c2 c3 c4 bN bW bT bP sP
  rintro m fr H ⟨k,at_,vs,ss,hat,rfl,hcov,hsl,hsr,hg,hs⟩
  obtain⟨j,rfl⟩:=hs.ex
  clear hs
  have hb1:=hg.at 1 rfl rfl
  by_cases hlt:at_<T.length
  ·have hI:(at_:Int)<T.length:=by omega
   obtain⟨v1,k1',hv1,hg1,e1⟩:=hg.n (d+3) hp r hL T.length (by omega) (by omega)
   replace e1:=e1 ⟨cfg.lo,cfg.ex,h.length⟩ hw'
   have hm:=md_N
   have hmR:=md_R
   have hbH:=(hg.rd r).lt
   have hne:¬ b=h.length+1:=by omega
   simp(disch:=omega)[hb1,hI,e1,wrap64]
   by_cases hov:T.length<at_+1+v1
   ·have hov':(T.length:Int)<at_+1+v1:=by omega
    simp(disch:=omega)[hov',hb1]
    obtain⟨v2,k2',hv2,hg2,e2⟩:=hg1.n (d+3) hp r hL fonts (by omega) (by omega)
    simp only[List.set_set]at hg2 e2
    have e2':=fun lo thr=>e2 ⟨lo,[b],thr⟩ jf
    obtain⟨v3,k3',hv3,hv3',hg3,e3⟩:=hg2.r (d+2) hp r hL 1 40 (by omega) (by omega) (by omega)
    simp only[List.set_set]at hg3 e3
    have e3':=fun lo thr=>e3 ⟨lo,[b],thr⟩ jf
    refine ai 11 (by kernel_rfl) ?_
    have hbn:ab (H.set b (some [il L,.int .i64 k3'])++[some [V.int .i64 at_,V.int .i64 (T.length:Int),V.int .i64 v2,V.int .i64 v3]]) H.length=some [V.int .i64 at_,V.int .i64 (T.length:Int),V.int .i64 v2,V.int .i64 v3]:=bAt rfl
    simp(disch:=omega)[hb1,hm,hmR,hw',e2',e3',hne,hbH,hbn]
    have hp4:=(hg3.push [some [V.int .i64 at_,V.int .i64 (T.length:Int),V.int .i64 v2,V.int .i64 v3]])
    have hfl:=cb (f:=bn) (n:=4) (fun _=>rfl) ss
    refine bM (m:=1) hp4.hp (by simp;omega) rfl rfl (by omega) (by omega) (by rw[hfl];omega) (by rw[hfl];omega) ?_
    intro vs' H' hhp5
    have hg5:Gn h b L k3' _ H' _:=⟨hg3.le,hhp5⟩
    have hb5:=hg5.at 1 rfl rfl
    have hl5:=hg5.len
    have hc5:=hhp5.head.cells
    simp(disch:=omega)[hb5,wP,hc5]
    have hg6:=hg5.put 1 (by simp) (some [rl T,vs',.int .i64 tb,.int .i64 ta,.int .i64 tw])
    refine ae (m':=T.length-(T.length)) (by omega) ⟨k3',T.length,vs',ss++[⟨at_,(T.length:Int),v2,v3⟩],by omega,rfl,?_,by simp;omega,?_,by simpa[bn]using hg6,by simp(disch:=omega)⟩
    ·have:=hcov.snoc (s:=⟨at_,(T.length:Int),v2,v3⟩) rfl (by simp;omega)
     simpa using this
    ·intro x hx
     rcases List.mem_append.1 hx with hx|hx
     ·exact hsr x hx
     ·simp at hx;subst hx;simp;omega
   ·have hov':¬ (T.length:Int)<at_+1+v1:=by omega
    simp(disch:=omega)[hov']
    obtain⟨v2,k2',hv2,hg2,e2⟩:=hg1.n (d+3) hp r hL fonts (by omega) (by omega)
    simp only[List.set_set]at hg2 e2
    have e2':=fun lo thr=>e2 ⟨lo,[b],thr⟩ jf
    obtain⟨v3,k3',hv3,hv3',hg3,e3⟩:=hg2.r (d+2) hp r hL 1 40 (by omega) (by omega) (by omega)
    simp only[List.set_set]at hg3 e3
    have e3':=fun lo thr=>e3 ⟨lo,[b],thr⟩ jf
    refine ai 11 (by kernel_rfl) ?_
    have hbn:ab (H.set b (some [il L,.int .i64 k3'])++[some [V.int .i64 at_,V.int .i64 ((at_:Int)+1+v1),V.int .i64 v2,V.int .i64 v3]]) H.length=some [V.int .i64 at_,V.int .i64 ((at_:Int)+1+v1),V.int .i64 v2,V.int .i64 v3]:=bAt rfl
    simp(disch:=omega)[hb1,hm,hmR,hw',e2',e3',hne,hbH,hbn]
    have hp4:=(hg3.push [some [V.int .i64 at_,V.int .i64 ((at_:Int)+1+v1),V.int .i64 v2,V.int .i64 v3]])
    have hfl:=cb (f:=bn) (n:=4) (fun _=>rfl) ss
    refine bM (m:=1) hp4.hp (by simp;omega) rfl rfl (by omega) (by omega) (by rw[hfl];omega) (by rw[hfl];omega) ?_
    intro vs' H' hhp5
    have hg5:Gn h b L k3' _ H' _:=⟨hg3.le,hhp5⟩
    have hb5:=hg5.at 1 rfl rfl
    have hl5:=hg5.len
    have hc5:=hhp5.head.cells
    simp(disch:=omega)[hb5,wP,hc5]
    have hg6:=hg5.put 1 (by simp) (some [rl T,vs',.int .i64 tb,.int .i64 ta,.int .i64 tw])
    refine ae (m':=T.length-(at_+1+v1)) (by omega) ⟨k3',at_+1+v1,vs',ss++[⟨at_,((at_:Int)+1+v1),v2,v3⟩],by omega,rfl,?_,by simp;omega,?_,by simpa[bn]using hg6,by simp(disch:=omega)⟩
    ·have:=hcov.snoc (s:=⟨at_,((at_:Int)+1+v1),v2,v3⟩) rfl (by simp;omega)
     simpa using this
    ·intro x hx
     rcases List.mem_append.1 hx with hx|hx
     ·exact hsr x hx
     ·simp at hx;subst hx;simp;omega
  ·obtain rfl:at_=T.length:=by omega
   have hb0:=hg.at 0 rfl rfl
   rw[Nat.add_zero]at hb0
   have hlv:=hg.hp.head.leaf
   have w0:(Cfg.wr ⟨cfg.lo,cfg.ex,h.length⟩ h.length)=true:=aP hlo
   have hl:=hg.len
   have hHl:h.length<H.length:=by simp at hl;omega
   simp(disch:=omega)[hb1,hb0,hlv,w0]
   have hg7:=hg.put 0 (by simp) (some [rl T,vs,.int .i64 tb,.int .i64 ta,.int .i64 tw])
   rw[Nat.add_zero]at hg7
   have f1:=OwnC.frzF (ho:=hg7.hp.head) (f:=bn) (n:=4) (m:=h.length) (d:=3) (fun _=>rfl) (by omega) (by simp) (fun _=>rfl) (fun x c hc=>by simp[bn]at hc;rcases hc with rfl|rfl|rfl|rfl<;>simp)
   simp only[f1,Option.bind_some,Function.comp,Option.map_some]
   exact⟨_,rfl,⟨T,ss,tb,ta,tw⟩,⟨hTl,⟨htb,htb'⟩,by simp;omega,htwr,hsr,.inr ⟨hT0,hcov⟩,by simp;omega⟩,k,hg.le,rfl,hg7.take⟩
end
end Bi
end Go.Ab
