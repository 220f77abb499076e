/- The program: the glyphs of a line. -/
import Derived.Test.YtldfgkjmficliaaGreatPaAn
import Derived.Test.YtldfgkjmficliaaGreatPaRs
set_option linter.unusedSimpArgs false
set_option linter.unusedVariables false
namespace Go.Ab
open Go.Proofs
namespace Bi
attribute [local congr] az
theorem sk{H:Heap}{b mw:Nat}{cs:List V}{es:fx}(hb:ab H b=some cs)(hm:H[mw]?=some (wB es)):mw≠b:=by
 intro e
 subst e
 simp[ab,hm,isMap]at hb
theorem sj{H:Heap}{b mu:Nat}{cs:List V}{eu:fL}(hb:ab H b=some cs)(hm:H[mu]?=some (uB eu)):mu≠b:=by
 intro e
 subst e
 simp[ab,hm,isMap]at hb
theorem Bl{H:Heap}{b mw mu:Nat}{cs:List V}{es:fx}{eu:fL}(hb:ab H b=some cs)(hmw:H[mw]?=some (wB es))(hmu:H[mu]?=some (uB eu))(A C:Option (List V))(S:Heap):ab ((H.set mw A).set mu C++S) b=some cs:=by
 have hl:=aw hb
 rw[al (by simpa using hl),ar (sj hb hmu),ar (sk hb hmw)]
 exact hb
structure TxH(X:Txt)(H:Heap)(xb bb pb mw mu:Nat)(sv kv:V)(es:fx)(eu:fL):Prop where
 hx:ab H xb=some (txC X (.sl bb 0 (X.p.t.length+1) (X.p.t.length+1) 1) sv kv pb mw mu)
 hb:ab H bb=some (X.bd.map V.bool)
 hp:ab H pb=some (X.bd.map V.bool)
 hs:OwnC H 0 1 sv (X.sp.map (V.int .i64))
 hk:OwnC H 0 4 kv (X.secs.flatMap X.sec)
 hmw:H[mw]?=some (wB es)
 hmu:H[mu]?=some (uB eu)
 hne:mw≠mu
 hW:WOK X.fs es
 hU:UOK X.fs eu
theorem TxH.ext{X:Txt}{H H':Heap}{xb bb pb mw mu:Nat}{sv kv:V}{es es':fx}{eu eu':fL}{os:List Own}{S:Heap}(h:TxH X H xb bb pb mw mu sv kv es eu)(hh:Hp H' ((H.set mw (wB es')).set mu (uB eu')++S) os)(hW:WOK X.fs es')(hU:UOK X.fs eu'):TxH X H' xb bb pb mw mu sv kv es' eu':=by
 have hB:∀ {b:Nat} {cs:List V},ab H b=some cs→ab H' b=some cs:=fun hb=>by
  have hl:=aw hb
  rw[hh.block (by simp;omega)]
  exact Bl hb h.hmw h.hmu _ _ _
 have hml:mw<H.length:=by obtain⟨h1,_⟩:=List.getElem?_eq_some_iff.1 h.hmw;exact h1
 have hul:mu<H.length:=by obtain⟨h1,_⟩:=List.getElem?_eq_some_iff.1 h.hmu;exact h1
 have hg:∀ {q:Nat},q<H.length→H'[q]?=((H.set mw (wB es')).set mu (uB eu'))[q]?:=fun {q} hq=>by
  have h1:(H'.take ((H.set mw (wB es')).set mu (uB eu')++S).length)[q]?=((H.set mw (wB es')).set mu (uB eu')++S)[q]?:=by rw[hh.take]
  rw[List.getElem?_take_of_lt (by simp;omega),List.getElem?_append_left (by simpa using hq)]at h1
  exact h1
 refine⟨hB h.hx,hB h.hb,hB h.hp,h.hs.of_blk fun b hb=>?_,h.hk.of_blk fun b hb=>?_,?_,?_,h.hne,hW,hU⟩
 ·obtain⟨_,hl⟩:=h.hs.blk hb
  rcases h.hs with⟨rfl,_⟩|⟨c,n,rfl,_,_,hc⟩
  ·cases hb
  ·cases hb;rw[hB hc,hc]
 ·rcases h.hk with⟨rfl,_⟩|⟨c,n,rfl,_,_,hc⟩
  ·cases hb
  ·cases hb;rw[hB hc,hc]
 ·rw[hg hml,List.getElem?_set_ne (Ne.symm h.hne),List.getElem?_set_self hml]
 ·rw[hg hul,List.getElem?_set_self (by simpa using hul)]
theorem TxH.mw{X:Txt}{H H':Heap}{xb bb pb mw mu:Nat}{sv kv:V}{es es':fx}{eu eu':fL}{os:List Own}{S:Heap}{cfg:Cfg}(h:TxH X H xb bb pb mw mu sv kv es eu)(hM:MW cfg H)(hlo:cfg.lo≤H.length)(hh:Hp H' ((H.set mw (wB es')).set mu (uB eu')++S) os):MW cfg H':=
 hM.of hlo hh (by simp) fun q cs hq h1 h2=>by
  rw[List.getElem?_append_left (by simpa using hq)]at h1
  by_cases hqu:mu=q
  ·subst hqu
   exact⟨_,h.hmu,rfl⟩
  rw[List.getElem?_set_ne hqu]at h1
  by_cases hqm:mw=q
  ·subst hqm
   exact⟨_,h.hmw,rfl⟩
  rw[List.getElem?_set_ne hqm]at h1
  exact⟨_,h1,h2⟩
theorem fI{H:Heap}{mw mu:Nat}{A A' C C':Option (List V)}{S:Heap}(h1:mw<H.length)(h2:mu<H.length):(((H.set mw A).set mu C++S).set mw A').set mu C'=(H.set mw A').set mu C'++S:=by
 rw[List.set_append_left _ _ (by simpa using h1),List.set_append_left _ _ (by simpa using h2)]
 congr 1
 apply List.ext_getElem?
 intro i
 by_cases hu:mu=i
 ·subst hu
  rw[List.getElem?_set_self (by simpa using h2),List.getElem?_set_self (by simpa using h2)]
 ·rw[List.getElem?_set_ne hu,List.getElem?_set_ne hu]
  by_cases hw:mw=i
  ·subst hw
   rw[List.getElem?_set_self (by simpa using h1),List.getElem?_set_self h1]
  ·rw[List.getElem?_set_ne hw,List.getElem?_set_ne hu,List.getElem?_set_ne hw,List.getElem?_set_ne hw]
theorem EG(l:List Gly):(∀ x:Gly,x∈l→∀ c:V,c∈au x→c.leaf=true)=True:=by
 refine eq_true fun x _ c hc=>?_
 simp[au]at hc
 rcases hc with rfl|rfl|rfl|rfl|rfl|rfl|rfl|rfl<;>rfl
theorem sP{fs:List Fnt}{f:Fnt}{face size:Int}{t:List Int}{B:List Bool}:∀ {l:List Gly},(ligL fs f face size t B l).length≤l.length
 | []=>by simp[ligL]
 | [x]=>by simp[ligL]
 | x::y::r=>by
  rw[ligL]
  have h1:=sP (fs:=fs) (f:=f) (face:=face) (size:=size) (t:=t) (B:=B) (l:=r)
  have h2:=sP (fs:=fs) (f:=f) (face:=face) (size:=size) (t:=t) (B:=B) (l:=y::r)
  split
  ·simp only[List.length_cons]at *;omega
  ·simp only[List.length_cons]at *;omega
theorem zb{fs:List Fnt}{f:Fnt}{face size:Int}{t fo:List Int}{B:List Bool}{a n:Nat}{right:Bool}:(mM fs f face size t fo B a n right).length≤n:=by
 unfold mM
 rw[gT]
 have h:=sP (fs:=fs) (f:=f) (face:=face) (size:=size) (t:=t) (B:=B) (l:=fp f face size t fo right a n)
 have h2:(fp f face size t fo right a n).length=n:=by simp[fp]
 split
 ·rw[vx,gN];omega
 ·rw[gN];omega
def pcP(x:Nat×Nat):List V:=[.int .i64 x.1,.int .i64 x.2]
theorem jE(x:Nat×Nat):(pcP x).length=2:=rfl
theorem Fx(l:List (Nat×Nat)):isMap (l.flatMap pcP)=false:=by cases l<;>rfl
section
variable {prim:FuncId→Option Prim}(d:Nat)
set_option maxRecDepth 100000 in
set_option maxHeartbeats 16000000 in
theorem B3(hp:∀ f,Np5 f→prim f=none)(hG:prim 174=some (fQ 8 64))(X:Txt)(hV:TxV X)(hXr:X.rs=kL)(hpR:prim 67=none)(hCl:∀ (cfg:Cfg) (H:Heap) (l:List Int),cfg.lo≤H.length→l≠[]→l.length≤2000→af md (K prim (d+10)) cfg 100 [il l] H=some (.sl (H.length+1) 0 l.length l.length 1,H++[none,some (l.map (V.int .i64))]))
  (hCn:∀ (cfg:Cfg) (H:Heap),af md (K prim (d+10)) cfg 100 [.lst []] H=some (.lst [],H)) (H:Heap) (xb bb pb mw mu:Nat) (sv kv:V) (es:fx) (eu:fL) (hT:TxH X H xb bb pb mw mu sv kv es eu) (k:Nat×Nat) (a b:Nat) (h1:k.1≤a) (h2:a≤b) (h3:b≤k.2) (h4:k.2≤X.p.t.length) (cfg:Cfg) (hM:MW cfg H) (hlo:cfg.lo≤H.length):
  ∃ r h2,af md (K prim (d+12)) cfg 57 [.ptr xb 0,.agg (X.sec k),.int .i64 a,.int .i64 b] H=some (r,h2) ∧
   ∃ es' eu',WOK X.fs es'∧UOK X.fs eu'∧Hp h2 ((H.set mw (wB es')).set mu (uB eu')) [(8,r,(X.gls k a b).flatMap au)]:=by
 refine wm rfl (hp 57 (by decide)) Tryz.func57 rfl rfl rfl ?_
 obtain⟨x0,x1,x2,x3,x4,x5,x6,x7,x8,x9,x15,xl,xm⟩:=dh X (.sl bb 0 (X.p.t.length+1) (X.p.t.length+1) 1) sv kv pb mw mu
 have xp:=DC X (.sl bb 0 (X.p.t.length+1) (X.p.t.length+1) 1) sv kv pb mw mu
 have hxb:=hT.hx
 have hxl:=aw hxb
 generalize hTx:txC X (.sl bb 0 (X.p.t.length+1) (X.p.t.length+1) 1) sv kv pb mw mu=T at *
 have hmwl:mw<H.length:=(List.getElem?_eq_some_iff.1 hT.hmw).1
 have hmul:mu<H.length:=(List.getElem?_eq_some_iff.1 hT.hmu).1
 have k0:slot (X.sec k) 0=some (.int .i64 k.1):=rfl
 have k1:slot (X.sec k) 1=some (.int .i64 k.2):=rfl
 have k2:slot (X.sec k) 2=some (.int .i64 (X.base k)):=rfl
 have k3:slot (X.sec k) 3=some (il (X.levs k)):=rfl
 have kl:(X.sec k).length=4:=rfl
 have km:isMap (X.sec k)=false:=rfl
 have kt:(X.sec k).take 4=X.sec k:=rfl
 have kf:(∀ x∈X.sec k,x.leaf=true)=True:=eq_true (by simp[Txt.sec])
 have hn:=hV.n
 have hpart:=hV.part (k:=k) (by omega) h4
 have hlevs:=hV.levs (k:=k) (by omega) h4
 have hlv:=hV.lvls (k:=k) (a:=a) (b:=b) h1 h2 h3 h4
 have ep:V.lst (List.drop k.1 (List.take k.2 (X.p.t.map fun n=>[V.int .i32 n])))=rl (X.part k):=by simp[rl,Txt.part,List.map_drop,List.map_take]
 simp(disch:=omega)[kf]
 refine ai 9 (by kernel_rfl) ?_
 obtain⟨rv,H1,hR,hRc⟩:=FK (prim:=prim) (d+5) hp hpR hCl hCn (X.part k) (X.levs k) (by omega) (by rw[hlevs,hpart]) (X.base k) (a-k.1) (b-k.1) (by omega) (by omega) cfg (H++[some (X.sec k)]) (by simp;omega)
 have eA:((a-k.1:Nat):Int)=(a:Int)-k.1:=by omega
 have eB:((b-k.1:Nat):Int)=(b:Int)-k.1:=by omega
 rw[eA,eB]at hR hRc
 have hrs:kL (X.part k) (X.levs k) (X.base k) ((a:Int)-k.1) ((b:Int)-k.1)=X.rs (X.part k) (X.levs k) (X.base k) ((a:Int)-k.1) ((b:Int)-k.1):=by rw[hXr]
 have hl0:(kL (X.part k) (X.levs k) (X.base k) ((a:Int)-k.1) ((b:Int)-k.1)).length=b-a:=by
  have:=vF (t:=X.part k) (lv:=X.levs k) (e:=X.base k) (a:=a-k.1) (b:=b-k.1) (by rw[hlevs,hpart]) (by omega) (by omega)
  rw[eA,eB]at this
  omega
 have hlvE:X.lvls k a b=qE X.bd a (kL (X.part k) (X.levs k) (X.base k) ((a:Int)-k.1) ((b:Int)-k.1)):=by unfold Txt.lvls;rw[hrs]
 generalize kL (X.part k) (X.levs k) (X.base k) ((a:Int)-k.1) ((b:Int)-k.1)=l0 at *
 simp(disch:=omega)[hxb,x0,k0,k1,k2,k3,km,ep,hR,wrap64,-getElem?_pos]
 rcases hRc with⟨hab,rfl,rfl⟩|⟨hab,hh1⟩
 · --C<
  have hab2:a=b:=by omega
  have hl00:l0=[]:=List.eq_nil_of_length_eq_zero (by omega)
  have hgl:X.gls k a b=[]:=by
   have e:X.lvls k a b=[]:=by rw[hlvE,hl00];rfl
   unfold Txt.gls
   rw[e]
   rfl
  have hOr:=fun cfg h=>ve (prim:=prim) (d+9) cfg h (hp 94 (by decide)) (hp 133 (by decide)) [] (by simp) (args:=[.lst []]) rfl
  have hO2:lG []=[]:=rfl
  rw[hgl]
  refine aj (fun m fr H'=>H'=H++[some (X.sec k)]∧Slots 215 [(0,.ptr xb 0),(2,.int .i64 a),(10,.lst []),(11,.int .i64 1)] fr) (m:=0) (by omega) ⟨rfl,by simp⟩ ?_
  rintro m fr H' ⟨rfl,hs⟩
  obtain⟨j,rfl⟩:=hs.ex
  clear hs
  simp(disch:=omega)[kO]
  refine aj (fun m fr H'=>H'=H++[some (X.sec k),some []]∧Slots 215 [(0,.ptr xb 0),(2,.int .i64 a),(10,.lst []),(12,.sl (H.length+1) 0 0 0 1),(13,.nils),(73,.int .i64 0),(74,.int .i64 0)] fr) (m:=0) (by omega) ⟨by simp,by simp⟩ ?_
  rintro m fr H' ⟨rfl,hs⟩
  obtain⟨j2,rfl⟩:=hs.ex
  clear hs
  simp(disch:=omega)[mQ,hOr,hO2]
  refine aj (fun m fr H'=>H'=H++[some (X.sec k),some [],some []]∧Slots 215 [(0,.ptr xb 0),(2,.int .i64 a),(15,.nils),(145,.lst []),(146,.int .i64 0),(147,.int .i64 0)] fr) (m:=0) (by omega) ⟨by simp,by simp⟩ ?_
  rintro m fr H' ⟨rfl,hs⟩
  obtain⟨j3,rfl⟩:=hs.ex
  clear hs
  simp(disch:=omega)
  refine⟨es,hT.hW,eu,hT.hU,?_⟩
  rw[bI hT.hmw,bI hT.hmu]
  exact (Hp.start.push _).nil 8
  --C>
 ·obtain⟨lb,nl,rfl,hnl,hlb1,hlb2,hlb3⟩:=hh1.head.pos (by intro e;have:=congrArg List.length e;simp at this;rw[this]at hl0;simp at hl0;omega)
  have hnlE:nl=b-a:=by simpa[hl0]using hnl.symm
  have hlvl:(X.lvls k a b).length=l0.length:=by rw[hlvE,po]
  have hgt:=fun i (hi:i<l0.length)=>BM X.bd a l0 i hi
  rw[← hlvE]at hgt
  have hbdl:X.bd.length=X.p.t.length+1:=ly _
  generalize hLv:X.lvls k a b=lv at *
  refine aj (fun m fr Hc=>∃ i:Nat,1≤i∧i≤nl∧m=nl-i∧Hp Hc (H++[some (X.sec k)]) [(1,.sl lb 0 nl nl 1,(lv.take i++l0.drop i).map (V.int .i64))] ∧
   Slots 215 [(0,.ptr xb 0),(2,.int .i64 a),(10,.sl lb 0 nl nl 1),(11,.int .i64 i)] fr) (m:=nl-1) (by omega) ⟨1,by omega,by omega,by omega,?_,by simp⟩ ?_
  ·have e0:=hgt 0 (by omega)
   simp only[ne_eq,not_true_eq_false,false_and,if_false]at e0
   rw[← gZ hlvl e0 (atI (by omega)),List.take_zero,List.nil_append,List.drop_zero]
   exact hh1
  clear hh1 hlb1 hlb2 hlb3
  rintro m fr Hc ⟨i,hi1,hi2,rfl,hhp,hs⟩
  obtain⟨j,rfl⟩:=hs.ex
  clear hs
  have hst:=@ba _ _ _ hlvl i
  have hat:=hhp.head.at
  have hbx:ab Hc xb=some T:=by rw[hhp.block (by simp;omega),al (by omega)];exact hxb
  have hbb:ab Hc bb=some (X.bd.map V.bool):=by
   have:=aw hT.hb
   rw[hhp.block (by simp;omega),al (by omega)]
   exact hT.hb
  by_cases hlt:i<nl
  · --A<
   have hI:(i:Int)<nl:=by omega
   have w1:slot (X.bd.map V.bool) (a+i)=some (.bool (lgB X.bd (a+i))):=by rw[slot,List.getElem?_map,atB (by omega)];rfl
   have e1:((i:Int)-1).toNat=i-1:=by omega
   have hx0:(lv.take i++l0.drop i)[i-1]?=some (lgI lv (i-1)):=by rw[List.getElem?_append_left (by simp;omega),List.getElem?_take_of_lt (by omega)];exact atI (by omega)
   have hse:=fun x=>dt (x:=x) hlvl (i:=i)
   have hsm:=fun x=>gZ (x:=x) hlvl (i:=i)
   have hgi:=hgt i (by omega)
   have hst2:=@ba _ _ _ hlvl (i+1)
   simp(disch:=omega)[hI,hbx,x8,hbb,w1,wrap64,-getElem?_pos]
   refine ak (fun hb=>?_) (fun hb=>?_)
   ·have hb2:lgB X.bd (a+i)=false:=by simpa using hb
    rw[if_pos ⟨by omega,hb2⟩]at hgi
    have hse2:=hse _ hgi
    generalize hS1:lv.take i++l0.drop i=st at *
    have w2:slot (st.map (V.int .i64)) (i-1)=some (.int .i64 (lgI lv (i-1))):=by rw[slot,List.getElem?_map,hx0];rfl
    have hlb3:ab Hc lb=some (st.map (V.int .i64)):=hat.2.2.1
    have hwl:cfg.wr lb=true:=bE (by have:=hat.1;simp at this;omega)
    have q2:i-1+1≤nl:=by omega
    have q3:i+1≤nl:=by omega
    have hh2:=hhp.setO (cs':=(st.set i (lgI lv (i-1))).map (V.int .i64)) (by cases st.set i (lgI lv (i-1))<;>rfl) (by simp)
    have q4:i+1≤b-a:=by omega
    have q5:i-1+1≤b-a:=by omega
    simp(disch:=omega)[hlb3,w2,e1,hwl,q4,hst,hl0,wrap64,-getElem?_pos,-List.map_set]
    exact ae (m':=nl-(i+1)) (by omega) ⟨i+1,by omega,by omega,rfl,by rw[← hse2];exact hh2,by simp(disch:=omega)⟩
   ·have hb2:¬ (i≠0∧lgB X.bd (a+i)=false):=by
     have:lgB X.bd (a+i)=true:=by simpa using hb
     rw[this]
     simp
    rw[if_neg hb2]at hgi
    rw[hsm _ hgi (atI (by omega))]at hhp
    simp(disch:=omega)[wrap64,-getElem?_pos]
    exact ae (m':=nl-(i+1)) (by omega) ⟨i+1,by omega,by omega,rfl,hhp,by simp(disch:=omega)⟩
   --A>
  have hI:¬ ((i:Int)<nl):=by omega
  rw[dq hlvl (by omega)]at hhp
  obtain rfl:i=nl:=by omega
  clear hst hgt hi2 hlt hI hbx hbb
  obtain⟨sb,ns,hsv,hns,_,hsbl,hsb⟩:=hT.hs.pos (by intro e;have:=congrArg List.length e;simp at this;have h5:=hV.sp;rw[this]at h5;simp at h5;omega)
  have hnsE:ns=X.p.t.length:=by have:=hV.sp;simp at hns;omega
  rw[hsv]at x9
  have hI0:¬ ((i:Int)<i):=by omega
  have hz:(List.replicate i (0:Int)).length=i:=by simp
  simp(disch:=omega)[hI0,dm,-List.map_replicate]
  generalize List.replicate i (0:Int)=z0 at *
  obtain⟨RI,hRI⟩:∃ RI:List Int,RI=(List.range i).map fun q=>((rnI lv X.sp a q:Nat):Int):=⟨_,rfl⟩
  have hRIl:RI.length=z0.length:=by rw[hRI,hz];simp
  have hRIg:∀ q,q<i→RI[q]?=some ((rnI lv X.sp a q:Nat):Int):=fun q hq=>by rw[hRI];simp[hq]
  have g1:=(hhp.new (cs:=z0.map (V.int .i64)) (n:=i) (k:=1) (by cases z0<;>rfl) (by simp[hz]) []).nil 2
  generalize hrb:Hc.length=rb at *
  generalize Hc++[some (z0.map (V.int .i64))]=Hd at *
  refine aj (fun m fr Hc=>∃ (q:Nat) (rv:V),q≤i∧m=i-q∧Hp Hc (H++[some (X.sec k)]) [(2,rv,(rnF lv X.sp a q).flatMap pcP),(1,.sl rb 0 i i 1,(RI.take q++z0.drop q).map (V.int .i64)),(1,.sl lb 0 i i 1,lv.map (V.int .i64))] ∧
   Slots 215 [(0,.ptr xb 0),(2,.int .i64 a),(10,.sl lb 0 i i 1),(12,.sl rb 0 i i 1),(13,rv),(73,.int .i64 i),(74,.int .i64 q)] fr) (m:=i) (by omega) ⟨0,.nils,by omega,by omega,by simpa[rnF]using g1,by simp⟩ ?_
  clear hhp g1 hat hrb
  rintro m fr Hc ⟨q,rv,hq,rfl,hhp,hs⟩
  obtain⟨j,rfl⟩:=hs.ex
  clear hs
  have hat:=hhp.thd.at
  have hbr:=hhp.snd.at
  have hst:=@ba _ _ _ hRIl q
  have hrl:=Da (lv:=lv) (sp:=X.sp) (a:=a) q
  have hbx:ab Hc xb=some T:=by rw[hhp.block (by simp;omega),al (by omega)];exact hxb
  have hbs:ab Hc sb=some (X.sp.map (V.int .i64)):=by rw[hhp.block (by simp;omega),al (by omega)];exact hsb
  by_cases hlt:q<i
  · --B<
   have hI:(q:Int)<i:=by omega
   simp(disch:=omega)[hI]
   refine iL (fun fr' H2=>H2=Hc∧Slots 215 [(0,.ptr xb 0),(2,.int .i64 a),(10,.sl lb 0 i i 1),(12,.sl rb 0 i i 1),(13,rv),(14,.int .i64 q),(73,.int .i64 i),(74,.int .i64 q),(112,.bool (gY lv X.sp a q))] fr') ?_ ?_
   ·refine ai 34 (by kernel_rfl) ?_
    rcases Nat.eq_zero_or_pos q with rfl|hq0
    ·simp(disch:=omega)
     exact bx ⟨rfl,by simp[gY]⟩
    ·have hspl:=hV.sp
     have e1:((q:Int)-1).toNat=q-1:=by omega
     have e2:((a:Int)+q-1).toNat=a+q-1:=by omega
     have e3:((a:Int)+q).toNat=a+q:=by omega
     have hlb3:ab Hc lb=some (lv.map (V.int .i64)):=hat.2.2.1
     have w0:slot (lv.map (V.int .i64)) q=some (.int .i64 (lgI lv q)):=by rw[slot,List.getElem?_map,atI (by omega)];rfl
     have w1:slot (lv.map (V.int .i64)) (q-1)=some (.int .i64 (lgI lv (q-1))):=by rw[slot,List.getElem?_map,atI (by omega)];rfl
     have w2:slot (X.sp.map (V.int .i64)) (a+q)=some (.int .i64 (lgI X.sp (a+q))):=by rw[slot,List.getElem?_map,atI (by omega)];rfl
     have w3:slot (X.sp.map (V.int .i64)) (a+q-1)=some (.int .i64 (lgI X.sp (a+q-1))):=by rw[slot,List.getElem?_map,atI (by omega)];rfl
     have q1:q-1+1≤i:=by omega
     have q2:q+1≤i:=by omega
     have q3:a+q+1≤ns:=by omega
     have q4:a+q-1+1≤ns:=by omega
     have hq00:¬ q=0:=by omega
     by_cases hl:lgI lv q=lgI lv (q-1)
     ·by_cases hsp:lgI X.sp (a+q)=lgI X.sp (a+q-1)
      ·have hss:gY lv X.sp a q=false:=by simp[gY,hq00,hl,hsp]
       simp(disch:=omega)[hq00,e1,e2,e3,hlb3,w0,w1,w2,w3,hbx,hbs,x9,hl,hsp,wrap64,-getElem?_pos]
       exact bx ⟨rfl,by simp[hss]⟩
      ·have hss:gY lv X.sp a q=true:=by simp[gY,hsp]
       simp(disch:=omega)[hq00,e1,e2,e3,hlb3,w0,w1,w2,w3,hbx,hbs,x9,hl,hsp,wrap64,-getElem?_pos]
       exact bx ⟨rfl,by simp[hss]⟩
     ·have hss:gY lv X.sp a q=true:=by simp[gY,hl]
      simp(disch:=omega)[hq00,e1,hlb3,w0,w1,hl,wrap64,-getElem?_pos]
      exact bx ⟨rfl,by simp[hss]⟩
   ·rintro _ _ ⟨rfl,hs⟩
    obtain⟨j2,rfl⟩:=hs.ex
    clear hs
    have hrE:rnF lv X.sp a (q+1)=bmp (if gY lv X.sp a q=true then rnF lv X.sp a q++[(a+q,a+q)] else rnF lv X.sp a q):=rfl
    have hrp:=lO (lv:=lv) (sp:=X.sp) (a:=a) (q+1) (by omega)
    have hriq:rnI lv X.sp a q=(rnF lv X.sp a (q+1)).length-1:=rfl
    rw[hrE,jt]at hrp hriq
    have hrl2:(if gY lv X.sp a q=true then rnF lv X.sp a q++[(a+q,a+q)] else rnF lv X.sp a q).length≤q+1:=by
     split
     ·simp;omega
     ·omega
    refine iL (fun fr' H2=>∃ rv',Hp H2 (H++[some (X.sec k)]) [(2,rv',(if gY lv X.sp a q=true then rnF lv X.sp a q++[(a+q,a+q)] else rnF lv X.sp a q).flatMap pcP),(1,.sl rb 0 i i 1,(RI.take q++z0.drop q).map (V.int .i64)),(1,.sl lb 0 i i 1,lv.map (V.int .i64))] ∧
     Slots 215 [(0,.ptr xb 0),(2,.int .i64 a),(10,.sl lb 0 i i 1),(12,.sl rb 0 i i 1),(13,rv'),(14,.int .i64 q),(73,.int .i64 i),(74,.int .i64 q)] fr') ?_ ?_
    ·have hfl:((rnF lv X.sp a q).flatMap pcP).length=(rnF lv X.sp a q).length*2:=cX (f:=pcP) (n:=2) (fun _=>rfl) _
     refine cg (z:=gY lv X.sp a q) (by simp) (fun hb=>?_) (fun hb=>?_)
     ·rw[if_pos hb]
      simp(disch:=omega)[wrap64,-getElem?_pos]
      refine bZ (m:=1) (hhp.push _) (by simp;omega) rfl rfl (by omega) (by omega) (by rw[hfl];omega) (by rw[hfl];omega) ?_
      intro rv' H' hh
      simp(disch:=omega)
      exact bx ⟨rv',by simpa[pcP]using hh,by simp⟩
     ·rw[if_neg (by rw[hb];simp)]
      simp(disch:=omega)
      exact bx ⟨rv,hhp,by simp⟩
    ·rintro _ Hc2 ⟨rv',hhp2,hs⟩
     obtain⟨j3,rfl⟩:=hs.ex
     clear hs hhp hat hbr hbx hbs
     obtain⟨R0,hR0⟩:∃ R0,(if gY lv X.sp a q=true then rnF lv X.sp a q++[(a+q,a+q)] else rnF lv X.sp a q)=R0:=⟨_,rfl⟩
     rw[hR0]at hhp2 hrE hrp hriq hrl2
     obtain⟨nb,rfl,hnb1,hnb2,hnb3⟩:=hhp2.head.posF jE (by omega) hrp
     have hbr:=hhp2.snd.at
     have hse:=dt hRIl (hRIg q hlt)
     have hst2:=@ba _ _ _ hRIl (q+1)
     obtain⟨cl,hcl⟩:∃ c:Nat×Nat,R0[R0.length-1]?=some c:=⟨_,List.getElem?_eq_getElem (by omega)⟩
     have hul:Tryz.prog.underlying 144=some (.slice 145):=by kernel_rfl
     have hrv:(R0.length:Int)-1=((rnI lv X.sp a q:Nat):Int):=by omega
     have hlb3:=hhp2.thd.at.2.2.1
     have hbr3:=hbr.2.2.1
     have hbr1:=hbr.1
     have hbr2:=hbr.2.1
     simp only[List.length_append,List.length_singleton]at hbr1 hnb1
     have hneb:rb≠nb:=fun e=>(List.pairwise_cons.1 hhp2.dj).1 _ (List.mem_cons_self ..) nb rfl (by rw[e];rfl)
     generalize hS0:RI.take q++z0.drop q=st at *
     generalize hS1:RI.take (q+1)++z0.drop (q+1)=st1 at *
     have hw1:cfg.wr rb=true:=bE (by omega)
     have hw2:cfg.wr nb=true:=bE (by omega)
     have q1:q+1≤i:=by omega
     simp(disch:=omega)[hbr3,hw1,hst,hz,q1,hrv,hse,wrap64,-getElem?_pos,-List.map_set]
     have hh3:=((hhp2.swap.setO (cs':=st1.map (V.int .i64)) (by cases st1<;>rfl) (by simp;omega)).swap)
     have hdl:(Hc2.set rb (some (st1.map (V.int .i64)))).length=Hc2.length:=by simp
     have hnb4:ab (Hc2.set rb (some (st1.map (V.int .i64)))) nb=some (R0.flatMap pcP):=by rw[ar hneb];exact hnb3
     have hrb4:ab (Hc2.set rb (some (st1.map (V.int .i64)))) rb=some (st1.map (V.int .i64)):=by
      have:=hh3.snd.at
      exact this.2.2.1
     generalize Hc2.set rb (some (st1.map (V.int .i64)))=H3 at *
     have w0:slot (st1.map (V.int .i64)) q=some (.int .i64 (rnI lv X.sp a q)):=by rw[slot,List.getElem?_map,← hse,List.getElem?_set_self (by omega)];rfl
     have w1:slot (R0.flatMap pcP) ((R0.length-1)*2+1)=some (.int .i64 cl.2):=by rw[eb (f:=pcP) (n:=2) jE (by omega) hcl];rfl
     have w2:bV (R0.flatMap pcP) ((R0.length-1)*2+1) (.int .i64 ((cl.2:Int)+1))=(bmp R0).flatMap pcP:=by
      rw[gJ (f:=pcP) (n:=2) jE (by omega) hcl (x':=(cl.1,cl.2+1)) rfl]
      unfold bmp
      rw[List.getD_eq_getElem?_getD,hcl]
      rfl
     have hfl:(R0.flatMap pcP).length=R0.length*2:=cX (f:=pcP) (n:=2) (fun _=>rfl) _
     refine ai 10 (by kernel_rfl) ?_
     have hh4:=hh3.setO (cs':=(bmp R0).flatMap pcP) (Fx _) (by rw[cX (f:=pcP) (n:=2) (fun _=>rfl),jt,hfl])
     have q6:R0.length-1<R0.length:=by omega
     have q7:(R0.length-1)*2+1<R0.length*2:=by omega
     have q8:(R0.length-1)*2+2≤R0.length*2:=by omega
     have hcl2:(cl.2:Int)+1≤4001:=by
      have h9:=iG (lv:=lv) (sp:=X.sp) (a:=a) q
      have h10:=List.mem_of_getElem? hcl
      rw[← hR0]at h10
      split at h10
      ·rcases List.mem_append.1 h10 with h|h
       ·have:=h9 _ h;omega
       ·simp at h;rw[h];simp;omega
      ·have:=h9 _ h10;omega
     simp(disch:=omega)[hnb4,hrb4,w0,w1,w2,hw2,hfl,hriq,q8,wrap64,-getElem?_pos]
     exact ae (m':=i-(q+1)) (by omega) ⟨q+1,_,by omega,by omega,by rw[hrE,hS1];simpa[jt]using hh4,by simp(disch:=omega)⟩
   --B>
  obtain rfl:q=i:=by omega
  have hI:¬ ((q:Int)<q):=by omega
  rw[dq hRIl (by omega)]at hhp
  obtain⟨R,hR0⟩:∃ R,rnF lv X.sp a q=R:=⟨_,rfl⟩
  have hRp:=lO (lv:=lv) (sp:=X.sp) (a:=a) q (by omega)
  have hRm:=iG (lv:=lv) (sp:=X.sp) (a:=a) q
  have hRi:=fun c hc=>xC (lv:=lv) (sp:=X.sp) (a:=a) (i:=c) (n:=q) hc
  rw[hR0]at hhp hRp hRm hrl
  simp only[hR0]at hRi
  obtain⟨nb,rfl,hnb1,hnb2,hnb3⟩:=hhp.head.posF jE (by omega) hRp
  have hul:Tryz.prog.underlying 144=some (.slice 145):=by kernel_rfl
  have hlvq:lv.length=q:=by omega
  have hfz:frzA (Hc++[some ((List.replicate R.length false).map V.bool)]) (.sl lb 0 q q 1)=some (il lv):=by
   unfold frzA
   rw[ek (h:=Hc++[some ((List.replicate R.length false).map V.bool)]) (n:=0) (d:=4) (k:=.i64) (l:=lv) (by rw[al hat.2.1];exact hat.2.2.1) (Nat.zero_le _) hlvq]
   rfl
  have hOr:=fun cfg=>ve (prim:=prim) (d+9) cfg (Hc++[some ((List.replicate R.length false).map V.bool)]) (hp 94 (by decide)) (hp 133 (by decide)) lv (by omega) (args:=[.sl lb 0 q q 1]) (by rw[List.mapM_cons,hfz];rfl)
  obtain⟨hol,hor⟩:=mE (lv:=lv)
  have hglE:X.gls k a b=[]++X.glO lv a (List.replicate R.length false) ((lG lv).drop 0):=by
   unfold Txt.gls
   rw[hLv,hlvq,hR0]
   simp
  generalize lG lv=od at *
  simp(disch:=omega)[hI,mQ,hOr,-List.map_replicate]
  have g1:=(hhp.new (cs:=(List.replicate R.length false).map V.bool) (n:=R.length) (k:=1) fD (by simp) []).nil 8
  have hd0:(List.replicate R.length false).length=R.length:=by simp
  generalize List.replicate R.length false=dn0 at *
  generalize hdb:Hc.length=db at *
  generalize Hc++[some (dn0.map V.bool)]=Hd at *
  refine aj (fun m fr Hc=>∃ (w:Nat) (ov:V) (gs:List Gly) (dn:List Bool) (es':fx) (eu':fL),w≤od.length∧m=od.length-w∧WOK X.fs es'∧UOK X.fs eu'∧gs.length≤2000*w∧dn.length=R.length∧X.gls k a b=gs++X.glO lv a dn (od.drop w) ∧
   Hp Hc ((H.set mw (wB es')).set mu (uB eu')++[some (X.sec k)]) [(8,ov,gs.flatMap au),(1,.sl db 0 R.length R.length 1,dn.map V.bool),(2,.sl nb 0 R.length R.length 2,R.flatMap pcP),(1,.sl rb 0 q q 1,RI.map (V.int .i64)),(1,.sl lb 0 q q 1,lv.map (V.int .i64))] ∧
   Slots 215 [(0,.ptr xb 0),(2,.int .i64 a),(10,.sl lb 0 q q 1),(12,.sl rb 0 q q 1),(13,.sl nb 0 R.length R.length 2),(15,ov),(16,.sl db 0 R.length R.length 1),(145,il od),(146,.int .i64 od.length),(147,.int .i64 w)] fr) (m:=od.length) (by omega)
   ⟨0,.nils,[],dn0,es,eu,by omega,by omega,hT.hW,hT.hU,by simp,hd0,hglE,?_,by simp⟩ ?_
  ·rw[bI hT.hmw,bI hT.hmu]
   exact g1
  clear g1 hhp hOr hfz hnb1 hnb2 hnb3 hat hbr hglE hbx hbs
  rintro m fr Hc ⟨w,ov,gs,dn,es',eu',hw,rfl,hW',hU',hgl,hdn,hglE,hhp,hs⟩
  obtain⟨j,rfl⟩:=hs.ex
  clear hs
  have hle:=hhp.le
  simp only[List.length_append,List.length_set,List.length_singleton]at hle
  have hT2:=hT.ext hhp hW' hU'
  have hM2:=hT.mw hM hlo hhp
  have hbx:ab Hc xb=some T:=by rw[← hTx];exact hT2.hx
  have hbs:ab Hc sb=some (X.sp.map (V.int .i64)):=by
   have:=hT2.hs
   rw[hsv]at this
   exact this.at.2.2.1
  have hdb:=hhp.snd.at
  have hnb:=hhp.thd.at
  have hrb:=hhp.tail.thd.at
  have hlb:=hhp.tail.tail.thd.at
  by_cases hlt:w<od.length
  · --D<
   have hI:(w:Int)<od.length:=by omega
   obtain⟨c0,hc0⟩:=atG hlt
   have hcr:=hor c0 (List.mem_of_getElem? hc0)
   obtain⟨c,rfl⟩:∃ c:Nat,c0=c:=⟨c0.toNat,by omega⟩
   have hcq:c<q:=by omega
   have hdrop:od.drop w=(c:Int)::od.drop (w+1):=by
    rw[List.drop_eq_getElem_cons hlt]
    rw[List.getElem?_eq_getElem hlt]at hc0
    rw[Option.some.inj hc0]
   rw[hdrop]at hglE
   have hrc:=hRi c hcq
   obtain⟨rc,hrcE⟩:∃ rc,rnI lv X.sp a c=rc:=⟨_,rfl⟩
   have w0:slot (RI.map (V.int .i64)) c=some (.int .i64 rc):=by rw[slot,List.getElem?_map,hRIg c hcq,hrcE];rfl
   rw[hrcE]at hrc
   have w1:slot (dn.map V.bool) rc=some (.bool (lgB dn rc)):=by rw[slot,List.getElem?_map,atB (by omega)];rfl
   have hrb3:=hrb.2.2.1
   have hdb3:=hdb.2.2.1
   have q1:c+1≤q:=by omega
   have q2:rc+1≤R.length:=by omega
   simp(disch:=omega)[hI,hc0,hrb3,hdb3,w0,w1,-getElem?_pos]
   refine ak (fun hb=>?_) (fun hb=>?_)
   ·rw[Txt.glO,if_pos (by rw[Int.toNat_natCast,hrcE];exact hb)]at hglE
    simp(disch:=omega)[wrap64,-getElem?_pos]
    exact ae (m':=od.length-(w+1)) (by omega) ⟨w+1,ov,gs,dn,es',eu',by omega,rfl,hW',hU',by omega,hdn,hglE,hhp,by simp(disch:=omega)⟩
   ·rw[Txt.glO,if_neg (by rw[Int.toNat_natCast,hrcE,hb];simp),Int.toNat_natCast,hrcE]at hglE
    obtain⟨sq,hsq1,hsq2,hsq3,hsq4,hsq5,hsq6,hsq7,hsq8⟩:=hV.spn (i:=a+c) (by omega)
    have hglE':X.gls k a b=(gs++X.gl1 lv a c)++X.glO lv a (dn.set rc true) (od.drop (w+1)):=by rw[hglE,List.append_assoc]
    have hg1:X.gl1 lv a c=mM X.fs (X.fnt (a+c)) (X.spn (a+c)).n (X.spn (a+c)).z X.p.t (ey X.p.t) X.bd (R.getD rc (0,0)).1 ((R.getD rc (0,0)).2-(R.getD rc (0,0)).1) (decide ((lgI lv c).tmod 2=1)):=by
     unfold Txt.gl1
     rw[hlvq,hR0,hrcE]
    obtain⟨rr,hrr⟩:∃ r:Nat×Nat,R[rc]?=some r:=⟨_,List.getElem?_eq_getElem hrc⟩
    have hrrm:=hRm rr (List.mem_of_getElem? hrr)
    rw[List.getD_eq_getElem?_getD,hrr,Option.getD_some]at hg1
    generalize X.spn (a+c)=s at *
    generalize X.fnt (a+c)=f at *
    have hwd:cfg.wr db=true:=bE (by have:=hdb.1;simp at this;omega)
    simp(disch:=omega)[hdb3,hwd,q2,hdn,setB,-getElem?_pos,-List.map_set]
    have hh1:=(hhp.swap.setO (cs':=(dn.set rc true).map V.bool) fD (by simp)).swap
    have hnb3:ab (Hc.set db (some ((dn.set rc true).map V.bool))) nb=some (R.flatMap pcP):=hh1.thd.at.2.2.1
    have hlb3:ab (Hc.set db (some ((dn.set rc true).map V.bool))) lb=some (lv.map (V.int .i64)):=hh1.tail.tail.thd.at.2.2.1
    have hT3:=hT.ext hh1 hW' hU'
    have hM3:=hT.mw hM hlo hh1
    have hle3:=hh1.le
    simp only[List.length_append,List.length_set,List.length_singleton]at hle3
    have hln3:(Hc.set db (some ((dn.set rc true).map V.bool))).length=Hc.length:=by simp
    generalize Hc.set db (some ((dn.set rc true).map V.bool))=H3 at *
    clear hhp hbx hbs hdb hnb hrb hlb hT2 hM2 hrb3 hdb3 hle
    have hbx:ab H3 xb=some T:=by rw[← hTx];exact hT3.hx
    have hbs:ab H3 sb=some (X.sp.map (V.int .i64)):=by
     have:=hT3.hs
     rw[hsv]at this
     exact this.at.2.2.1
    have w2:slot (X.sp.map (V.int .i64)) (a+c)=some (.int .i64 sq):=by rw[slot,List.getElem?_map,atI (by have:=hV.sp;omega),hsq1];rfl
    have q3:a+c+1≤ns:=by omega
    have e3:((a:Int)+c).toNat=a+c:=by omega
    have hsl4:(cb s).length=4:=rfl
    have hst4:List.take 4 (cb s)=cb s:=rfl
    have hslf:(∀ x∈cb s,x.leaf=true)=True:=eq_true (by simp[cb])
    have hsmp:isMap (cb s)=false:=rfl
    have hsrf:(∀ x∈cb s,x.rf=true)=True:=eq_true (by simp[cb])
    have hwH:cfg.wr H3.length=true:=bE (by omega)
    have hpa:putAt [V.int .i64 0,.int .i64 0,.int .i64 0,.int .i64 0] 0 (cb s)=cb s:=rfl
    refine ai 17 (by kernel_rfl) ?_
    simp(disch:=omega)[hbx,hbs,x1,x9,w2,e3,hsq2,hsl4,hst4,hslf,hsrf,hwH,hpa,wrap64,-getElem?_pos]
    have hh2:=(hh1.new (cs:=cb s) (n:=1) (k:=4) hsmp hsl4 [])
    have hT4:=hT.ext hh2 hW' hU'
    have hM4:=hT.mw hM hlo hh2
    have hnb4:ab (H3++[some (cb s)]) nb=some (R.flatMap pcP):=by rw[al (aw hnb3)];exact hnb3
    have hlb4:ab (H3++[some (cb s)]) lb=some (lv.map (V.int .i64)):=by rw[al (aw hlb3)];exact hlb3
    have hsb4:ab (H3++[some (cb s)]) H3.length=some (cb s):=hh2.head.at.2.2.1
    have hln4:(H3++[some (cb s)]).length=H3.length+1:=by simp
    generalize H3++[some (cb s)]=H4 at *
    generalize hs3:H3.length=s3 at *
    have hfo:(ey X.p.t).length=X.p.t.length:=nR _
    obtain⟨es2,eu2,hW2,hU2,hRun⟩:=I2 (prim:=prim) (d+1) hp hG X.fs f s.n s.z hsq3 hsq8 hsq6 hsq7 X.p.t hV.n X.bd hbdl H4 mw mu pb es' eu' hT4.hmw hT4.hmu hT.hne hW' hU' hT4.hp (ey X.p.t) hfo rr.1 (rr.2-rr.1) (by omega) (by omega) (decide ((lgI lv c).tmod 2=1)) cfg hM4 (by omega)
    rw[← hg1,hbdl,show rr.1+(rr.2-rr.1)=rr.2 by omega]at hRun
    have hbx4:ab H4 xb=some T:=by rw[← hTx];exact hT4.hx
    have u2:slot (cb s) 2=some (.int .i64 s.n):=rfl
    have u3:slot (cb s) 3=some (.int .i64 s.z):=rfl
    have r0:slot (R.flatMap pcP) (rc*2)=some (.int .i64 rr.1):=by rw[wL (f:=pcP) (n:=2) jE (by omega) hrr];rfl
    have r1:slot (R.flatMap pcP) (rc*2+1)=some (.int .i64 rr.2):=by rw[eb (f:=pcP) (n:=2) jE (by omega) hrr];rfl
    have hfl:(R.flatMap pcP).length=R.length*2:=cX (f:=pcP) (n:=2) (fun _=>rfl) _
    have wl:slot (lv.map (V.int .i64)) c=some (.int .i64 (lgI lv c)):=by rw[slot,List.getElem?_map,atI (by omega)];rfl
    obtain⟨fi,hfi⟩:∃ x:Nat,s.n=x:=⟨s.n.toNat,by omega⟩
    rw[hfi,Int.toNat_natCast]at hsq3
    have hfn4:(aH f).length=8:=rfl
    have hft4:List.take 8 (aH f)=aH f:=rfl
    have hff4:(∀ x∈aH f,x.leaf=true)=True:=eq_true (by simp[aH])
    have q6:rc*2+2≤R.length*2:=by omega
    refine ai 33 (by kernel_rfl) ?_
    rw[hfi]at u2 hRun
    simp (maxSteps:=1000000) (disch:=omega)[hbx4,x5,xl,xp,hsb4,u2,u3,hsq3,hfn4,hft4,hnb4,r0,r1,hlb4,wl,hRun,-getElem?_pos]
    have hh5:=(hh2.set (b:=mw) (by simp;omega) (wB es2)).set (b:=mu) (by simp;omega) (uB eu2)
    rw[fI hmwl hmul]at hh5
    have hln5:((H4.set mw (wB es2)).set mu (uB eu2)).length=H4.length:=by simp
    generalize (H4.set mw (wB es2)).set mu (uB eu2)=H5 at *
    have hgg:∀ x:Gly,x∈X.gl1 lv a c→(au x).length=8:=fun _ _=>rfl
    rw[if_pos hgg,← List.flatMap_def]
    have hg1l:(X.gl1 lv a c).length≤2000:=by rw[hg1];exact Nat.le_trans zb (by omega)
    simp(disch:=omega)[EG]
    refine lX (m:=(X.gl1 lv a c).length) (hh5.tail.drop (List.Sublist.refl _)) (by simp;omega) (br _) (fA _) (by omega) (by rw[br,Nat.mul_div_cancel _ (by omega)];omega) (by rw[br,Nat.mul_div_cancel _ (by omega)];omega) ?_
    intro ov' H6 hh6
    simp(disch:=omega)[wrap64,-getElem?_pos]
    exact ae (m':=od.length-(w+1)) (by omega) ⟨w+1,ov',gs++X.gl1 lv a c,dn.set rc true,es2,eu2,by omega,rfl,hW2,hU2,by simp;omega,by simpa using hdn,hglE',by simpa using hh6,by simp(disch:=omega)⟩
   --D>
  ·obtain rfl:w=od.length:=by omega
   have hI:¬ ((od.length:Int)<od.length):=by omega
   rw[List.drop_length,Txt.glO,List.append_nil]at hglE
   rw[hglE]
   simp(disch:=omega)[hI]
   refine⟨es',hW',eu',hU',?_⟩
   have:=hhp.cut (n:=((H.set mw (wB es')).set mu (uB eu')).length) (by simp)
   rw[List.take_left]at this
   exact this.drop ((List.nil_sublist _).cons_cons _)
end
end Bi
end Go.Ab
