/- The program: the glyphs of a line. -/
import Derived.Test.YtoappddifbgegaaGreatPaAn
import Derived.Test.YtoappddifbgegaaGreatPaRs
set_option linter.all false
set_option maxHeartbeats 16000000
set_option maxRecDepth 100000
namespace Go.Ab
open Go.Proofs
namespace Bi
attribute [local congr] az
theorem tB{H:Heap}{b mw:Nat}{cs:List V}{es:fG}(hb:ab H b=some cs)(hm:H[mw]?=some (wB es)):mw≠b:=by
 intro e;subst e;simp[ab,hm,isMap]at hb
theorem tA{H:Heap}{b mu:Nat}{cs:List V}{eu:fV}(hb:ab H b=some cs)(hm:H[mu]?=some (uB eu)):mu≠b:=by
 intro e;subst e;simp[ab,hm,isMap]at hb
theorem Cw{H:Heap}{b mw mu:Nat}{cs:List V}{es:fG}{eu:fV}(hb:ab H b=some cs)(hmw:H[mw]?=some (wB es))(hmu:H[mu]?=some (uB eu))(A C:Option (List V))(S:Heap):ab ((H.set mw A).set mu C++S) b=some cs:=by
 have hl:=ao hb;rw[aj (by simpa using hl),ak (tA hb hmu),ak (tB hb hmw)];exact hb
structure TxH(X:Txt)(H:Heap)(xb bb pb mw mu:Nat)(sv kv:V)(es:fG)(eu:fV):Prop where
 hx:ab H xb=some (txC X (.sl bb 0 (X.p.t.length+1) (X.p.t.length+1) 1) sv kv pb mw mu)
 hb:ab H bb=some (X.bd.map V.bool)
 hp:ab H pb=some (X.bd.map V.bool)
 hs:OwnC H 0 1 sv (X.sp.map (V.int .i64))
 hk:OwnC H 0 4 kv (X.secs.flatMap X.sec)
 hmw:H[mw]?=some (wB es)
 hmu:H[mu]?=some (uB eu)
 hne:mw≠mu
 hW:WOK X.fs es
 hU:UOK X.fs eu
theorem TxH.ext{X:Txt}{H H':Heap}{xb bb pb mw mu:Nat}{sv kv:V}{es es':fG}{eu eu':fV}{os:List Own}{S:Heap}(h:TxH X H xb bb pb mw mu sv kv es eu)(hh:Hp H' ((H.set mw (wB es')).set mu (uB eu')++S) os)(hW:WOK X.fs es')(hU:UOK X.fs eu'):TxH X H' xb bb pb mw mu sv kv es' eu':=by
 have hB:∀ {b:Nat} {cs:List V},ab H b=some cs->ab H' b=some cs:=fun hb=>by
  have hl:=ao hb;rw[hh.block (by simp;omega)];exact Cw hb h.hmw h.hmu _ _ _
 have h0:mw<H.length:=by obtain⟨h1,_⟩:=K5.1 h.hmw;exact h1
 have h3:mu<H.length:=by obtain⟨h1,_⟩:=K5.1 h.hmu;exact h1
 have hg:∀ {q:Nat},q<H.length->H'[q]?=((H.set mw (wB es')).set mu (uB eu'))[q]?:=fun {q} hq=>by
  have h1:(H'.take ((H.set mw (wB es')).set mu (uB eu')++S).length)[q]?=((H.set mw (wB es')).set mu (uB eu')++S)[q]?:=by rw[hh.take]
  rw[LI (by simp;omega),K8 (by simpa using hq)]at h1;exact h1
 refine⟨hB h.hx,hB h.hb,hB h.hp,h.hs.of_blk fun b hb=>?_,h.hk.of_blk fun b hb=>?_,?_,?_,h.hne,hW,hU⟩
 ·obtain⟨_,hl⟩:=h.hs.blk hb;rcases h.hs with⟨rfl,_⟩|⟨c,n,rfl,_,_,hc⟩
  ·cases hb
  ·cases hb;rw[hB hc,hc]
 ·rcases h.hk with⟨rfl,_⟩|⟨c,n,rfl,_,_,hc⟩
  ·cases hb
  ·cases hb;rw[hB hc,hc]
 ·rw[hg h0,Lb (Ne.symm h.hne),Lm h0]
 ·rw[hg h3,Lm (by simpa using h3)]
theorem TxH.mw{X:Txt}{H H':Heap}{xb bb pb mw mu:Nat}{sv kv:V}{es es':fG}{eu eu':fV}{os:List Own}{S:Heap}{cfg:Cfg}(h:TxH X H xb bb pb mw mu sv kv es eu)(hM:MW cfg H)(h4:cfg.lo<=H.length)(hh:Hp H' ((H.set mw (wB es')).set mu (uB eu')++S) os):MW cfg H':=
 hM.of h4 hh (by simp) fun q cs hq h1 h2=>by
  rw[K8 (by simpa using hq)]at h1;by_cases h0:mu=q
  ·subst h0;exact⟨_,h.hmu,rfl⟩
  rw[Lb h0]at h1;by_cases h3:mw=q
  ·subst h3;exact⟨_,h.hmw,rfl⟩
  rw[Lb h3]at h1;exact⟨_,h1,h2⟩
theorem fS{H:Heap}{mw mu:Nat}{A A' C C':Option (List V)}{S:Heap}(h1:mw<H.length)(h2:mu<H.length):(((H.set mw A).set mu C++S).set mw A').set mu C'=(H.set mw A').set mu C'++S:=by
 rw[LY _ _ (by simpa using h1),LY _ _ (by simpa using h2)];congr 1;apply LJ;intro i;by_cases hu:mu=i
 ·subst hu;rw[Lm (by simpa using h2),Lm (by simpa using h2)]
 ·rw[Lb hu,Lb hu];by_cases hw:mw=i
  ·subst hw;rw[Lm (by simpa using h1),Lm h1]
  ·rw[Lb hw,Lb hu,Lb hw,Lb hw]
theorem FO(l:List Gly):(∀ x:Gly,x∈l->∀ c:V,c∈aq x->c.leaf=true)=True:=by
 refine eq_true fun x _ c hc=>?_;simp[aq]at hc;rcases hc with rfl|rfl|rfl|rfl|rfl|rfl|rfl|rfl<;>rfl
theorem tX{fs:List Fnt}{f:Fnt}{face size:Int}{t:List Int}{B:List Bool}:∀ {l:List Gly},(ligL fs f face size t B l).length<=l.length
 | []=>by simp[ligL]
 | [x]=>by simp[ligL]
 | x::y::r=>by
  rw[ligL];have h1:=tX (fs:=fs) (f:=f) (face:=face) (size:=size) (t:=t) (B:=B) (l:=r);have h2:=tX (fs:=fs) (f:=f) (face:=face) (size:=size) (t:=t) (B:=B) (l:=y::r);split
  ·simp only[Lp]at *;omega
  ·simp only[Lp]at *;omega
theorem Ao{fs:List Fnt}{f:Fnt}{face size:Int}{t fo:List Int}{B:List Bool}{a n:Nat}{right:Bool}:(runS fs f face size t fo B a n right).length<=n:=by
 unfold runS;rw[jK];have h:=tX (fs:=fs) (f:=f) (face:=face) (size:=size) (t:=t) (B:=B) (l:=gD f face size t fo right a n);have h2:(gD f face size t fo right a n).length=n:=by simp[gD]
 split
 ·rw[wN,gW];omega
 ·rw[gW];omega
def pcP(x:Nat×Nat):List V:=[.int .i64 x.1,.int .i64 x.2]
theorem kg(x:Nat×Nat):(pcP x).length=2:=rfl
theorem Gz(l:List (Nat×Nat)):isMap (l.flatMap pcP)=false:=by cases l<;>rfl
section
variable {prim:FuncId->Option Prim}(d:Nat)
theorem Db(hp:∀ f,Np5 f->prim f=none)(hG:prim 329=some (gj 8 64))(X:Txt)(hV:TxV X)(hXr:X.rs=mN)(hpR:prim 237=none)(hCl:∀ (cfg:Cfg) (H:Heap) (l:List Int),cfg.lo<=H.length->l≠[]->l.length<=2000->af md (K prim (d+10)) cfg 279 [il l] H=some (.sl (H.length+1) 0 l.length l.length 1,H++[none,some (l.map (V.int .i64))]))
  (hCn:∀ (cfg:Cfg) (H:Heap),af md (K prim (d+10)) cfg 279 [.lst []] H=some (.lst [],H)) (H:Heap) (xb bb pb mw mu:Nat) (sv kv:V) (es:fG) (eu:fV) (hT:TxH X H xb bb pb mw mu sv kv es eu) (k:Nat×Nat) (a b:Nat) (h1:k.1<=a) (h2:a<=b) (h3:b<=k.2) (h4:k.2<=X.p.t.length) (cfg:Cfg) (hM:MW cfg H) (z2:cfg.lo<=H.length):
  ∃ r h2,af md (K prim (d+12)) cfg 173 [.ptr xb 0,.agg (X.sec k),.int .i64 a,.int .i64 b] H=some (r,h2) /\
   ∃ es' eu',WOK X.fs es'/\UOK X.fs eu'/\Hp h2 ((H.set mw (wB es')).set mu (uB eu')) [(8,r,(X.gls k a b).flatMap aq)]:=by
 refine xI rfl (hp 173 (by decide)) Tryz.func173 rfl rfl rfl ?_;obtain⟨x0,x1,x2,x3,x4,x5,x6,x7,x8,x9,x15,xl,xm⟩:=da X (.sl bb 0 (X.p.t.length+1) (X.p.t.length+1) 1) sv kv pb mw mu;have xp:=EG X (.sl bb 0 (X.p.t.length+1) (X.p.t.length+1) 1) sv kv pb mw mu;have g7:=hT.hx;have hxl:=ao g7;generalize z3:txC X (.sl bb 0 (X.p.t.length+1) (X.p.t.length+1) 1) sv kv pb mw mu=T at *;have z4:mw<H.length:=(K5.1 hT.hmw).1;have hmul:mu<H.length:=(K5.1 hT.hmu).1;have k0:slot (X.sec k) 0=some (.int .i64 k.1):=rfl;have k1:slot (X.sec k) 1=some (.int .i64 k.2):=rfl;have k2:slot (X.sec k) 2=some (.int .i64 (X.base k)):=rfl;have k3:slot (X.sec k) 3=some (il (X.levs k)):=rfl;have kl:(X.sec k).length=4:=rfl;have km:isMap (X.sec k)=false:=rfl;have kt:(X.sec k).take 4=X.sec k:=rfl;have kf:(∀ x∈X.sec k,x.leaf=true)=True:=eq_true (by simp[Txt.sec]);have hn:=hV.n;have ht:=hV.part (k:=k) (by omega) h4;have hu:=hV.levs (k:=k) (by omega) h4;have hlv:=hV.lvls (k:=k) (a:=a) (b:=b) h1 h2 h3 h4;have ep:V.lst (List.drop k.1 (List.take k.2 (X.p.t.map fun n=>[V.int .i32 n])))=rl (X.part k):=by simp[rl,Txt.part,Om,On]
 simp(disch:=omega)[kf];refine ai 9 (by kernel_rfl) ?_;obtain⟨rv,H1,hR,hRc⟩:=GN (prim:=prim) (d+5) hp hpR hCl hCn (X.part k) (X.levs k) (by omega) (by rw[hu,ht]) (X.base k) (a-k.1) (b-k.1) (by omega) (by omega) cfg (H++[some (X.sec k)]) (by simp;omega);have eA:((a-k.1:Nat):Int)=(a:Int)-k.1:=by omega
 have eB:((b-k.1:Nat):Int)=(b:Int)-k.1:=by omega
 rw[eA,eB]at hR hRc;have hrs:mN (X.part k) (X.levs k) (X.base k) ((a:Int)-k.1) ((b:Int)-k.1)=X.rs (X.part k) (X.levs k) (X.base k) ((a:Int)-k.1) ((b:Int)-k.1):=by rw[hXr]
 have g8:(mN (X.part k) (X.levs k) (X.base k) ((a:Int)-k.1) ((b:Int)-k.1)).length=b-a:=by
  have:=wT (t:=X.part k) (lv:=X.levs k) (e:=X.base k) (a:=a-k.1) (b:=b-k.1) (by rw[hu,ht]) (by omega) (by omega);rw[eA,eB]at this;omega
 have hy:X.lvls k a b=vt X.bd a (mN (X.part k) (X.levs k) (X.base k) ((a:Int)-k.1) ((b:Int)-k.1)):=by unfold Txt.lvls;rw[hrs]
 generalize mN (X.part k) (X.levs k) (X.base k) ((a:Int)-k.1) ((b:Int)-k.1)=l0 at *;simp(disch:=omega)[g7,x0,k0,k1,k2,k3,km,ep,hR,wrap64,-getElem?_pos];rcases hRc with⟨hab,rfl,rfl⟩|⟨hab,hg⟩
 · --C<
  have hab2:a=b:=by omega
  have z5:l0=[]:=Ml (by omega);have hgl:X.gls k a b=[]:=by
   have e:X.lvls k a b=[]:=by rw[hy,z5];rfl
   unfold Txt.gls;rw[e];rfl
  have hOr:=fun cfg h=>wo (prim:=prim) (d+9) cfg h (hp 238 (by decide)) (hp 289 (by decide)) [] (by simp) (args:=[.lst []]) rfl;have hO2:mF []=[]:=rfl;rw[hgl];refine ah (fun m fr H'=>H'=H++[some (X.sec k)]/\Slots 215 [(0,.ptr xb 0),(2,.int .i64 a),(10,.lst []),(11,.int .i64 1)] fr) (m:=0) (by omega) ⟨rfl,by simp⟩ ?_;rintro m fr H' ⟨rfl,hs⟩;obtain⟨j,rfl⟩:=hs.ex;clear hs;simp(disch:=omega)[lM];refine ah (fun m fr H'=>H'=H++[some (X.sec k),some []]/\Slots 215 [(0,.ptr xb 0),(2,.int .i64 a),(10,.lst []),(12,.sl (H.length+1) 0 0 0 1),(13,.nils),(73,.int .i64 0),(74,.int .i64 0)] fr) (m:=0) (by omega) ⟨by simp,by simp⟩ ?_;rintro m fr H' ⟨rfl,hs⟩;obtain⟨j2,rfl⟩:=hs.ex;clear hs;simp(disch:=omega)[nP,hOr,hO2];refine ah (fun m fr H'=>H'=H++[some (X.sec k),some [],some []]/\Slots 215 [(0,.ptr xb 0),(2,.int .i64 a),(15,.nils),(145,.lst []),(146,.int .i64 0),(147,.int .i64 0)] fr) (m:=0) (by omega) ⟨by simp,by simp⟩ ?_;rintro m fr H' ⟨rfl,hs⟩;obtain⟨j3,rfl⟩:=hs.ex;clear hs;simp(disch:=omega);refine⟨es,hT.hW,eu,hT.hU,?_⟩;rw[bE hT.hmw,bE hT.hmu];exact (Hp.start.push _).nil 8
  --C>
 ·obtain⟨lb,nl,rfl,hnl,z6,z7,h6⟩:=hg.head.pos (by intro e;have:=congrArg List.length e;simp at this;rw[this]at g8;simp at g8;omega);have hnlE:nl=b-a:=by simpa[g8]using hnl.symm
  have h8:(X.lvls k a b).length=l0.length:=by rw[hy,vu]
  have hgt:=fun i (hi:i<l0.length)=>C0 X.bd a l0 i hi;rw[<- hy]at hgt;have hY:X.bd.length=X.p.t.length+1:=mo _;generalize hLv:X.lvls k a b=lv at *;refine ah (fun m fr Hc=>∃ i:Nat,1<=i/\i<=nl/\m=nl-i/\Hp Hc (H++[some (X.sec k)]) [(1,.sl lb 0 nl nl 1,(lv.take i++l0.drop i).map (V.int .i64))] /\
   Slots 215 [(0,.ptr xb 0),(2,.int .i64 a),(10,.sl lb 0 nl nl 1),(11,.int .i64 i)] fr) (m:=nl-1) (by omega) ⟨1,by omega,by omega,by omega,?_,by simp⟩ ?_
  ·have e0:=hgt 0 (by omega);simp only[ne_eq,not_true_eq_false,false_and,if_false]at e0;rw[<- iw h8 e0 (atI (by omega)),NG,Mp,Mo];exact hg
  clear hg z6 z7 h6;rintro m fr Hc ⟨i,hi1,hi2,rfl,h0,hs⟩;obtain⟨j,rfl⟩:=hs.ex;clear hs;have g9:=@bh _ _ _ h8 i;have hj:=h0.head.at;have hf:ab Hc xb=some T:=by rw[h0.block (by simp;omega),aj (by omega)];exact g7
  have hbb:ab Hc bb=some (X.bd.map V.bool):=by
   have:=ao hT.hb;rw[h0.block (by simp;omega),aj (by omega)];exact hT.hb
  by_cases hA:i<nl
  · --A<
   have hI:(i:Int)<nl:=by omega
   have w1:slot (X.bd.map V.bool) (a+i)=some (.bool (lgB X.bd (a+i))):=by rw[slot,Lh,atB (by omega)];rfl
   have e1:((i:Int)-1).toNat=i-1:=by omega
   have hx0:(lv.take i++l0.drop i)[i-1]?=some (lgI lv (i-1)):=by rw[K8 (by simp;omega),LI (by omega)];exact atI (by omega)
   have k4:=fun x=>dG (x:=x) h8 (i:=i);have hsm:=fun x=>iw (x:=x) h8 (i:=i);have k5:=hgt i (by omega);have z8:=@bh _ _ _ h8 (i+1);simp(disch:=omega)[hI,hf,x8,hbb,w1,wrap64,-getElem?_pos];refine ar (fun hb=>?_) (fun hb=>?_)
   ·have z9:lgB X.bd (a+i)=false:=by simpa using hb
    rw[if_pos ⟨by omega,z9⟩]at k5;have hse2:=k4 _ k5;generalize hS1:lv.take i++l0.drop i=st at *;have w2:slot (st.map (V.int .i64)) (i-1)=some (.int .i64 (lgI lv (i-1))):=by rw[slot,Lh,hx0];rfl
    have h6:ab Hc lb=some (st.map (V.int .i64)):=hj.2.2.1;have hwl:cfg.wr lb=true:=bH (by have:=hj.1;simp at this;omega);have q2:i-1+1<=nl:=by omega
    have q3:i+1<=nl:=by omega
    have hO:=h0.setO (cs':=(st.set i (lgI lv (i-1))).map (V.int .i64)) (by cases st.set i (lgI lv (i-1))<;>rfl) (by simp);have q4:i+1<=b-a:=by omega
    have q5:i-1+1<=b-a:=by omega
    simp(disch:=omega)[h6,w2,e1,hwl,q4,g9,g8,wrap64,-getElem?_pos,-List.map_set];exact ae (m':=nl-(i+1)) (by omega) ⟨i+1,by omega,by omega,rfl,by rw[<- hse2];exact hO,by simp(disch:=omega)⟩
   ·have z9:¬ (i≠0/\lgB X.bd (a+i)=false):=by
     have:lgB X.bd (a+i)=true:=by simpa using hb
     rw[this];simp
    rw[if_neg z9]at k5;rw[hsm _ k5 (atI (by omega))]at h0;simp(disch:=omega)[wrap64,-getElem?_pos];exact ae (m':=nl-(i+1)) (by omega) ⟨i+1,by omega,by omega,rfl,h0,by simp(disch:=omega)⟩
   --A>
  have hI:¬ ((i:Int)<nl):=by omega
  rw[dF h8 (by omega)]at h0;obtain rfl:i=nl:=by omega
  clear g9 hgt hi2 hA hI hf hbb;obtain⟨sb,ns,hsv,hns,_,hsbl,hsb⟩:=hT.hs.pos (by intro e;have:=congrArg List.length e;simp at this;have h5:=hV.sp;rw[this]at h5;simp at h5;omega);have hnsE:ns=X.p.t.length:=by have:=hV.sp;simp at hns;omega
  rw[hsv]at x9;have hI0:¬ ((i:Int)<i):=by omega
  have hz:(List.replicate i (0:Int)).length=i:=by simp
  simp(disch:=omega)[hI0,di,-List.map_replicate];generalize List.replicate i (0:Int)=z0 at *;obtain⟨RI,hRI⟩:∃ RI:List Int,RI=(List.range i).map fun q=>((rnI lv X.sp a q:Nat):Int):=⟨_,rfl⟩;have hm:RI.length=z0.length:=by rw[hRI,hz];simp
  have hZ:∀ q,q<i->RI[q]?=some ((rnI lv X.sp a q:Nat):Int):=fun q hq=>by rw[hRI];simp[hq]
  have g1:=(h0.new (cs:=z0.map (V.int .i64)) (n:=i) (k:=1) (by cases z0<;>rfl) (by simp[hz]) []).nil 2;generalize k6:Hc.length=rb at *;generalize Hc++[some (z0.map (V.int .i64))]=Hd at *;refine ah (fun m fr Hc=>∃ (q:Nat) (rv:V),q<=i/\m=i-q/\Hp Hc (H++[some (X.sec k)]) [(2,rv,(rnF lv X.sp a q).flatMap pcP),(1,.sl rb 0 i i 1,(RI.take q++z0.drop q).map (V.int .i64)),(1,.sl lb 0 i i 1,lv.map (V.int .i64))] /\
   Slots 215 [(0,.ptr xb 0),(2,.int .i64 a),(10,.sl lb 0 i i 1),(12,.sl rb 0 i i 1),(13,rv),(73,.int .i64 i),(74,.int .i64 q)] fr) (m:=i) (by omega) ⟨0,.nils,by omega,by omega,by simpa[rnF]using g1,by simp⟩ ?_
  clear h0 g1 hj k6;rintro m fr Hc ⟨q,rv,hq,rfl,h0,hs⟩;obtain⟨j,rfl⟩:=hs.ex;clear hs;have hj:=h0.thd.at;have hP:=h0.snd.at;have g9:=@bh _ _ _ hm q;have hrl:=D8 (lv:=lv) (sp:=X.sp) (a:=a) q;have hf:ab Hc xb=some T:=by rw[h0.block (by simp;omega),aj (by omega)];exact g7
  have hv:ab Hc sb=some (X.sp.map (V.int .i64)):=by rw[h0.block (by simp;omega),aj (by omega)];exact hsb
  by_cases hA:q<i
  · --B<
   have hI:(q:Int)<i:=by omega
   simp(disch:=omega)[hI];refine jf (fun fr' H2=>H2=Hc/\Slots 215 [(0,.ptr xb 0),(2,.int .i64 a),(10,.sl lb 0 i i 1),(12,.sl rb 0 i i 1),(13,rv),(14,.int .i64 q),(73,.int .i64 i),(74,.int .i64 q),(112,.bool (jQ lv X.sp a q))] fr') ?_ ?_
   ·refine ai 34 (by kernel_rfl) ?_;rcases MN q with rfl|hq0
    ·simp(disch:=omega);exact bz ⟨rfl,by simp[jQ]⟩
    ·have hspl:=hV.sp;have e1:((q:Int)-1).toNat=q-1:=by omega
     have e2:((a:Int)+q-1).toNat=a+q-1:=by omega
     have e3:((a:Int)+q).toNat=a+q:=by omega
     have h6:ab Hc lb=some (lv.map (V.int .i64)):=hj.2.2.1;have w0:slot (lv.map (V.int .i64)) q=some (.int .i64 (lgI lv q)):=by rw[slot,Lh,atI (by omega)];rfl
     have w1:slot (lv.map (V.int .i64)) (q-1)=some (.int .i64 (lgI lv (q-1))):=by rw[slot,Lh,atI (by omega)];rfl
     have w2:slot (X.sp.map (V.int .i64)) (a+q)=some (.int .i64 (lgI X.sp (a+q))):=by rw[slot,Lh,atI (by omega)];rfl
     have w3:slot (X.sp.map (V.int .i64)) (a+q-1)=some (.int .i64 (lgI X.sp (a+q-1))):=by rw[slot,Lh,atI (by omega)];rfl
     have q1:q-1+1<=i:=by omega
     have q2:q+1<=i:=by omega
     have q3:a+q+1<=ns:=by omega
     have q4:a+q-1+1<=ns:=by omega
     have hr:¬ q=0:=by omega
     by_cases hl:lgI lv q=lgI lv (q-1)
     ·by_cases k7:lgI X.sp (a+q)=lgI X.sp (a+q-1)
      ·have g0:jQ lv X.sp a q=false:=by simp[jQ,hr,hl,k7]
       simp(disch:=omega)[hr,e1,e2,e3,h6,w0,w1,w2,w3,hf,hv,x9,hl,k7,wrap64,-getElem?_pos];exact bz ⟨rfl,by simp[g0]⟩
      ·have g0:jQ lv X.sp a q=true:=by simp[jQ,k7]
       simp(disch:=omega)[hr,e1,e2,e3,h6,w0,w1,w2,w3,hf,hv,x9,hl,k7,wrap64,-getElem?_pos];exact bz ⟨rfl,by simp[g0]⟩
     ·have g0:jQ lv X.sp a q=true:=by simp[jQ,hl]
      simp(disch:=omega)[hr,e1,h6,w0,w1,hl,wrap64,-getElem?_pos];exact bz ⟨rfl,by simp[g0]⟩
   ·rintro _ _ ⟨rfl,hs⟩;obtain⟨j2,rfl⟩:=hs.ex;clear hs;have hrE:rnF lv X.sp a (q+1)=bmp (if jQ lv X.sp a q=true then rnF lv X.sp a q++[(a+q,a+q)] else rnF lv X.sp a q):=rfl;have hrp:=mM (lv:=lv) (sp:=X.sp) (a:=a) (q+1) (by omega);have hD:rnI lv X.sp a q=(rnF lv X.sp a (q+1)).length-1:=rfl;rw[hrE,jS]at hrp hD;have hrl2:(if jQ lv X.sp a q=true then rnF lv X.sp a q++[(a+q,a+q)] else rnF lv X.sp a q).length<=q+1:=by
     split
     ·simp;omega
     ·omega
    refine jf (fun fr' H2=>∃ rv',Hp H2 (H++[some (X.sec k)]) [(2,rv',(if jQ lv X.sp a q=true then rnF lv X.sp a q++[(a+q,a+q)] else rnF lv X.sp a q).flatMap pcP),(1,.sl rb 0 i i 1,(RI.take q++z0.drop q).map (V.int .i64)),(1,.sl lb 0 i i 1,lv.map (V.int .i64))] /\
     Slots 215 [(0,.ptr xb 0),(2,.int .i64 a),(10,.sl lb 0 i i 1),(12,.sl rb 0 i i 1),(13,rv'),(14,.int .i64 q),(73,.int .i64 i),(74,.int .i64 q)] fr') ?_ ?_
    ·have hQ:((rnF lv X.sp a q).flatMap pcP).length=(rnF lv X.sp a q).length*2:=cE (f:=pcP) (n:=2) (fun _=>rfl) _;refine cb (z:=jQ lv X.sp a q) (by simp) (fun hb=>?_) (fun hb=>?_)
     ·rw[if_pos hb];simp(disch:=omega)[wrap64,-getElem?_pos];refine cg (m:=1) (h0.push _) (by simp;omega) rfl rfl (by omega) (by omega) (by rw[hQ];omega) (by rw[hQ];omega) ?_;intro rv' H' hh;simp(disch:=omega);exact bz ⟨rv',by simpa[pcP]using hh,by simp⟩
     ·rw[if_neg (by rw[hb];simp)];simp(disch:=omega);exact bz ⟨rv,h0,by simp⟩
    ·rintro _ Hc2 ⟨rv',ha,hs⟩;obtain⟨j3,rfl⟩:=hs.ex;clear hs h0 hj hP hf hv;obtain⟨R0,hE⟩:∃ R0,(if jQ lv X.sp a q=true then rnF lv X.sp a q++[(a+q,a+q)] else rnF lv X.sp a q)=R0:=⟨_,rfl⟩;rw[hE]at ha hrE hrp hD hrl2;obtain⟨nb,rfl,hF,g2,hd⟩:=ha.head.posF kg (by omega) hrp;have hP:=ha.snd.at;have k4:=dG hm (hZ q hA);have z8:=@bh _ _ _ hm (q+1);obtain⟨cl,k8⟩:∃ c:Nat×Nat,R0[R0.length-1]?=some c:=⟨_,K4 (by omega)⟩;have hul:Tryz.prog.underlying 276=some (.slice 277):=by kernel_rfl
     have hrv:(R0.length:Int)-1=((rnI lv X.sp a q:Nat):Int):=by omega
     have h6:=ha.thd.at.2.2.1;have hbr3:=hP.2.2.1;have hbr1:=hP.1;have hbr2:=hP.2.1;simp only[Ln,LZ]at hbr1 hF;have hneb:rb≠nb:=fun e=>(L8.1 ha.dj).1 _ (Ll ..) nb rfl (by rw[e];rfl);generalize hS0:RI.take q++z0.drop q=st at *;generalize hS1:RI.take (q+1)++z0.drop (q+1)=st1 at *;have hw1:cfg.wr rb=true:=bH (by omega);have hw2:cfg.wr nb=true:=bH (by omega);have q1:q+1<=i:=by omega
     simp(disch:=omega)[hbr3,hw1,g9,hz,q1,hrv,k4,wrap64,-getElem?_pos,-List.map_set];have hh3:=((ha.swap.setO (cs':=st1.map (V.int .i64)) (by cases st1<;>rfl) (by simp;omega)).swap);have hdl:(Hc2.set rb (some (st1.map (V.int .i64)))).length=Hc2.length:=by simp
     have hH:ab (Hc2.set rb (some (st1.map (V.int .i64)))) nb=some (R0.flatMap pcP):=by rw[ak hneb];exact hd
     have hrb4:ab (Hc2.set rb (some (st1.map (V.int .i64)))) rb=some (st1.map (V.int .i64)):=by
      have:=hh3.snd.at;exact this.2.2.1
     generalize Hc2.set rb (some (st1.map (V.int .i64)))=H3 at *;have w0:slot (st1.map (V.int .i64)) q=some (.int .i64 (rnI lv X.sp a q)):=by rw[slot,Lh,<- k4,Lm (by omega)];rfl
     have w1:slot (R0.flatMap pcP) ((R0.length-1)*2+1)=some (.int .i64 cl.2):=by rw[dN (f:=pcP) (n:=2) kg (by omega) k8];rfl
     have w2:bR (R0.flatMap pcP) ((R0.length-1)*2+1) (.int .i64 ((cl.2:Int)+1))=(bmp R0).flatMap pcP:=by
      rw[gh (f:=pcP) (n:=2) kg (by omega) k8 (x':=(cl.1,cl.2+1)) rfl];unfold bmp;rw[K9,k8];rfl
     have hQ:(R0.flatMap pcP).length=R0.length*2:=cE (f:=pcP) (n:=2) (fun _=>rfl) _;refine ai 10 (by kernel_rfl) ?_;have hh4:=hh3.setO (cs':=(bmp R0).flatMap pcP) (Gz _) (by rw[cE (f:=pcP) (n:=2) (fun _=>rfl),jS,hQ]);have q6:R0.length-1<R0.length:=by omega
     have q7:(R0.length-1)*2+1<R0.length*2:=by omega
     have q8:(R0.length-1)*2+2<=R0.length*2:=by omega
     have hcl2:(cl.2:Int)+1<=4001:=by
      have h9:=ko (lv:=lv) (sp:=X.sp) (a:=a) q;have k9:=K6 k8;rw[<- hE]at k9;split at k9
      ·rcases LB.1 k9 with h|h
       ·have:=h9 _ h;omega
       ·simp at h;rw[h];simp;omega
      ·have:=h9 _ k9;omega
     simp(disch:=omega)[hH,hrb4,w0,w1,w2,hw2,hQ,hD,q8,wrap64,-getElem?_pos];exact ae (m':=i-(q+1)) (by omega) ⟨q+1,_,by omega,by omega,by rw[hrE,hS1];simpa[jS]using hh4,by simp(disch:=omega)⟩
   --B>
  obtain rfl:q=i:=by omega
  have hI:¬ ((q:Int)<q):=by omega
  rw[dF hm (by omega)]at h0;obtain⟨R,hE⟩:∃ R,rnF lv X.sp a q=R:=⟨_,rfl⟩;have hRp:=mM (lv:=lv) (sp:=X.sp) (a:=a) q (by omega);have hRm:=ko (lv:=lv) (sp:=X.sp) (a:=a) q;have hRi:=fun c hc=>D9 (lv:=lv) (sp:=X.sp) (a:=a) (i:=c) (n:=q) hc;rw[hE]at h0 hRp hRm hrl;simp only[hE]at hRi;obtain⟨nb,rfl,hF,g2,hd⟩:=h0.head.posF kg (by omega) hRp;have hul:Tryz.prog.underlying 276=some (.slice 277):=by kernel_rfl
  have hJ:lv.length=q:=by omega
  have hfz:frzA (Hc++[some ((List.replicate R.length false).map V.bool)]) (.sl lb 0 q q 1)=some (il lv):=by
   unfold frzA;rw[cK (h:=Hc++[some ((List.replicate R.length false).map V.bool)]) (n:=0) (d:=4) (k:=.i64) (l:=lv) (by rw[aj hj.2.1];exact hj.2.2.1) (LA _) hJ];rfl
  have hOr:=fun cfg=>wo (prim:=prim) (d+9) cfg (Hc++[some ((List.replicate R.length false).map V.bool)]) (hp 238 (by decide)) (hp 289 (by decide)) lv (by omega) (args:=[.sl lb 0 q q 1]) (by rw[Mn,hfz];rfl);obtain⟨hol,hor⟩:=sU (lv:=lv);have h7:X.gls k a b=[]++X.glO lv a (List.replicate R.length false) ((mF lv).drop 0):=by
   unfold Txt.gls;rw[hLv,hJ,hE];simp
  generalize mF lv=od at *;simp(disch:=omega)[hI,nP,hOr,-List.map_replicate];have g1:=(h0.new (cs:=(List.replicate R.length false).map V.bool) (n:=R.length) (k:=1) fL (by simp) []).nil 8;have hd0:(List.replicate R.length false).length=R.length:=by simp
  generalize List.replicate R.length false=dn0 at *;generalize w7:Hc.length=db at *;generalize Hc++[some (dn0.map V.bool)]=Hd at *;refine ah (fun m fr Hc=>∃ (w:Nat) (ov:V) (gs:List Gly) (dn:List Bool) (es':fG) (eu':fV),w<=od.length/\m=od.length-w/\WOK X.fs es'/\UOK X.fs eu'/\gs.length<=2000*w/\dn.length=R.length/\X.gls k a b=gs++X.glO lv a dn (od.drop w) /\
   Hp Hc ((H.set mw (wB es')).set mu (uB eu')++[some (X.sec k)]) [(8,ov,gs.flatMap aq),(1,.sl db 0 R.length R.length 1,dn.map V.bool),(2,.sl nb 0 R.length R.length 2,R.flatMap pcP),(1,.sl rb 0 q q 1,RI.map (V.int .i64)),(1,.sl lb 0 q q 1,lv.map (V.int .i64))] /\
   Slots 215 [(0,.ptr xb 0),(2,.int .i64 a),(10,.sl lb 0 q q 1),(12,.sl rb 0 q q 1),(13,.sl nb 0 R.length R.length 2),(15,ov),(16,.sl db 0 R.length R.length 1),(145,il od),(146,.int .i64 od.length),(147,.int .i64 w)] fr) (m:=od.length) (by omega)
   ⟨0,.nils,[],dn0,es,eu,by omega,by omega,hT.hW,hT.hU,by simp,hd0,h7,?_,by simp⟩ ?_
  ·rw[bE hT.hmw,bE hT.hmu];exact g1
  clear g1 h0 hOr hfz hF g2 hd hj hP h7 hf hv;rintro m fr Hc ⟨w,ov,gs,dn,es',eu',hw,rfl,hS,hX,hgl,hdn,h7,h0,hs⟩;obtain⟨j,rfl⟩:=hs.ex;clear hs;have hle:=h0.le;simp only[Ln,LC,LZ]at hle;have hT2:=hT.ext h0 hS hX;have hM2:=hT.mw hM z2 h0;have hf:ab Hc xb=some T:=by rw[<- z3];exact hT2.hx
  have hv:ab Hc sb=some (X.sp.map (V.int .i64)):=by
   have:=hT2.hs;rw[hsv]at this;exact this.at.2.2.1
  have w7:=h0.snd.at;have hnb:=h0.thd.at;have k6:=h0.tail.thd.at;have hlb:=h0.tail.tail.thd.at;by_cases hA:w<od.length
  · --D<
   have hI:(w:Int)<od.length:=by omega
   obtain⟨c0,w8⟩:=atG hA;have hcr:=hor c0 (K6 w8);obtain⟨c,rfl⟩:∃ c:Nat,c0=c:=⟨c0.toNat,by omega⟩;have hcq:c<q:=by omega
   have g3:od.drop w=(c:Int)::od.drop (w+1):=by
    rw[Lq hA];rw[K4 hA]at w8;rw[Nf w8]
   rw[g3]at h7;have hrc:=hRi c hcq;obtain⟨rc,he⟩:∃ rc,rnI lv X.sp a c=rc:=⟨_,rfl⟩;have w0:slot (RI.map (V.int .i64)) c=some (.int .i64 rc):=by rw[slot,Lh,hZ c hcq,he];rfl
   rw[he]at hrc;have w1:slot (dn.map V.bool) rc=some (.bool (lgB dn rc)):=by rw[slot,Lh,atB (by omega)];rfl
   have g4:=k6.2.2.1;have hK:=w7.2.2.1;have q1:c+1<=q:=by omega
   have q2:rc+1<=R.length:=by omega
   simp(disch:=omega)[hI,w8,g4,hK,w0,w1,-getElem?_pos];refine ar (fun hb=>?_) (fun hb=>?_)
   ·rw[Txt.glO,if_pos (by rw[Lr,he];exact hb)]at h7;simp(disch:=omega)[wrap64,-getElem?_pos];exact ae (m':=od.length-(w+1)) (by omega) ⟨w+1,ov,gs,dn,es',eu',by omega,rfl,hS,hX,by omega,hdn,h7,h0,by simp(disch:=omega)⟩
   ·rw[Txt.glO,if_neg (by rw[Lr,he,hb];simp),Lr,he]at h7;obtain⟨sq,hsq1,hsq2,hL,hsq4,hsq5,hsq6,hsq7,hsq8⟩:=hV.spn (i:=a+c) (by omega);have g5:X.gls k a b=(gs++X.gl1 lv a c)++X.glO lv a (dn.set rc true) (od.drop (w+1)):=by rw[h7,Ly]
    have hg1:X.gl1 lv a c=runS X.fs (X.fnt (a+c)) (X.spn (a+c)).n (X.spn (a+c)).z X.p.t (eM X.p.t) X.bd (R.getD rc (0,0)).1 ((R.getD rc (0,0)).2-(R.getD rc (0,0)).1) (decide ((lgI lv c).tmod 2=1)):=by
     unfold Txt.gl1;rw[hJ,hE,he]
    obtain⟨rr,w9⟩:∃ r:Nat×Nat,R[rc]?=some r:=⟨_,K4 hrc⟩;have hrrm:=hRm rr (K6 w9);rw[K9,w9,MF]at hg1;generalize X.spn (a+c)=s at *;generalize X.fnt (a+c)=f at *;have hwd:cfg.wr db=true:=bH (by have:=w7.1;simp at this;omega);simp(disch:=omega)[hK,hwd,q2,hdn,setB,-getElem?_pos,-List.map_set];have hg:=(h0.swap.setO (cs':=(dn.set rc true).map V.bool) fL (by simp)).swap;have hd:ab (Hc.set db (some ((dn.set rc true).map V.bool))) nb=some (R.flatMap pcP):=hg.thd.at.2.2.1;have h6:ab (Hc.set db (some ((dn.set rc true).map V.bool))) lb=some (lv.map (V.int .i64)):=hg.tail.tail.thd.at.2.2.1;have hT3:=hT.ext hg hS hX;have hM3:=hT.mw hM z2 hg;have hle3:=hg.le;simp only[Ln,LC,LZ]at hle3;have hln3:(Hc.set db (some ((dn.set rc true).map V.bool))).length=Hc.length:=by simp
    generalize Hc.set db (some ((dn.set rc true).map V.bool))=H3 at *;clear h0 hf hv w7 hnb k6 hlb hT2 hM2 g4 hK hle;have hf:ab H3 xb=some T:=by rw[<- z3];exact hT3.hx
    have hv:ab H3 sb=some (X.sp.map (V.int .i64)):=by
     have:=hT3.hs;rw[hsv]at this;exact this.at.2.2.1
    have w2:slot (X.sp.map (V.int .i64)) (a+c)=some (.int .i64 sq):=by rw[slot,Lh,atI (by have:=hV.sp;omega),hsq1];rfl
    have q3:a+c+1<=ns:=by omega
    have e3:((a:Int)+c).toNat=a+c:=by omega
    have g6:(aR s).length=4:=rfl;have hst4:List.take 4 (aR s)=aR s:=rfl;have hslf:(∀ x∈aR s,x.leaf=true)=True:=eq_true (by simp[aR]);have hsmp:isMap (aR s)=false:=rfl;have hsrf:(∀ x∈aR s,x.rf=true)=True:=eq_true (by simp[aR]);have hwH:cfg.wr H3.length=true:=bH (by omega);have hpa:putAt [V.int .i64 0,.int .i64 0,.int .i64 0,.int .i64 0] 0 (aR s)=aR s:=rfl;refine ai 17 (by kernel_rfl) ?_;simp(disch:=omega)[hf,hv,x1,x9,w2,e3,hsq2,g6,hst4,hslf,hsrf,hwH,hpa,wrap64,-getElem?_pos];have hO:=(hg.new (cs:=aR s) (n:=1) (k:=4) hsmp g6 []);have z1:=hT.ext hO hS hX;have hM4:=hT.mw hM z2 hO;have hH:ab (H3++[some (aR s)]) nb=some (R.flatMap pcP):=by rw[aj (ao hd)];exact hd
    have hlb4:ab (H3++[some (aR s)]) lb=some (lv.map (V.int .i64)):=by rw[aj (ao h6)];exact h6
    have hsb4:ab (H3++[some (aR s)]) H3.length=some (aR s):=hO.head.at.2.2.1;have hln4:(H3++[some (aR s)]).length=H3.length+1:=by simp
    generalize H3++[some (aR s)]=H4 at *;generalize hs3:H3.length=s3 at *;have hfo:(eM X.p.t).length=X.p.t.length:=pa _;obtain⟨es2,eu2,hW2,hU2,hN⟩:=JO (prim:=prim) (d+1) hp hG X.fs f s.n s.z hL hsq8 hsq6 hsq7 X.p.t hV.n X.bd hY H4 mw mu pb es' eu' z1.hmw z1.hmu hT.hne hS hX z1.hp (eM X.p.t) hfo rr.1 (rr.2-rr.1) (by omega) (by omega) (decide ((lgI lv c).tmod 2=1)) cfg hM4 (by omega);rw[<- hg1,hY,show rr.1+(rr.2-rr.1)=rr.2 by omega]at hN;have hbx4:ab H4 xb=some T:=by rw[<- z3];exact z1.hx
    have u2:slot (aR s) 2=some (.int .i64 s.n):=rfl;have u3:slot (aR s) 3=some (.int .i64 s.z):=rfl;have r0:slot (R.flatMap pcP) (rc*2)=some (.int .i64 rr.1):=by rw[xY (f:=pcP) (n:=2) kg (by omega) w9];rfl
    have r1:slot (R.flatMap pcP) (rc*2+1)=some (.int .i64 rr.2):=by rw[dN (f:=pcP) (n:=2) kg (by omega) w9];rfl
    have hQ:(R.flatMap pcP).length=R.length*2:=cE (f:=pcP) (n:=2) (fun _=>rfl) _;have wl:slot (lv.map (V.int .i64)) c=some (.int .i64 (lgI lv c)):=by rw[slot,Lh,atI (by omega)];rfl
    obtain⟨fi,hfi⟩:∃ x:Nat,s.n=x:=⟨s.n.toNat,by omega⟩;rw[hfi,Lr]at hL;have hfn4:(aG f).length=8:=rfl;have hft4:List.take 8 (aG f)=aG f:=rfl;have hff4:(∀ x∈aG f,x.leaf=true)=True:=eq_true (by simp[aG]);have q6:rc*2+2<=R.length*2:=by omega
    refine ai 33 (by kernel_rfl) ?_;rw[hfi]at u2 hN;simp (maxSteps:=1000000) (disch:=omega)[hbx4,x5,xl,xp,hsb4,u2,u3,hL,hfn4,hft4,hH,r0,r1,hlb4,wl,hN,-getElem?_pos];have hh5:=(hO.set (b:=mw) (by simp;omega) (wB es2)).set (b:=mu) (by simp;omega) (uB eu2);rw[fS z4 hmul]at hh5;have hln5:((H4.set mw (wB es2)).set mu (uB eu2)).length=H4.length:=by simp
    generalize (H4.set mw (wB es2)).set mu (uB eu2)=H5 at *;have hgg:∀ x:Gly,x∈X.gl1 lv a c->(aq x).length=8:=fun _ _=>rfl;rw[if_pos hgg,<- List.flatMap_def];have hg1l:(X.gl1 lv a c).length<=2000:=by rw[hg1];exact L9 Ao (by omega)
    simp(disch:=omega)[FO];refine AK (m:=(X.gl1 lv a c).length) (hh5.tail.drop (Oh _)) (by simp;omega) (bq _) (fI _) (by omega) (by rw[bq,Lw _ (by omega)];omega) (by rw[bq,Lw _ (by omega)];omega) ?_;intro ov' H6 hh6;simp(disch:=omega)[wrap64,-getElem?_pos];exact ae (m':=od.length-(w+1)) (by omega) ⟨w+1,ov',gs++X.gl1 lv a c,dn.set rc true,es2,eu2,by omega,rfl,hW2,hU2,by simp;omega,by simpa using hdn,g5,by simpa using hh6,by simp(disch:=omega)⟩
   --D>
  ·obtain rfl:w=od.length:=by omega
   have hI:¬ ((od.length:Int)<od.length):=by omega
   rw[Mi,Txt.glO,Mg]at h7;rw[h7];simp(disch:=omega)[hI];refine⟨es',hS,eu',hX,?_⟩;have:=h0.cut (n:=((H.set mw (wB es')).set mu (uB eu')).length) (by simp);rw[List.take_left]at this;exact this.drop ((Nr _).cons_cons _)
end
end Bi
end Go.Ab
