/- Several texts of this proof in one. -/
import Derived.Test.YtldfgkjmficliaaGreatPiP
set_option linter.all false
set_option maxHeartbeats 8000000
set_option maxRecDepth 100000
namespace Go.Ab.Bi
abbrev oB:=List (Int×Nat)
def jI(r:Int):oB->Option (Nat×oB)
 | []=>none
 | (c,a)::t=>if c=r then some (a,t) else jI r t
structure PS where
 st:oB
 out:List (Nat×Nat)
def pgo:Nat->List (Int×Int)->PS->Option (List (Nat×Nat))
 | _,[],p=>some p.out
 | k,(x,r)::l,p =>
  if x≠13 then pgo (k+1) l p
  else if (brS r).1=1 then (if p.st.length=63 then none else pgo (k+1) l ⟨((brS r).2,k)::p.st,p.out⟩)
  else if (brS r).1=2 then (match jI r p.st with
   | some (a,t)=>pgo (k+1) l ⟨t,p.out++[(a,k)]⟩
   | none=>pgo (k+1) l p)
  else pgo (k+1) l p
def oc(st:oB):List V:=st.reverse.flatMap fun a=>[V.int .i32 a.1,V.int .i64 (a.2:Int)]
def pcn(out:List (Nat×Nat)):List V:=out.flatMap fun a=>[V.int .i64 (a.1:Int),V.int .i64 (a.2:Int)]
theorem pf(a:Int×Nat)(st:oB):oc (a::st)=oc st++[V.int .i32 a.1,V.int .i64 (a.2:Int)]:=by simp[oc]
theorem jE(st:oB):(oc st).length=st.length*2:=by
 induction st with
 | nil=>rfl
 | cons a st ih=>rw[pf,Lt,ih];simp;omega
theorem DF(out:List (Nat×Nat))(x:Nat×Nat):pcn (out++[x])=pcn out++[V.int .i64 (x.1:Int),V.int .i64 (x.2:Int)]:=by simp[pcn]
theorem ku(out:List (Nat×Nat)):(pcn out).length=out.length*2:=by
 induction out with
 | nil=>rfl
 | cons a st ih=>simp only[pcn,L4,Lt,Lx,Me]at ih ⊢;omega
theorem oc_0(a:Int×Nat)(r:oB)(J:List V):slot (oc (a::r)++J) (r.length*2)=some (.int .i32 a.1):=by
 rw[<- jE r,pf,LD,slot,Lk (Lh _)];simp
theorem oc_1(a:Int×Nat)(r:oB)(J:List V):slot (oc (a::r)++J) (r.length*2+1)=some (.int .i64 (a.2:Int)):=by
 rw[<- jE r,pf,LD,slot,Lk (by omega)];simp
structure POK(k:Nat)(p:PS):Prop where
 lt:∀ a∈p.st,a.2<k
 ord:∀ x∈p.out,x.1<x.2/\x.2<k
 len:p.st.length<=63
 olen:p.out.length<=k
theorem sI{r:Int}:∀ {st:oB}{a:Nat}{t:oB},jI r st=some (a,t)->(∃ c,(c,a)∈st)/\(∀ x∈t,x∈st)/\t.length<st.length
 | [],a,t,h=>by simp[jI]at h
 | (c,b)::st,a,t,h=>by
  simp only[jI]at h;split at h
  ·cases h;exact⟨⟨c,by simp⟩,fun x hx=>Lm _ hx,by simp⟩
  ·obtain⟨⟨c',h1⟩,h2,h3⟩:=sI h;exact⟨⟨c',Lm _ h1⟩,fun x hx=>Lm _ (h2 x hx),by simp;omega⟩
theorem POK.zero:POK 0 ⟨[],[]⟩:=⟨by simp,by simp,by simp,by simp⟩
theorem POK.up{k:Nat}{p:PS}(h:POK k p):POK (k+1) p:=⟨fun a ha=>by have:=h.lt a ha;omega,fun x hx=>by have:=h.ord x hx;omega,h.len,by have:=h.olen;omega⟩
theorem POK.push{k:Nat}{p:PS}(h:POK k p)(c:Int)(hl:p.st.length≠63):POK (k+1) ⟨(c,k)::p.st,p.out⟩:=by
 refine⟨fun a ha=>?_,fun x hx=>by have:=h.ord x hx;omega,by have:=h.len;simp;omega,by have:=h.olen;simp;omega⟩;rcases Ly.1 ha with rfl|ha
 ·simp
 ·have:=h.lt a ha;omega
theorem POK.pair{k:Nat}{p:PS}(h:POK k p){r:Int}{a:Nat}{t:oB}(hf:jI r p.st=some (a,t)):POK (k+1) ⟨t,p.out++[(a,k)]⟩:=by
 obtain⟨⟨c,h1⟩,h2,h3⟩:=sI hf;refine⟨fun x hx=>by have:=h.lt x (h2 x hx);omega,fun x hx=>?_,by have:=h.len;simp only;omega,by have:=h.olen;simp;omega⟩;rcases LA.1 hx with hx|hx
 ·have:=h.ord x hx;omega
 ·simp at hx;subst hx;have:=h.lt _ h1;simp at this ⊢;exact this
end Go.Ab.Bi
namespace Go.Ab
open Go.Proofs Go.Proofs.Tryz
namespace Bi
section
variable {P:Program}{md':FuncId->Nat}{n:Nat}{prim:FuncId->Option Prim}{cfg:Cfg}
theorem er{d:Nat}{f:FuncId}{fn:Func}{c:Code}{k:Nat}{rs:List ResultVar}{args:List V}{h:Heap}{Post:V->Heap->Prop}(hm:md' f=0)(hp:prim f=none)(hf:P.funcs[f]?=some fn)(hb:fn.body=some c)(hk:fn.ntmps=k)
  (hr:fn.results.toList=rs) (ha:args.all V.noref=false)
  (hw:@wC P md' (aN P md' prim n d) ⟨h.length,[],h.length⟩ n ⟨c⟩ (args++List.replicate (k-args.length) .no) h ⟨@kFn P ⟨rs⟩ ⟨fun r' h'=>∃ r,frz h' h.length 6 r'=some r/\Post r (h'.take h.length)⟩⟩):
  ∃ r h2,(∀ cfg,af md' (aN P md' prim n (d+1)) cfg f args h=some (r,h2))/\Post r h2:=by
 obtain⟨r',h',h1,r,h2,h3⟩:=cw hp hf hb hk hr hw;exact⟨r,_,fun cfg=>by simp only[af,hm,ha,LH,if_false,h1,h2],h3⟩
end
theorem yg(o:List (Nat×Nat)):(pcn o).all V.rf=true:=by
 simp only[pcn,N2];rw[Lp];intro x _;rfl
theorem Jz(o:List (Nat×Nat)):∀ c∈pcn o,c≠V.nils:=by
 intro c hc;simp only[pcn,NI]at hc;obtain⟨x,_,hx⟩:=hc;simp at hx;rcases hx with rfl|rfl<;>simp
theorem sH:∀ o:List (Nat×Nat),chunk 2 o.length (pcn o)=o.map fun x=>[V.int .i64 (x.1:Int),V.int .i64 (x.2:Int)]
 | []=>rfl
 | x::o=>by
  have e:pcn (x::o)=[V.int .i64 (x.1:Int),V.int .i64 (x.2:Int)]++pcn o:=rfl;rw[e,Lx,chunk,MF,show List.drop 2 ([V.int .i64 (x.1:Int),V.int .i64 (x.2:Int)]++pcn o)=pcn o from rfl,sH o];rfl
theorem relit{h:Heap}{a0 a1 a2 a3 x:Option (List V)}{T:Heap}(ht:h.take (T.length+5)=a0::a1::a2::a3::(T++[x])):∃ T',h=a0::a1::a2::a3::(T++x::T'):=by
 refine⟨h.drop (T.length+5),?_⟩
 conv=>lhs;rw[<- List.take_append_drop (T.length+5) h,ht]
 simp
section
variable {P:Program}{md':FuncId->Nat}{call:aW}{cfg:Cfg}
theorem EE{dst:Option Tmp}{fr:List V}{ops:Array Oper}{rest:List Oper}{Q:bR}{a0 a1 a2 a3 x:Option (List V)}{T T':Heap}{dv v2:V}{cs cs2 new:List V}{y:Nat}
  (ho:Stk (a0::a1::a2::a3::(T++x::T')) (T.length+5) 2 dv cs) (h2:Stk (a0::a1::a2::a3::(T++x::T')) (T.length+5) 2 v2 cs2) (h4:Dj dv v2) (h8:cfg.lo<=T.length+5) (h9:cfg.thr<=T.length+5)
  (h3:new.length=2) (ha:isMap new=false) (hf:cs.length / 2<=4000) (hy:y<=100)
  (H:∀ d' T'',Stk (a0::a1::a2::a3::(T++x::T'')) (T.length+5) 2 d' (cs++new)->Stk (a0::a1::a2::a3::(T++x::T'')) (T.length+5) 2 v2 cs2->Dj d' v2->@wO P md' call cfg ⟨ops⟩ ⟨rest⟩ (put fr dst d') (a0::a1::a2::a3::(T++x::T'')) ⟨Q⟩):
  @wS P md' call cfg ⟨dst⟩ ⟨fr⟩ (fP cfg (a0::a1::a2::a3::(T++x::T')) 2 y dv 1 new) ⟨ops⟩ ⟨rest⟩ ⟨Q⟩:=by
 have hs:(cs.length / 2+1)*y<=1099511627776:=by
  have:(cs.length / 2+1)*y<=4001*100:=Nv (by omega) hy;omega
 refine kI (lo:=T.length+5) ho h8 h9 (by simp<;>omega) h3 ha (by omega) hs (by omega) ?_;intro d' h' hc _ hd hlen he hb;have ht:h'.take (T.length+5)=a0::a1::a2::a3::(T++[x]):=by
  rw[hd];simp[List.take_append];exact Lu (by omega)
 obtain⟨T'',rfl⟩:=relit ht;refine H d' T'' hc (h2.of_blk fun b h6=>he b (fun e=>h4 b e h6) (h2.blk h6).2) ?_;intro b h0 h7;rcases hb with hb|hb
 ·rw[hb]at h0;exact h4 b h0 h7
 ·rw[hb]at h0;cases h0;have:=(h2.blk h7).2;omega
end
section
variable {prim:FuncId->Option Prim}(d:Nat)
theorem DD(hp:∀ f,Np2 f->prim f=none)(t o M:List Int)(n:Nat)(e:Int)(c l:List Int)(hn:c.length=n)(hI:t.length=n)(g1:n<=2000)(hl:Pl n l)(g2:l.length<=2000)(y2:List Int)(T:Heap)(lv st en:Int)
  (srt:List (Nat×Nat)->List (Nat×Nat)) (he:∀ o,(srt o).length=o.length)
  (hS:∀ (cfg:Cfg) (H:Heap) (b cap:Nat) (out:List (Nat×Nat)) (J:List V),out.length<=2000->(∀ x∈out,x.1<4294967296/\x.2<4294967296)->cfg.lo<=b->ab H b=some (pcn out++J)->af md (K prim (d+2)) cfg 168 [.sl b 0 out.length cap 2,.func (.func 169) [] []] H=some (.tup [],H.set b (some (pcn (srt out)++J))))
  (hJ:∀ (cfg:Cfg) (H:Heap),af md (K prim (d+2)) cfg 168 [.nils,.func (.func 169) [] []] H=some (.tup [],H)):
  ∀ cfg,af md (K prim (d+3)) cfg 148 [.ptr 3 0,.agg [il l,.int .i64 lv,.int .i64 st,.int .i64 en]] (none::some (c.map (V.int .i64))::some (y2.map (V.int .i64))::some (pcs t o M n e)::T) =
   some (jb (match pgo 0 ((l.map (lvl c)).zip (l.map (lvl t))) ⟨[],[]⟩ with
    | some out=>srt out
    | none=>[]),none::some (c.map (V.int .i64))::some (y2.map (V.int .i64))::some (pcs t o M n e)::T):=by
 suffices H:∃ r h2,(∀ cfg,af md (K prim (d+3)) cfg 148 [.ptr 3 0,.agg [il l,.int .i64 lv,.int .i64 st,.int .i64 en]] (none::some (c.map (V.int .i64))::some (y2.map (V.int .i64))::some (pcs t o M n e)::T)=some (r,h2))/\r=jb (match pgo 0 ((l.map (lvl c)).zip (l.map (lvl t))) ⟨[],[]⟩ with
    | some out=>srt out
    | none=>[])/\h2=(none::some (c.map (V.int .i64))::some (y2.map (V.int .i64))::some (pcs t o M n e)::T) by
  obtain⟨r,h2,h3,rfl,rfl⟩:=H;exact h3
 refine er rfl (hp 148 (by decide)) func148 rfl rfl rfl (by simp) ?_;have b4:∀ x T',isMap x=false->ab (T++some x::T') T.length=some x:=fun x T' hx=>by
  have:=bx (h:=T) (r:=some x::T') (k:=0);simp[hx]
 have hK:=fun cfg h r=>xr (prim:=prim) d cfg h hp r;have hy:WB c l (l.map (lvl c)) c:=WB.start (by rw[hn];exact hl);have hA:WB t l (l.map (lvl t)) t:=WB.start (by rw[hI];exact hl);generalize g3:l.map (lvl c)=s0 at *;generalize g4:l.map (lvl t)=rs at *;have hL:=hy.sl;have hM:=hA.sl;have hN:md 168=1:=rfl;simp(disch:=omega);refine ai (fun m fr H=>∃ (k:Nat) (p:PS) (v1 v2:V) (T':Heap),k<=l.length/\m=l.length-k/\pgo 0 (s0.zip rs) ⟨[],[]⟩=pgo k ((s0.zip rs).drop k) p/\POK k p/\H=none::some (c.map (V.int .i64))::some (y2.map (V.int .i64))::some (pcs t o M n e)::(T++some [il l,.int .i64 lv,.int .i64 st,.int .i64 en]::T')/\Stk H (T.length+5) 2 v1 (oc p.st)/\Stk H (T.length+5) 2 v2 (pcn p.out)/\Dj v1 v2 /\
  Slots 90 [(0,.ptr 3 0),(3,.ptr (T.length+1+1+1+1) 0),(5,v1),(6,v2),(13,il l),(14,.int .i64 l.length),(15,.int .i64 k)] fr) (m:=l.length) (by omega) ⟨0,⟨[],[]⟩,.nils,.nils,[],by omega,by omega,rfl,POK.zero,by simp,.inl ⟨rfl,rfl⟩,.inl ⟨rfl,rfl⟩,Dj.nils,by simp⟩ ?_
 rintro m fr H ⟨k,p,v1,v2,T',hk,rfl,hF,h4,rfl,h6,hc,hd,hs⟩;obtain⟨j,rfl⟩:=hs.ex;clear hs;by_cases hj:k<l.length
 ·obtain⟨i,hi,g5⟩:=hl.at_ hj;obtain⟨x,hx⟩:∃ x,s0[k]?=some x:=⟨_,Lc (by omega)⟩;obtain⟨r,hr⟩:∃ r,rs[k]?=some r:=⟨_,Lc (by omega)⟩;have hm:=hy.at_ k i hi;have hf:=hA.at_ k i hi;rw[hx,LB]at hm;rw[hr,LB]at hf;have hz:(s0.zip rs)[k]?=some (x,r):=by rw[List.getElem?_zip_eq_some];exact⟨hx,hr⟩
  have hO:(s0.zip rs).drop k=(x,r)::(s0.zip rs).drop (k+1):=by
   have hP:=(Ld.1 hz).1;rw[LC hP];congr 1;exact (Ld.1 hz).2
  rw[hO,pgo]at hF;by_cases hg:x=13
  ·rw[if_neg (by simp[hg])]at hF;subst hg;simp(disch:=omega)[hj,hi,hm,hf,hK,-getElem?_pos];by_cases k1:(brS r).1=1
   ·rw[if_pos k1]at hF;have h8:=h6.len (show prog.underlying 215=some (.slice 219) by kernel_rfl) (by omega);rw[jE,LI _ (by omega)]at h8;by_cases k63:p.st.length=63
    ·rw[if_pos k63]at hF;rw[k63]at h8;simp(disch:=omega)[k1,h8];rw[hF]
    ·rw[if_neg k63]at hF;have n63:¬ (p.st.length:Int)=63:=by omega
     simp(disch:=omega)[k1,h8,n63];refine EE (cs:=oc p.st) (by simpa using h6.push [some [.int .i32 (brS r).2,.int .i64 k]]) (by simpa using hc.push [some [.int .i32 (brS r).2,.int .i64 k]]) hd (by simp) (by simp) rfl rfl (by rw[jE];have:=h4.len;omega) (by omega) ?_;intro d' T'' ht h2' h9;simp(disch:=omega)[wrap64];exact ae (m':=l.length-(k+1)) (by omega) ⟨k+1,_,d',v2,T'',by omega,rfl,hF,h4.push _ k63,rfl,by rw[pf];exact ht,h2',h9,by simp(disch:=omega)⟩
   ·rw[if_neg k1]at hF;by_cases k2:(brS r).1=2
    ·rw[if_pos k2]at hF;have h8:=h6.len (show prog.underlying 215=some (.slice 219) by kernel_rfl) (by omega);rw[jE,LI _ (by omega)]at h8;have hD:=h4.len;simp(disch:=omega)[k2,h8,wrap64];refine ai (fun m fr H=>∃ (pre re:oB),m=re.length/\p.st=pre++re/\jI r p.st=jI r re/\H=none::some (c.map (V.int .i64))::some (y2.map (V.int .i64))::some (pcs t o M n e)::(T++some [il l,.int .i64 lv,.int .i64 st,.int .i64 en]::T')/\Slots 90 [(0,.ptr 3 0),(3,.ptr (T.length+1+1+1+1) 0),(5,v1),(6,v2),(7,.int .i64 k),(8,.int .i64 i),(11,.int .i64 ((re.length:Int)-1)),(13,il l),(14,.int .i64 l.length),(15,.int .i64 k)] fr) (m:=p.st.length) (by omega) ⟨[],p.st,rfl,rfl,rfl,rfl,by simp⟩ ?_;rintro m fr H ⟨pre,re,rfl,h0,ha,rfl,hs⟩;obtain⟨j,rfl⟩:=hs.ex;clear hs;rcases re with _|⟨⟨cc,aa⟩,re⟩
     ·rw[jI]at ha;rw[ha]at hF;simp(disch:=omega)[wrap64];exact ae (m':=l.length-(k+1)) (by omega) ⟨k+1,p,v1,v2,T',by omega,rfl,hF,h4.up,rfl,h6,hc,hd,by simp(disch:=omega)⟩
     ·have hE:pre.length+(re.length+1)=p.st.length:=by rw[h0];simp
      obtain⟨b,nn,cap,J,rfl,g6,hH,hQ,h7,hu,g7⟩:=h6.pos (by rw[h0];intro h;have:=congrArg List.length h;rw[jE]at this;simp at this);obtain rfl:nn=p.st.length:=by rw[jE]at hQ;omega
      obtain⟨J',hR⟩:∃ J',oc p.st++J=oc ((cc,aa)::re)++J':=by
       rw[h0];refine⟨oc pre++J,?_⟩;simp[oc]
      rw[hR]at h7;have e0:=oc_0 (cc,aa) re J';have e1:=oc_1 (cc,aa) re J';simp only at e0 e1;simp(disch:=omega);refine ah 12 (by kernel_rfl) ?_;by_cases hh:cc=r
      ·rw[jI,if_pos hh]at ha;rw[ha]at hF;subst hh;simp(disch:=omega)[hf,h7,e0,e1,-getElem?_pos];refine EE (cs:=pcn p.out) (by simpa using hc.push [some [.int .i64 aa,.int .i64 k]]) (by simpa using h6.push [some [.int .i64 aa,.int .i64 k]]) hd.symm (by simp) (by simp) rfl rfl (by rw[ku];have:=h4.olen;omega) (by omega) ?_;intro d' T'' ht h2' h9;have hv:=h2'.pop (cs':=oc re) (m:=re.length) (r:=[V.int .i32 cc,V.int .i64 (aa:Int)]++oc pre) ?_ (jE re) (by omega)
       ·simp(disch:=omega)[wrap64];exact ae (m':=l.length-(k+1)) (by omega) ⟨k+1,_,_,d',T'',by omega,rfl,hF,h4.pair ha,rfl,hv,by rw[DF];exact ht,h9.symm,by simp(disch:=omega)⟩
       ·rw[h0];simp[oc]
      ·rw[jI,if_neg hh]at ha;simp(disch:=omega)[hf,h7,e0,hh,wrap64,-getElem?_pos];exact ae (m':=re.length) (by simp) ⟨pre++[(cc,aa)],re,rfl,by rw[h0];simp,ha,rfl,by simp(disch:=omega)⟩
    ·rw[if_neg k2]at hF;simp(disch:=omega)[k1,k2];exact ae (m':=l.length-(k+1)) (by omega) ⟨k+1,p,v1,v2,T',by omega,rfl,hF,h4.up,rfl,h6,hc,hd,by simp(disch:=omega)[wrap64]⟩
  ·rw[if_pos hg]at hF;simp(disch:=omega)[hj,hi,hm,hg,-getElem?_pos];exact ae (m':=l.length-(k+1)) (by omega) ⟨k+1,p,v1,v2,T',by omega,rfl,hF,h4.up,rfl,h6,hc,hd,by simp(disch:=omega)[wrap64]⟩
 ·obtain rfl:k=l.length:=by omega
  have hT:(s0.zip rs).drop l.length=[]:=M4 (by simp;omega);rw[hT,pgo]at hF;have g8:=h4.olen;rcases hc with⟨rfl,hw⟩|⟨b,nn,cap,J,rfl,hb,hlen,h7,hu,hle⟩
  ·have ho:p.out=[]:=by
    have:=congrArg List.length hw;rw[ku]at this;exact L9.1 (by simp at this;omega)
   have hX:srt p.out=[]:=L9.1 (by rw[he,ho];rfl);simp(disch:=omega)[hJ];rw[hF];simp[hX]
  ·obtain rfl:nn=p.out.length:=by rw[ku]at hlen;omega
   have hY:=hS ⟨T.length+1+1+1+1,[],T.length+1+1+1+1⟩ (none::some (c.map (V.int .i64))::some (y2.map (V.int .i64))::some (pcs t o M n e)::(T++some [il l,.int .i64 lv,.int .i64 st,.int .i64 en]::T')) b cap p.out J (by omega) (fun x hx=>by have:=h4.ord x hx;omega) (by simp only;omega) h7;have hH:=al h7;generalize hG:(none::some (c.map (V.int .i64))::some (y2.map (V.int .i64))::some (pcs t o M n e)::(T++some [il l,.int .i64 lv,.int .i64 st,.int .i64 en]::T'))=G at *;simp(disch:=omega)[hY];rw[hF];simp only;have hZ:isMap (pcn (srt p.out)++J)=false:=by
    cases hq:srt p.out with
    | nil =>
     have:p.out=[]:=L9.1 (by rw[<- he,hq];rfl);rw[this]at h7;exact dP h7
    | cons z zs=>rfl
   have g0:ab (G.set b (some (pcn (srt p.out)++J))) b=some (pcn (srt p.out)++J):=by
    rw[du hH,hZ];rfl
   refine⟨jb (srt p.out),?_,rfl,?_⟩
   ·have hD:(pcn (srt p.out)).length=p.out.length*2:=by rw[ku,he]
    rw[iR,if_neg (by omega),g0];simp only[L3,ML];rw[if_pos (by simp;omega),MS hD,fG (yg _) (Jz _)];simp only[yg,if_true];rw[<- he,sH]
   ·rw[Mw (by omega),<- hG];simp
end
end Bi
end Go.Ab
namespace Go.Ab
theorem bJ{α:Type}{f:α->List V}{n:Nat}(hf:∀ x,(f x).length=n):∀ l:List α,(l.flatMap f).length=l.length*n
 | []=>by simp
 | x::l=>by rw[L4,Lt,hf,bJ hf l,Lx,Mc];omega
theorem pM{α:Type}{f:α->List V}{n:Nat}(hf:∀ x,(f x).length=n):∀ l:List α,chunk n l.length (l.flatMap f)=l.map f
 | []=>rfl
 | x::l=>by
  have h1:(x::l).flatMap f=f x++l.flatMap f:=L4;rw[h1,Lx,chunk,LM (by rw[hf];exact Lh _),Nw (by rw[hf];exact Lh _)];have e1:(f x).take n=f x:=by rw[<- hf x,LQ]
  have e2:(f x).drop n=[]:=by rw[<- hf x,Mr]
  rw[e1,e2,Mf,pM hf l,MF]
theorem OwnC.frzF{α:Type}{f:α->List V}{n:Nat}(hf:∀ x,(f x).length=n)(hn:0<n){h:Heap}{lo m d:Nat}{v:V}{l:List α}(ho:OwnC h lo n v (l.flatMap f))(hm:m<=lo)(hr:∀ x,(f x).all V.rf=true)(h0:∀ x,∀ c∈f x,c≠.nils):Go.Ab.frz h m (d+2) v=some (.lst (l.map f)):=by
 have h1:(l.flatMap f).all V.rf=true:=by
  rw[Lp];intro c hc;obtain⟨x,_,hx⟩:=NI.1 hc;exact Lp.1 (hr x) c hx
 have h2:∀ c∈l.flatMap f,c≠.nils:=fun c hc=>by
  obtain⟨x,_,hx⟩:=NI.1 hc;exact h0 x c hx
 rw[ho.frz hm h1 h2 hn,bJ hf,LI _ hn,pM hf]
theorem setI{k:IntKind}{l:List Int}{i:Nat}{x:Int}:bz (l.map (V.int k)) i (.int k x)=(l.set i x).map (V.int k):=by rw[bz,MB]
theorem setB{l:List Bool}{i:Nat}{x:Bool}:bz (l.map V.bool) i (.bool x)=(l.set i x).map V.bool:=by rw[bz,MB]
theorem nO:∀ n,br [V.bool false] n=(List.replicate n false).map V.bool
 | 0=>rfl
 | n+1=>by rw[br,nO n,MH];rfl
theorem jS:∀ n,br [V.int .i64 0] n=(List.replicate n 0).map (V.int .i64)
 | 0=>rfl
 | n+1=>by rw[br,jS n,MH];rfl
theorem qo{α:Type}{f:α->V}:∀ l:List α,(l.flatMap fun x=>[f x])=l.map f
 | []=>rfl
 | x::l=>by rw[L4,qo l];rfl
theorem AW{h:Heap}{n d b len cap:Nat}{l:List Bool}(hb:ab h b=some (l.map V.bool))(hn:n<=b)(hl:l.length=len):frz h n (d+2) (.sl b 0 len cap 1)=some (.lst (l.map fun x=>[.bool x])):=by
 have h1:OwnC h n 1 (.sl b 0 len len 1) (l.flatMap fun x=>[V.bool x]):=.inr ⟨b,len,rfl,by rw[qo];simp;omega,hn,by rw[hb,qo]⟩;have h2:=OwnC.frzF (ho:=h1) (f:=fun x=>[V.bool x]) (n:=1) (m:=n) (d:=d) (fun _=>rfl) (by omega) (Lh _) (fun _=>rfl) (fun x c hc=>by simp at hc;subst hc;simp);rw[iR,if_neg (by omega)]at h2 ⊢;exact h2
end Go.Ab
namespace Go.Ab
open Go.Proofs Go.Proofs.Tryz
namespace Bi
attribute [local congr] aw
section
variable {prim:FuncId->Option Prim}(d:Nat)
end
section
variable {prim:FuncId->Option Prim}(d:Nat)
end
section
variable {prim:FuncId->Option Prim}(d:Nat) (cfg:Cfg) (h:Heap)
end
end Bi
end Go.Ab
namespace Go.Ab
open Go.Proofs Go.Proofs.Tryz
namespace Bi
def alph:List Int:=[97,98,102,105,88,49,50,32,32,46,44,45,39,34,40,41,91,93,60,33,58,95,37,43,47,9,10,13,0x0B,0x85,0xA0,0xAD,0xB7,0x301,0x5D0,0x5D1,0x5BE,0x5B0,0x600,0x627,0x628,0x633,0x640,0x64B,0x661,0x66A,0x60C,0x61C,0x6F1,0x903,0x905,0x93C,0x1100,0x1161,0x11A8,0xAC00,0xAC01,0x2009,0x200B,0x200C,0x200D,0x200E,0x200F,0x2019,0x2028,0x2029,0x202A,0x202B,0x202C,0x202D,0x202E,0x2060,0x2066,0x2067,0x2068,0x2069,0x2600,0x3000,0x3001,0x300C,0x300D,0x30A2,0x4E00,0xFE0F,0x1F1E6,0x1F1E7,0x1F3FB,0x1F468,0x10FFFF]
section
variable {prim:FuncId->Option Prim}(d:Nat) (cfg:Cfg) (h:Heap)
theorem Je(hp:prim 22=none)(l:List Int):af md (K prim (d+1)) cfg 22 [il l] h=some (.ptr h.length 0,h++[some [il (l.take 4000),.int .i64 0]]):=by
 refine call2 rfl hp func22 rfl rfl rfl ?_;simp;by_cases hl:4000<l.length
 ·have h0:(4000:Int)<l.length:=by omega
  simp(disch:=first|omega|(simp;done)|(simp;omega)) [h0]
 ·have h0:¬ (4000:Int)<l.length:=by omega
  simp[h0,Lu (show l.length<=4000 by omega)]
theorem BV(hp:prim 23=none)(L:List Int)(k:Nat)(hL:L.length<=4000)(hk:k<=L.length)(n:Int)(hn:1<=n)(h7:n<=4000000000)(b:Nat)(hb:ab h b=some [il L,.int .i64 k])(hw:cfg.wr b=true):
  ∃ v k':Nat,(v:Int)<n/\k'<=L.length/\af md (K prim (d+1)) cfg 23 [.ptr b 0,.int .i64 n] h=some (.int .i64 v,h.set b (some [il L,.int .i64 k'])):=by
 have h4:(Cfg.wr ⟨cfg.lo,cfg.ex,h.length⟩ b)=true:=hw;have h8:=al hb;by_cases h9:k<L.length
 ·obtain⟨x,hx⟩:∃ x,L[k]=x:=⟨_,rfl⟩;have hr:=Oj x (b:=n) (by omega);have ha:=Ol x (b:=n) (by omega);refine⟨(if x.tmod n<0 then x.tmod n+n else x.tmod n).toNat,k+1,by split<;>omega,by omega,call1 rfl hp func23 rfl rfl rfl ?_⟩;simp;refine ah 9 (by kernel_rfl) ?_;have h3:¬ L.length<=k:=by omega
  have h6:¬ n<1:=by omega
  have hc:¬ n=0:=by omega
  simp[hb,h3,h6];refine ah 11 (by kernel_rfl) ?_;simp(disch:=first|omega|(simp;done)|(simp;omega)) [hb,hx,h4,wrap64];by_cases h0:x.tmod n<0
  ·simp(disch:=first|omega|(simp;done)|(simp;omega)) [h0,wrap64];exact⟨by omega,Lu (by simp)⟩
  ·simp(disch:=first|omega|(simp;done)|(simp;omega)) [h0];exact⟨by omega,Lu (by simp)⟩
 ·refine⟨0,k,by omega,hk,?_⟩;rw[eR hb];refine call1 rfl hp func23 rfl rfl rfl ?_;have h3:L.length<=k:=by omega
  simp;refine ah 9 (by kernel_rfl) ?_;simp[hb,h3]
@[simp] theorem cv3_21{h:Heap}{k:IntKind}{n:Int}:fB prog h 3 21 (.int k n)=some (.int .i32 (IntKind.i32.wrap n),h):=by kernel_rfl
theorem AE(hp:∀ f,Np5 f->prim f=none)(L:List Int)(k:Nat)(hL:L.length<=4000)(hk:k<=L.length)(n:Int)(hn:1<=n)(h0:n<=4000000000)(b:Nat)(hb:ab h b=some [il L,.int .i64 k])(hw:cfg.wr b=true):
  ∃ (v:Bool) (k':Nat),k'<=L.length/\af md (K prim (d+2)) cfg 140 [.ptr b 0,.int .i64 n] h=some (.bool v,h.set b (some [il L,.int .i64 k'])):=by
 obtain⟨v,k',hv,h3,hN⟩:=BV (prim:=prim) d ⟨cfg.lo,cfg.ex,h.length⟩ h (hp 23 (by decide)) L k hL hk n hn h0 b hb hw;refine⟨decide ((v:Int)=n-1),k',h3,call1 rfl (hp 140 (by decide)) func140 rfl rfl rfl ?_⟩;simp(disch:=omega)[hN,wrap64];exact Lu (by simp)
theorem JU(hp:∀ f,Np5 f->prim f=none)(L:List Int)(k:Nat)(hL:L.length<=4000)(hk:k<=L.length)(b:Nat)(hb:ab h b=some [il L,.int .i64 k])(hw:cfg.wr b=true):
  ∃ (v:Int) (k':Nat),k'<=L.length/\af md (K prim (d+1)) cfg 141 [.ptr b 0] h=some (.int .i64 v,h.set b (some [il L,.int .i64 k'])):=by
 have h3:(Cfg.wr ⟨cfg.lo,cfg.ex,h.length⟩ b)=true:=hw;have h6:=al hb;by_cases h4:k<L.length
 ·obtain⟨x,hx⟩:∃ x,L[k]?=some x:=⟨L[k],Lc h4⟩;refine⟨x,k+1,by omega,call1 rfl (hp 141 (by decide)) func141 rfl rfl rfl ?_⟩;have h0:¬ L.length<=k:=by omega
  simp;refine ah 9 (by kernel_rfl) ?_;simp(disch:=omega)[hb,h0,h3,wrap64];refine ah 9 (by kernel_rfl) ?_;have e1:((k:Int)+1-1).toNat=k:=by omega
  simp(disch:=omega)[hx,wrap64,-getElem?_pos];exact Lu (by simp)
 ·refine⟨0,k,hk,?_⟩;rw[eR hb];refine call1 rfl (hp 141 (by decide)) func141 rfl rfl rfl ?_;have h0:L.length<=k:=by omega
  simp;refine ah 9 (by kernel_rfl) ?_;simp[hb,h0]
theorem uz(hp:prim 98=none):∃ A:List Int,A.length=89/\∀ cfg h,af md (K prim (d+1)) cfg 98 [] h=some (rl A,h):=by
 refine⟨alph,rfl,fun cfg h=>?_⟩;refine aU rfl hp func98 rfl rfl rfl (by simp) ?_;simp;exact dx (d:=4) (k:=.i32) (l:=alph) rfl (LJ _) rfl
theorem zV(hp:∀ f,Np5 f->prim f=none)(L:List Int)(k:Nat)(hL:L.length<=4000)(hk:k<=L.length)(b:Nat)(hb:ab h b=some [il L,.int .i64 k])(hw:cfg.wr b=true):
  ∃ (v:Int) (k':Nat),k'<=L.length/\af md (K prim (d+3)) cfg 99 [.ptr b 0] h=some (.int .i32 v,h.set b (some [il L,.int .i64 k'])):=by
 have h7:=al hb;obtain⟨A,hA,h3⟩:=uz (prim:=prim) (d+1) (hp 98 (by decide));obtain⟨c,k1,h4,hC⟩:=AE (prim:=prim) d ⟨cfg.lo,cfg.ex,h.length⟩ h hp L k hL hk 40 (by omega) (by omega) b hb hw;have h6:ab (h.set b (some [il L,.int .i64 k1])) b=some [il L,.int .i64 k1]:=by simp[h7]
 cases c
 ·obtain⟨v,k2,hv,h0,hN⟩:=BV (prim:=prim) (d+1) ⟨cfg.lo,cfg.ex,h.length⟩ (h.set b (some [il L,.int .i64 k1])) (hp 23 (by decide)) L k1 hL h4 89 (by omega) (by omega) b h6 hw;obtain⟨x,hx⟩:∃ x,A[v]?=some x:=⟨A[v],Lc (by omega)⟩;refine⟨x,k2,h0,call1 rfl (hp 99 (by decide)) func99 rfl rfl rfl ?_⟩;simp at hN;simp(disch:=omega)[h3,hC,hA,hN,hx,-getElem?_pos];exact Lu (by simp)
 ·obtain⟨v,k2,h0,hR⟩:=JU (prim:=prim) (d+1) ⟨cfg.lo,cfg.ex,h.length⟩ (h.set b (some [il L,.int .i64 k1])) hp L k1 hL h4 b h6 hw;refine⟨IntKind.i32.wrap v,k2,h0,call1 rfl (hp 99 (by decide)) func99 rfl rfl rfl ?_⟩;simp at hR;simp(disch:=omega)[h3,hC,hR];exact Lu (by simp)
theorem GF(hp:∀ f,Np5 f->prim f=none)(L:List Int)(k:Nat)(hL:L.length<=4000)(hk:k<=L.length)(n:Nat)(hn:n<=1000)(b:Nat)(hb:ab h b=some [il L,.int .i64 k])(hw:cfg.wr b=true)(hz:cfg.lo<=h.length):
  ∃ (l:List Int) (k':Nat),l.length<=n/\k'<=L.length/\af md (K prim (d+4)) cfg 66 [.ptr b 0,.int .i64 n] h=some (rl l,h.set b (some [il L,.int .i64 k'])):=by
 have he:(Cfg.wr ⟨cfg.lo,cfg.ex,h.length⟩ b)=true:=hw;have hy:=al hb;obtain⟨v,k1,hv,hO,hN⟩:=BV (prim:=prim) (d+2) ⟨cfg.lo,cfg.ex,h.length⟩ h (hp 23 (by decide)) L k hL hk (n+1) (by omega) (by omega) b hb he;have hP:ab (h.set b (some [il L,.int .i64 k1])) b=some [il L,.int .i64 k1]:=by simp[hy]
 obtain⟨few,k2,hQ,hT,hI⟩:=BV (prim:=prim) (d+2) ⟨cfg.lo,cfg.ex,h.length⟩ (h.set b (some [il L,.int .i64 k1])) (hp 23 (by decide)) L k1 hL hO 3 (by omega) (by omega) b hP he;simp at hI;have hc:=iL (md:=md) (n:=10000) (d:=d+3) (cfg:=cfg) (h:=h) (args:=[.ptr b 0,.int .i64 n]) (Post:=fun r h2=>∃ (l:List Int) (k':Nat),l.length<=n/\k'<=L.length/\r=rl l/\h2=h.set b (some [il L,.int .i64 k'])) rfl (hp 66 (by decide)) func66 rfl rfl rfl ?_
 ·obtain⟨r,h2,h3,l,k',h4,h5,rfl,rfl⟩:=hc;exact⟨l,k',h4,h5,h3⟩
 have hX:Upd h b [il L,.int .i64 k2] (h.set b (some [il L,.int .i64 k2])):=(Upd.refl hb).set;simp(disch:=omega)[hN,hI,wrap64];refine ai (fun m fr H=>∃ (i kk:Nat) (sv:V) (S:List Int),i<=5/\m=5-i/\kk<=L.length/\S.length=i/\Upd h b [il L,.int .i64 kk] H/\OwnL H h.length .i32 sv S /\
   Slots 47 [(0,.ptr b 0),(5,.int .i64 v),(6,.nils),(7,.int .i64 few),(8,sv),(9,.int .i64 i)] fr) (m:=5) (by omega) ⟨0,k2,.nils,[],by omega,by omega,hT,rfl,hX,.inl ⟨rfl,rfl⟩,by simp⟩ ?_
 rintro m fr H ⟨i,kk,sv,S,hi,rfl,h7,hS,hu,h0,hs⟩;obtain⟨j,rfl⟩:=hs.ex;clear hs;by_cases g2:i<5
 ·obtain⟨x,k3,hg,hR⟩:=zV (prim:=prim) d ⟨cfg.lo,cfg.ex,h.length⟩ H hp L kk hL h7 b (hu.block hy rfl) he;have hh:Upd h b [il L,.int .i64 k3] (H.set b (some [il L,.int .i64 k3])):=hu.set;have hj:(i:Int)<5:=by omega
  have hl:ab (H.set b (some [il L,.int .i64 k3])++[some [.int .i32 x]]) H.length=some [.int .i32 x]:=by rw[bw (by simp)];rfl
  simp(disch:=omega)[hj,hR,hl];refine Kb (l:=S) (lo:=h.length) (y:=4) ?_ ?_ ?_ ?_ ?_ ?_
  ·refine h0.mono fun c h1 h2=>?_;rw[aj (by simpa using h2),ak (by omega)]
  ·exact hz
  ·have:=hu.2;simp;omega
  ·rw[hS];omega
  ·rw[hS];omega
  ·intro d' h' hm hr h6;simp(disch:=omega)[wrap64];exact ae (m':=5-(i+1)) (by omega) ⟨i+1,k3,d',S++[x],by omega,rfl,hg,by simp[hS],(hh.push _).of_take hr h6,hm,by simp⟩
 ·have hj:¬ (i:Int)<5:=by omega
  have hY:i=5:=by omega
  subst hY;simp;refine ai (fun m fr H=>∃ (q kk:Nat) (lv:V) (Ls:List Int),q<=v/\m=v-q/\kk<=L.length/\Ls.length=q/\Upd h b [il L,.int .i64 kk] H/\OwnL H h.length .i32 sv S/\OwnL H h.length .i32 lv Ls/\Dj sv lv /\
   Slots 47 [(0,.ptr b 0),(5,.int .i64 v),(6,lv),(7,.int .i64 few),(8,sv),(10,.int .i64 q)] fr) (m:=v) (by omega) ⟨0,kk,.nils,[],by omega,by omega,h7,rfl,hu,h0,.inl ⟨rfl,rfl⟩,Dj.nils,by simp⟩ ?_
  clear hu h0 h7;rintro m fr H ⟨q,kk,lv,Ls,hq,rfl,h7,hd,hu,h0,h8,hJ,hs⟩;obtain⟨j,rfl⟩:=hs.ex;clear hs;by_cases hA:q<v
  ·by_cases hf:0<few
   ·obtain⟨u,k3,g3,hg,hZ⟩:=BV (prim:=prim) (d+2) ⟨cfg.lo,cfg.ex,h.length⟩ H (hp 23 (by decide)) L kk hL h7 5 (by omega) (by omega) b (hu.block hy rfl) he;obtain⟨x,hx⟩:∃ x,S[u]?=some x:=⟨S[u],Lc (by omega)⟩;rcases h0 with⟨rfl,rfl⟩|⟨sb,rfl,ht,h9⟩
    ·simp at hx
    have hK:OwnL H h.length .i32 (.sl sb 0 S.length S.length 1) S:=.inr ⟨sb,rfl,ht,h9⟩;have g0:sb<H.length:=al h9;have hh:Upd h b [il L,.int .i64 k3] (H.set b (some [il L,.int .i64 k3])):=hu.set;have g1:b≠sb:=by omega
    have hM:ab (H.set b (some [il L,.int .i64 k3])) sb=some (S.map (V.int .i32)):=by rw[ak g1];exact h9
    have hl:ab (H.set b (some [il L,.int .i64 k3])++[some [.int .i32 x]]) H.length=some [.int .i32 x]:=by rw[bw (by simp)];rfl
    simp(disch:=omega)[hA,hf,hZ,hM,hx,hl,-getElem?_pos];refine Am (l:=Ls) (lo:=h.length) (y:=4) ?_ ?_ ?_ ?_ ?_ ?_
    ·refine h8.mono fun c h1 h2=>?_;rw[aj (by simpa using h2),ak (by omega)]
    ·exact hz
    ·have:=hu.2;simp;omega
    ·rw[hd];omega
    ·rw[hd];omega
    ·intro d' h' hm hr h6 _ ha;obtain⟨hD,hE⟩:=ha _ hJ (fun c hc=>by cases hc;simp;omega);simp(disch:=omega)[wrap64];refine ae (m':=v-(q+1)) (by omega) ⟨q+1,k3,d',Ls++[x],by omega,rfl,hg,by simp[hd],(hh.push _).of_take hr h6,?_,hm,hD,by simp⟩;refine .inr ⟨sb,rfl,ht,?_⟩;rw[hE sb rfl,aj (by simpa using g0)];exact hM
   ·obtain⟨x,k3,hg,hR⟩:=zV (prim:=prim) d ⟨cfg.lo,cfg.ex,h.length⟩ H hp L kk hL h7 b (hu.block hy rfl) he;have hh:Upd h b [il L,.int .i64 k3] (H.set b (some [il L,.int .i64 k3])):=hu.set;have hl:ab (H.set b (some [il L,.int .i64 k3])++[some [.int .i32 x]]) H.length=some [.int .i32 x]:=by rw[bw (by simp)];rfl
    simp(disch:=omega)[hA,hf,hR,hl];refine Am (l:=Ls) (lo:=h.length) (y:=4) ?_ ?_ ?_ ?_ ?_ ?_
    ·refine h8.mono fun c h1 h2=>?_;rw[aj (by simpa using h2),ak (by omega)]
    ·exact hz
    ·have:=hu.2;simp;omega
    ·rw[hd];omega
    ·rw[hd];omega
    ·intro d' h' hm hr h6 _ ha;obtain⟨hD,hE⟩:=ha sv hJ (fun c hc=>by have:=(h0.blk hc).2;simp;omega);simp(disch:=omega)[wrap64];refine ae (m':=v-(q+1)) (by omega) ⟨q+1,k3,d',Ls++[x],by omega,rfl,hg,by simp[hd],(hh.push _).of_take hr h6,?_,hm,hD,by simp⟩;refine h0.of_blk fun c hc=>?_;have:=h0.blk hc;rw[hE c hc,aj (by simpa using this.2),ak (by omega)]
  ·simp[hA];refine⟨_,?_,Ls,by omega,kk,h7,rfl,hu.1⟩;rcases h8 with⟨rfl,rfl⟩|⟨lb,rfl,hF,hH⟩
   ·rfl
   ·exact dx (d:=4) hH hF rfl
end
end Bi
end Go.Ab
