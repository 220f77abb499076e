/- Several texts of this proof in one. -/
import Derived.Test.YtoappddifbgegaaGreatPiP
set_option linter.all false
set_option maxHeartbeats 8000000
set_option maxRecDepth 100000
namespace Go.Ab.Bi
abbrev oJ:=List (Int×Nat)
def jI(r:Int):oJ->Option (Nat×oJ)
 | []=>none
 | (c,a)::t=>if c=r then some (a,t) else jI r t
structure PS where
 st:oJ
 out:List (Nat×Nat)
def pgo:Nat->List (Int×Int)->PS->Option (List (Nat×Nat))
 | _,[],p=>some p.out
 | k,(x,r)::l,p =>
  if x≠13 then pgo (k+1) l p
  else if (brS r).1=1 then (if p.st.length=63 then none else pgo (k+1) l ⟨((brS r).2,k)::p.st,p.out⟩)
  else if (brS r).1=2 then (match jI r p.st with
   | some (a,t)=>pgo (k+1) l ⟨t,p.out++[(a,k)]⟩
   | none=>pgo (k+1) l p)
  else pgo (k+1) l p
def oc(st:oJ):List V:=st.reverse.flatMap fun a=>[V.int .i32 a.1,V.int .i64 (a.2:Int)]
def pcn(out:List (Nat×Nat)):List V:=out.flatMap fun a=>[V.int .i64 (a.1:Int),V.int .i64 (a.2:Int)]
theorem po(a:Int×Nat)(st:oJ):oc (a::st)=oc st++[V.int .i32 a.1,V.int .i64 (a.2:Int)]:=by simp[oc]
theorem jE(st:oJ):(oc st).length=st.length*2:=by
 induction st with
 | nil=>rfl
 | cons a st ih=>rw[po,Ln,ih];simp;omega
theorem DZ(out:List (Nat×Nat))(x:Nat×Nat):pcn (out++[x])=pcn out++[V.int .i64 (x.1:Int),V.int .i64 (x.2:Int)]:=by simp[pcn]
theorem kj(out:List (Nat×Nat)):(pcn out).length=out.length*2:=by
 induction out with
 | nil=>rfl
 | cons a st ih=>simp only[pcn,Mj,Ln,Lp,L3]at ih ⊢;omega
theorem oc_0(a:Int×Nat)(r:oJ)(J:List V):slot (oc (a::r)++J) (r.length*2)=some (.int .i32 a.1):=by
 rw[<- jE r,po,Ly,slot,Lg (La _)];simp
theorem oc_1(a:Int×Nat)(r:oJ)(J:List V):slot (oc (a::r)++J) (r.length*2+1)=some (.int .i64 (a.2:Int)):=by
 rw[<- jE r,po,Ly,slot,Lg (by omega)];simp
structure POK(k:Nat)(p:PS):Prop where
 lt:∀ a∈p.st,a.2<k
 ord:∀ x∈p.out,x.1<x.2/\x.2<k
 len:p.st.length<=63
 olen:p.out.length<=k
theorem sX{r:Int}:∀ {st:oJ}{a:Nat}{t:oJ},jI r st=some (a,t)->(∃ c,(c,a)∈st)/\(∀ x∈t,x∈st)/\t.length<st.length
 | [],a,t,h=>by simp[jI]at h
 | (c,b)::st,a,t,h=>by
  simp only[jI]at h;split at h
  ·cases h;exact⟨⟨c,by simp⟩,fun x hx=>Lc _ hx,by simp⟩
  ·obtain⟨⟨c',h1⟩,h2,h3⟩:=sX h;exact⟨⟨c',Lc _ h1⟩,fun x hx=>Lc _ (h2 x hx),by simp;omega⟩
theorem POK.zero:POK 0 ⟨[],[]⟩:=⟨by simp,by simp,by simp,by simp⟩
theorem POK.up{k:Nat}{p:PS}(h:POK k p):POK (k+1) p:=⟨fun a ha=>by have:=h.lt a ha;omega,fun x hx=>by have:=h.ord x hx;omega,h.len,by have:=h.olen;omega⟩
theorem POK.push{k:Nat}{p:PS}(h:POK k p)(c:Int)(hl:p.st.length≠63):POK (k+1) ⟨(c,k)::p.st,p.out⟩:=by
 refine⟨fun a ha=>?_,fun x hx=>by have:=h.ord x hx;omega,by have:=h.len;simp;omega,by have:=h.olen;simp;omega⟩;rcases Lt.1 ha with rfl|ha
 ·simp
 ·have:=h.lt a ha;omega
theorem POK.pair{k:Nat}{p:PS}(h:POK k p){r:Int}{a:Nat}{t:oJ}(hf:jI r p.st=some (a,t)):POK (k+1) ⟨t,p.out++[(a,k)]⟩:=by
 obtain⟨⟨c,h1⟩,h2,h3⟩:=sX hf;refine⟨fun x hx=>by have:=h.lt x (h2 x hx);omega,fun x hx=>?_,by have:=h.len;simp only;omega,by have:=h.olen;simp;omega⟩;rcases LB.1 hx with hx|hx
 ·have:=h.ord x hx;omega
 ·simp at hx;subst hx;have:=h.lt _ h1;simp at this ⊢;exact this
end Go.Ab.Bi
namespace Go.Ab
open Go.Proofs Go.Proofs.Tryz
namespace Bi
section
variable {P:Program}{md':FuncId->Nat}{n:Nat}{prim:FuncId->Option Prim}{cfg:Cfg}
theorem gB{d:Nat}{f:FuncId}{fn:Func}{c:Code}{k:Nat}{rs:List ResultVar}{args:List V}{h:Heap}{Post:V->Heap->Prop}(hm:md' f=0)(hp:prim f=none)(hf:P.funcs[f]?=some fn)(hb:fn.body=some c)(hk:fn.ntmps=k)
  (hr:fn.results.toList=rs) (ha:args.all V.noref=false)
  (hw:@wC P md' (aH P md' prim n d) ⟨h.length,[],h.length⟩ n ⟨c⟩ (args++List.replicate (k-args.length) .no) h ⟨@kFn P ⟨rs⟩ ⟨fun r' h'=>∃ r,frz h' h.length 6 r'=some r/\Post r (h'.take h.length)⟩⟩):
  ∃ r h2,(∀ cfg,af md' (aH P md' prim n (d+1)) cfg f args h=some (r,h2))/\Post r h2:=by
 obtain⟨r',h',h1,r,h2,h3⟩:=cn hp hf hb hk hr hw;exact⟨r,_,fun cfg=>by simp only[af,hm,ha,Lv,if_false,h1,h2],h3⟩
end
theorem yy(o:List (Nat×Nat)):(pcn o).all V.rf=true:=by
 simp only[pcn,Nq];rw[Lk];intro x _;rfl
theorem JD(o:List (Nat×Nat)):∀ c∈pcn o,c≠V.nils:=by
 intro c hc;simp only[pcn,M8]at hc;obtain⟨x,_,hx⟩:=hc;simp at hx;rcases hx with rfl|rfl<;>simp
theorem sW:∀ o:List (Nat×Nat),chunk 2 o.length (pcn o)=o.map fun x=>[V.int .i64 (x.1:Int),V.int .i64 (x.2:Int)]
 | []=>rfl
 | x::o=>by
  have e:pcn (x::o)=[V.int .i64 (x.1:Int),V.int .i64 (x.2:Int)]++pcn o:=rfl;rw[e,Lp,chunk,Mk,show List.drop 2 ([V.int .i64 (x.1:Int),V.int .i64 (x.2:Int)]++pcn o)=pcn o from rfl,sW o];rfl
theorem relit{h:Heap}{a0 a1 a2 a3 x:Option (List V)}{T:Heap}(ht:h.take (T.length+5)=a0::a1::a2::a3::(T++[x])):∃ T',h=a0::a1::a2::a3::(T++x::T'):=by
 refine⟨h.drop (T.length+5),?_⟩
 conv=>lhs;rw[<- List.take_append_drop (T.length+5) h,ht]
 simp
section
variable {P:Program}{md':FuncId->Nat}{call:aF}{cfg:Cfg}
theorem E2{dst:Option Tmp}{fr:List V}{ops:Array Oper}{rest:List Oper}{Q:ca}{a0 a1 a2 a3 x:Option (List V)}{T T':Heap}{dv v2:V}{cs cs2 new:List V}{y:Nat}
  (ho:Stk (a0::a1::a2::a3::(T++x::T')) (T.length+5) 2 dv cs) (h2:Stk (a0::a1::a2::a3::(T++x::T')) (T.length+5) 2 v2 cs2) (h4:Dj dv v2) (h8:cfg.lo<=T.length+5) (h9:cfg.thr<=T.length+5)
  (h3:new.length=2) (ha:isMap new=false) (hf:cs.length / 2<=4000) (hy:y<=100)
  (H:∀ d' T'',Stk (a0::a1::a2::a3::(T++x::T'')) (T.length+5) 2 d' (cs++new)->Stk (a0::a1::a2::a3::(T++x::T'')) (T.length+5) 2 v2 cs2->Dj d' v2->@wO P md' call cfg ⟨ops⟩ ⟨rest⟩ (put fr dst d') (a0::a1::a2::a3::(T++x::T'')) ⟨Q⟩):
  @wS P md' call cfg ⟨dst⟩ ⟨fr⟩ (fX cfg (a0::a1::a2::a3::(T++x::T')) 2 y dv 1 new) ⟨ops⟩ ⟨rest⟩ ⟨Q⟩:=by
 have hs:(cs.length / 2+1)*y<=1099511627776:=by
  have:(cs.length / 2+1)*y<=4001*100:=Nj (by omega) hy;omega
 refine kB (lo:=T.length+5) ho h8 h9 (by simp<;>omega) h3 ha (by omega) hs (by omega) ?_;intro d' h' hc _ hd hlen he hb;have ht:h'.take (T.length+5)=a0::a1::a2::a3::(T++[x]):=by
  rw[hd];simp[List.take_append];exact Li (by omega)
 obtain⟨T'',rfl⟩:=relit ht;refine H d' T'' hc (h2.of_blk fun b h6=>he b (fun e=>h4 b e h6) (h2.blk h6).2) ?_;intro b h0 h7;rcases hb with hb|hb
 ·rw[hb]at h0;exact h4 b h0 h7
 ·rw[hb]at h0;cases h0;have:=(h2.blk h7).2;omega
end
section
variable {prim:FuncId->Option Prim}(d:Nat)
theorem DW(hp:∀ f,Np2 f->prim f=none)(t o M:List Int)(n:Nat)(e:Int)(c l:List Int)(hn:c.length=n)(hI:t.length=n)(g1:n<=2000)(hl:Pl n l)(g2:l.length<=2000)(y2:List Int)(T:Heap)(lv st en:Int)
  (srt:List (Nat×Nat)->List (Nat×Nat)) (he:∀ o,(srt o).length=o.length)
  (hS:∀ (cfg:Cfg) (H:Heap) (b cap:Nat) (out:List (Nat×Nat)) (J:List V),out.length<=2000->(∀ x∈out,x.1<4294967296/\x.2<4294967296)->cfg.lo<=b->ab H b=some (pcn out++J)->af md (K prim (d+2)) cfg 324 [.sl b 0 out.length cap 2,.func (.func 325) [] []] H=some (.tup [],H.set b (some (pcn (srt out)++J))))
  (hJ:∀ (cfg:Cfg) (H:Heap),af md (K prim (d+2)) cfg 324 [.nils,.func (.func 325) [] []] H=some (.tup [],H)):
  ∀ cfg,af md (K prim (d+3)) cfg 310 [.ptr 3 0,.agg [il l,.int .i64 lv,.int .i64 st,.int .i64 en]] (none::some (c.map (V.int .i64))::some (y2.map (V.int .i64))::some (pcs t o M n e)::T) =
   some (iV (match pgo 0 ((l.map (lvl c)).zip (l.map (lvl t))) ⟨[],[]⟩ with
    | some out=>srt out
    | none=>[]),none::some (c.map (V.int .i64))::some (y2.map (V.int .i64))::some (pcs t o M n e)::T):=by
 suffices H:∃ r h2,(∀ cfg,af md (K prim (d+3)) cfg 310 [.ptr 3 0,.agg [il l,.int .i64 lv,.int .i64 st,.int .i64 en]] (none::some (c.map (V.int .i64))::some (y2.map (V.int .i64))::some (pcs t o M n e)::T)=some (r,h2))/\r=iV (match pgo 0 ((l.map (lvl c)).zip (l.map (lvl t))) ⟨[],[]⟩ with
    | some out=>srt out
    | none=>[])/\h2=(none::some (c.map (V.int .i64))::some (y2.map (V.int .i64))::some (pcs t o M n e)::T) by
  obtain⟨r,h2,h3,rfl,rfl⟩:=H;exact h3
 refine gB rfl (hp 310 (by decide)) func310 rfl rfl rfl (by simp) ?_;have b4:∀ x T',isMap x=false->ab (T++some x::T') T.length=some x:=fun x T' hx=>by
  have:=bn (h:=T) (r:=some x::T') (k:=0);simp[hx]
 have hK:=fun cfg h r=>xF (prim:=prim) d cfg h hp r;have hy:WB c l (l.map (lvl c)) c:=WB.start (by rw[hn];exact hl);have hA:WB t l (l.map (lvl t)) t:=WB.start (by rw[hI];exact hl);generalize g3:l.map (lvl c)=s0 at *;generalize g4:l.map (lvl t)=rs at *;have hL:=hy.sl;have hM:=hA.sl;have hN:md 324=1:=rfl;simp(disch:=omega);refine ah (fun m fr H=>∃ (k:Nat) (p:PS) (v1 v2:V) (T':Heap),k<=l.length/\m=l.length-k/\pgo 0 (s0.zip rs) ⟨[],[]⟩=pgo k ((s0.zip rs).drop k) p/\POK k p/\H=none::some (c.map (V.int .i64))::some (y2.map (V.int .i64))::some (pcs t o M n e)::(T++some [il l,.int .i64 lv,.int .i64 st,.int .i64 en]::T')/\Stk H (T.length+5) 2 v1 (oc p.st)/\Stk H (T.length+5) 2 v2 (pcn p.out)/\Dj v1 v2 /\
  Slots 90 [(0,.ptr 3 0),(3,.ptr (T.length+1+1+1+1) 0),(5,v1),(6,v2),(13,il l),(14,.int .i64 l.length),(15,.int .i64 k)] fr) (m:=l.length) (by omega) ⟨0,⟨[],[]⟩,.nils,.nils,[],by omega,by omega,rfl,POK.zero,by simp,.inl ⟨rfl,rfl⟩,.inl ⟨rfl,rfl⟩,Dj.nils,by simp⟩ ?_
 rintro m fr H ⟨k,p,v1,v2,T',hk,rfl,hF,h4,rfl,h6,hc,hd,hs⟩;obtain⟨j,rfl⟩:=hs.ex;clear hs;by_cases hj:k<l.length
 ·obtain⟨i,hi,g5⟩:=hl.at_ hj;obtain⟨x,hx⟩:∃ x,s0[k]?=some x:=⟨_,K4 (by omega)⟩;obtain⟨r,hr⟩:∃ r,rs[k]?=some r:=⟨_,K4 (by omega)⟩;have hm:=hy.at_ k i hi;have hf:=hA.at_ k i hi;rw[hx,Lr]at hm;rw[hr,Lr]at hf;have hz:(s0.zip rs)[k]?=some (x,r):=by rw[List.getElem?_zip_eq_some];exact⟨hx,hr⟩
  have hO:(s0.zip rs).drop k=(x,r)::(s0.zip rs).drop (k+1):=by
   have hP:=(K5.1 hz).1;rw[Lq hP];congr 1;exact (K5.1 hz).2
  rw[hO,pgo]at hF;by_cases hg:x=13
  ·rw[if_neg (by simp[hg])]at hF;subst hg;simp(disch:=omega)[hj,hi,hm,hf,hK,-getElem?_pos];by_cases k1:(brS r).1=1
   ·rw[if_pos k1]at hF;have h8:=h6.len (show prog.underlying 346=some (.slice 350) by kernel_rfl) (by omega);rw[jE,Lw _ (by omega)]at h8;by_cases k63:p.st.length=63
    ·rw[if_pos k63]at hF;rw[k63]at h8;simp(disch:=omega)[k1,h8];rw[hF]
    ·rw[if_neg k63]at hF;have n63:¬ (p.st.length:Int)=63:=by omega
     simp(disch:=omega)[k1,h8,n63];refine E2 (cs:=oc p.st) (by simpa using h6.push [some [.int .i32 (brS r).2,.int .i64 k]]) (by simpa using hc.push [some [.int .i32 (brS r).2,.int .i64 k]]) hd (by simp) (by simp) rfl rfl (by rw[jE];have:=h4.len;omega) (by omega) ?_;intro d' T'' ht h2' h9;simp(disch:=omega)[wrap64];exact ae (m':=l.length-(k+1)) (by omega) ⟨k+1,_,d',v2,T'',by omega,rfl,hF,h4.push _ k63,rfl,by rw[po];exact ht,h2',h9,by simp(disch:=omega)⟩
   ·rw[if_neg k1]at hF;by_cases k2:(brS r).1=2
    ·rw[if_pos k2]at hF;have h8:=h6.len (show prog.underlying 346=some (.slice 350) by kernel_rfl) (by omega);rw[jE,Lw _ (by omega)]at h8;have hD:=h4.len;simp(disch:=omega)[k2,h8,wrap64];refine ah (fun m fr H=>∃ (pre re:oJ),m=re.length/\p.st=pre++re/\jI r p.st=jI r re/\H=none::some (c.map (V.int .i64))::some (y2.map (V.int .i64))::some (pcs t o M n e)::(T++some [il l,.int .i64 lv,.int .i64 st,.int .i64 en]::T')/\Slots 90 [(0,.ptr 3 0),(3,.ptr (T.length+1+1+1+1) 0),(5,v1),(6,v2),(7,.int .i64 k),(8,.int .i64 i),(11,.int .i64 ((re.length:Int)-1)),(13,il l),(14,.int .i64 l.length),(15,.int .i64 k)] fr) (m:=p.st.length) (by omega) ⟨[],p.st,rfl,rfl,rfl,rfl,by simp⟩ ?_;rintro m fr H ⟨pre,re,rfl,h0,ha,rfl,hs⟩;obtain⟨j,rfl⟩:=hs.ex;clear hs;rcases re with _|⟨⟨cc,aa⟩,re⟩
     ·rw[jI]at ha;rw[ha]at hF;simp(disch:=omega)[wrap64];exact ae (m':=l.length-(k+1)) (by omega) ⟨k+1,p,v1,v2,T',by omega,rfl,hF,h4.up,rfl,h6,hc,hd,by simp(disch:=omega)⟩
     ·have hE:pre.length+(re.length+1)=p.st.length:=by rw[h0];simp
      obtain⟨b,nn,cap,J,rfl,g6,hH,hQ,h7,hu,g7⟩:=h6.pos (by rw[h0];intro h;have:=congrArg List.length h;rw[jE]at this;simp at this);obtain rfl:nn=p.st.length:=by rw[jE]at hQ;omega
      obtain⟨J',hR⟩:∃ J',oc p.st++J=oc ((cc,aa)::re)++J':=by
       rw[h0];refine⟨oc pre++J,?_⟩;simp[oc]
      rw[hR]at h7;have e0:=oc_0 (cc,aa) re J';have e1:=oc_1 (cc,aa) re J';simp only at e0 e1;simp(disch:=omega);refine ai 12 (by kernel_rfl) ?_;by_cases hh:cc=r
      ·rw[jI,if_pos hh]at ha;rw[ha]at hF;subst hh;simp(disch:=omega)[hf,h7,e0,e1,-getElem?_pos];refine E2 (cs:=pcn p.out) (by simpa using hc.push [some [.int .i64 aa,.int .i64 k]]) (by simpa using h6.push [some [.int .i64 aa,.int .i64 k]]) hd.symm (by simp) (by simp) rfl rfl (by rw[kj];have:=h4.olen;omega) (by omega) ?_;intro d' T'' ht h2' h9;have hv:=h2'.pop (cs':=oc re) (m:=re.length) (r:=[V.int .i32 cc,V.int .i64 (aa:Int)]++oc pre) ?_ (jE re) (by omega)
       ·simp(disch:=omega)[wrap64];exact ae (m':=l.length-(k+1)) (by omega) ⟨k+1,_,_,d',T'',by omega,rfl,hF,h4.pair ha,rfl,hv,by rw[DZ];exact ht,h9.symm,by simp(disch:=omega)⟩
       ·rw[h0];simp[oc]
      ·rw[jI,if_neg hh]at ha;simp(disch:=omega)[hf,h7,e0,hh,wrap64,-getElem?_pos];exact ae (m':=re.length) (by simp) ⟨pre++[(cc,aa)],re,rfl,by rw[h0];simp,ha,rfl,by simp(disch:=omega)⟩
    ·rw[if_neg k2]at hF;simp(disch:=omega)[k1,k2];exact ae (m':=l.length-(k+1)) (by omega) ⟨k+1,p,v1,v2,T',by omega,rfl,hF,h4.up,rfl,h6,hc,hd,by simp(disch:=omega)[wrap64]⟩
  ·rw[if_pos hg]at hF;simp(disch:=omega)[hj,hi,hm,hg,-getElem?_pos];exact ae (m':=l.length-(k+1)) (by omega) ⟨k+1,p,v1,v2,T',by omega,rfl,hF,h4.up,rfl,h6,hc,hd,by simp(disch:=omega)[wrap64]⟩
 ·obtain rfl:k=l.length:=by omega
  have hT:(s0.zip rs).drop l.length=[]:=MH (by simp;omega);rw[hT,pgo]at hF;have g8:=h4.olen;rcases hc with⟨rfl,hw⟩|⟨b,nn,cap,J,rfl,hb,hlen,h7,hu,hle⟩
  ·have ho:p.out=[]:=by
    have:=congrArg List.length hw;rw[kj]at this;exact LH.1 (by simp at this;omega)
   have hX:srt p.out=[]:=LH.1 (by rw[he,ho];rfl);simp(disch:=omega)[hJ];rw[hF];simp[hX]
  ·obtain rfl:nn=p.out.length:=by rw[kj]at hlen;omega
   have hY:=hS ⟨T.length+1+1+1+1,[],T.length+1+1+1+1⟩ (none::some (c.map (V.int .i64))::some (y2.map (V.int .i64))::some (pcs t o M n e)::(T++some [il l,.int .i64 lv,.int .i64 st,.int .i64 en]::T')) b cap p.out J (by omega) (fun x hx=>by have:=h4.ord x hx;omega) (by simp only;omega) h7;have hH:=ao h7;generalize hG:(none::some (c.map (V.int .i64))::some (y2.map (V.int .i64))::some (pcs t o M n e)::(T++some [il l,.int .i64 lv,.int .i64 st,.int .i64 en]::T'))=G at *;simp(disch:=omega)[hY];rw[hF];simp only;have hZ:isMap (pcn (srt p.out)++J)=false:=by
    cases hq:srt p.out with
    | nil =>
     have:p.out=[]:=LH.1 (by rw[<- he,hq];rfl);rw[this]at h7;exact dy h7
    | cons z zs=>rfl
   have g0:ab (G.set b (some (pcn (srt p.out)++J))) b=some (pcn (srt p.out)++J):=by
    rw[gM hH,hZ];rfl
   refine⟨iV (srt p.out),?_,rfl,?_⟩
   ·have hD:(pcn (srt p.out)).length=p.out.length*2:=by rw[kj,he]
    rw[jA,if_neg (by omega),g0];simp only[LU,Mo];rw[if_pos (by simp;omega),Mz hD,jB (yy _) (JD _)];simp only[yy,if_true];rw[<- he,sW]
   ·rw[Mf (by omega),<- hG];simp
end
attribute [local congr] az
section
variable {prim:FuncId->Option Prim}(d:Nat)
theorem CS(hp:∀ f,Np5 f->prim f=none)(x:Int):∃ r,IsB r/\∀ cfg h,af md (K prim (d+1)) cfg 187 [.int .i64 x] h=some (r,h):=by
 refine iB rfl (hp 187 (by decide)) func187 rfl rfl rfl (by simp) ?_;simp +contextual (disch:=first|omega|(simp;done)|(simp[Le];done)|fail) [-au,cu,aw,aD,cp,-getElem?_pos]
theorem GC(hp:∀ f,Np5 f->prim f=none)(H:Heap)(b:Nat)(c:List Int)(hb:ab H b=some (c.map (V.int .i64)))(hc:c.length<=2000)(i:Nat)(h1:0<i)(hi:i<c.length):
  ∃ z:Bool,∀ cfg,af md (K prim (d+1)) cfg 188 [.sl b 0 c.length c.length 1,.int .i64 i] H=some (.bool z,H):=by
 suffices HH:∃ r h2,(∀ cfg,af md (K prim (d+1)) cfg 188 [.sl b 0 c.length c.length 1,.int .i64 i] H=some (r,h2))/\(IsB r/\h2=H) by
  obtain⟨_,_,h,⟨z,rfl⟩,rfl⟩:=HH;exact⟨z,h⟩
 refine gB (Post:=fun r h2=>IsB r/\h2=H) rfl (hp 188 (by decide)) func188 rfl rfl rfl (by simp) ?_;have e1:(i:Int)-1=((i-1:Nat):Int):=by omega
 have h3:i-1<c.length:=by omega
 simp +contextual (disch:=first|omega|(simp;done)|(simp[Le];done)|fail) [-au,wrap64,-getElem?_pos,hb,e1,atI];refine ar (fun _=>by simp) (fun _=>?_);simp(disch:=omega)[wrap64];refine ah (fun m fr H'=>∃ q:Nat,q<=i-1/\m=q/\H'=H/\Slots 35 [(0,.sl b 0 c.length c.length 1),(5,.int .i64 ((q:Int)-1))] fr) (m:=i-1) (by omega) ⟨i-1,by omega,rfl,rfl,by simp⟩ ?_;rintro m fr H' ⟨q,hq,h0,rfl,hs⟩;replace h0:=h0.symm;subst h0;obtain⟨j,rfl⟩:=hs.ex;clear hs;simp +contextual (disch:=first|omega|(simp;done)|(simp[Le];done)|fail) [-au,cu,aw,aD,bU,-getElem?_pos,hb,atI];refine ar (fun hb=>?_) (fun _=>?_)
 ·have h4:1<=q:=by simp at hb;omega
  simp(disch:=omega)[wrap64];exact ae (m':=q-1) (by omega) ⟨q-1,by omega,rfl,rfl,by simp;omega⟩
 ·simp +contextual (disch:=first|omega|(simp;done)|(simp[Le];done)|fail) [-au,cu,aw,aD,bU,-getElem?_pos,hb,atI]
theorem DX(hp:∀ f,Np5 f->prim f=none)(H:Heap)(b:Nat)(c:List Int)(hb:ab H b=some (c.map (V.int .i64)))(hc:c.length<=2000)(i:Nat)(h1:0<i)(hi:i<c.length):
  ∃ z:Bool,∀ cfg,af md (K prim (d+2)) cfg 116 [.sl b 0 c.length c.length 1,.int .i64 i] H=some (.bool z,H):=by
 suffices HH:∃ r h2,(∀ cfg,af md (K prim (d+2)) cfg 116 [.sl b 0 c.length c.length 1,.int .i64 i] H=some (r,h2))/\(IsB r/\h2=H) by
  obtain⟨_,_,h,⟨z,rfl⟩,rfl⟩:=HH;exact⟨z,h⟩
 refine gB (Post:=fun r h2=>IsB r/\h2=H) rfl (hp 116 (by decide)) func116 rfl rfl rfl (by simp) ?_;have e1:(i:Int)-1=((i-1:Nat):Int):=by omega
 have h3:i-1<c.length:=by omega
 obtain⟨x,hx⟩:∃ x,c[i-1]?=some x:=⟨_,K4 h3⟩;obtain⟨y,hy⟩:∃ x,c[i]?=some x:=⟨_,K4 hi⟩;obtain⟨_,⟨z1,rfl⟩,h4⟩:=CS (prim:=prim) d hp x;obtain⟨_,⟨z2,rfl⟩,h6⟩:=CS (prim:=prim) d hp y;obtain⟨z3,hP⟩:=GC (prim:=prim) d hp H b c hb hc i h1 hi;simp;refine ai 10 (by kernel_rfl) ?_;simp +contextual (disch:=first|omega|(simp;done)|(simp[Le];done)|fail) [-au,cu,aw,aD,bU,wrap64,-getElem?_pos,hb,e1,hx,hy];refine ar (fun _=>by simp) (fun _=>?_);simp +contextual (disch:=first|omega|(simp;done)|(simp[Le];done)|fail) [-au,cu,aw,aD,cp,h4,h6];refine ar (fun _=>by simp) (fun _=>?_)
 iterate 4
  simp +contextual (disch:=first|omega|(simp;done)|(simp[Le];done)|fail) [-au,cu,wG_q2,aw,aD,cV,bU,cp];refine ar (fun _=>by simp) (fun _=>?_)
 simp +contextual (disch:=first|omega|(simp;done)|(simp[Le];done)|fail) [-au,cu,aw,aD,bU,hP];refine ar (fun _=>by simp) (fun _=>?_);simp +contextual (disch:=first|omega|(simp;done)|(simp[Le];done)|fail) [-au,cu,aw,aD,cV,bU];refine ar (fun _=>?_) (fun _=>by simp);simp(disch:=omega)[wrap64];refine ah (fun m fr H'=>∃ (q:Nat) (n:Int),q<=i/\m=q/\H'=H/\Slots 125 [(0,.sl b 0 c.length c.length 1),(7,.int .i64 n),(8,.int .i64 ((q:Int)-1))] fr) (m:=i) (by omega) ⟨i,0,by omega,rfl,rfl,by simp⟩ ?_;rintro m fr H' ⟨q,n,hq,h0,rfl,hs⟩;replace h0:=h0.symm;subst h0;obtain⟨j,rfl⟩:=hs.ex;clear hs;simp +contextual (disch:=first|omega|(simp;done)|(simp[Le];done)|fail) [-au,cu,aw,aD,bU,-getElem?_pos,hb,atI];refine ar (fun hb=>?_) (fun _=>?_)
 ·have h7:1<=q:=by simp at hb;omega
  simp(disch:=omega)[wrap64];exact ae (m':=q-1) (by omega) ⟨q-1,IntKind.i64.wrap (n+1),by omega,rfl,rfl,by simp;omega⟩
 ·simp
theorem CJ(hp:∀ f,Np5 f->prim f=none)(t:List Int)(ht:t.length<=2000):
  ∃ r,(∃ l:List Int,r=il l/\l.length<=t.length+1/\∀ x∈l,0<=x/\x<=t.length)/\∀ cfg h,af md (K prim (d+4)) cfg 72 [rl t] h=some (r,h):=by
 refine iB rfl (hp 72 (by decide)) func72 rfl rfl rfl (by simp) ?_;have ha:¬ (2000:Int)<t.length:=by omega
 by_cases h0:t=[]
 ·subst h0;simp
 have hd:0<t.length:=LW.2 h0;have h1:¬ (t.length:Int)=0:=by omega
 have hB:=fun cfg h r=>CA (prim:=prim) d hp cfg h r;simp(disch:=omega)[h0,ha,lM];refine ah (fun m fr H=>∃ (i:Nat) (c:List Int),i<=t.length/\m=t.length-i/\c.length=t.length/\H=[some (c.map (V.int .i64))] /\
  Slots 51 [(0,rl t),(3,.sl 0 0 t.length t.length 1),(19,rl t),(20,.int .i64 t.length),(21,.int .i64 i)] fr) (m:=t.length) (by omega) ⟨0,List.replicate t.length 0,by omega,by omega,by simp,by simp,by simp⟩ ?_
 rintro m fr H ⟨i,c,hi,rfl,hc,rfl,hs⟩;obtain⟨j,rfl⟩:=hs.ex;clear hs;by_cases h9:i<t.length
 ·have hle:i+1<=t.length:=by omega
  simp(disch:=omega)[-List.map_set,h9,hB,atI,hc,hle,wrap64,-getElem?_pos];exact ae (m':=t.length-(i+1)) (by omega) ⟨i+1,c.set i (cBr (lgI t i)),by omega,by omega,by simpa using hc,rfl,by simp(disch:=omega)⟩
 obtain rfl:i=t.length:=by omega
 simp(disch:=omega);have g0:Hp [some (c.map (V.int .i64))] [some (c.map (V.int .i64))] []:=Hp.start;refine ah (fun m fr H=>∃ (q:Nat) (v:V) (l:List Int),q+1<=t.length/\m=t.length-(q+1)/\l.length<=q+1/\(∀ x∈l,0<=x/\x<=t.length)/\Hp H [some (c.map (V.int .i64))] [(1,v,l.map (V.int .i64))] /\
  Slots 51 [(0,rl t),(3,.sl 0 0 t.length t.length 1),(6,v),(7,.int .i64 ((q:Int)+1))] fr) (m:=t.length-1) (by omega) ⟨0,.sl 1 0 1 1 1,[0],by omega,by omega,by simp,by simp,by simpa using g0.new (cs:=[V.int .i64 0]) (n:=1) (k:=1) rfl rfl [],by simp⟩ ?_
 rintro m fr H ⟨q,v,l,hq,rfl,hf,h7,h4,hs⟩;obtain⟨j2,rfl⟩:=hs.ex;clear hs;by_cases h9:q+1<t.length
 ·have hI:(q:Int)+1<t.length:=by omega
  have he:ab H 0=some (c.map (V.int .i64)):=by rw[h4.block (by simp)];simp[ab]
  obtain⟨b,h6⟩:=DX (prim:=prim) (d+1) hp H 0 c he (by omega) (q+1) (by omega) (by omega);rw[hc]at h6;have e1:((q+1:Nat):Int)=(q:Int)+1:=by omega
  rw[e1]at h6;cases b
  ·simp(disch:=omega)[hI,h6,wrap64];exact ae (m':=t.length-(q+1+1)) (by omega) ⟨q+1,v,l,by omega,by omega,by omega,h7,h4,by simp(disch:=omega)⟩
  ·have h8:ab (H++[some [V.int .i64 ((q:Int)+1)]]) H.length=some [V.int .i64 ((q:Int)+1)]:=by rw[dK rfl];rfl
   simp(disch:=omega)[hI,h6,h8];refine cg (m:=1) (h4.push [some [V.int .i64 ((q:Int)+1)]]) (by simp) rfl rfl (by omega) (by omega) (by simp;omega) (by simp;omega) ?_;intro v' H' h3;simp(disch:=omega)[wrap64];refine ae (m':=t.length-(q+1+1)) (by omega) ⟨q+1,v',l++[(q:Int)+1],by omega,by omega,by simp;omega,?_,by simpa using h3,by simp(disch:=omega)⟩;intro x hx;rcases LB.1 hx with hx|hx
   ·exact h7 x hx
   ·simp at hx;omega
 ·have hI:¬ (q:Int)+1<t.length:=by omega
  have h8:ab (H++[some [V.int .i64 (t.length:Int)]]) H.length=some [V.int .i64 (t.length:Int)]:=by rw[dK rfl];rfl
  simp(disch:=omega)[hI,h8];refine cg (m:=1) (h4.push [some [V.int .i64 (t.length:Int)]]) (by simp) rfl rfl (by omega) (by omega) (by simp;omega) (by simp;omega) ?_;intro v' H' h3;have f1:=OwnC.frzI (d:=4) (kd:=.i64) (l:=l++[(t.length:Int)]) (n:=0) (by simpa using h3.head) (LA _);simp(disch:=omega);refine⟨_,f1,_,rfl,by simp;omega,?_⟩;intro x hx;rcases LB.1 hx with hx|hx
  ·exact h7 x hx
  ·simp at hx;omega
end
def cmS(c:Int):Bool:=decide (c=6)||decide (c=7)
def spS(c:List Int)(k:Int):Nat->Bool
 | 0=>false
 | i+1=>if lgI c i=4 then spS c k i else decide (lgI c i=k)
def rgS(raw:List Int):Nat->Nat
 | 0=>0
 | i+1=>if lgI raw i=19 then rgS raw i+1 else 0
def hrS(c:Int):Bool:=decide (c=1)||decide (c=2)||decide (c=3)||decide (c=4)||decide (c=5)
abbrev scC(raw c:List Int)(bd:List Bool):List V:=[il raw,il c,bl bd]
section
variable {prim:FuncId->Option Prim}(d:Nat)
theorem zu(hp:∀ f,Np5 f->prim f=none)(cfg:Cfg)(h:Heap)(x:Int):af md (K prim (d+1)) cfg 267 [.int .i64 x] h=some (.bool (cmS x),h):=by
 refine aP rfl (hp 267 (by decide)) func267 rfl rfl rfl (by simp) ?_;by_cases h1:x=6<;>by_cases h2:x=7<;>simp[h1,h2,cmS]
theorem zH(hp:∀ f,Np5 f->prim f=none)(cfg:Cfg)(h:Heap)(x:Int):af md (K prim (d+1)) cfg 268 [.int .i64 x] h=some (.bool (hrS x),h):=by
 refine aP rfl (hp 268 (by decide)) func268 rfl rfl rfl (by simp) ?_;by_cases h1:x=1
 ·simp[h1,hrS]
 by_cases h2:x=2
 ·simp[h2,hrS]
 by_cases h3:x=3
 ·simp[h3,hrS]
 by_cases h4:x=4
 ·simp[h4,hrS]
 by_cases h5:x=5<;>simp[h1,h2,h3,h4,h5,hrS]
theorem B3(hp:∀ f,Np5 f->prim f=none)(cfg:Cfg)(h:Heap)(raw c:List Int)(bd:List Bool)(hc:c.length<=2000)(i:Nat)(hi:i<=c.length)(k:Int):
  af md (K prim (d+1)) cfg 270 [.agg (scC raw c bd),.int .i64 i,.int .i64 k] h=some (.bool (spS c k i),h):=by
 refine aP rfl (hp 270 (by decide)) func270 rfl rfl rfl (by simp) ?_;simp(disch:=omega)[wrap64];refine ah (fun m fr H=>∃ (q:Nat),q<=i/\m=q/\spS c k i=spS c k q/\H=[some (scC raw c bd)] /\
  Slots 32 [(1,.int .i64 ((q:Int)-1)),(2,.int .i64 k),(3,.ptr 0 0)] fr) (m:=i) (by omega) ⟨i,by omega,rfl,rfl,by simp,by simp⟩ ?_
 rintro m fr H ⟨q,hq,h3,h0,rfl,hs⟩;replace h3:=h3.symm;subst h3;obtain⟨j,rfl⟩:=hs.ex;clear hs;rcases q with _|q
 ·simp +contextual (disch:=first|omega|(simp;done)|(simp[Le];done)|fail) [-au,cu,aw,cT,cV,-getElem?_pos];rw[h0];rfl
 ·have e1:((q+1:Nat):Int)-1=q:=by omega
  have h4:q<c.length:=by omega
  rw[spS]at h0;simp +contextual (disch:=first|omega|(simp;done)|(simp[Le];done)|fail) [-au,cu,aw,aD,-getElem?_pos,atI];refine ar (fun hb=>?_) (fun hb=>?_)
  ·rw[if_pos (by simpa using hb)]at h0;simp(disch:=omega)[wrap64];exact ae (m':=q) (by omega) ⟨q,by omega,rfl,h0,rfl,by simp(disch:=omega)⟩
  ·rw[if_neg (by simpa using hb)]at h0;simp +contextual (disch:=first|omega|(simp;done)|(simp[Le];done)|fail) [-au,cu,aw,aD,-getElem?_pos,atI];exact h0.symm
theorem wJ(hp:∀ f,Np5 f->prim f=none)(cfg:Cfg)(h:Heap)(raw c:List Int)(bd:List Bool)(hc:raw.length<=2000)(i:Nat)(hi:i<=raw.length):
  af md (K prim (d+1)) cfg 271 [.agg (scC raw c bd),.int .i64 i] h=some (.int .i64 (rgS raw i),h):=by
 refine aP rfl (hp 271 (by decide)) func271 rfl rfl rfl (by simp) ?_;simp(disch:=omega)[wrap64];refine ah (fun m fr H=>∃ (q n:Nat),q<=i/\m=q/\rgS raw i=n+rgS raw q/\n+q<=i/\H=[some (scC raw c bd)] /\
  Slots 23 [(1,.int .i64 ((q:Int)-1)),(2,.ptr 0 0),(5,.int .i64 n)] fr) (m:=i) (by omega) ⟨i,0,by omega,rfl,by simp,by omega,by simp,by simp⟩ ?_
 rintro m fr H ⟨q,n,hq,h3,h0,h4,rfl,hs⟩;replace h3:=h3.symm;subst h3;obtain⟨j,rfl⟩:=hs.ex;clear hs;rcases q with _|q
 ·simp +contextual (disch:=first|omega|(simp;done)|(simp[Le];done)|fail) [-au,cu,aw,cT,cV,-getElem?_pos];rw[h0];rfl
 ·have e1:((q+1:Nat):Int)-1=q:=by omega
  have h6:q<raw.length:=by omega
  rw[rgS]at h0;simp +contextual (disch:=first|omega|(simp;done)|(simp[Le];done)|fail) [-au,cu,aw,aD,-getElem?_pos,atI];refine ar (fun hb=>?_) (fun hb=>?_)
  ·rw[if_pos (by simpa using hb)]at h0;simp(disch:=omega)[wrap64];exact ae (m':=q) (by omega) ⟨q,n+1,by omega,rfl,by omega,by omega,rfl,by simp(disch:=omega)⟩
  ·rw[if_neg (by simpa using hb)]at h0;simp(disch:=omega);rw[h0];rfl
theorem Jn(hp:∀ f,Np5 f->prim f=none)(cfg:Cfg)(x:Int)(l:List Int)(hl:l.length<=100)(H:Heap)(b:Nat)(hb:ab H b=some (l.map (V.int .i64))):
  af md (K prim (d+1)) cfg 269 [.int .i64 x,.sl b 0 l.length l.length 1] H=some (.bool (decide (x∈l)),H):=by
 suffices HH:∃ r h2,(∀ cfg,af md (K prim (d+1)) cfg 269 [.int .i64 x,.sl b 0 l.length l.length 1] H=some (r,h2))/\(r=.bool (decide (x∈l))/\h2=H) by
  obtain⟨_,_,h,rfl,rfl⟩:=HH;exact h cfg
 refine gB (Post:=fun r h2=>r=.bool (decide (x∈l))/\h2=H) rfl (hp 269 (by decide)) func269 rfl rfl rfl (by simp) ?_;simp(disch:=omega);refine ah (fun m fr Hc=>∃ (i:Nat),i<=l.length/\m=l.length-i/\x ∉ l.take i/\Hc=H /\
  Slots 17 [(0,.int .i64 x),(7,.sl b 0 l.length l.length 1),(8,.int .i64 l.length),(9,.int .i64 i)] fr) (m:=l.length) (by omega) ⟨0,by omega,by omega,by simp,rfl,by simp⟩ ?_
 rintro m fr Hc ⟨i,hi,rfl,hx,rfl,hs⟩;obtain⟨j,rfl⟩:=hs.ex;clear hs;by_cases h3:i<l.length
 ·have hI:(i:Int)<l.length:=by omega
  have w0:slot (l.map (V.int .i64)) i=some (.int .i64 (lgI l i)):=by rw[slot,Lh,atI (by omega)];rfl
  have q1:i+1<=l.length:=by omega
  have hm:=K6 (atI h3);simp(disch:=omega)[hI,hb,w0,-getElem?_pos];refine ar (fun hc=>?_) (fun hc=>?_)
  ·have h0:x=lgI l i:=by simpa using hc
   simp(disch:=omega);rw[h0];exact hm
  ·have h0:¬ x=lgI l i:=by simpa using hc
   simp(disch:=omega)[wrap64];refine ae (m':=l.length-(i+1)) (by omega) ⟨i+1,by omega,by omega,?_,rfl,by simp(disch:=omega)⟩;rw[LD,atI h3];simp[hx,h0]
 ·obtain rfl:i=l.length:=by omega
  rw[LF]at hx;simp(disch:=omega);exact hx
end
end Bi
end Go.Ab
