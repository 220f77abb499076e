/- Several texts of this proof in one. -/
import Derived.Test.YtldfgkjmficliaaGreatPiSpec4
import Derived.Test.YtldfgkjmficliaaGreatAbW7
import Derived.Test.YtldfgkjmficliaaGreatPiP
import Derived.Test.YtldfgkjmficliaaGreatPiJ
import Derived.Test.YtldfgkjmficliaaGreatPaRef2
set_option linter.unusedSimpArgs false
set_option linter.unusedVariables false
namespace Go.Ab.Bi
abbrev nv:=List (Int×Nat)
def ji(r:Int):nv→Option (Nat×nv)
 | []=>none
 | (c,a)::t=>if c=r then some (a,t) else ji r t
structure PS where
 st:nv
 out:List (Nat×Nat)
def pgo:Nat→List (Int×Int)→PS→Option (List (Nat×Nat))
 | _,[],p=>some p.out
 | k,(x,r)::l,p =>
  if x≠13 then pgo (k+1) l p
  else if (brS r).1=1 then (if p.st.length=63 then none else pgo (k+1) l ⟨((brS r).2,k)::p.st,p.out⟩)
  else if (brS r).1=2 then (match ji r p.st with
   | some (a,t)=>pgo (k+1) l ⟨t,p.out++[(a,k)]⟩
   | none=>pgo (k+1) l p)
  else pgo (k+1) l p
def oc(st:nv):List V:=st.reverse.flatMap fun a=>[V.int .i32 a.1,V.int .i64 (a.2:Int)]
def pcn(out:List (Nat×Nat)):List V:=out.flatMap fun a=>[V.int .i64 (a.1:Int),V.int .i64 (a.2:Int)]
theorem nZ(a:Int×Nat)(st:nv):oc (a::st)=oc st++[V.int .i32 a.1,V.int .i64 (a.2:Int)]:=by simp[oc]
theorem jf(st:nv):(oc st).length=st.length*2:=by
 induction st with
 | nil=>rfl
 | cons a st ih=>rw[nZ,List.length_append,ih];simp;omega
theorem CV(out:List (Nat×Nat))(x:Nat×Nat):pcn (out++[x])=pcn out++[V.int .i64 (x.1:Int),V.int .i64 (x.2:Int)]:=by simp[pcn]
theorem jF(out:List (Nat×Nat)):(pcn out).length=out.length*2:=by
 induction out with
 | nil=>rfl
 | cons a st ih=>simp only[pcn,List.flatMap_cons,List.length_append,List.length_cons,List.length_nil]at ih ⊢;omega
theorem oc_0(a:Int×Nat)(r:nv)(J:List V):slot (oc (a::r)++J) (r.length*2)=some (.int .i32 a.1):=by
 rw[← jf r,nZ,List.append_assoc,slot,List.getElem?_append_right (Nat.le_refl _)]
 simp
theorem oc_1(a:Int×Nat)(r:nv)(J:List V):slot (oc (a::r)++J) (r.length*2+1)=some (.int .i64 (a.2:Int)):=by
 rw[← jf r,nZ,List.append_assoc,slot,List.getElem?_append_right (by omega)]
 simp
structure POK(k:Nat)(p:PS):Prop where
 lt:∀ a∈p.st,a.2<k
 ord:∀ x∈p.out,x.1<x.2∧x.2<k
 len:p.st.length≤63
 olen:p.out.length≤k
theorem rL{r:Int}:∀ {st:nv}{a:Nat}{t:nv},ji r st=some (a,t)→(∃ c,(c,a)∈st)∧(∀ x∈t,x∈st)∧t.length<st.length
 | [],a,t,h=>by simp[ji]at h
 | (c,b)::st,a,t,h=>by
  simp only[ji]at h
  split at h
  ·cases h
   exact⟨⟨c,by simp⟩,fun x hx=>List.mem_cons_of_mem _ hx,by simp⟩
  ·obtain⟨⟨c',h1⟩,h2,h3⟩:=rL h
   exact⟨⟨c',List.mem_cons_of_mem _ h1⟩,fun x hx=>List.mem_cons_of_mem _ (h2 x hx),by simp;omega⟩
theorem POK.zero:POK 0 ⟨[],[]⟩:=⟨by simp,by simp,by simp,by simp⟩
theorem POK.up{k:Nat}{p:PS}(h:POK k p):POK (k+1) p:=⟨fun a ha=>by have:=h.lt a ha;omega,fun x hx=>by have:=h.ord x hx;omega,h.len,by have:=h.olen;omega⟩
theorem POK.push{k:Nat}{p:PS}(h:POK k p)(c:Int)(hl:p.st.length≠63):POK (k+1) ⟨(c,k)::p.st,p.out⟩:=by
 refine⟨fun a ha=>?_,fun x hx=>by have:=h.ord x hx;omega,by have:=h.len;simp;omega,by have:=h.olen;simp;omega⟩
 rcases List.mem_cons.1 ha with rfl|ha
 ·simp
 ·have:=h.lt a ha;omega
theorem POK.pair{k:Nat}{p:PS}(h:POK k p){r:Int}{a:Nat}{t:nv}(hf:ji r p.st=some (a,t)):POK (k+1) ⟨t,p.out++[(a,k)]⟩:=by
 obtain⟨⟨c,h1⟩,h2,h3⟩:=rL hf
 refine⟨fun x hx=>by have:=h.lt x (h2 x hx);omega,fun x hx=>?_,by have:=h.len;simp only;omega,by have:=h.olen;simp;omega⟩
 rcases List.mem_append.1 hx with hx|hx
 ·have:=h.ord x hx;omega
 ·simp at hx;subst hx
  have:=h.lt _ h1
  simp at this ⊢
  exact this
end Go.Ab.Bi
namespace Go.Ab
open Go.Proofs Go.Proofs.Tryz
namespace Bi
section
variable {P:Program}{md':FuncId→Nat}{n:Nat}{prim:FuncId→Option Prim}{cfg:Cfg}
theorem eU{d:Nat}{f:FuncId}{fn:Func}{c:Code}{k:Nat}{rs:List ResultVar}{args:List V}{h:Heap}{Post:V→Heap→Prop}(hm:md' f=0)(hp:prim f=none)(hf:P.funcs[f]?=some fn)(hb:fn.body=some c)(hk:fn.ntmps=k)
  (hr:fn.results.toList=rs) (ha:args.all V.noref=false)
  (hw:@wC P md' (aI P md' prim n d) ⟨h.length,[],h.length⟩ n ⟨c⟩ (args++List.replicate (k-args.length) .no) h ⟨@kFn P ⟨rs⟩ ⟨fun r' h'=>∃ r,frz h' h.length 6 r'=some r∧Post r (h'.take h.length)⟩⟩):
  ∃ r h2,(∀ cfg,af md' (aI P md' prim n (d+1)) cfg f args h=some (r,h2))∧Post r h2:=by
 obtain⟨r',h',h1,r,h2,h3⟩:=cx hp hf hb hk hr hw
 exact⟨r,_,fun cfg=>by simp only[af,hm,ha,Bool.false_eq_true,if_false,h1,h2],h3⟩
end
theorem xr(o:List (Nat×Nat)):(pcn o).all V.rf=true:=by
 simp only[pcn,List.all_flatMap]
 rw[List.all_eq_true]
 intro x _
 rfl
theorem Ir(o:List (Nat×Nat)):∀ c∈pcn o,c≠V.nils:=by
 intro c hc
 simp only[pcn,List.mem_flatMap]at hc
 obtain⟨x,_,hx⟩:=hc
 simp at hx
 rcases hx with rfl|rfl<;>simp
theorem rK:∀ o:List (Nat×Nat),chunk 2 o.length (pcn o)=o.map fun x=>[V.int .i64 (x.1:Int),V.int .i64 (x.2:Int)]
 | []=>rfl
 | x::o=>by
  have e:pcn (x::o)=[V.int .i64 (x.1:Int),V.int .i64 (x.2:Int)]++pcn o:=rfl
  rw[e,List.length_cons,chunk,List.map_cons,show List.drop 2 ([V.int .i64 (x.1:Int),V.int .i64 (x.2:Int)]++pcn o)=pcn o from rfl,rK o]
  rfl
theorem relit{h:Heap}{a0 a1 a2 a3 x:Option (List V)}{T:Heap}(ht:h.take (T.length+5)=a0::a1::a2::a3::(T++[x])):∃ T',h=a0::a1::a2::a3::(T++x::T'):=by
 refine⟨h.drop (T.length+5),?_⟩
 conv=>lhs;rw[← List.take_append_drop (T.length+5) h,ht]
 simp
section
variable {P:Program}{md':FuncId→Nat}{call:aR}{cfg:Cfg}
theorem DU{dst:Option Tmp}{fr:List V}{ops:Array Oper}{rest:List Oper}{Q:ck}{a0 a1 a2 a3 x:Option (List V)}{T T':Heap}{dv v2:V}{cs cs2 new:List V}{y:Nat}
  (ho:Stk (a0::a1::a2::a3::(T++x::T')) (T.length+5) 2 dv cs) (h2:Stk (a0::a1::a2::a3::(T++x::T')) (T.length+5) 2 v2 cs2) (hdj:Dj dv v2) (hlo:cfg.lo≤T.length+5) (hth:cfg.thr≤T.length+5)
  (hnew:new.length=2) (hmn:isMap new=false) (hsz:cs.length / 2≤4000) (hy:y≤100)
  (H:∀ d' T'',Stk (a0::a1::a2::a3::(T++x::T'')) (T.length+5) 2 d' (cs++new)→Stk (a0::a1::a2::a3::(T++x::T'')) (T.length+5) 2 v2 cs2→Dj d' v2→@wO P md' call cfg ⟨ops⟩ ⟨rest⟩ (put fr dst d') (a0::a1::a2::a3::(T++x::T'')) ⟨Q⟩):
  @wS P md' call cfg ⟨dst⟩ ⟨fr⟩ (gj cfg (a0::a1::a2::a3::(T++x::T')) 2 y dv 1 new) ⟨ops⟩ ⟨rest⟩ ⟨Q⟩:=by
 have hs:(cs.length / 2+1)*y≤1099511627776:=by
  have:(cs.length / 2+1)*y≤4001*100:=Nat.mul_le_mul (by omega) hy
  omega
 refine jL (lo:=T.length+5) ho hlo hth (by simp<;>omega) hnew hmn (by omega) hs (by omega) ?_
 intro d' h' hst _ htk hlen hot hb
 have ht:h'.take (T.length+5)=a0::a1::a2::a3::(T++[x]):=by
  rw[htk]
  simp[List.take_append]
  exact List.take_of_length_le (by omega)
 obtain⟨T'',rfl⟩:=relit ht
 refine H d' T'' hst (h2.of_blk fun b hbv=>hot b (fun e=>hdj b e hbv) (h2.blk hbv).2) ?_
 intro b hb1 hb2
 rcases hb with hb|hb
 ·rw[hb]at hb1;exact hdj b hb1 hb2
 ·rw[hb]at hb1
  cases hb1
  have:=(h2.blk hb2).2
  omega
end
section
variable {prim:FuncId→Option Prim}(d:Nat)
set_option maxRecDepth 100000 in
set_option maxHeartbeats 8000000 in
theorem CR(hp:∀ f,Np2 f→prim f=none)(t o M:List Int)(n:Nat)(e:Int)(c l:List Int)(hn:c.length=n)(htn:t.length=n)(hn2:n≤2000)(hl:Pl n l)(hll:l.length≤2000)(y2:List Int)(T:Heap)(lv st en:Int)
  (srt:List (Nat×Nat)→List (Nat×Nat)) (hsl:∀ o,(srt o).length=o.length)
  (hS:∀ (cfg:Cfg) (H:Heap) (b cap:Nat) (out:List (Nat×Nat)) (J:List V),out.length≤2000→(∀ x∈out,x.1<4294967296∧x.2<4294967296)→cfg.lo≤b→ab H b=some (pcn out++J)→af md (K prim (d+2)) cfg 168 [.sl b 0 out.length cap 2,.func (.func 169) [] []] H=some (.tup [],H.set b (some (pcn (srt out)++J))))
  (hS0:∀ (cfg:Cfg) (H:Heap),af md (K prim (d+2)) cfg 168 [.nils,.func (.func 169) [] []] H=some (.tup [],H)):
  ∀ cfg,af md (K prim (d+3)) cfg 148 [.ptr 3 0,.agg [il l,.int .i64 lv,.int .i64 st,.int .i64 en]] (none::some (c.map (V.int .i64))::some (y2.map (V.int .i64))::some (pcs t o M n e)::T) =
   some (iD (match pgo 0 ((l.map (lvl c)).zip (l.map (lvl t))) ⟨[],[]⟩ with
    | some out=>srt out
    | none=>[]),none::some (c.map (V.int .i64))::some (y2.map (V.int .i64))::some (pcs t o M n e)::T):=by
 suffices H:∃ r h2,(∀ cfg,af md (K prim (d+3)) cfg 148 [.ptr 3 0,.agg [il l,.int .i64 lv,.int .i64 st,.int .i64 en]] (none::some (c.map (V.int .i64))::some (y2.map (V.int .i64))::some (pcs t o M n e)::T)=some (r,h2))∧r=iD (match pgo 0 ((l.map (lvl c)).zip (l.map (lvl t))) ⟨[],[]⟩ with
    | some out=>srt out
    | none=>[])∧h2=(none::some (c.map (V.int .i64))::some (y2.map (V.int .i64))::some (pcs t o M n e)::T) by
  obtain⟨r,h2,h3,rfl,rfl⟩:=H
  exact h3
 refine eU rfl (hp 148 (by decide)) func148 rfl rfl rfl (by simp) ?_
 have b4:∀ x T',isMap x=false→ab (T++some x::T') T.length=some x:=fun x T' hx=>by
  have:=bD (h:=T) (r:=some x::T') (k:=0)
  simp[hx]
 have hBr:=fun cfg h r=>wh (prim:=prim) d cfg h hp r
 have hWc:WB c l (l.map (lvl c)) c:=WB.start (by rw[hn];exact hl)
 have hWt:WB t l (l.map (lvl t)) t:=WB.start (by rw[htn];exact hl)
 generalize hss:l.map (lvl c)=s0 at *
 generalize hso:l.map (lvl t)=rs at *
 have hsls:=hWc.sl
 have hslr:=hWt.sl
 have hm82:md 168=1:=rfl
 simp(disch:=omega)
 refine aj (fun m fr H=>∃ (k:Nat) (p:PS) (v1 v2:V) (T':Heap),k≤l.length∧m=l.length-k∧pgo 0 (s0.zip rs) ⟨[],[]⟩=pgo k ((s0.zip rs).drop k) p∧POK k p∧H=none::some (c.map (V.int .i64))::some (y2.map (V.int .i64))::some (pcs t o M n e)::(T++some [il l,.int .i64 lv,.int .i64 st,.int .i64 en]::T')∧Stk H (T.length+5) 2 v1 (oc p.st)∧Stk H (T.length+5) 2 v2 (pcn p.out)∧Dj v1 v2 ∧
  Slots 90 [(0,.ptr 3 0),(3,.ptr (T.length+1+1+1+1) 0),(5,v1),(6,v2),(13,il l),(14,.int .i64 l.length),(15,.int .i64 k)] fr) (m:=l.length) (by omega) ⟨0,⟨[],[]⟩,.nils,.nils,[],by omega,by omega,rfl,POK.zero,by simp,.inl ⟨rfl,rfl⟩,.inl ⟨rfl,rfl⟩,Dj.nils,by simp⟩ ?_
 rintro m fr H ⟨k,p,v1,v2,T',hk,rfl,hF,hPO,rfl,hs1,hs2,hdj,hs⟩
 obtain⟨j,rfl⟩:=hs.ex
 clear hs
 by_cases hlt:k<l.length
 ·obtain⟨i,hi,hin⟩:=hl.at_ hlt
  obtain⟨x,hx⟩:∃ x,s0[k]?=some x:=⟨_,List.getElem?_eq_getElem (by omega)⟩
  obtain⟨r,hr⟩:∃ r,rs[k]?=some r:=⟨_,List.getElem?_eq_getElem (by omega)⟩
  have hcx:=hWc.at_ k i hi
  have htr:=hWt.at_ k i hi
  rw[hx,Int.toNat_natCast]at hcx
  rw[hr,Int.toNat_natCast]at htr
  have hz:(s0.zip rs)[k]?=some (x,r):=by rw[List.getElem?_zip_eq_some];exact⟨hx,hr⟩
  have hzd:(s0.zip rs).drop k=(x,r)::(s0.zip rs).drop (k+1):=by
   have hzl:=(List.getElem?_eq_some_iff.1 hz).1
   rw[List.drop_eq_getElem_cons hzl]
   congr 1
   exact (List.getElem?_eq_some_iff.1 hz).2
  rw[hzd,pgo]at hF
  by_cases h13:x=13
  ·rw[if_neg (by simp[h13])]at hF
   subst h13
   simp(disch:=omega)[hlt,hi,hcx,htr,hBr,-getElem?_pos]
   by_cases k1:(brS r).1=1
   ·rw[if_pos k1]at hF
    have hl1:=hs1.len (show prog.underlying 215=some (.slice 219) by kernel_rfl) (by omega)
    rw[jf,Nat.mul_div_cancel _ (by omega)]at hl1
    by_cases k63:p.st.length=63
    ·rw[if_pos k63]at hF
     rw[k63]at hl1
     simp(disch:=omega)[k1,hl1]
     rw[hF]
    ·rw[if_neg k63]at hF
     have n63:¬ (p.st.length:Int)=63:=by omega
     simp(disch:=omega)[k1,hl1,n63]
     refine DU (cs:=oc p.st) (by simpa using hs1.push [some [.int .i32 (brS r).2,.int .i64 k]]) (by simpa using hs2.push [some [.int .i32 (brS r).2,.int .i64 k]]) hdj (by simp) (by simp) rfl rfl (by rw[jf];have:=hPO.len;omega) (by omega) ?_
     intro d' T'' h1' h2' hdj'
     simp(disch:=omega)[wrap64]
     exact ae (m':=l.length-(k+1)) (by omega) ⟨k+1,_,d',v2,T'',by omega,rfl,hF,hPO.push _ k63,rfl,by rw[nZ];exact h1',h2',hdj',by simp(disch:=omega)⟩
   ·rw[if_neg k1]at hF
    by_cases k2:(brS r).1=2
    ·rw[if_pos k2]at hF
     have hl1:=hs1.len (show prog.underlying 215=some (.slice 219) by kernel_rfl) (by omega)
     rw[jf,Nat.mul_div_cancel _ (by omega)]at hl1
     have hpl:=hPO.len
     simp(disch:=omega)[k2,hl1,wrap64]
     refine aj (fun m fr H=>∃ (pre re:nv),m=re.length∧p.st=pre++re∧ji r p.st=ji r re∧H=none::some (c.map (V.int .i64))::some (y2.map (V.int .i64))::some (pcs t o M n e)::(T++some [il l,.int .i64 lv,.int .i64 st,.int .i64 en]::T')∧Slots 90 [(0,.ptr 3 0),(3,.ptr (T.length+1+1+1+1) 0),(5,v1),(6,v2),(7,.int .i64 k),(8,.int .i64 i),(11,.int .i64 ((re.length:Int)-1)),(13,il l),(14,.int .i64 l.length),(15,.int .i64 k)] fr) (m:=p.st.length) (by omega) ⟨[],p.st,rfl,rfl,rfl,rfl,by simp⟩ ?_
     rintro m fr H ⟨pre,re,rfl,hpre,hpf,rfl,hs⟩
     obtain⟨j,rfl⟩:=hs.ex
     clear hs
     rcases re with _|⟨⟨cc,aa⟩,re⟩
     ·rw[ji]at hpf
      rw[hpf]at hF
      simp(disch:=omega)[wrap64]
      exact ae (m':=l.length-(k+1)) (by omega) ⟨k+1,p,v1,v2,T',by omega,rfl,hF,hPO.up,rfl,hs1,hs2,hdj,by simp(disch:=omega)⟩
     ·have hprel:pre.length+(re.length+1)=p.st.length:=by rw[hpre];simp
      obtain⟨b,nn,cap,J,rfl,hb5,hbl,hnn,hbk,hcap,hnc⟩:=hs1.pos (by rw[hpre];intro h;have:=congrArg List.length h;rw[jf]at this;simp at this)
      obtain rfl:nn=p.st.length:=by rw[jf]at hnn;omega
      obtain⟨J',hJ'⟩:∃ J',oc p.st++J=oc ((cc,aa)::re)++J':=by
       rw[hpre]
       refine⟨oc pre++J,?_⟩
       simp[oc]
      rw[hJ']at hbk
      have e0:=oc_0 (cc,aa) re J'
      have e1:=oc_1 (cc,aa) re J'
      simp only at e0 e1
      simp(disch:=omega)
      refine ai 12 (by kernel_rfl) ?_
      by_cases hcr:cc=r
      ·rw[ji,if_pos hcr]at hpf
       rw[hpf]at hF
       subst hcr
       simp(disch:=omega)[htr,hbk,e0,e1,-getElem?_pos]
       refine DU (cs:=pcn p.out) (by simpa using hs2.push [some [.int .i64 aa,.int .i64 k]]) (by simpa using hs1.push [some [.int .i64 aa,.int .i64 k]]) hdj.symm (by simp) (by simp) rfl rfl (by rw[jF];have:=hPO.olen;omega) (by omega) ?_
       intro d' T'' h1' h2' hdj'
       have hpop:=h2'.pop (cs':=oc re) (m:=re.length) (r:=[V.int .i32 cc,V.int .i64 (aa:Int)]++oc pre) ?_ (jf re) (by omega)
       ·simp(disch:=omega)[wrap64]
        exact ae (m':=l.length-(k+1)) (by omega) ⟨k+1,_,_,d',T'',by omega,rfl,hF,hPO.pair hpf,rfl,hpop,by rw[CV];exact h1',hdj'.symm,by simp(disch:=omega)⟩
       ·rw[hpre];simp[oc]
      ·rw[ji,if_neg hcr]at hpf
       simp(disch:=omega)[htr,hbk,e0,hcr,wrap64,-getElem?_pos]
       exact ae (m':=re.length) (by simp) ⟨pre++[(cc,aa)],re,rfl,by rw[hpre];simp,hpf,rfl,by simp(disch:=omega)⟩
    ·rw[if_neg k2]at hF
     simp(disch:=omega)[k1,k2]
     exact ae (m':=l.length-(k+1)) (by omega) ⟨k+1,p,v1,v2,T',by omega,rfl,hF,hPO.up,rfl,hs1,hs2,hdj,by simp(disch:=omega)[wrap64]⟩
  ·rw[if_pos h13]at hF
   simp(disch:=omega)[hlt,hi,hcx,h13,-getElem?_pos]
   exact ae (m':=l.length-(k+1)) (by omega) ⟨k+1,p,v1,v2,T',by omega,rfl,hF,hPO.up,rfl,hs1,hs2,hdj,by simp(disch:=omega)[wrap64]⟩
 ·obtain rfl:k=l.length:=by omega
  have hzn:(s0.zip rs).drop l.length=[]:=List.drop_eq_nil_of_le (by simp;omega)
  rw[hzn,pgo]at hF
  have hol:=hPO.olen
  rcases hs2 with⟨rfl,hnil⟩|⟨b,nn,cap,J,rfl,hb,hlen,hbk,hcap,hle⟩
  ·have ho:p.out=[]:=by
    have:=congrArg List.length hnil
    rw[jF]at this
    exact List.length_eq_zero_iff.1 (by simp at this;omega)
   have hs0:srt p.out=[]:=List.length_eq_zero_iff.1 (by rw[hsl,ho];rfl)
   simp(disch:=omega)[hS0]
   rw[hF]
   simp[hs0]
  ·obtain rfl:nn=p.out.length:=by rw[jF]at hlen;omega
   have hS1:=hS ⟨T.length+1+1+1+1,[],T.length+1+1+1+1⟩ (none::some (c.map (V.int .i64))::some (y2.map (V.int .i64))::some (pcs t o M n e)::(T++some [il l,.int .i64 lv,.int .i64 st,.int .i64 en]::T')) b cap p.out J (by omega) (fun x hx=>by have:=hPO.ord x hx;omega) (by simp only;omega) hbk
   have hbl:=aw hbk
   generalize hG:(none::some (c.map (V.int .i64))::some (y2.map (V.int .i64))::some (pcs t o M n e)::(T++some [il l,.int .i64 lv,.int .i64 st,.int .i64 en]::T'))=G at *
   simp(disch:=omega)[hS1]
   rw[hF]
   simp only
   have hpm:isMap (pcn (srt p.out)++J)=false:=by
    cases hq:srt p.out with
    | nil =>
     have:p.out=[]:=List.length_eq_zero_iff.1 (by rw[← hsl,hq];rfl)
     rw[this]at hbk
     exact dA hbk
    | cons z zs=>rfl
   have hb2:ab (G.set b (some (pcn (srt p.out)++J))) b=some (pcn (srt p.out)++J):=by
    rw[eC hbl,hpm];rfl
   refine⟨iD (srt p.out),?_,rfl,?_⟩
   ·have hpl:(pcn (srt p.out)).length=p.out.length*2:=by rw[jF,hsl]
    rw[iu,if_neg (by omega),hb2]
    simp only[Nat.zero_add,List.drop_zero]
    rw[if_pos (by simp;omega),List.take_left' hpl,jb (xr _) (Ir _)]
    simp only[xr,if_true]
    rw[← hsl,rK]
   ·rw[List.take_set_of_le (by omega),← hG]
    simp
end
end Bi
end Go.Ab
namespace Go.Ab
open Go.Proofs Go.Proofs.Tryz
namespace Bi
attribute [local congr] az
section
variable {prim:FuncId→Option Prim}(d:Nat)
theorem BE(hp:∀ f,Np5 f→prim f=none)(x:Int):∃ r,IsB r∧∀ cfg h,af md (K prim (d+1)) cfg 127 [.int .i64 x] h=some (r,h):=by
 refine ik rfl (hp 127 (by decide)) func127 rfl rfl rfl (by simp) ?_
 simp +contextual (disch:=first|omega|(simp;done)|(simp[Decidable.imp_iff_not_or];done)|fail) [-ao,bM,aq,ax,bC,-getElem?_pos]
set_option maxHeartbeats 4000000 in
theorem FA(hp:∀ f,Np5 f→prim f=none)(H:Heap)(b:Nat)(c:List Int)(hb:ab H b=some (c.map (V.int .i64)))(hc:c.length≤2000)(i:Nat)(h1:0<i)(hi:i<c.length):
  ∃ z:Bool,∀ cfg,af md (K prim (d+1)) cfg 128 [.sl b 0 c.length c.length 1,.int .i64 i] H=some (.bool z,H):=by
 suffices HH:∃ r h2,(∀ cfg,af md (K prim (d+1)) cfg 128 [.sl b 0 c.length c.length 1,.int .i64 i] H=some (r,h2))∧(IsB r∧h2=H) by
  obtain⟨_,_,h,⟨z,rfl⟩,rfl⟩:=HH
  exact⟨z,h⟩
 refine eU (Post:=fun r h2=>IsB r∧h2=H) rfl (hp 128 (by decide)) func128 rfl rfl rfl (by simp) ?_
 have e1:(i:Int)-1=((i-1:Nat):Int):=by omega
 have hl1:i-1<c.length:=by omega
 simp +contextual (disch:=first|omega|(simp;done)|(simp[Decidable.imp_iff_not_or];done)|fail) [-ao,wrap64,-getElem?_pos,hb,e1,atI]
 refine ak (fun _=>by simp) (fun _=>?_)
 simp(disch:=omega)[wrap64]
 refine aj (fun m fr H'=>∃ q:Nat,q≤i-1∧m=q∧H'=H∧Slots 35 [(0,.sl b 0 c.length c.length 1),(5,.int .i64 ((q:Int)-1))] fr) (m:=i-1) (by omega) ⟨i-1,by omega,rfl,rfl,by simp⟩ ?_
 rintro m fr H' ⟨q,hq,hmq,rfl,hs⟩
 replace hmq:=hmq.symm
 subst hmq
 obtain⟨j,rfl⟩:=hs.ex
 clear hs
 simp +contextual (disch:=first|omega|(simp;done)|(simp[Decidable.imp_iff_not_or];done)|fail) [-ao,bM,aq,ax,bh,-getElem?_pos,hb,atI]
 refine ak (fun hb=>?_) (fun _=>?_)
 ·have hq1:1≤q:=by simp at hb;omega
  simp(disch:=omega)[wrap64]
  exact ae (m':=q-1) (by omega) ⟨q-1,by omega,rfl,rfl,by simp;omega⟩
 ·simp +contextual (disch:=first|omega|(simp;done)|(simp[Decidable.imp_iff_not_or];done)|fail) [-ao,bM,aq,ax,bh,-getElem?_pos,hb,atI]
set_option maxRecDepth 100000 in
set_option maxHeartbeats 8000000 in
theorem CS(hp:∀ f,Np5 f→prim f=none)(H:Heap)(b:Nat)(c:List Int)(hb:ab H b=some (c.map (V.int .i64)))(hc:c.length≤2000)(i:Nat)(h1:0<i)(hi:i<c.length):
  ∃ z:Bool,∀ cfg,af md (K prim (d+2)) cfg 91 [.sl b 0 c.length c.length 1,.int .i64 i] H=some (.bool z,H):=by
 suffices HH:∃ r h2,(∀ cfg,af md (K prim (d+2)) cfg 91 [.sl b 0 c.length c.length 1,.int .i64 i] H=some (r,h2))∧(IsB r∧h2=H) by
  obtain⟨_,_,h,⟨z,rfl⟩,rfl⟩:=HH
  exact⟨z,h⟩
 refine eU (Post:=fun r h2=>IsB r∧h2=H) rfl (hp 91 (by decide)) func91 rfl rfl rfl (by simp) ?_
 have e1:(i:Int)-1=((i-1:Nat):Int):=by omega
 have hl1:i-1<c.length:=by omega
 obtain⟨x,hx⟩:∃ x,c[i-1]?=some x:=⟨_,List.getElem?_eq_getElem hl1⟩
 obtain⟨y,hy⟩:∃ x,c[i]?=some x:=⟨_,List.getElem?_eq_getElem hi⟩
 obtain⟨_,⟨z1,rfl⟩,hC1⟩:=BE (prim:=prim) d hp x
 obtain⟨_,⟨z2,rfl⟩,hC2⟩:=BE (prim:=prim) d hp y
 obtain⟨z3,hP⟩:=FA (prim:=prim) d hp H b c hb hc i h1 hi
 simp
 refine ai 10 (by kernel_rfl) ?_
 simp +contextual (disch:=first|omega|(simp;done)|(simp[Decidable.imp_iff_not_or];done)|fail) [-ao,bM,aq,ax,bh,wrap64,-getElem?_pos,hb,e1,hx,hy]
 refine ak (fun _=>by simp) (fun _=>?_)
 simp +contextual (disch:=first|omega|(simp;done)|(simp[Decidable.imp_iff_not_or];done)|fail) [-ao,bM,aq,ax,bC,hC1,hC2]
 refine ak (fun _=>by simp) (fun _=>?_)
 iterate 4
  simp +contextual (disch:=first|omega|(simp;done)|(simp[Decidable.imp_iff_not_or];done)|fail) [-ao,bM,DR,aq,ax,cn,bh,bC]
  refine ak (fun _=>by simp) (fun _=>?_)
 simp +contextual (disch:=first|omega|(simp;done)|(simp[Decidable.imp_iff_not_or];done)|fail) [-ao,bM,aq,ax,bh,hP]
 refine ak (fun _=>by simp) (fun _=>?_)
 simp +contextual (disch:=first|omega|(simp;done)|(simp[Decidable.imp_iff_not_or];done)|fail) [-ao,bM,aq,ax,cn,bh]
 refine ak (fun _=>?_) (fun _=>by simp)
 simp(disch:=omega)[wrap64]
 refine aj (fun m fr H'=>∃ (q:Nat) (n:Int),q≤i∧m=q∧H'=H∧Slots 125 [(0,.sl b 0 c.length c.length 1),(7,.int .i64 n),(8,.int .i64 ((q:Int)-1))] fr) (m:=i) (by omega) ⟨i,0,by omega,rfl,rfl,by simp⟩ ?_
 rintro m fr H' ⟨q,n,hq,hmq,rfl,hs⟩
 replace hmq:=hmq.symm
 subst hmq
 obtain⟨j,rfl⟩:=hs.ex
 clear hs
 simp +contextual (disch:=first|omega|(simp;done)|(simp[Decidable.imp_iff_not_or];done)|fail) [-ao,bM,aq,ax,bh,-getElem?_pos,hb,atI]
 refine ak (fun hb=>?_) (fun _=>?_)
 ·have hq1:1≤q:=by simp at hb;omega
  simp(disch:=omega)[wrap64]
  exact ae (m':=q-1) (by omega) ⟨q-1,IntKind.i64.wrap (n+1),by omega,rfl,rfl,by simp;omega⟩
 ·simp
set_option maxHeartbeats 8000000 in
theorem Bz(hp:∀ f,Np5 f→prim f=none)(t:List Int)(ht:t.length≤2000):
  ∃ r,(∃ l:List Int,r=il l∧l.length≤t.length+1∧∀ x∈l,0≤x∧x≤t.length)∧∀ cfg h,af md (K prim (d+4)) cfg 51 [rl t] h=some (r,h):=by
 refine ik rfl (hp 51 (by decide)) func51 rfl rfl rfl (by simp) ?_
 have ht2:¬ (2000:Int)<t.length:=by omega
 by_cases h0:t=[]
 ·subst h0
  simp
 have hpos:0<t.length:=List.length_pos_iff.2 h0
 have h1:¬ (t.length:Int)=0:=by omega
 have hB:=fun cfg h r=>wq (prim:=prim) d hp cfg h r
 simp(disch:=omega)[h0,ht2,kO]
 refine aj (fun m fr H=>∃ (i:Nat) (c:List Int),i≤t.length∧m=t.length-i∧c.length=t.length∧H=[some (c.map (V.int .i64))] ∧
  Slots 51 [(0,rl t),(3,.sl 0 0 t.length t.length 1),(19,rl t),(20,.int .i64 t.length),(21,.int .i64 i)] fr) (m:=t.length) (by omega) ⟨0,List.replicate t.length 0,by omega,by omega,by simp,by simp,by simp⟩ ?_
 rintro m fr H ⟨i,c,hi,rfl,hc,rfl,hs⟩
 obtain⟨j,rfl⟩:=hs.ex
 clear hs
 by_cases hlt:i<t.length
 ·have hle:i+1≤t.length:=by omega
  simp(disch:=omega)[-List.map_set,hlt,hB,atI,hc,hle,wrap64,-getElem?_pos]
  exact ae (m':=t.length-(i+1)) (by omega) ⟨i+1,c.set i (cBr (lgI t i)),by omega,by omega,by simpa using hc,rfl,by simp(disch:=omega)⟩
 obtain rfl:i=t.length:=by omega
 simp(disch:=omega)
 have g0:Hp [some (c.map (V.int .i64))] [some (c.map (V.int .i64))] []:=Hp.start
 refine aj (fun m fr H=>∃ (q:Nat) (v:V) (l:List Int),q+1≤t.length∧m=t.length-(q+1)∧l.length≤q+1∧(∀ x∈l,0≤x∧x≤t.length)∧Hp H [some (c.map (V.int .i64))] [(1,v,l.map (V.int .i64))] ∧
  Slots 51 [(0,rl t),(3,.sl 0 0 t.length t.length 1),(6,v),(7,.int .i64 ((q:Int)+1))] fr) (m:=t.length-1) (by omega) ⟨0,.sl 1 0 1 1 1,[0],by omega,by omega,by simp,by simp,by simpa using g0.new (cs:=[V.int .i64 0]) (n:=1) (k:=1) rfl rfl [],by simp⟩ ?_
 rintro m fr H ⟨q,v,l,hq,rfl,hll,hlr,hhp,hs⟩
 obtain⟨j2,rfl⟩:=hs.ex
 clear hs
 by_cases hlt:q+1<t.length
 ·have hI:(q:Int)+1<t.length:=by omega
  have hb0:ab H 0=some (c.map (V.int .i64)):=by rw[hhp.block (by simp)];simp[ab]
  obtain⟨b,hbd⟩:=CS (prim:=prim) (d+1) hp H 0 c hb0 (by omega) (q+1) (by omega) (by omega)
  rw[hc]at hbd
  have e1:((q+1:Nat):Int)=(q:Int)+1:=by omega
  rw[e1]at hbd
  cases b
  ·simp(disch:=omega)[hI,hbd,wrap64]
   exact ae (m':=t.length-(q+1+1)) (by omega) ⟨q+1,v,l,by omega,by omega,by omega,hlr,hhp,by simp(disch:=omega)⟩
  ·have hbn:ab (H++[some [V.int .i64 ((q:Int)+1)]]) H.length=some [V.int .i64 ((q:Int)+1)]:=by rw[dG rfl];rfl
   simp(disch:=omega)[hI,hbd,hbn]
   refine bZ (m:=1) (hhp.push [some [V.int .i64 ((q:Int)+1)]]) (by simp) rfl rfl (by omega) (by omega) (by simp;omega) (by simp;omega) ?_
   intro v' H' hhp2
   simp(disch:=omega)[wrap64]
   refine ae (m':=t.length-(q+1+1)) (by omega) ⟨q+1,v',l++[(q:Int)+1],by omega,by omega,by simp;omega,?_,by simpa using hhp2,by simp(disch:=omega)⟩
   intro x hx
   rcases List.mem_append.1 hx with hx|hx
   ·exact hlr x hx
   ·simp at hx;omega
 ·have hI:¬ (q:Int)+1<t.length:=by omega
  have hbn:ab (H++[some [V.int .i64 (t.length:Int)]]) H.length=some [V.int .i64 (t.length:Int)]:=by rw[dG rfl];rfl
  simp(disch:=omega)[hI,hbn]
  refine bZ (m:=1) (hhp.push [some [V.int .i64 (t.length:Int)]]) (by simp) rfl rfl (by omega) (by omega) (by simp;omega) (by simp;omega) ?_
  intro v' H' hhp2
  have f1:=OwnC.frzI (d:=4) (kd:=.i64) (l:=l++[(t.length:Int)]) (n:=0) (by simpa using hhp2.head) (Nat.zero_le _)
  simp(disch:=omega)
  refine⟨_,f1,_,rfl,by simp;omega,?_⟩
  intro x hx
  rcases List.mem_append.1 hx with hx|hx
  ·exact hlr x hx
  ·simp at hx;omega
end
end Bi
end Go.Ab
namespace Go.Ab
open Go.Proofs Go.Proofs.Tryz
namespace Bi
attribute [local congr] az
def cmS(c:Int):Bool:=decide (c=6)||decide (c=7)
def spS(c:List Int)(k:Int):Nat→Bool
 | 0=>false
 | i+1=>if lgI c i=4 then spS c k i else decide (lgI c i=k)
def rgS(raw:List Int):Nat→Nat
 | 0=>0
 | i+1=>if lgI raw i=19 then rgS raw i+1 else 0
def hrS(c:Int):Bool:=decide (c=1)||decide (c=2)||decide (c=3)||decide (c=4)||decide (c=5)
abbrev scC(raw c:List Int)(bd:List Bool):List V:=[il raw,il c,bl bd]
section
variable {prim:FuncId→Option Prim}(d:Nat)
theorem yg(hp:∀ f,Np5 f→prim f=none)(cfg:Cfg)(h:Heap)(x:Int):af md (K prim (d+1)) cfg 121 [.int .i64 x] h=some (.bool (cmS x),h):=by
 refine bo rfl (hp 121 (by decide)) func121 rfl rfl rfl (by simp) ?_
 by_cases h1:x=6<;>by_cases h2:x=7<;>simp[h1,h2,cmS]
theorem yr(hp:∀ f,Np5 f→prim f=none)(cfg:Cfg)(h:Heap)(x:Int):af md (K prim (d+1)) cfg 122 [.int .i64 x] h=some (.bool (hrS x),h):=by
 refine bo rfl (hp 122 (by decide)) func122 rfl rfl rfl (by simp) ?_
 by_cases h1:x=1
 ·simp[h1,hrS]
 by_cases h2:x=2
 ·simp[h2,hrS]
 by_cases h3:x=3
 ·simp[h3,hrS]
 by_cases h4:x=4
 ·simp[h4,hrS]
 by_cases h5:x=5<;>simp[h1,h2,h3,h4,h5,hrS]
theorem AO(hp:∀ f,Np5 f→prim f=none)(cfg:Cfg)(h:Heap)(raw c:List Int)(bd:List Bool)(hc:c.length≤2000)(i:Nat)(hi:i≤c.length)(k:Int):
  af md (K prim (d+1)) cfg 124 [.agg (scC raw c bd),.int .i64 i,.int .i64 k] h=some (.bool (spS c k i),h):=by
 refine bo rfl (hp 124 (by decide)) func124 rfl rfl rfl (by simp) ?_
 simp(disch:=omega)[wrap64]
 refine aj (fun m fr H=>∃ (q:Nat),q≤i∧m=q∧spS c k i=spS c k q∧H=[some (scC raw c bd)] ∧
  Slots 32 [(1,.int .i64 ((q:Int)-1)),(2,.int .i64 k),(3,.ptr 0 0)] fr) (m:=i) (by omega) ⟨i,by omega,rfl,rfl,by simp,by simp⟩ ?_
 rintro m fr H ⟨q,hq,hmq,hqs,rfl,hs⟩
 replace hmq:=hmq.symm
 subst hmq
 obtain⟨j,rfl⟩:=hs.ex
 clear hs
 rcases q with _|q
 ·simp +contextual (disch:=first|omega|(simp;done)|(simp[Decidable.imp_iff_not_or];done)|fail) [-ao,bM,aq,cC,cn,-getElem?_pos]
  rw[hqs]
  rfl
 ·have e1:((q+1:Nat):Int)-1=q:=by omega
  have hq1:q<c.length:=by omega
  rw[spS]at hqs
  simp +contextual (disch:=first|omega|(simp;done)|(simp[Decidable.imp_iff_not_or];done)|fail) [-ao,bM,aq,ax,-getElem?_pos,atI]
  refine ak (fun hb=>?_) (fun hb=>?_)
  ·rw[if_pos (by simpa using hb)]at hqs
   simp(disch:=omega)[wrap64]
   exact ae (m':=q) (by omega) ⟨q,by omega,rfl,hqs,rfl,by simp(disch:=omega)⟩
  ·rw[if_neg (by simpa using hb)]at hqs
   simp +contextual (disch:=first|omega|(simp;done)|(simp[Decidable.imp_iff_not_or];done)|fail) [-ao,bM,aq,ax,-getElem?_pos,atI]
   exact hqs.symm
theorem vu(hp:∀ f,Np5 f→prim f=none)(cfg:Cfg)(h:Heap)(raw c:List Int)(bd:List Bool)(hc:raw.length≤2000)(i:Nat)(hi:i≤raw.length):
  af md (K prim (d+1)) cfg 125 [.agg (scC raw c bd),.int .i64 i] h=some (.int .i64 (rgS raw i),h):=by
 refine bo rfl (hp 125 (by decide)) func125 rfl rfl rfl (by simp) ?_
 simp(disch:=omega)[wrap64]
 refine aj (fun m fr H=>∃ (q n:Nat),q≤i∧m=q∧rgS raw i=n+rgS raw q∧n+q≤i∧H=[some (scC raw c bd)] ∧
  Slots 23 [(1,.int .i64 ((q:Int)-1)),(2,.ptr 0 0),(5,.int .i64 n)] fr) (m:=i) (by omega) ⟨i,0,by omega,rfl,by simp,by omega,by simp,by simp⟩ ?_
 rintro m fr H ⟨q,n,hq,hmq,hqs,hnq,rfl,hs⟩
 replace hmq:=hmq.symm
 subst hmq
 obtain⟨j,rfl⟩:=hs.ex
 clear hs
 rcases q with _|q
 ·simp +contextual (disch:=first|omega|(simp;done)|(simp[Decidable.imp_iff_not_or];done)|fail) [-ao,bM,aq,cC,cn,-getElem?_pos]
  rw[hqs]
  rfl
 ·have e1:((q+1:Nat):Int)-1=q:=by omega
  have hq1:q<raw.length:=by omega
  rw[rgS]at hqs
  simp +contextual (disch:=first|omega|(simp;done)|(simp[Decidable.imp_iff_not_or];done)|fail) [-ao,bM,aq,ax,-getElem?_pos,atI]
  refine ak (fun hb=>?_) (fun hb=>?_)
  ·rw[if_pos (by simpa using hb)]at hqs
   simp(disch:=omega)[wrap64]
   exact ae (m':=q) (by omega) ⟨q,n+1,by omega,rfl,by omega,by omega,rfl,by simp(disch:=omega)⟩
  ·rw[if_neg (by simpa using hb)]at hqs
   simp(disch:=omega)
   rw[hqs]
   rfl
theorem Ia(hp:∀ f,Np5 f→prim f=none)(cfg:Cfg)(x:Int)(l:List Int)(hl:l.length≤100)(H:Heap)(b:Nat)(hb:ab H b=some (l.map (V.int .i64))):
  af md (K prim (d+1)) cfg 123 [.int .i64 x,.sl b 0 l.length l.length 1] H=some (.bool (decide (x∈l)),H):=by
 suffices HH:∃ r h2,(∀ cfg,af md (K prim (d+1)) cfg 123 [.int .i64 x,.sl b 0 l.length l.length 1] H=some (r,h2))∧(r=.bool (decide (x∈l))∧h2=H) by
  obtain⟨_,_,h,rfl,rfl⟩:=HH
  exact h cfg
 refine eU (Post:=fun r h2=>r=.bool (decide (x∈l))∧h2=H) rfl (hp 123 (by decide)) func123 rfl rfl rfl (by simp) ?_
 simp(disch:=omega)
 refine aj (fun m fr Hc=>∃ (i:Nat),i≤l.length∧m=l.length-i∧x ∉ l.take i∧Hc=H ∧
  Slots 17 [(0,.int .i64 x),(7,.sl b 0 l.length l.length 1),(8,.int .i64 l.length),(9,.int .i64 i)] fr) (m:=l.length) (by omega) ⟨0,by omega,by omega,by simp,rfl,by simp⟩ ?_
 rintro m fr Hc ⟨i,hi,rfl,hx,rfl,hs⟩
 obtain⟨j,rfl⟩:=hs.ex
 clear hs
 by_cases hlt:i<l.length
 ·have hI:(i:Int)<l.length:=by omega
  have w0:slot (l.map (V.int .i64)) i=some (.int .i64 (lgI l i)):=by rw[slot,List.getElem?_map,atI (by omega)];rfl
  have q1:i+1≤l.length:=by omega
  have hm:=List.mem_of_getElem? (atI hlt)
  simp(disch:=omega)[hI,hb,w0,-getElem?_pos]
  refine ak (fun hc=>?_) (fun hc=>?_)
  ·have hc2:x=lgI l i:=by simpa using hc
   simp(disch:=omega)
   rw[hc2]
   exact hm
  ·have hc2:¬ x=lgI l i:=by simpa using hc
   simp(disch:=omega)[wrap64]
   refine ae (m':=l.length-(i+1)) (by omega) ⟨i+1,by omega,by omega,?_,rfl,by simp(disch:=omega)⟩
   rw[List.take_add_one,atI hlt]
   simp[hx,hc2]
 ·obtain rfl:i=l.length:=by omega
  rw[List.take_length]at hx
  simp(disch:=omega)
  exact hx
end
end Bi
end Go.Ab
namespace Go.Ab
open Go.Proofs Go.Proofs.Tryz
namespace Bi
section
variable {prim:FuncId→Option Prim}(d:Nat) (cfg:Cfg) (h:Heap)
theorem HY(hp:prim 22=none)(l:List Int):af md (K prim (d+1)) cfg 22 [il l] h=some (.ptr h.length 0,h++[some [il (l.take 4000),.int .i64 0]]):=by
 refine call2 rfl hp func22 rfl rfl rfl ?_
 simp
 by_cases hl:4000<l.length
 ·have hl':(4000:Int)<l.length:=by omega
  simp(disch:=first|omega|(simp;done)|(simp;omega)) [hl']
 ·have hl':¬ (4000:Int)<l.length:=by omega
  simp[hl',List.take_of_length_le (show l.length≤4000 by omega)]
theorem N_ok(hp:prim 23=none)(L:List Int)(k:Nat)(hL:L.length≤4000)(hk:k≤L.length)(n:Int)(hn:1≤n)(hn2:n≤4000000000)(b:Nat)(hb:ab h b=some [il L,.int .i64 k])(hw:cfg.wr b=true):
  ∃ v k':Nat,(v:Int)<n∧k'≤L.length∧af md (K prim (d+1)) cfg 23 [.ptr b 0,.int .i64 n] h=some (.int .i64 v,h.set b (some [il L,.int .i64 k'])):=by
 have hw':(Cfg.wr ⟨cfg.lo,cfg.ex,h.length⟩ b)=true:=hw
 have hbl:=aw hb
 by_cases hlt:k<L.length
 ·obtain⟨x,hx⟩:∃ x,L[k]=x:=⟨_,rfl⟩
  have hr:=Int.tmod_lt_of_pos x (b:=n) (by omega)
  have hr2:=Int.lt_tmod_of_pos x (b:=n) (by omega)
  refine⟨(if x.tmod n<0 then x.tmod n+n else x.tmod n).toNat,k+1,by split<;>omega,by omega,call1 rfl hp func23 rfl rfl rfl ?_⟩
  simp
  refine ai 9 (by kernel_rfl) ?_
  have hk1:¬ L.length≤k:=by omega
  have hn1:¬ n<1:=by omega
  have hn0:¬ n=0:=by omega
  simp[hb,hk1,hn1]
  refine ai 11 (by kernel_rfl) ?_
  simp(disch:=first|omega|(simp;done)|(simp;omega)) [hb,hx,hw',wrap64]
  by_cases hneg:x.tmod n<0
  ·simp(disch:=first|omega|(simp;done)|(simp;omega)) [hneg,wrap64]
   exact⟨by omega,List.take_of_length_le (by simp)⟩
  ·simp(disch:=first|omega|(simp;done)|(simp;omega)) [hneg]
   exact⟨by omega,List.take_of_length_le (by simp)⟩
 ·refine⟨0,k,by omega,hk,?_⟩
  rw[fk hb]
  refine call1 rfl hp func23 rfl rfl rfl ?_
  have hk1:L.length≤k:=by omega
  simp
  refine ai 9 (by kernel_rfl) ?_
  simp[hb,hk1]
@[simp] theorem cv3_21{h:Heap}{k:IntKind}{n:Int}:fc prog h 3 21 (.int k n)=some (.int .i32 (IntKind.i32.wrap n),h):=by kernel_rfl
end
end Bi
end Go.Ab
