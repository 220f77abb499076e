/- Several texts of this proof in one. -/
import Derived.Test.YtoappddifbgegaaGreatAbHeap
import Derived.Laws.BytesString
import Derived.IntWalk
import Derived.MapKept
set_option linter.all false
set_option maxHeartbeats 2000000
namespace Go.Ab
variable [Base]
section
variable {P:Program}{m:Mu}{h:Heap}{w:World}
def Out(m:Mu)(h:Heap)(w:World)(x:V)(h':Heap)(v:Value)(w':World):Prop:=∃ m',Evo m h w m' h' w'/\Rel m' h' w'/\R m' h' w' x v
theorem Out.same(r:Rel m h w){x:V}{v:Value}(hr:R m h w x v):Out m h w x h v w:=⟨m,.refl _ _ _,r,hr⟩
theorem PW.at{cs:List V}{arr:Array Value}(hp:PW m h w cs arr):cs.length<=arr.size/\∀ (i:Nat) (c:V),cs[i]?=some c->∃ v,arr[i]?=some v/\R m h w c v:=by
 refine⟨by rw[hp.1];omega,fun i c hc=>?_⟩;have h0:i<arr.size:=by rw[hp.1];grind
 exact⟨arr[i],Lf h0,hp.2 i c _ hc (Lf h0)⟩
theorem sR(r:Rel m h w){cs:List V}{t:TypeId}{v:Value}(hp:PW m h w cs v.cells):
  (newVar t v).run P w=.ok ⟨w.heap.size,0,none⟩ (w.alloc (.cells v.cells t))/\Out m h w (.ptr h.length 0) (h++[some cs]) (.pointer (some ⟨w.heap.size,0,none⟩)) (w.alloc (.cells v.cells t)):=by
 refine⟨by rfl,upd m h.length w.heap.size,cR _ _,fQ r hp.at.1 hp.at.2,Gl⟩
theorem Cn(r:Rel m h w){t:TypeId}{z:V}(hz:zeroOf P t=some z):
  ∃ v w',(Instr.alloc t true (.tuple #[])).run P w=.ok v w'/\Out m h w (.ptr h.length 0) (h++[some (cG z)]) v w':=by
 obtain⟨zv,h3,h0,_⟩:=bO hz w;obtain⟨h1,h2⟩:=sR (P:=P) (t:=t) r (kC (m:=m) (h:=h) (w:=w) h0);exact⟨_,_,by simp_all[Instr.alloc,Sem.run_bind,Result.andThen_ok],h2⟩
theorem Iq(r:Rel m h w){t:TypeId}{x:V}{xv:Value}{cs:List V}(hx:R m h w x xv)(hc:cellsOf x=some cs):
  ∃ v w',(Instr.box t xv).run P w=.ok v w'/\Out m h w (.ptr h.length 0) (h++[some cs]) v w':=by
 obtain⟨h1,h2⟩:=sR (P:=P) (t:=t) r (jT hc hx).1;exact⟨_,_,by rfl,h2⟩
theorem EA(r:Rel m h w){cfg:Cfg}{t:TypeId}{p x:V}{pv xv:Value}{h':Heap}(hp:R m h w p pv)(hx:R m h w x xv)(hs:aN P cfg h t p x=some h'):
  ∃ w',(Instr.storeAt t pv xv).run P w=.ok () w'/\Evo m h w m h' w'/\Rel m h' w':=by
 unfold aN at hs;split at hs
 ·rename_i y off s vs h6 hc;split at hs
  ·rename_i hl;obtain⟨h0,h1⟩:=jT hc hx;have hb:∃ cs,ab h y=some cs:=by
    grind[aJ]
   obtain⟨cs,hb⟩:=hb;obtain⟨b,arr,T,h3,rfl,ha,hle,_⟩:=hp.ptr_at r hb;obtain⟨w',h4,e,r'⟩:=gJ (P:=P) r h3 hb hs (us:=xv.cells.toList) (by simpa using h0.1) (fun i c u hc hu=>h0.2 i c u hc (by simp_all)) h1;refine⟨w',?_,e,r'⟩;have hne:¬ xv.cells.size≠s:=by rw[h0.1];omega
   simp_all[Instr.storeAt,Instr.sureAddr,Sem.run_bind,Sem.run_pure,Result.andThen_ok,storeVar,bg,if_false]
  grind
 grind
theorem PW.append{cs ds:List V}{xs ys:List Value}(h1:PW m h w cs xs.toArray)(h2:PW m h w ds ys.toArray):PW m h w (cs++ds) (xs++ys).toArray:=by
 have e1:xs.length=cs.length:=by simpa using h1.1
 have e2:ys.length=ds.length:=by simpa using h2.1
 refine⟨by simp_all,fun i c v hc hv=>?_⟩;simp only[NM]at hv;by_cases hi:i<cs.length
 ·rw[K8 hi]at hc;rw[K8 (by omega)]at hv;exact h1.2 i c v hc (by simp_all)
 ·rw[Lg (by omega)]at hc;rw[Lg (by omega),e1]at hv;exact h2.2 _ c v hc (by simp_all)
theorem pT{s:Nat}:∀ {vs:List V}{us:List Value}{cs:List V},vs.length=us.length->(∀ (i:Nat) (c:V) (u:Value),vs[i]?=some c->us[i]?=some u->R m h w c u)->bu s vs=some cs ->
  PW m h w cs (us.flatMap fun u=>u.cells.toList).toArray/\(∀ u∈us,u.cells.size=s)/\cs.length=vs.length*s
 | [],[],cs,_,_,hc=>by simp[bu]at hc;subst hc;exact⟨⟨rfl,by simp⟩,by simp,by simp⟩
 | v::vs,u::us,cs,hl,hr,hc=>by
  simp only[bu]at hc;split at hc
  ·rename_i c1 h3;split at hc
   ·rename_i hs;split at hc
    ·rename_i rest h0;cases hc;obtain⟨h4,_⟩:=jT h3 (hr 0 v u rfl rfl);obtain⟨h6,h7,hlen⟩:=pT (by simpa using hl) (fun i c x hi hx=>hr (i+1) c x (by simp_all) (by simp_all)) h0;refine⟨?_,?_,?_⟩
     ·simp_all[Mj,PW.append]
     ·intro x hx;rcases Lt.1 hx with rfl|hx
      ·rw[h4.1,hs]
      simp_all
     grind
    grind
   grind
  grind
 | [],_::_,_,hl,_,_=>by grind
 | _::_,[],_,hl,_,_=>by grind
theorem jG{fr:List V}{a:Act}(f:FR m h w fr a):∀ {ps:List (Nat×Operand)}{i0:Nat}{xs:List V},aV fr i0 ps=some xs ->
  ps.map (fun (i,x)=>(i,a.eval x))=((ps.map fun p=>a.eval p.2).zipIdx i0).map (fun x=>(x.2,x.1))/\xs.length=(ps.map fun p=>a.eval p.2).length /\
  ∀ (i:Nat) (c:V) (u:Value),xs[i]?=some c->(ps.map fun p=>a.eval p.2)[i]?=some u->R m h w c u
 | [],i0,xs,hx=>by simp_all[aV]
 | (j,x)::ps,i0,xs,hx=>by
  simp only[aV]at hx;split at hx
  ·rename_i h0;subst h0;split at hx
   ·rename_i v hv;split at hx
    ·rename_i vs h4;cases hx;obtain⟨h1,h2,h3⟩:=jG f h4
     grind[List.zipIdx_cons,cq]
    grind
   grind
  grind
theorem qO{cs:List V}{w':World}{len k rc:Nat}(hlen:len<=rc)(h3:rc*k<=rsz w' w.heap.size)(cap:Nat)(h0:cap<=rc):
  R (upd m h.length w.heap.size) (h++[some cs]) w' (.sl h.length 0 len cap k) (.slice (some ⟨w.heap.size,0,none⟩) len rc):=
 .sl (by simp) h0 hlen fun _=>⟨w.heap.size,by simp[upd],rfl,by omega⟩
theorem ku{arr:Array Value}{T:TypeId}{fz:Nat×Nat}:rsz (w.alloc (.cells arr T fz)) w.heap.size=arr.size:=by grind[rsz,gv]
theorem jz{s:Nat}:∀ {us:List Value},(∀ u∈us,u.cells.size=s)->(us.flatMap fun u=>u.cells.toList).length=us.length*s
 | [],_=>by simp
 | u::us,hu=>by
  have:=jz (us:=us) fun x hx=>hu x (Lc _ hx)
  grind
theorem rO(r:Rel m h w){fr:List V}{a:Act}(f:FR m h w fr a){t:TypeId}{len:Nat}{ps:Array (Nat×Operand)}{xs:List V}{y:V}{h':Heap}
  (hp:aV fr 0 ps.toList=some xs) (hy:aI P h t len xs=some (y,h')):
  ∃ v w',(Instr.buildSlice t len (ps.map fun (i,x)=>(i,a.eval x))).run P w=.ok v w'/\Out m h w y h' v w':=by
 obtain⟨hj,h6,h7⟩:=jG f hp;generalize hm:(ps.toList.map fun p=>a.eval p.2)=us at *;obtain⟨qs,h8⟩:∃ qs:Array (Nat×Value),qs=ps.map fun (i,x)=>(i,a.eval x):=⟨_,rfl⟩;have h9:qs.toList=(us.zipIdx 0).map fun x=>(x.2,x.1):=by simp_all
 rw[<- h8];unfold aI at hy;split at hy
 ·rename_i elem hu;split at hy
  ·rename_i s hs;split at hy
   ·rename_i cs ha;split at hy
    ·rename_i hc;simp only[Ld,decide_eq_true_eq,Ol]at hc;obtain⟨⟨⟨hl,hd⟩,hn⟩,z,hz⟩:=hc;cases hy;obtain⟨h3,h4,hq⟩:=pT h6 h7 ha;obtain⟨zv,hr,ht,_⟩:=bO hz w;have hlen:us.length=len:=by omega
     have hv:=jz h4
     -- the cells
     have key:∀ cells:Array Value,cells.size=len*s->Instr.fill (fun i=>some (i*s,s)) cells qs.toList=some (us.flatMap fun u=>u.cells.toList).toArray:=by
      intro cells hw;obtain⟨r1,he,hA,hD⟩:=Great.fill_dense hd us 0 cells h4 (by simp_all);rw[h9,he];congr 1;apply Array.ext_getElem?;intro k;have hg:(us.flatMap fun u=>u.cells.toList).toArray[k]?=(us[k / s]?).bind fun v=>v.cells[k%s]?:=by grind[Great.flat_get]
      grind
     have hf:¬ len*s > 2 ^ 24:=by omega
     refine⟨.slice (some ⟨w.heap.size,0,none⟩) len len,w.alloc (.cells (us.flatMap fun u=>u.cells.toList).toArray elem),?_,?_⟩
     ·obtain⟨i,hi,hh⟩:=kA hs;subst hh;by_cases h0:len*i.size=0
      ·have hk:=key ((Array.range (len*i.size)).map ((#[]:Array Value)[·%(#[]:Array Value).size]!)) (by simp);rw[h0]at hk;simp only[Instr.buildSlice,Sem.run_bind,run_underlying hu,Result.andThen_ok,bg hs,h0,if_true];simp_all[if_neg,Sem.run_bind,Sem.run_pure,Result.andThen_ok,newRow]
      ·have hk:=key ((Array.range (len*i.size)).map (zv.cells[·%zv.cells.size]!)) (by simp);simp only[Instr.buildSlice,Sem.run_bind,run_underlying hu,Result.andThen_ok,bg hs];simp_all[if_neg,Sem.run_bind,Sem.run_pure,Result.andThen_ok,newRow]
     ·exact⟨_,cR _ _,fQ r h3.at.1 h3.at.2,qO (La _) (by grind[ku]) _ (La _)⟩
    grind
   grind
  grind
 grind
end
end Go.Ab
namespace Go.Ab
section
variable {P:Program}{m:Mu}{h:Heap}{w:World}
theorem fq{w':World}(hh:w'.heap=w.heap)(ho:w'.os=w.os)(ht:w'.tape=w.tape)(hu:w'.output=w.output):Evo m h w m h w' where
 zeq:=rfl
 len:=La _
 keep:=fun _ _ hl=>⟨hl,rfl⟩
 own:=fun x _ hl hb=>.inl ⟨x,hl,hb⟩
 frame:=fun _ _ _=>by rw[hh]
 size:=by simp_all
 rs:=fun b _=>by rw[cF (w:=w) (w':=w') (b:=b) (by rw[hh])];omega
 os:=ho
 tape:=ht
 output:=hu
theorem ie(r:Rel m h w){w':World}(hh:w'.heap=w.heap)(ho:w'.os=w.os)(ht:w'.tape=w.tape)(hu:w'.output=w.output):Rel m h w':=
 ⟨r.zo,fun b hb=>by rw[hh];exact r.zl b hb,r.inj,fun x cs b hx hb=>by
  exact (r.blk x cs b hx hb).carry (by rw[hh]) fun c v _ h0=>h0.evo (fq hh ho ht hu) r.lt⟩
theorem lr{w w':World}(hh:w'.heap=w.heap)(a:Addr):w'.cell? a=w.cell? a:=by simp[World.cell?,hh]
theorem Pt.values{b o:Nat}{cs:List V}(hp:Pt m h w b o cs):∃ vs:List Value,vs.length=cs.length/\(∀ (j:Nat) (v:Value),vs[j]?=some v->w.cell? ⟨b,o+j,none⟩=some v) /\
  ∀ (i:Nat) (c:V) (v:Value),cs[i]?=some c->vs[i]?=some v->R m h w c v:=by
 have h0:∀ i,i<cs.length->∃ v,w.cell? ⟨b,o+i,none⟩=some v/\∀ c,cs[i]?=some c->R m h w c v:=by
  intro i hi;obtain⟨v,hv,hr⟩:=hp i cs[i] (K4 hi);simp_all
 let f:Nat->Value:=fun j=>if hj:j<cs.length then Classical.choose (h0 j hj) else undef
 refine⟨(List.range cs.length).map f,by simp,fun j v hv=>?_,fun i c v hc hv=>?_⟩<;>grind
theorem Pt.drop_take{b o:Nat}{cs:List V}(hp:Pt m h w b o cs)(k n:Nat):Pt m h w b (o+k) ((cs.drop k).take n):=by
 intro i c hc;rw[L7]at hc;split at hc
 ·rw[M3]at hc;rw[NQ];exact hp (k+i) c hc
 grind
theorem R.sl_at(r:Rel m h w){x off len cap k:Nat}{v:Value}{cs:List V}(hv:R m h w (.sl x off len cap k) v)(hb:ab h x=some cs):
  ∃ b rc arr T,m x=some b/\v=.slice (some ⟨b,off,none⟩) len rc/\cap<=rc/\len<=rc/\off+rc*k<=arr.size/\w.heap[b]?=some (.cells arr T (0,0))/\cs.length<=arr.size/\Pt m h w b 0 cs:=by
 have hc:=aA hb;cases hv with
 | sl h4 h0 hlen hv =>
  obtain⟨b,h3,rfl,h6⟩:=hv ⟨cs,hc⟩;obtain⟨arr,T,ha,hl,hr⟩:=(r.blk x cs b hc h3).cells (cX hb);refine⟨b,_,arr,T,h3,rfl,h0,hlen,by grind[rsz],ha,hl,fun i c h7=>?_⟩
  grind[World.cell?]
theorem nX{k:Nat}:∀ {xs:List (List V)}{q:Nat}{c:V},(∀ e∈xs,e.length=k)->xs.flatten[q]?=some c->0<k/\∃ e,xs[q / k]?=some e/\e[q%k]?=some c
 | [],q,c,_,hq=>by grind
 | e::xs,q,c,hl,hq=>by
  have he:e.length=k:=hl e Ll;rw[N8]at hq;by_cases h0:q<e.length
  ·grind[List.getElem?_append_left,Nat.div_eq_of_lt,Nat.mod_eq_of_lt]
  ·rw[Lg (by omega)]at hq;obtain⟨hk,e',h1,h2⟩:=nX (fun e he=>hl e (Lc _ he)) hq
   grind[Nat.div_eq_sub_div,List.getElem?_cons_succ,Nat.mod_eq_sub_mod]
theorem Eu(r:Rel m h w){s n:Nat}{x:V}{xv:Value}{new:List V}(hx:R m h w x xv)(hs:bc h s x=some (n,new)):
  ∃ news:List Value,news.length=new.length/\new.length=n*s/\(∀ (i:Nat) (c:V) (v:Value),new[i]?=some c->news[i]?=some v->R m h w c v) /\
   (∀ w':World,(Builtin.lenOf xv).run P w'=.ok n w')/\(∀ w':World,w'.heap=w.heap->(Builtin.firstCells s n xv).run P w'=.ok news.toArray w')/\∃ a l c,xv=.slice a l c:=by
 unfold bc at hs;split at hs
 ·rename_i y off len cap k;split at hs
  ·rename_i cs hb;split at hs
   ·rename_i hc;simp only[Ld,decide_eq_true_eq]at hc;obtain⟨rfl,hle⟩:=hc;cases hs;obtain⟨b,rc,arr,T,hg,rfl,_,_,_,_,_,h6⟩:=hx.sl_at r hb;obtain⟨vs,h4,h8,h7⟩:=(h6.drop_take off (n*k)).values;have hlen:((cs.drop off).take (n*k)).length=n*k:=by grind
    refine⟨vs,h4,hlen,h7,fun w'=>by rfl,fun w' hh=>?_,_,_,_,rfl⟩;refine run_firstCells_some w' k n _ n rc vs (by omega) fun j v hj=>?_;rw[lr hh,add_lit];simp_all
   grind
  ·split at hs
   ·rename_i h0;subst h0;cases hs;cases hx;exact⟨[],rfl,by simp,by simp,fun w'=>by simp[Builtin.lenOf],fun w' _=>by simp[Builtin.firstCells,loadCells,loadCellsFrom],_,_,_,rfl⟩
   grind
 ·rename_i xs;split at hs
  ·rename_i h3;cases hs;simp only[Lk,beq_iff_eq]at h3;have h9:xs.flatten.length=xs.length*s:=by
    clear hx
    induction xs with
    | nil=>simp
    | cons e xs ih =>
     have h1:=h3 e Ll;have h2:=ih fun e he=>h3 e (Lc _ he);simp only[N8,Ln,Lp,h1,h2,M7,Nat.one_mul];omega
   cases hx with
   | lst0 a rc _ =>
    refine⟨[],rfl,by simp,by simp,fun w'=>by simp[Builtin.lenOf],fun w' _=>?_,_,_,_,rfl⟩;cases a<;>simp[Builtin.firstCells,loadCells,loadCellsFrom]
   | lst rv hl hm hk hc hf hr =>
    rename_i b o k rc;have h6:Pt m h w b o xs.flatten:=by
     intro q c hq;obtain⟨h0,e,he,ha⟩:=nX h3 hq;have hd:k=s:=by rw[<- hk _ _ he];exact h3 e (K6 he)
     subst hd;refine⟨_,?_,hr _ _ _ _ he ha⟩;rw[<- hc _ _ _ _ he ha,NQ,Nat.mul_comm (q / k) k,Nat.div_add_mod]
    obtain⟨vs,h4,h8,h7⟩:=h6.values;refine⟨vs,h4,h9,h7,fun w'=>by simp[Builtin.lenOf],fun w' hh=>?_,_,_,_,rfl⟩;refine run_firstCells_some w' s xs.length _ _ rc vs (by rw[h4,h9]) fun j v hj=>?_;rw[lr hh,add_lit];exact h8 j v hj
  ·cases hs
 ·cases hs;cases hx;exact⟨[],rfl,by simp,by simp,fun w'=>by simp[Builtin.lenOf],fun w' _=>by simp[Builtin.firstCells],_,_,_,rfl⟩
 grind
end
end Go.Ab
namespace Go.Ab
section
variable {P:Program}{m:Mu}{h:Heap}{w:World}
theorem jO{t ty e:TypeId}{i:TypeInfo}(ht:P.underlying t=some (.slice e))(hi:P.info? e=some i){a:Addr}{sLen sCap n:Nat}{xv:Value}{news:List Value}{w':World}
  (hlen:(Builtin.lenOf xv).run P w=.ok n w) (hf:(Builtin.firstCells i.size n xv).run P w=.ok news.toArray w) (h0:sLen+n<=sCap)
  (h3:(storeCells (a.add (sLen*i.size)) news).run P w=.ok () w'):
  (Builtin.append_ #[t,t] ty #[.slice (some a) sLen sCap,xv]).run P w=.ok (.slice (some a) (sLen+n) sCap) w':=by
 simp[Builtin.append_,run_underlying ht,sizeOf,typeInfo,hi,hlen,h0,hf,h3]
theorem ij{t ty e:TypeId}{i:TypeInfo}{z:Value}(ht:P.underlying t=some (.slice e))(hi:P.info? e=some i)(hz:i.zero=some z){base:Option Addr}{sLen sCap n:Nat}{xv:Value}{olds news:List Value}
  (hlen:(Builtin.lenOf xv).run P w=.ok n w) (hf:(Builtin.firstCells i.size n xv).run P w.drew=.ok news.toArray w.drew)
  (ho:(Builtin.firstCells i.size sLen (.slice base sLen sCap)).run P w.drew=.ok olds.toArray w.drew)
  (hg:sCap<sLen+n) (h6:((sLen+n:Nat):Int)<=9223372036854775807) (h4:Builtin.nextslicecap (sLen+n) sCap*i.bytes<=281474976710656):
  (Builtin.append_ #[t,t] ty #[.slice base sLen sCap,xv]).run P w =
   .ok (.slice (some ⟨w.heap.size,0,none⟩) (sLen+n) (grownCap w (sLen+n) sCap e))
    (w.drew.alloc (.cells (olds.toArray++news.toArray++Builtin.zeroCells z.cells (grownCap w (sLen+n) sCap e-(sLen+n))) e)):=by
 have hn:¬ (sLen+n<=sCap):=by omega
 have h0:¬ (9223372036854775807<((sLen:Int)+(n:Int))):=by omega
 have h3:¬ (281474976710656<Builtin.nextslicecap (sLen+n) sCap*i.bytes):=by omega
 have he:∀ a b c:Array Value,a++b++c=a++(b++c):=fun a b c=>N0;rw[he];simp[Builtin.append_,run_underlying ht,sizeOf,typeInfo,zeroValue,hi,hz,hlen,hn,h0,h3,Question.forced,ho,hf,newRow,grownCap]
theorem eU{h:Heap}{x y:Nat}{o:Option (List V)}(hl:live ((h.set x none)++[o]) y):(y<h.length/\y≠x/\live h y)\/y=h.length:=by
 have h3:=fh hl;simp at h3;by_cases hy:y=h.length
 ·omega
 ·have h4:y<h.length:=by omega
  obtain⟨cs,hc⟩:=hl;rw[K8 (by simp_all)]at hc;by_cases h0:x=y
  ·simp_all
  ·rw[Lb h0]at hc;exact .inl ⟨h4,fun e=>h0 e.symm,cs,hc⟩
theorem vf{x nb:Nat}{cs:List V}{w':World}(ha:w.heap.size<=nb\/(live h x/\m x=some nb))
  (h0:∀ b,b<w.heap.size->b≠nb->w'.heap[b]?=w.heap[b]?) (h4:w.heap.size<=w'.heap.size) (h7:∀ b,b<w.heap.size->rsz w b<=rsz w' b)
  (h8:w'.os=w.os) (h9:w'.tape=w.tape) (h6:w'.output=w.output):Evo m h w (upd m h.length nb) ((h.set x none)++[some cs]) w' where
 zeq:=rfl
 len:=by simp
 keep:=fun y hy hl=>by
  grind[eU,upd,Nat.ne_of_lt]
 own:=fun y b hl hb=>by
  rcases eU hl with⟨h1,_,h3⟩|rfl
  ·grind[upd,Nat.ne_of_lt]
  ·simp only[upd,if_true,K7]at hb
   grind
 frame:=fun b hb hn=>h0 b hb fun e=>by
  grind
 size:=h4
 rs:=h7
 os:=h8
 tape:=h9
 output:=h6
theorem wK(r:Rel m h w){x nb:Nat}{cs:List V}{w':World}(e:Evo m h w (upd m h.length nb) ((h.set x none)++[some cs]) w')(h8:w.heap.size<=nb\/(live h x/\m x=some nb))
  (h0:∀ b,b<w.heap.size->b≠nb->w'.heap[b]?=w.heap[b]?) {arr:Array Value} {T:TypeId} (ha:w'.heap[nb]?=some (.cells arr T (0,0)))
  (hl:cs.length<=arr.size) (hr:∀ (i:Nat) (c:V),cs[i]?=some c->∃ v,arr[i]?=some v/\R m h w c v):
  Rel (upd m h.length nb) ((h.set x none)++[some cs]) w':=by
 have hne:∀ y b,y<h.length->y≠x->live h y->m y=some b->b≠nb:=by
  rintro y b hy hd h9 hb rfl;rcases h8 with h1|⟨h1,h2⟩
  ·have:=r.lt y b h9 hb;omega
  ·exact hd (r.inj y x b h9 h1 hb h2)
 refine⟨fun y b hl hb hz=>?_,fun b hb=>Lu (r.zl b hb) e.size,fun y z b hy hz h6 h4=>?_,fun y cs' b hy hb=>?_⟩
 ·rcases eU hl with⟨h1,_,h3⟩|rfl
  ·simp only[upd,LL h1,if_false]at hb;exact r.zo y b h3 hb hz
  ·simp only[upd,if_true,K7]at hb;subst hb;rcases h8 with h1|⟨h1,h2⟩
   ·have:=r.zl nb hz;omega
   ·exact r.zo x nb h1 h2 hz
 ·rcases eU hy with⟨h1,h2,h3⟩|rfl
  ·simp only[upd,LL h1,if_false]at h6;rcases eU hz with⟨g1,g2,g3⟩|rfl
   ·simp only[upd,LL g1,if_false]at h4;exact r.inj y z b h3 g3 h6 h4
   ·simp only[upd,if_true,K7]at h4
    grind
  ·simp only[upd,if_true,K7]at h6;rcases eU hz with⟨g1,g2,g3⟩|rfl
   ·simp only[upd,LL g1,if_false]at h4
    grind
   ·rfl
 ·rcases eU ⟨cs',hy⟩ with⟨h1,h2,h3⟩|rfl
  ·simp only[upd,LL h1,if_false]at hb;rw[K8 (by simp_all),Lb (fun e=>h2 e.symm)]at hy;exact (r.blk y cs' b hy hb).carry (h0 b (r.lt y b h3 hb) (hne y b h1 h2 h3 hb)) fun c v _ h7=>h7.evo e r.lt
  ·simp only[upd,if_true,K7]at hb;subst hb;simp at hy;subst hy;refine .inl ⟨arr,T,ha,hl,fun i c hc=>?_⟩;obtain⟨v,hv,h7⟩:=hr i c hc;exact⟨v,hv,h7.evo e r.lt⟩
theorem zP{x nb:Nat}{cs:List V}{w':World}{len cap k rc:Nat}(h0:cap<=rc)(hlen:len<=rc)(h3:rc*k<=rsz w' nb):
  R (upd m h.length nb) ((h.set x none)++[some cs]) w' (.sl h.length 0 len cap k) (.slice (some ⟨nb,0,none⟩) len rc):=
 .sl (by simp) h0 hlen fun _=>⟨nb,by simp[upd],rfl,by omega⟩
theorem iY{n y:Nat}(hr:roomy n y=true):n*y<=2 ^ 40/\n<=2 ^ 40:=by
 grind[roomy]
theorem zi{new:List V}{news:List Value}(h0:new.all V.leaf=true)(hlen:news.length=new.length)(hr:∀ (i:Nat) (c:V) (v:Value),new[i]?=some c->news[i]?=some v->R m h w c v):∀ u∈news,u.oneCell'=true:=by
 intro u hu;obtain⟨i,hi,rfl⟩:=LV hu;have h3:i<new.length:=by omega
 exact qH (Lk.1 h0 _ (MA h3)) (hr i _ _ (K4 h3) (K4 hi))
theorem AQ(r:Rel m h w){cfg:Cfg}{t u ty:TypeId}{d x y:V}{dv xv:Value}{h':Heap}(hd:R m h w d dv)(hx:R m h w x xv)(hy:bV P cfg h t u d x=some (y,h')):
  t=u/\∃ v w',(Builtin.append_ #[t,t] ty #[dv,xv]).run P w=.ok v w'/\Out m h w y h' v w':=by
 unfold bV at hy;split at hy
 ·rename_i elem ht;split at hy
  ·rename_i s by_ hs g6;obtain⟨i,hi,rfl⟩:=kA hs;have hS:i.bytes=by_:=by grind[bytesOf]
   subst hS;split at hy
   ·rename_i n new hw;obtain⟨news,hA,hT,hu,hf,hg,_⟩:=Eu (P:=P) r hx hw;split at hy
    ·rename_i hc;simp only[Ld,decide_eq_true_eq]at hc;obtain⟨⟨⟨hD,g7⟩,rfl⟩,g8⟩:=hc;obtain⟨z,hz,hX⟩:∃ z,zeroOf P elem=some z/\(cG z).length=i.size:=by
      grind[rJ]
     refine⟨rfl,?_⟩;obtain⟨zv,_,hY,g9⟩:=bO hz w;have hh:i.zero=some zv:=by simp_all
     have hN:zv.cells.size=i.size:=by rw[<- hX];exact (kC (m:=m) (h:=h) (w:=w) hY).1
     have h1:=zi hD hA hu;have hO:news.length=n*i.size:=by omega
     split at hy
     · -- a nil slice
      cases hd;split at hy
      ·rename_i hE;have hZ:=iY hE;split at hy
       ·rename_i hP;subst hP;cases hy;have hl:news=[]:=Ml (by omega);subst hl;exact⟨.slice none 0 0,w,by simp[Builtin.append_,run_underlying ht,sizeOf,typeInfo,hi,hf,hg w rfl],.same r .nils⟩
       ·rename_i hP;cases hy;have h7:=grownCap_ge w (0+n) 0 elem;have h0:=ij (P:=P) (w:=w) (ty:=ty) (base:=none) (sLen:=0) (sCap:=0) (n:=n) (xv:=xv) (olds:=[]) (news:=news) ht hi hh (hf w) (hg _ rfl)
         (by rfl) (by omega) (by omega) (growslice_fits (by omega) (by grind))
        simp only[LU]at h0 h7;refine⟨_,_,h0,_,(fq (w:=w) (w':=w.drew) rfl rfl rfl rfl).trans (cR _ _),fQ (ie r (w':=w.drew) rfl rfl rfl rfl) (by grind) ?_,?_⟩
        ·intro j c hj;have h4:j<news.length:=by grind
         refine⟨news[j],by grind,(hu j c _ hj (K4 h4)).evo (fq (w:=w) (w':=w.drew) rfl rfl rfl rfl) r.lt⟩
        ·refine qO (w:=w.drew) h7 ?_ _ h7;rw[ku];simp only[N9,MS,size_zeroCells,hO,hN,L3,LU,<- Nat.add_mul];simp_all
      grind
     ·rename_i b off len cap k;split at hy
      ·rename_i hc;simp only[Ld,decide_eq_true_eq]at hc;obtain⟨rfl,hE⟩:=hc;have hZ:=iY hE;split at hy
       ·rename_i hm;split at hy
        ·rename_i h2 hn;simp only[K7,Lj]at hy;obtain⟨rfl,rfl⟩:=hy;obtain⟨cs,hb⟩:∃ cs,ab h b=some cs:=by
          grind[aJ]
         obtain⟨b',rc,arr,T,h8,rfl,hr,hlen,g0,ha,hle,hF⟩:=hd.sl_at r hb;obtain⟨w',h0,e,r'⟩:=gJ (P:=P) r h8 hb hn hA hu h1;refine⟨_,w',jO ht hi (hf w) (hg w rfl) (by omega) (by grind[add_lit]),m,e,r',?_⟩;refine .sl (Lu (fh ⟨cs,aA hb⟩) e.len) hr (by omega) fun _=>⟨b',h8,rfl,?_⟩;have h1:=e.rs b' (r.lt b b' ⟨cs,aA hb⟩ h8)
         grind[rsz]
        grind
       ·rename_i hm;split at hy
        ·rename_i cs hb;split at hy
         ·rename_i hQ;simp only[Ld,decide_eq_true_eq]at hQ;obtain⟨⟨rfl,_⟩,k0⟩:=hQ;simp only[K7,Lj]at hy;obtain⟨rfl,rfl⟩:=hy;obtain⟨b',rc,arr,T,h8,rfl,hr,hlen,g0,ha,hle,hF⟩:=hd.sl_at r hb;have h3:live h b:=⟨cs,aA hb⟩;have hb'lt:=r.lt b b' h3 h8;have hH:(cs.take (len*i.size)).length=len*i.size:=by grind
          have hmul:(len+n)*i.size=len*i.size+n*i.size:=M7 _ _ _;by_cases h6:len+n<=rc
          · -- in place
           have g1:(len+n)*i.size<=rc*i.size:=NS _ h6;have hn:=run_storeCells_at P b' (len*i.size) T news 0 arr w ha (by omega) h1;simp only[Nb]at hn;have h0:=jO (ty:=ty) (a:=⟨b',0,none⟩) ht hi (hf w) (hg w rfl) h6 (by rw[add_lit,LU];exact hn);generalize h9:(arr.toList.take (len*i.size)++news++arr.toList.drop (len*i.size+news.length)).toArray=arr' at hn h0;have he:arr'.size=arr.size:=by grind
           have e:Evo m h w (upd m h.length b') ((h.set b none)++[some (cs.take (len*i.size)++new)]) (w.setRow b' arr'):=
            vf (.inr ⟨h3,h8⟩) (fun c _ hc=>setRow_other w b' c arr' hc) (by simp) (fun c _=>by
             by_cases hR:c=b'
             ·subst hR;simp only[rsz,ha,setRow_heap w c arr arr' T (0,0) ha];omega
             ·rw[cF (setRow_other w b' c arr' hR)];omega) rfl rfl rfl
           have hI:∀ q,q<(len+n)*i.size->arr'[q]?=if q<len*i.size then arr[q]? else news[q-len*i.size]?:=by
            grind
           refine⟨_,_,h0,_,e,wK r e (.inr ⟨h3,h8⟩) (fun c _ hc=>setRow_other w b' c arr' hc) (setRow_heap w b' arr arr' T (0,0) ha) (by grind) ?_,?_⟩
           ·intro q c hq;have hJ:q<(len+n)*i.size:=by
             grind
            rw[hI q hJ];by_cases hK:q<len*i.size
            ·rw[if_pos hK];rw[K8 (by omega),L7,if_pos hK]at hq;obtain⟨v,hv,k1⟩:=hF q c hq
             grind[World.cell?]
            grind
           ·refine zP (by omega) (by omega) ?_;simp only[rsz,setRow_heap w b' arr arr' T (0,0) ha];omega
          · -- anew
           have hL:Pt m h w b' 0 (cs.take (len*i.size)):=by simpa using hF.drop_take 0 (len*i.size)
           obtain⟨olds,g2,g3,g4⟩:=hL.values;have h7:=grownCap_ge w (len+n) rc elem;have h0:=ij (P:=P) (w:=w) (ty:=ty) (base:=some ⟨b',0,none⟩) (sLen:=len) (sCap:=rc) (n:=n) (xv:=xv) (olds:=olds) (news:=news) ht hi hh (hf w) (hg _ rfl)
            (run_firstCells_some w.drew i.size len _ _ _ olds (by omega) (fun j v hj=>by rw[lr (w:=w) (w':=w.drew) rfl,add_lit];exact g3 j v hj))
            (by omega) (by omega) (growslice_fits (by omega) (by omega))
           generalize h9:olds.toArray++news.toArray++Builtin.zeroCells zv.cells (grownCap w (len+n) rc elem-(len+n))=arr' at h0;have he:arr'.size=grownCap w (len+n) rc elem*i.size:=by
            rw[<- h9];simp only[N9,MS,size_zeroCells,hO,hN,g2,hH,<- Nat.add_mul];congr 1;omega
           have hM:∀ c,c<w.heap.size->c≠w.heap.size->(w.drew.alloc (.cells arr' elem)).heap[c]?=w.heap[c]?:=fun c hc _=>eY (w:=w.drew) hc;have e:Evo m h w (upd m h.length w.heap.size) ((h.set b none)++[some (cs.take (len*i.size)++new)]) (w.drew.alloc (.cells arr' elem)):=
            vf (.inl (La _)) hM (by simp) (fun c hc=>by rw[cF (hM c hc (LL hc))];exact La _) rfl rfl rfl
           refine⟨_,_,h0,_,e,wK r e (.inl (La _)) hM (arr:=arr') (T:=elem) (gv (w:=w.drew)) ?_ ?_,?_⟩
           ·rw[he];simp only[Ln,hH,hT,<- Nat.add_mul];exact NS _ h7
           ·intro q c hq;rw[<- h9];by_cases hK:q<len*i.size
            ·rw[K8 (by omega)]at hq;have h4:q<olds.length:=by omega
             refine⟨olds[q],?_,g4 q c _ hq (K4 h4)⟩;rw[N0,Mh (by simpa using h4)];simp[h4]
            ·rw[Lg (by omega),hH]at hq;have h4:q-len*i.size<news.length:=by rw[hA];exact (K5.1 hq).1
             refine⟨news[q-len*i.size],?_,hu _ c _ hq (K4 h4)⟩;have g5:olds.length=len*i.size:=by omega
             rw[N0,MY (by simp;omega),Mh (by simp;omega)];simp[g5,h4]
           ·refine zP h7 h7 ?_;have:rsz (w.drew.alloc (.cells arr' elem)) w.heap.size=arr'.size:=ku (w:=w.drew);rw[this,he];exact La _
         grind
        grind
      grind
     grind
    grind
   grind
  grind
 grind
end
end Go.Ab
namespace Go.Ab
section
variable {P:Program}{m:Mu}{h:Heap}{w:World}
theorem wrap_small{n:Int}(h0:0<=n)(h1:n<=2 ^ 40):IntKind.i64.wrap n=n:=IntWalk.i64_in n ⟨by omega,by omega⟩
theorem fK{z:List V}{s:Nat}(hz:z.length=s)(hs:0<s):∀ (n q:Nat),(bj z n)[q]?=if q<n*s then z[q%s]? else none
 | 0,q=>by simp[bj]
 | n+1,q=>by
  rw[bj];by_cases hq:q<s
  ·rw[K8 (by omega),Nn hq,if_pos (by grind)]
  ·have h0:q%s=(q-s)%s:=Nat.mod_eq_sub_mod (by omega);rw[Lg (by omega),fK hz hs n,hz,h0]
   grind
theorem fF{z:List V}:∀ n,(bj z n).length=n*z.length
 | 0=>by simp[bj]
 | n+1=>by simp[bj,fF n,M7,Nat.add_comm]
theorem tZ(r:Rel m h w){t:TypeId}{l c y:V}{lv cv:Value}{h':Heap}(hl:R m h w l lv)(hc:R m h w c cv)(hy:cB P h t l c=some (y,h')):
  ∃ v w',(Instr.makeSlice t lv cv).run P w=.ok v w'/\Out m h w y h' v w':=by
 unfold cB at hy;split at hy
 ·rename_i elem n mm hu;cases hl;cases hc;split at hy
  ·rename_i s by_ z hs hI hz;obtain⟨i,hi,rfl⟩:=kA hs;have hn:i.bytes=by_:=by grind[bytesOf]
   subst hn;split at hy
   ·rename_i h3;simp only[Ld,decide_eq_true_eq,beq_iff_eq]at h3;obtain⟨⟨⟨⟨h0,hle⟩,hr⟩,hf⟩,ht⟩:=h3;have hJ:=iY hr;simp only[K7,Lj]at hy;obtain⟨rfl,rfl⟩:=hy;obtain⟨zv,hv,hw,_⟩:=bO hz w;have hg:=kC (m:=m) (h:=h) (w:=w) hw;have hA:0<=mm:=by omega
    have h9:mm<=2 ^ 40:=by omega
    have hh:IntKind.i64.wrap n=n:=wrap_small h0 (by omega);have hj:IntKind.i64.wrap mm=mm:=wrap_small hA h9;have hD:((i.bytes:Int)*mm)=((mm.toNat*i.bytes:Nat):Int):=by
     grind
    have h4:¬ (281474976710656<(i.bytes:Int)*mm):=by omega
    have h6:¬ mm<0:=by omega
    have h7:¬ n<0:=by omega
    have h8:¬ n > mm:=by omega
    generalize hd:(Array.range (mm.toNat*i.size)).map (fun q=>zv.cells[q%zv.cells.size]!)=arr;have hE:arr.size=mm.toNat*i.size:=by grind
    have he:(Instr.makeSlice t (.int .i64 n) (.int .i64 mm)).run P w=.ok (.slice (some ⟨w.heap.size,0,none⟩) n.toNat mm.toNat) (w.alloc (.cells arr elem)):=by
     by_cases hm:mm.toNat*i.size=0
     ·have ha:arr=#[]:=L5 (by omega);have hF:∀ f:Nat->Value,Array.map f (Array.range 0)=#[]:=fun f=>L5 (by simp);simp[Instr.makeSlice,run_underlying hu,asInt,asIntOf,typeInfo,hi,hh,hj,h4,h6,h7,h8,sizeOf,hm,newRow,ha,hF]
     ·simp[Instr.makeSlice,run_underlying hu,asInt,asIntOf,typeInfo,hi,hh,hj,h4,h6,h7,h8,sizeOf,hm,hv,newRow,<- hd]
    refine⟨_,_,he,_,cR _ _,fQ r (by simp_all[fF,La]) ?_,qO (by omega) (by simp_all[ku,La]) _ (La _)⟩;intro q c hq;rw[fK hf ht]at hq;split at hq
    ·rename_i hK;have hL:zv.cells.size=i.size:=by rw[hg.1,hf]
     have hH:q%i.size<zv.cells.size:=by grind
     refine⟨zv.cells[q%i.size],?_,hg.2 _ c _ hq (Lf hH)⟩
     grind
    grind
   grind
  grind
 grind
theorem mQ(s:ByteArray):∀ (b i:Nat) (acc:Array Value),Conv.runesFrom s b i acc=acc++((cO s b i).map (Value.int .i32)).toArray
 | 0,i,acc=>by rfl
 | b+1,i,acc=>by
  simp only[Conv.runesFrom,cO];split
  ·rw[mQ s b];simp
  ·simp
theorem sk:∀ {cs:List V}{vs:List Value}{bs:List UInt8},vs.length=cs.length->(∀ (i:Nat) (c:V) (v:Value),cs[i]?=some c->vs[i]?=some v->R m h w c v)->lT cs=some bs ->
  ∃ ns:List Int,vs=ns.map (Value.int .u8)/\bs=ns.map fun n=>UInt8.ofNat n.toNat
 | [],[],bs,_,_,hb=>by simp[lT]at hb;subst hb;exact⟨[],rfl,rfl⟩
 | c::cs,v::vs,bs,hl,hr,hb=>by
  unfold lT at hb;split at hb
  ·rename_i h1;cases h1
  ·rename_i n r h1;cases h1;split at hb
   ·rename_i bs' h0;cases hb;obtain⟨ns,h1,h2⟩:=sk (by simpa using hl) (fun i c v hc hv=>hr (i+1) c v (by simpa using hc) (by simpa using hv)) h0;have:=hr 0 _ v rfl rfl;cases this;exact⟨n::ns,by simp[h1],by simp[h2]⟩
   ·cases hb
  ·cases hb
 | [],_::_,_,hl,_,_=>by simp at hl
 | _::_,[],_,hl,_,_=>by simp at hl
theorem foldl_push(ns:List Int)(r:ByteArray):ns.foldl (fun r n=>r.push (UInt8.ofNat n.toNat)) r=⟨r.data++(ns.map fun n=>UInt8.ofNat n.toNat).toArray⟩:=by
 induction ns generalizing r with
 | nil=>simp
 | cons n ns ih =>
  simp_all
theorem uZ(r:Rel m h w){x:V}{xv:Value}{cs:List V}(hx:R m h w x xv)(he:ff h x=some cs):
  ∃ vs:List Value,vs.length=cs.length/\(∀ (i:Nat) (c:V) (v:Value),cs[i]?=some c->vs[i]?=some v->R m h w c v) /\
   (((∃ l c,xv=.slice none l c)/\vs=[])\/∃ a len cap,xv=.slice (some a) len cap/\(loadCells a len).run P w=.ok vs.toArray w):=by
 have h0:bc h 1 x=some (cs.length,cs)\/False:=by
  unfold ff at he;split at he
  ·rename_i y off len cap k;split at he
   ·rename_i bl hb;split at he
    ·rename_i hc;simp only[Ld,decide_eq_true_eq]at hc;obtain⟨rfl,hle⟩:=hc;cases he;left;simp only[bc,hb,Oa,hle,decide_true,M1,if_true,K7,Lj,and_true]
     grind
    grind
   grind
  ·rename_i xs;left;have key:∀ (xs:List (List V)) (cs:List V),(xs.mapM fun e=>match e with|[c]=>some c|_=>none)=some cs->(xs.all (fun e=>e.length==1))=true/\xs.flatten=cs/\xs.length=cs.length:=by
    intro xs
    induction xs with
    | nil=>simp
    | cons e xs ih =>
     intro cs h;simp only[Mn,Nt,NA,NV]at h
     grind
   obtain⟨k1,k2,k3⟩:=key xs cs he;simp_all[bc,if_true]
  ·cases he;left;rfl
  grind
 rcases h0 with h0|hf
 ·obtain⟨news,h1,h2,h3,h4,h5,a,l,c,rfl⟩:=Eu (P:=P) r hx h0;refine⟨news,h1,h3,?_⟩;have h6:=h5 w rfl;have h7:=h4 w;simp only[Builtin.lenOf,Sem.run_pure,Result.ok.injEq,and_true]at h7;subst h7;cases a with
  | some a =>
   right;refine⟨a,_,_,rfl,?_⟩
   grind[Builtin.firstCells]
  | none =>
   left;have hn:news=[]:=by
    simp only[Builtin.firstCells,Sem.run_pure,Result.ok.injEq,and_true]at h6
    grind
   grind
 simp_all
theorem tj:∀ {cs:List V}{vs:List Value}{ns:List Int},vs.length=cs.length->(∀ (i:Nat) (c:V) (v:Value),cs[i]?=some c->vs[i]?=some v->R m h w c v)->fJ cs=some ns->vs=ns.map (Value.int .i32)
 | [],[],ns,_,_,hb=>by grind[fJ]
 | c::cs,v::vs,ns,hl,hr,hb=>by
  unfold fJ at hb;split at hb
  ·simp_all
  ·rename_i n r h1;cases h1;split at hb
   ·rename_i ns' h0;cases hb;have ih:=tj (by simpa using hl) (fun i c v hc hv=>hr (i+1) c v (by simp_all) (by simp_all)) h0;have:=hr 0 _ v rfl rfl;cases this;simp[ih]
   grind
  grind
 | [],_::_,_,hl,_,_=>by grind
 | _::_,[],_,hl,_,_=>by grind
theorem oQ{w:World}(body:Value->ByteArray->Sem (ForInStep ByteArray))(hb:∀ n r,(body (.int .i32 n) r).run P w=.ok (.yield (r++Utf8.encode n)) w)(ns:List Int)(r:ByteArray):
  (forIn (ns.map (Value.int .i32)) r body).run P w=.ok (ns.foldl (fun s n=>s++Utf8.encode n) r) w:=by
 induction ns generalizing r with
 | nil=>rfl
 | cons n ns ih=>simp_all
theorem mO(w:World)(a:Addr)(len cap:Nat)(ns:List Int)(h:(loadCells a len).run P w=.ok (ns.map (Value.int .i32)).toArray w):
  (Conv.runesToString (.slice (some a) len cap)).run P w=.ok (.string (lA ns)) w:=by
 grind[Conv.runesToString,Sem.run_bind,Result.andThen,oQ,Sem.run_pure,lA]
theorem Fv(r:Rel m h w){src dst:TypeId}{x y:V}{xv:Value}{h':Heap}(hx:R m h w x xv)(hy:eh P h src dst x=some (y,h')):
  ∃ v w',(convert src dst xv).run P w=.ok v w'/\Out m h w y h' v w':=by
 unfold eh at hy;split at hy
 ·rename_i e hs hd;split at hy
  ·rename_i he;split at hy
   ·rename_i cs h0;split at hy
    ·rename_i bs h9;simp only[K7,Lj]at hy;obtain⟨rfl,rfl⟩:=hy;obtain⟨vs,h1,h2,h3⟩:=uZ (P:=P) r hx h0;obtain⟨ns,rfl,rfl⟩:=sk h1 h2 h9;rcases h3 with⟨⟨l,c,rfl⟩,h4⟩|⟨a,len,cap,rfl,h4⟩
     ·have:ns=[]:=by simpa using h4
      subst this;exact⟨.string ByteArray.empty,w,by simp[convert,run_underlying hs,run_underlying hd,run_underlying he,Conv.bytesToString],.same r (.str _)⟩
     ·have hb:=run_bytesToString w a len cap ns h4;rw[foldl_push]at hb;refine⟨.string ⟨ByteArray.empty.data++(ns.map fun n=>UInt8.ofNat n.toNat).toArray⟩,w,by simp only[convert,Sem.run_bind,run_underlying hs,run_underlying hd,run_underlying he,Result.andThen_ok,hb],.same r ?_⟩;have:(⟨ByteArray.empty.data++(ns.map fun n=>UInt8.ofNat n.toNat).toArray⟩:ByteArray)=⟨(ns.map fun n=>UInt8.ofNat n.toNat).toArray⟩:=by
       show (⟨#[]++_⟩:ByteArray)=_;rw[Array.empty_append]
      rw[this];exact .str _
    ·cases hy
   ·cases hy
  ·rename_i he;split at hy
   ·rename_i cs h0;split at hy
    ·rename_i ns ha;simp only[K7,Lj]at hy;obtain⟨rfl,rfl⟩:=hy;obtain⟨vs,h1,h2,h3⟩:=uZ (P:=P) r hx h0;have hc:=tj h1 h2 ha;subst hc;rcases h3 with⟨⟨l,c,rfl⟩,h4⟩|⟨a,len,cap,rfl,h4⟩
     ·have:ns=[]:=by simpa using h4
      subst this;exact⟨.string ByteArray.empty,w,by simp[convert,run_underlying hs,run_underlying hd,run_underlying he,Conv.runesToString],.same r (.str _)⟩
     ·have hb:=mO (P:=P) w a len cap ns h4;exact⟨.string (lA ns),w,by simp only[convert,Sem.run_bind,run_underlying hs,run_underlying hd,run_underlying he,Result.andThen_ok,hb],.same r (.str _)⟩
    ·cases hy
   ·cases hy
  ·cases hy
 ·rename_i sd k hs hd;split at hy
  ·rename_i k' n;cases hx;simp only[K7,Lj]at hy;obtain⟨rfl,rfl⟩:=hy;exact⟨.int k (k.wrap n),w,by cases sd<;>simp[convert,run_underlying hs,run_underlying hd,Conv.intToInt],.same r (.int _ _)⟩
  ·cases hy
 ·rename_i sd hne hs hd;split at hy
  ·rename_i s;cases hx;simp only[K7,Lj]at hy;obtain⟨rfl,rfl⟩:=hy;exact⟨.string s,w,by cases sd<;>simp[convert,run_underlying hs,run_underlying hd],.same r (.str _)⟩
  ·cases hy
 ·rename_i sd e hs hd;split at hy
  ·rename_i s;cases hx;split at hy
   ·rename_i he;simp only[K7,Lj]at hy;obtain⟨rfl,rfl⟩:=hy;have h6:(cO s s.size 0).length<=grownCap w (cO s s.size 0).length 0 e:=grownCap_ge _ _ _ _;generalize h7:grownCap w (cO s s.size 0).length 0 e=cap at h6;have h8:(convert src dst (.string s)).run P w=.ok (.slice (some ⟨w.heap.size,0,none⟩) (cO s s.size 0).length cap)
      (w.drew.alloc (.cells (((cO s s.size 0).map (Value.int .i32)).toArray++Array.replicate (cap-(cO s s.size 0).length) (.int .i32 0)) e)):=by
     cases sd<;>simp[convert,run_underlying hs,run_underlying hd,run_underlying he,Conv.stringToRunes,mQ,Question.forced,newRow,<- h7,grownCap]
    refine⟨_,_,h8,_,(fq (w:=w) (w':=w.drew) rfl rfl rfl rfl).trans (cR _ _),fQ (ie r (w':=w.drew) rfl rfl rfl rfl) (by simp) ?_,qO (w:=w.drew) h6 ?_ _ h6⟩
    ·intro j c hj;rw[Lh]at hj;simp only[Lx]at hj;obtain⟨n,hn,rfl⟩:=hj;have hf:=(K5.1 hn).1;refine⟨.int .i32 n,?_,.int _ _⟩;rw[Mh (by simpa using hf)];simp[hn]
    ·rw[ku];simp;omega
   ·cases hy
  ·cases hy
 ·cases hy
end
end Go.Ab
namespace Go.Ab
section
variable {P:Program}{m:Mu}{h:Heap}{w:World}
theorem sa{z:Array Value}{n q:Nat}(hq:q<n*z.size):(Builtin.zeroCells z n)[q]?=z[q%z.size]?:=by
 grind[Nat.eq_zero_or_pos,Nat.mod_lt,Builtin.zeroCells]
theorem CH(r:Rel m h w){cfg:Cfg}{t ty:TypeId}{x:V}{xv:Value}{h':Heap}(hx:R m h w x xv)(hy:iD P cfg h t x=some h'):
  ∃ v w',(Builtin.clear_ #[t] ty #[xv]).run P w=.ok v w'/\Out m h w (.tup []) h' v w':=by
 have nothing:∀ {a:Option Addr} {c:Nat},h'=h->(∃ e,P.underlying t=some (.slice e))->xv=.slice a 0 c->∃ v w',(Builtin.clear_ #[t] ty #[xv]).run P w=.ok v w'/\Out m h w (.tup []) h' v w':=by
  rintro a c rfl ⟨e,hu⟩ rfl;refine⟨.tuple #[],w,?_,.same r (.tup rfl fun i c v h=>by simp)⟩;cases a<;>simp[Builtin.clear_,run_underlying hu]
 unfold iD at hy;split at hy
 ·rename_i e hu;cases hy;cases hx;simp_all
 ·rename_i e hu;cases hy;generalize hl:([]:List (List V))=l at hx;cases hx with
  | lst0 a rc _=>simp_all
  | lst rv hi hm hk hc hf hr=>simp_all
 ·rename_i elem b off len cap k hu;split at hy
  ·rename_i hl;subst hl;cases hy;cases hx;simp_all
  ·rename_i hl;split at hy
   ·rename_i s z hs hz;split at hy
    ·rename_i hc;simp only[Ld,decide_eq_true_eq,beq_iff_eq]at hc;obtain⟨⟨⟨rfl,h0⟩,h7⟩,h8⟩:=hc;obtain⟨zv,hd,he,_⟩:=bO hz w;have h9:=kC (m:=m) (h:=h) (w:=w) he;obtain⟨cs,hb⟩:∃ cs,ab h b=some cs:=by
      unfold aJ at hy;split at hy
      ·rename_i cs hb;exact⟨cs,hb⟩
      ·cases hy
     obtain⟨rb,rc,arr,T,hg,rfl,_,_,_,_,_,_⟩:=hx.sl_at r hb;have h3:zv.cells.size=s:=by rw[h9.1,h0]
     have hh:(Builtin.zeroCells zv.cells len).size=len*s:=by rw[size_zeroCells,h3]
     have ha:∀ (i:Nat) (c:V) (u:Value),(bj (cG z) len)[i]?=some c->(Builtin.zeroCells zv.cells len).toList[i]?=some u->R m h w c u:=by
      intro i c u hc h4;rw[fK h0 h7]at hc;split at hc
      ·rename_i hj;simp only[Ng]at h4;rw[sa (by rw[h3];exact hj),h3]at h4;exact h9.2 _ c u hc h4
      ·cases hc
     have hlen:(Builtin.zeroCells zv.cells len).toList.length=(bj (cG z) len).length:=by
      rw[fF,h0];simpa using hh
     have h1:∀ u∈(Builtin.zeroCells zv.cells len).toList,u.oneCell'=true:=by
      refine zi (m:=m) (h:=h) (w:=w) (new:=bj (cG z) len) ?_ hlen ha;rw[Lk]at h8 ⊢;intro c hc;obtain⟨i,hi,rfl⟩:=LV hc;have h2:=K4 hi;rw[fK h0 h7]at h2;split at h2
      ·exact h8 _ (K6 h2)
      ·cases h2
     obtain⟨w',h6,e,r'⟩:=gJ (P:=P) r hg hb hy hlen ha h1;refine⟨.tuple #[],w',?_,m,e,r',.tup rfl fun i c v h=>by simp at h⟩;cases len with
     | zero=>exact absurd rfl hl
     | succ len=>simp[Builtin.clear_,run_underlying hu,hd,h6]
    grind
   grind
 grind
end
end Go.Ab
namespace Go.Ab
open Go.Instr
def fnd:List (Int×Int)->Int->Nat->Option (Nat×Int)
 | [],_,_=>none
 | (a,v)::r,x,i=>if x==a then some (i,v) else fnd r x (i+1)
theorem vC(x:Int):∀ (l:List (Int×Int)) (i:Nat),(fnd l x i).map (·.2)=oO l x
 | [],_=>rfl
 | (a,v)::r,i=>by
  simp only[fnd,oO];split
  ·rfl
  ·exact vC x r (i+1)
theorem C2(x:Int):∀ (l:List (Int×Int)) (i j:Nat) (v:Int),fnd l x i=some (j,v)->i<=j
 | [],_,_,_,h=>by grind[fnd]
 | (a,u)::r,i,j,v,h=>by
  simp only[fnd]at h;split at h
  ·simp_all
  ·have:=C2 x r (i+1) j v h;omega
theorem qk{k e:IntKind}{x:Int}:∀ (es:List MapEntry) (l:List (Int×Int)) (i:Nat),es.map (fun q=>(q.key,q.val))=l.map (fun q=>(Value.int k q.1,Value.int e q.2)) ->
  findNow (.int k) (.int k x) es i=some ((fnd l x i).map fun q=>(q.1,Value.int e q.2))
 | [],[],i,_=>rfl
 | [],_::_,i,h=>by simp at h
 | _::_,[],i,h=>by simp at h
 | q::es,(a,v)::l,i,h=>by
  simp only[Mk,Ny,Lj]at h;obtain⟨⟨h1,h2⟩,h3⟩:=h;simp only[findNow,h1,sameNow,if_true,fnd];by_cases h0:x=a
  ·simp_all
  ·have e1:(x==a)=false:=by simp_all
   simp only[e1,Lv,if_false];exact qk es l (i+1) h3
theorem sP{x y:Int}:∀ (l:List (Int×Int)) (i:Nat),fnd l x i=none->lJ l x y=l++[(x,y)]
 | [],_,_=>rfl
 | (a,v)::l,i,h=>by
  simp only[fnd]at h;split at h
  ·cases h
  ·rename_i h0;simp only[lJ,h0,if_false,LM,Lv];rw[sP l (i+1) h]
theorem sQ{k e:IntKind}{x y:Int}{b:Nat}:∀ (es:List MapEntry) (l:List (Int×Int)) (i j:Nat) (v:Int),es.map (fun q=>(q.key,q.val))=l.map (fun q=>(Value.int k q.1,Value.int e q.2))->fnd l x i=some (i+j,v) ->
  (es.modify j fun q=>{ q with key:=Value.int k x,val:=Value.int e y }).map (fun q=>(q.key,q.val))=(lJ l x y).map (fun q=>(Value.int k q.1,Value.int e q.2))/\(es[j]?).map (·.key)=some (Value.int k x)
 | [],[],i,j,v,_,h=>by grind[fnd]
 | [],_::_,i,j,v,h,_=>by simp at h
 | _::_,[],i,j,v,h,_=>by simp at h
 | q::es,(a,u)::l,i,j,v,h,hf=>by
  simp only[Mk,Ny,Lj]at h;obtain⟨⟨h1,h2⟩,h3⟩:=h;simp only[fnd]at hf;split at hf
  ·grind[lJ]
  ·rename_i h0;have h4:=C2 x l (i+1) (i+j) v hf;obtain⟨j',rfl⟩:∃ j',j=j'+1:=⟨j-1,by omega⟩;have ih:=sQ (b:=b) (y:=y) es l (i+1) j' v h3 (by rw[hf];grind);simp_all[lJ,if_false,Lv,List.modify_succ_cons,Mk,LG]
section
variable {P:Program}{m:Mu}{h:Heap}{w:World}
theorem ou{t:TypeId}{k e:IntKind}(hk:gn P t=some (k,e)):∃ a b,P.underlying t=some (.map a b)/\P.underlying a=some (.int k)/\P.underlying b=some (.int e)/\zeroOf P b=some (.int e 0):=by
 grind[gn]
theorem rY(r:Rel m h w)(k e:IntKind):Rel (upd m h.length w.heap.size) (h++[some [.mp k e []]]) (w.alloc (.map #[] 0)):=by
 have ev:=cR (m:=m) (h:=h) (w:=w) [.mp k e []] (.map #[] 0);refine⟨fun x b hl hb hz=>?_,fun b hb=>Lu (r.zl b hb) ev.size,fun x y b hx hy h0 h3=>?_,fun x cs' b hx hb=>?_⟩
 ·rcases aK hl with h1|rfl
  ·simp only[upd,LL h1,if_false]at hb;exact r.zo x b ((bf h1).1 hl) hb hz
  ·simp only[upd,if_true,K7]at hb;have:=r.zl b hz;omega
 ·rcases aK hx with h1|rfl
  ·rcases aK hy with h2|rfl
   ·simp only[upd,LL h1,LL h2,if_false]at h0 h3;exact r.inj x y b ((bf h1).1 hx) ((bf h2).1 hy) h0 h3
   ·simp only[upd,LL h1,if_false,if_true,K7]at h0 h3;have:=r.lt x b ((bf h1).1 hx) h0;omega
  ·rcases aK hy with h2|rfl
   ·simp only[upd,LL h2,if_false,if_true,K7]at h0 h3;have:=r.lt y b ((bf h2).1 hy) h3;omega
   ·rfl
 ·rcases aK ⟨cs',hx⟩ with h1|rfl
  ·rw[K8 h1]at hx;simp only[upd,LL h1,if_false]at hb;exact (r.blk x cs' b hx hb).carry (eY (r.lt x b ⟨cs',hx⟩ hb)) fun c v _ h4=>h4.evo ev r.lt
  ·simp only[upd,if_true,K7]at hb;subst hb;simp at hx;subst hx;exact .inr (.inl ⟨k,e,[],#[],0,rfl,gv,rfl⟩)
theorem jL(r:Rel m h w):Rel (upd m h.length w.heap.size) (h++[some [.mq []]]) (w.alloc (.map #[] 0)):=by
 have ev:=cR (m:=m) (h:=h) (w:=w) [.mq []] (.map #[] 0);refine⟨fun x b hl hb hz=>?_,fun b hb=>Lu (r.zl b hb) ev.size,fun x y b hx hy h0 h3=>?_,fun x cs' b hx hb=>?_⟩
 ·rcases aK hl with h1|rfl
  ·simp only[upd,LL h1,if_false]at hb;exact r.zo x b ((bf h1).1 hl) hb hz
  ·simp only[upd,if_true,K7]at hb;have:=r.zl b hz;omega
 ·rcases aK hx with h1|rfl
  ·rcases aK hy with h2|rfl
   ·simp only[upd,LL h1,LL h2,if_false]at h0 h3;exact r.inj x y b ((bf h1).1 hx) ((bf h2).1 hy) h0 h3
   ·simp only[upd,LL h1,if_false,if_true,K7]at h0 h3;have:=r.lt x b ((bf h1).1 hx) h0;omega
  ·rcases aK hy with h2|rfl
   ·simp only[upd,LL h2,if_false,if_true,K7]at h0 h3;have:=r.lt y b ((bf h2).1 hy) h3;omega
   ·rfl
 ·rcases aK ⟨cs',hx⟩ with h1|rfl
  ·rw[K8 h1]at hx;simp only[upd,LL h1,if_false]at hb;exact (r.blk x cs' b hx hb).carry (eY (r.lt x b ⟨cs',hx⟩ hb)) fun c v _ h4=>h4.evo ev r.lt
  ·simp only[upd,if_true,K7]at hb;subst hb;simp at hx;subst hx;exact .inr (.inr ⟨[],#[],0,rfl,gv,rfl,by simp⟩)
theorem ym(r:Rel m h w){t:TypeId}{x:V}{h':Heap}(hy:dA P h t=some (x,h')):∃ v w',(makeMap t none).run P w=.ok v w'/\Out m h w x h' v w':=by
 unfold dA at hy;split at hy
 ·rename_i k e hk;cases hy;exact⟨_,_,rfl,_,cR _ _,rY r k e,.mref (by simp) fun _=>by simp[upd]⟩
 ·split at hy
  ·cases hy;exact⟨_,_,rfl,_,cR _ _,jL r,.mref (by simp) fun _=>by simp[upd]⟩
  ·split at hy
   ·cases hy;exact⟨_,_,rfl,_,cR _ _,jL r,.mref (by simp) fun _=>by simp[upd]⟩
   ·cases hy
theorem R.mref_at(r:Rel m h w){x:Nat}{v:Value}{k e:IntKind}{l:List (Int×Int)}(hv:R m h w (.mref x) v)(hb:mapOf h x=some (k,e,l)):
  ∃ b es clock,m x=some b/\v=.map (some b)/\w.heap[b]?=some (.map es clock)/\uH k e l es:=by
 have hc:=gF hb;cases hv with
 | mref h3 hv =>
  have h0:=hv ⟨_,hc⟩;rcases r.blk x _ _ hc h0 with⟨arr,T,ha,hl,hr⟩|⟨k',e',l',es,clock,heq,ha,hm⟩|⟨l',es,clock,heq,_⟩
  ·obtain⟨u,_,hu⟩:=hr 0 (.mp k e l) rfl;cases hu
  ·simp_all
  grind
theorem rP(n:Nat){em:Bool}{t:TypeId}{k:IntKind}{x:Int}(hu:P.underlying t=some (.int k)):(checkKey em (n+1) t (.int k x)).run P w=.ok () w:=by
 simp_all[checkKey,Sem.run_bind,run_underlying,Result.andThen_ok,Sem.run_pure]
theorem dL{em:Bool}{t:TypeId}{k:IntKind}{x:Int}(hu:P.underlying t=some (.int k)):(checkKey em 10000 t (.int k x)).run P w=.ok () w:=rP 9999 hu
theorem dg{r:Nat}{es:Array MapEntry}{clock:Nat}(hb:w.heap[r]?=some (.map es clock)):(getObj r).run P w=.ok (.map es clock) w:=by
 grind[getObj,Sem.run]
theorem jy{t:TypeId}{k e:IntKind}{x:Int}{es:Array MapEntry}{l:List (Int×Int)}(hu:P.underlying t=some (.int k))(hm:uH k e l es):
  (findKey t (.int k x) es.toList).run P w=.ok ((fnd l x 0).map fun q=>(q.1,Value.int e q.2)) w:=by
 simp only[findKey,Sem.run_bind,run_underlying hu,Result.andThen_ok,qk es.toList l 0 hm,Sem.run_pure]
theorem BD{v:Value}{k:IntKind}{n:Int}(h:jF v=some (.int k n)):v=.int k n:=by
 unfold jF at h;split at h
 ·simp at h
 ·split at h<;>simp at h
 ·unfold iP at h;split at h<;>simp at h;simp_all
theorem qt{fn:Fn}{f c:List V}(hf:kQ (.func fn f c)=true):f=[]/\c=[]:=by
 unfold kQ at hf;split at hf<;>simp_all
theorem vY{v:V}(hf:kQ v=true):R m h w v (tW v):=by
 cases v with
 | func fn f c =>
  obtain⟨rfl,rfl⟩:=qt hf;exact .func rfl (fun i c v h=>by simp) rfl (fun i c v h=>by simp)
 | nilf=>exact .nilf
 | bool b=>exact .bool _
 | int k n=>exact .int _ _
 | _=>simp[kQ]at hf
theorem uI{v:V}{x:Value}(hf:kQ v=true)(hr:R m h w v x):x=tW v:=by
 cases v with
 | func fn f c =>
  obtain⟨rfl,rfl⟩:=qt hf;cases hr with
  | func hl _ h0 _ =>
   rw[L5 hl,L5 h0];rfl
 | nilf=>cases hr;rfl
 | bool b=>cases hr;rfl
 | int k n=>cases hr;rfl
 | _=>simp[kQ]at hf
theorem pB{v:V}(hf:dq v=true):R m h w v (valOf v):=by
 cases v with
 | agg cs =>
  refine .agg (by simp) fun i c x hc hx=>?_;simp only[NM,Lh,hc,LX,K7]at hx;subst hx;exact vY (Lk.1 hf c (K6 hc))
 | func fn f c=>exact vY hf
 | nilf=>exact .nilf
 | bool b=>exact .bool _
 | int k n=>exact .int _ _
 | _=>simp[dq,kQ]at hf
theorem tw{v:V}{x:Value}(hf:dq v=true)(hr:R m h w v x):x=valOf v:=by
 cases v with
 | agg cs =>
  cases hr with
  | agg hl hr =>
   rename_i vs;show Value.agg vs=Value.agg _;congr 1;refine Array.ext (by simp_all) fun i h1 h2=>?_;have hi:i<cs.length:=by omega
   have:=hr i cs[i] vs[i] (K4 hi) (Lf h1);rw[uI (Lk.1 hf _ (MA hi)) this];simp
 | func fn f c=>exact uI hf hr
 | nilf=>cases hr;rfl
 | bool b=>cases hr;rfl
 | int k n=>cases hr;rfl
 | _=>simp[dq,kQ]at hf
theorem sL{t a:TypeId}{fs:List Field}{z:V}(hk:lH P t=some (a,fs,z)):∃ b fields,P.underlying t=some (.map a b)/\P.underlying a=some (.struct fields)/\fields.toList=fs/\zeroOf P b=some z/\eS P 0 fs=true/\dq z=true:=by
 unfold lH at hk
 grind
theorem kP{a:TypeId}{key:V}{kv:Value}(hk:R m h w key kv):∀ (es:List MapEntry) (l:List (List V)) (i:Nat) (r:Option V),es.map (fun x=>(x.key,x.val))=l.map (fun e=>(valOf (e.headD .no),valOf (e.getD 1 .no))) ->
  (∀ e∈l,∃ k v,e=[k,v]/\dq k=true/\dq v=true)->findS P a key l=some r->∃ j,(findAsking a kv es i).run P w=.ok (r.map fun y=>(j,valOf y)) w/\∀ y,r=some y->dq y=true
 | [],[],i,r,_,_,hf=>by
  simp only[findS,K7]at hf;subst hf;simp_all[findAsking]
 | [],_::_,_,_,he,_,_=>by grind
 | _::_,[],_,_,he,_,_=>by grind
 | q::es,e::l,i,r,he,hl,hf=>by
  obtain⟨k,v,rfl,h1,h2⟩:=hl e (Ll ..);simp only[Mk,Ny,Lj,Ov,NW,NX]at he;obtain⟨⟨h6,h7⟩,h3⟩:=he;simp only[findS]at hf;split at hf
  ·rename_i heq;cases hf;obtain⟨h0,_⟩:=oY (P:=P) (w:=w) hk (pB h1) heq;simp_all[findAsking,Sem.run_bind,Result.andThen_ok,if_true,Sem.run_pure,LX]
  ·rename_i heq;obtain⟨h0,_⟩:=oY (P:=P) (w:=w) hk (pB h1) heq;obtain⟨j,hj,h4⟩:=kP hk es l (i+1) r h3 (fun e he=>hl e (Lc _ he)) hf;refine⟨j,?_,h4⟩;simp_all[findAsking,Sem.run_bind,Result.andThen_ok,Lv,if_false]
  grind
theorem nm{a:TypeId}{fields:Array Field}{ks:List V}{vs:Array Value}{es:Array MapEntry}{l:List (List V)}{r:Option V}(hu:P.underlying a=some (.struct fields))(hk:R m h w (.agg ks) (.agg vs))(hm:xz l es)(hf:findS P a (.agg ks) l=some r):
  ∃ j,(findKey a (.agg vs) es.toList).run P w=.ok (r.map fun y=>(j,valOf y)) w/\∀ y,r=some y->dq y=true:=by
 obtain⟨j,hj,h0⟩:=kP (P:=P) hk es.toList l 0 r hm.1 hm.2 hf;refine⟨j,?_,h0⟩;cases h3:es.toList with
 | nil =>
  simp_all[findKey,Sem.run_bind,run_underlying,Result.andThen_ok,findNow,Sem.run_pure,findAsking]
 | cons q es' =>
  simp_all[findNow,sameNow,findKey,Sem.run_bind,run_underlying,Result.andThen_ok]
theorem pU{n:Nat}{em:Bool}{t:TypeId}{x:Value}{T:TypeDesc}(hu:P.underlying t=some T)(hT:(∃ k,T=.int k)\/T=.bool):(checkKey em (n+1) t x).run P w=.ok () w:=by
 rcases hT with⟨k,rfl⟩|rfl<;>simp only[checkKey,Sem.run_bind,run_underlying hu,Result.andThen_ok,Sem.run_pure]
theorem nj{n:Nat}{em:Bool}{a:TypeId}{fields:Array Field}{vs:Array Value}(hu:P.underlying a=some (.struct fields))(hk:eS P 0 fields.toList=true)(hl:vs.size=fields.toList.length):(checkKey em (n+1+1) a (.agg vs)).run P w=.ok () w:=by
 have key:∀ (fs:List Field) (i:Nat),eS P i fs=true->i+fs.length<=vs.size ->
   (forIn (m:=Sem) fs PUnit.unit fun f _=>do
    if f.name ≠ "_" then checkKey em (n + 1) f.type (← Go.part f.type vs f.offset)
    pure (ForInStep.yield PUnit.unit)).run P w=.ok PUnit.unit w:=by
  intro fs
  induction fs with
  | nil=>simp
  | cons f fs ih =>
   intro i h3 h6;simp only[eS,Ld,decide_eq_true_eq]at h3;obtain⟨⟨h0,h9⟩,h4⟩:=h3;simp only[Lp]at h6;obtain⟨T,hT,h7⟩:∃ T,P.underlying f.type=some T/\((∃ k,T=.int k)\/T=.bool):=by
    grind
   have h8:oL P f.type=some false:=by
    rcases h7 with⟨k,rfl⟩|rfl<;>simp[oL,hT]
   have hp:(Go.part f.type vs f.offset).run P w=.ok vs[i] w:=by simp[Go.part,eZ h8,h0,show i<vs.size by omega]
   rw[List.forIn_cons]
   grind[Sem.run_bind,pU,Result.andThen_ok,Sem.run_pure]
 unfold checkKey;simp only[Sem.run_bind,run_underlying hu,Result.andThen_ok];have:=key fields.toList 0 hk (by omega);simp_all
theorem jh{em:Bool}{a:TypeId}{fields:Array Field}{vs:Array Value}(hu:P.underlying a=some (.struct fields))(hk:eS P 0 fields.toList=true)(hl:vs.size=fields.toList.length):(checkKey em 10000 a (.agg vs)).run P w=.ok () w:=nj (n:=9998) hu hk hl
theorem R.mref_atS(r:Rel m h w){x:Nat}{v:Value}{l:List (List V)}(hv:R m h w (.mref x) v)(hb:iL h x=some l):
  ∃ b es clock,m x=some b/\v=.map (some b)/\w.heap[b]?=some (.map es clock)/\xz l es:=by
 have hc:=dz hb;cases hv with
 | mref h3 hv =>
  have h0:=hv ⟨_,hc⟩;rcases r.blk x _ _ hc h0 with⟨arr,T,ha,hl,hr⟩|⟨k',e',l',es,clock,heq,ha,hm⟩|⟨l',es,clock,heq,ha,hm⟩
  ·obtain⟨u,_,hu⟩:=hr 0 (.mq l) rfl;cases hu
  ·cases heq
  simp_all
theorem yl(r:Rel m h w){t:TypeId}{x key:V}{xv kv:Value}{ok:Bool}{y:V}(hx:R m h w x xv)(hk:R m h w key kv)(hy:pn P h t x key ok=some y):∃ v,(lookup t xv kv ok).run P w=.ok v w/\R m h w y v:=by
 unfold pn at hy;split at hy
 ·rename_i a fs z b ks h9;split at hy
  ·rename_i l hd;split at hy
   ·rename_i hc;simp only[Ld,decide_eq_true_eq]at hc;obtain⟨tb,fields,hu,h0,rfl,hz,he,hn⟩:=sL h9;obtain⟨b',es,clock,ht,rfl,ha,hm⟩:=R.mref_atS r hx hd;obtain⟨zv,hg,hh,_⟩:=bO hz w;have h3:R m h w z zv:=pq hh;cases hk with
    | agg hl hr =>
    rename_i vs;have h4:R m h w (.agg ks) (.agg vs):=.agg hl hr;have h6:=jh (P:=P) (w:=w) (em:=es.isEmpty) (vs:=vs) h0 he (by omega);have tup:∀ a b:Value,∀ p q:V,R m h w p a->R m h w q b->R m h w (.tup [p,q]) (.tuple #[a,b]):=fun a b p q hp hq=>.tup rfl fun i c v hc hv=>by
     match i,hc,hv with
     | 0,hc,hv=>simp_all
     | 1,hc,hv=>simp_all
     | i+2,hc,_=>grind
    split at hy
    ·rename_i y' hf;obtain⟨j,hj,h7⟩:=nm (P:=P) h0 h4 hm hf;cases hy;have h8:R m h w y' (valOf y'):=pB (h7 y' rfl);refine⟨if ok then .tuple #[valOf y',.bool true] else valOf y',?_,?_⟩
     ·simp only[lookup,Sem.run_bind,run_underlying hu,Result.andThen_ok,dg ha,Sem.run_pure,h6,hj,LX]
     ·cases ok
      ·exact h8
      ·exact tup _ _ _ _ h8 (.bool _)
    ·rename_i hf;obtain⟨j,hj,h7⟩:=nm (P:=P) h0 h4 hm hf;cases hy;refine⟨if ok then .tuple #[zv,.bool false] else zv,?_,?_⟩
     ·simp only[lookup,Sem.run_bind,run_underlying hu,Result.andThen_ok,dg ha,Sem.run_pure,h6,hj,M6,hg]
     ·cases ok
      ·exact h3
      ·exact tup _ _ _ _ h3 (.bool _)
    grind
   grind
  grind
 grind
theorem sK{t a:TypeId}{k:IntKind}{z:V}(hk:qK P t=some (a,k,z)):∃ b,P.underlying t=some (.map a b)/\P.underlying a=some (.int k)/\zeroOf P b=some z/\dq z=true:=by
 grind[qK]
theorem nW{k:IntKind}{x:Int}:∀ (es:List MapEntry) (l:List (List V)) (i:Nat) (r:Option V),es.map (fun x=>(x.key,x.val))=l.map (fun e=>(valOf (e.headD .no),valOf (e.getD 1 .no))) ->
  (∀ e∈l,∃ k v,e=[k,v]/\dq k=true/\dq v=true)->nV k x l=some r->∃ j,findNow (.int k) (.int k x) es i=some (r.map fun y=>(j,valOf y))/\∀ y,r=some y->dq y=true
 | [],[],i,r,_,_,hf=>by
  simp only[nV,K7]at hf;subst hf;simp_all[findNow]
 | [],_::_,_,_,he,_,_=>by grind
 | _::_,[],_,_,he,_,_=>by grind
 | q::es,e::l,i,r,he,hl,hf=>by
  obtain⟨kk,v,rfl,h1,h2⟩:=hl e (Ll ..);simp only[Mk,Ny,Lj,Ov,NW,NX]at he;obtain⟨⟨h0,h7⟩,h4⟩:=he;cases kk with
  | int k' y =>
   simp only[nV]at hf;split at hf
   ·rename_i hk;subst hk;have h0:q.key=.int k' y:=h0;split at hf
    ·rename_i h3;subst h3;cases hf;refine⟨i,?_,fun y hy=>by simp_all⟩
     grind[findNow,sameNow]
    ·rename_i h3;obtain⟨j,hj,h6⟩:=nW es l (i+1) r h4 (fun e he=>hl e (Lc _ he)) hf;refine⟨j,?_,h6⟩;have e1:(x==y)=false:=by simp_all
     simp only[findNow,h0,sameNow,if_true,e1,Lv,if_false];exact hj
   grind
  | _=>simp[nV]at hf
theorem qj{a:TypeId}{k:IntKind}{x:Int}{es:Array MapEntry}{l:List (List V)}{r:Option V}(hu:P.underlying a=some (.int k))(hm:xz l es)(hf:nV k x l=some r):
  ∃ j,(findKey a (.int k x) es.toList).run P w=.ok (r.map fun y=>(j,valOf y)) w/\∀ y,r=some y->dq y=true:=by
 obtain⟨j,hj,h0⟩:=nW es.toList l 0 r hm.1 hm.2 hf;exact⟨j,by simp_all[findKey,Sem.run_bind,run_underlying,Result.andThen_ok,Sem.run_pure],h0⟩
theorem yk(r:Rel m h w){t:TypeId}{x:V}{k1:IntKind}{q:Int}{xv:Value}{ok:Bool}{y:V}(hx:R m h w x xv)(hy:tY P h t x k1 q ok=some y):∃ v,(lookup t xv (.int k1 q) ok).run P w=.ok v w/\R m h w y v:=by
 unfold tY at hy;split at hy
 ·rename_i a k z b h7;split at hy
  ·rename_i l h8;split at hy
   ·rename_i hc;subst hc;obtain⟨tb,hu,h0,hz,he⟩:=sK h7;obtain⟨b',es,clock,hg,rfl,ha,hm⟩:=R.mref_atS r hx h8;obtain⟨zv,h9,hd,_⟩:=bO hz w;have h3:R m h w z zv:=pq hd;have tup:∀ a b:Value,∀ p q:V,R m h w p a->R m h w q b->R m h w (.tup [p,q]) (.tuple #[a,b]):=fun a b p q hp hq=>.tup rfl fun i c v hc hv=>by
     match i,hc,hv with
     | 0,hc,hv=>simp_all
     | 1,hc,hv=>simp_all
     | i+2,hc,_=>grind
    split at hy
    ·rename_i y' hf;obtain⟨j,hj,h4⟩:=qj (P:=P) (w:=w) h0 hm hf;cases hy;have h6:R m h w y' (valOf y'):=pB (h4 y' rfl);refine⟨if ok then .tuple #[valOf y',.bool true] else valOf y',?_,?_⟩
     ·simp only[lookup,Sem.run_bind,run_underlying hu,Result.andThen_ok,dg ha,Sem.run_pure,dL h0,hj,LX]
     ·cases ok
      ·exact h6
      ·exact tup _ _ _ _ h6 (.bool _)
    ·rename_i hf;obtain⟨j,hj,h4⟩:=qj (P:=P) (w:=w) h0 hm hf;cases hy;refine⟨if ok then .tuple #[zv,.bool false] else zv,?_,?_⟩
     ·simp only[lookup,Sem.run_bind,run_underlying hu,Result.andThen_ok,dg ha,Sem.run_pure,dL h0,hj,M6,h9]
     ·cases ok
      ·exact h3
      ·exact tup _ _ _ _ h3 (.bool _)
    grind
   grind
  grind
 grind
theorem BA(r:Rel m h w){t:TypeId}{x key:V}{xv kv:Value}{ok:Bool}{y:V}(hx:R m h w x xv)(hk:R m h w key kv)(hy:fj P h t x key ok=some y):∃ v,(lookup t xv kv ok).run P w=.ok v w/\R m h w y v:=by
 unfold fj at hy;split at hy
 ·rename_i k e b k1 q h6;split at hy
  ·rename_i k2 e2 l h7;split at hy
   ·rename_i hc;simp only[Ld,decide_eq_true_eq]at hc;obtain⟨⟨rfl,rfl⟩,rfl⟩:=hc;obtain⟨b',es,clock,hd,rfl,ha,hm⟩:=R.mref_at r hx h7;cases hk;obtain⟨ta,tb,hu,h4,he,hz⟩:=ou h6;obtain⟨zv,h8,h9,_⟩:=bO hz w;obtain rfl:=BD h9;have hg:=vC q l 0;have h0:∀ res,fnd l q 0=res->(lookup t (.map (some b')) (.int k q) ok).run P w=.ok (match res with
      | some p=>if ok then .tuple #[.int e p.2,.bool true] else .int e p.2
      | none=>if ok then .tuple #[.int e 0,.bool false] else .int e 0) w:=by
     intro res h3;simp only[lookup,Sem.run_bind,run_underlying hu,Result.andThen_ok,dg ha,Sem.run_pure,dL h4,jy h4 hm,h3];cases res with
     | none=>simp[h8]
     | some p=>simp
    have tup:∀ a b:Value,∀ p q:V,R m h w p a->R m h w q b->R m h w (.tup [p,q]) (.tuple #[a,b]):=fun a b p q hp hq=>.tup rfl fun i c v hc hv=>by
     match i,hc,hv with
     | 0,hc,hv=>simp at hc hv;subst hc hv;exact hp
     | 1,hc,hv=>simp at hc hv;subst hc hv;exact hq
     | i+2,hc,_=>simp at hc
    cases hf:fnd l q 0 with
    | none =>
     rw[hf]at hg;simp only[M6]at hg;rw[<- hg]at hy;simp only[K7]at hy;refine⟨_,h0 none hf,?_⟩;cases ok<;>simp only[if_true,Lv,if_false]at hy ⊢<;>subst hy
     ·exact .int _ _
     ·exact tup _ _ _ _ (.int _ _) (.bool _)
    | some p =>
     rw[hf]at hg;simp only[LX]at hg;rw[<- hg]at hy;simp only[K7]at hy;refine⟨_,h0 (some p) hf,?_⟩;cases ok<;>simp only[if_true,Lv,if_false]at hy ⊢<;>subst hy
     ·exact .int _ _
     ·exact tup _ _ _ _ (.int _ _) (.bool _)
   ·cases hy
  ·cases hy
 ·cases hk;exact yk r hx hy
 ·exact yl r hx hk hy
 ·cases hy
theorem map_set(r:Rel m h w){x b:Nat}{k e:IntKind}{l l':List (Int×Int)}{es es':Array MapEntry}{clock clock':Nat}(hx:h[x]?=some (some [.mp k e l]))(hb:m x=some b)(ha:w.heap[b]?=some (.map es clock))(hm:uH k e l' es'):
  Evo m h w m (h.set x (some [.mp k e l'])) { w with heap:=w.heap.setIfInBounds b (.map es' clock') }/\Rel m (h.set x (some [.mp k e l'])) { w with heap:=w.heap.setIfInBounds b (.map es' clock') }:=by
 have h3:live h x:=⟨_,hx⟩;have h0:∀ c,c≠b->(w.heap.setIfInBounds b (.map es' clock'))[c]?=w.heap[c]?:=fun c hc=>Ms (fun e=>hc e.symm);have hd:b<w.heap.size:=r.lt x b h3 hb;have ev:Evo m h w m (h.set x (some [.mp k e l'])) { w with heap:=w.heap.setIfInBounds b (.map es' clock') }:={
  zeq:=rfl
  len:=by simp
  keep:=fun y _ hl=>⟨(bT h3).1 hl,rfl⟩
  own:=fun y c hl hc=>.inl ⟨y,(bT h3).1 hl,hc⟩
  frame:=fun c _ hn=>h0 c fun h4=>hn x h3 (h4 ▸ hb)
  size:=by simp
  rs:=fun c _=>by
   by_cases h4:c=b
   ·grind[rsz]
   ·rw[cF (w:=w) (w':={ w with heap:=w.heap.setIfInBounds b (.map es' clock') }) (h0 c h4)];omega
  os:=rfl
  tape:=rfl
  output:=rfl }
 refine⟨ev,fun y c hy hc=>r.zo y c ((bT h3).1 hy) hc,fun c hc=>Lu (r.zl c hc) ev.size,fun y z c hy hz h7 h8=>r.inj y z c ((bT h3).1 hy) ((bT h3).1 hz) h7 h8,fun y cs' c hy hc=>?_⟩;by_cases h6:x=y
 ·subst h6;rw[Lm (fh h3)]at hy;cases hy;rw[hb]at hc;cases hc;exact .inr (.inl ⟨k,e,l',es',clock',rfl,by grind,hm⟩)
 ·rw[Lb h6]at hy;have h4:c≠b:=fun e=>h6 (r.inj x y b h3 ⟨cs',hy⟩ hb (e ▸ hc));exact (r.blk y cs' c hy hc).carry (h0 c h4) fun d v _ h9=>h9.evo ev r.lt
theorem wa(r:Rel m h w){x b:Nat}{l l':List (List V)}{es es':Array MapEntry}{clock clock':Nat}(hx:h[x]?=some (some [.mq l]))(hb:m x=some b)(ha:w.heap[b]?=some (.map es clock))(hm:xz l' es'):
  Evo m h w m (h.set x (some [.mq l'])) { w with heap:=w.heap.setIfInBounds b (.map es' clock') }/\Rel m (h.set x (some [.mq l'])) { w with heap:=w.heap.setIfInBounds b (.map es' clock') }:=by
 have h3:live h x:=⟨_,hx⟩;have h0:∀ c,c≠b->(w.heap.setIfInBounds b (.map es' clock'))[c]?=w.heap[c]?:=fun c hc=>Ms (fun e=>hc e.symm);have hd:b<w.heap.size:=r.lt x b h3 hb;have ev:Evo m h w m (h.set x (some [.mq l'])) { w with heap:=w.heap.setIfInBounds b (.map es' clock') }:={
  zeq:=rfl
  len:=by simp
  keep:=fun y _ hl=>⟨(bT h3).1 hl,rfl⟩
  own:=fun y c hl hc=>.inl ⟨y,(bT h3).1 hl,hc⟩
  frame:=fun c _ hn=>h0 c fun h4=>hn x h3 (h4 ▸ hb)
  size:=by simp
  rs:=fun c _=>by
   by_cases h4:c=b
   ·grind[rsz]
   ·rw[cF (w:=w) (w':={ w with heap:=w.heap.setIfInBounds b (.map es' clock') }) (h0 c h4)];omega
  os:=rfl
  tape:=rfl
  output:=rfl }
 refine⟨ev,fun y c hy hc=>r.zo y c ((bT h3).1 hy) hc,fun c hc=>Lu (r.zl c hc) ev.size,fun y z c hy hz h7 h8=>r.inj y z c ((bT h3).1 hy) ((bT h3).1 hz) h7 h8,fun y cs' c hy hc=>?_⟩;by_cases h6:x=y
 ·subst h6;rw[Lm (fh h3)]at hy;cases hy;rw[hb]at hc;cases hc;exact .inr (.inr ⟨l',es',clock',rfl,by grind,hm⟩)
 ·rw[Lb h6]at hy;have h4:c≠b:=fun e=>h6 (r.inj x y b h3 ⟨cs',hy⟩ hb (e ▸ hc));exact (r.blk y cs' c hy hc).carry (h0 c h4) fun d v _ h9=>h9.evo ev r.lt
theorem jb{r:Nat}{es:Array MapEntry}{clock:Nat}(o:Obj)(hb:w.heap[r]?=some (.map es clock)):(setObj r o).run P w=.ok () { w with heap:=w.heap.setIfInBounds r o }:=MapKept.run_setObj_map o hb
theorem rV(r:Rel m h w){cfg:Cfg}{t:TypeId}{a b c:V}{av bv cv:Value}{h':Heap}(ha:R m h w a av)(hb:R m h w b bv)(hc:R m h w c cv)(hy:mapUpdateS P cfg h t a b c=some h'):
  ∃ w',(mapUpdate t av bv cv).run P w=.ok () w'/\Evo m h w m h' w'/\Rel m h' w':=by
 unfold mapUpdateS at hy;split at hy
 ·rename_i ty fs z x ks h6;split at hy
  ·rename_i l h0;split at hy
   ·rename_i h3;simp only[Ld,decide_eq_true_eq]at h3;obtain⟨⟨⟨h7,h8⟩,hlen⟩,_⟩:=h3;split at hy
    ·rename_i hf;cases hy;obtain⟨tb,fields,hu,h4,rfl,hz,h9,hq⟩:=sL h6;obtain⟨b',es,clock,hd,rfl,hw,hm⟩:=R.mref_atS r ha h0;have ht:=tw h7 hb;have hv:=tw h8 hc;cases hb with
     | agg hl hr =>
     rename_i vs;have hg:R m h w (.agg ks) (.agg vs):=.agg hl hr;have hh:=jh (P:=P) (w:=w) (em:=false) (vs:=vs) h4 h9 (by omega);obtain⟨j,hj,_⟩:=nm (P:=P) h4 hg hm hf;have hn:xz (l++[[.agg ks,c]]) (es.push { key:=.agg vs,val:=cv,born:=clock }):=by
      refine⟨?_,fun e he=>?_⟩
      ·rw[Ob,LR,LR,hm.1];simp_all
      ·rcases LB.1 he with he|he
       ·exact hm.2 e he
       grind
     obtain⟨ev,rl⟩:=wa (clock':=clock+1) r (dz h0) hd hw hn;refine⟨_,?_,ev,rl⟩;simp only[mapUpdate,Sem.run_bind,run_underlying hu,Result.andThen_ok,dg hw,hh,hj,M6,jb _ hw]
    grind
   grind
  grind
 grind
theorem rU(r:Rel m h w){cfg:Cfg}{t:TypeId}{a c:V}{k1:IntKind}{q:Int}{av cv:Value}{h':Heap}(ha:R m h w a av)(hc:R m h w c cv)(hy:mapUpdateI P cfg h t a k1 q c=some h'):
  ∃ w',(mapUpdate t av (.int k1 q) cv).run P w=.ok () w'/\Evo m h w m h' w'/\Rel m h' w':=by
 unfold mapUpdateI at hy;split at hy
 ·rename_i ty k z x h7;split at hy
  ·rename_i l h0;split at hy
   ·rename_i h3;simp only[Ld,decide_eq_true_eq]at h3;obtain⟨⟨rfl,h4⟩,_⟩:=h3;split at hy
    ·rename_i hf;cases hy;obtain⟨tb,hu,h6,hz,hg⟩:=sK h7;obtain⟨b',es,clock,h8,rfl,hw,hm⟩:=R.mref_atS r ha h0;have h9:=tw h4 hc;obtain⟨j,hj,_⟩:=qj (P:=P) (w:=w) h6 hm hf;have hd:xz (l++[[.int k q,c]]) (es.push { key:=.int k q,val:=cv,born:=clock }):=by
      refine⟨?_,fun e he=>?_⟩
      ·rw[Ob,LR,LR,hm.1];simp only[Mk,List.map_nil,Ov,NW,NX,h9];rfl
      ·rcases LB.1 he with he|he
       ·exact hm.2 e he
       ·rw[LN]at he;exact⟨_,_,he,rfl,h4⟩
     obtain⟨ev,rl⟩:=wa (clock':=clock+1) r (dz h0) h8 hw hd;refine⟨_,?_,ev,rl⟩;simp only[mapUpdate,Sem.run_bind,run_underlying hu,Result.andThen_ok,dg hw,dL h6,hj,M6,jb _ hw]
    grind
   grind
  grind
 grind
theorem mn(r:Rel m h w){cfg:Cfg}{t:TypeId}{a b c:V}{av bv cv:Value}{h':Heap}(ha:R m h w a av)(hb:R m h w b bv)(hc:R m h w c cv)(hy:cr P cfg h t a b c=some h'):
  ∃ w',(mapUpdate t av bv cv).run P w=.ok () w'/\Evo m h w m h' w'/\Rel m h' w':=by
 unfold cr at hy;split at hy
 ·rename_i k e x k1 q e1 y hd;split at hy
  ·rename_i k2 e2 l h7;split at hy
   ·rename_i h8;simp only[Ld,decide_eq_true_eq]at h8;obtain⟨⟨⟨⟨rfl,rfl⟩,rfl⟩,rfl⟩,_⟩:=h8;cases hy;obtain⟨b',es,clock,h9,rfl,hw,hm⟩:=R.mref_at r ha h7;cases hb;cases hc;obtain⟨ta,tb,hu,h4,he,hz⟩:=ou hd;have h0:=gF h7;cases hf:fnd l q 0 with
    | none =>
     have h6:uH k e (lJ l q y) (es.push { key:=.int k q,val:=.int e y,born:=clock }):=by
      rw[sP l 0 hf];unfold uH at hm ⊢;simp[hm]
     obtain⟨ev,rl⟩:=map_set (clock':=clock+1) r h0 h9 hw h6;refine⟨_,?_,ev,rl⟩;simp only[mapUpdate,Sem.run_bind,run_underlying hu,Result.andThen_ok,dg hw,dL h4,jy h4 hm,hf,M6,jb _ hw]
    | some p =>
     obtain⟨j,v⟩:=p;obtain⟨h1,h2⟩:=sQ (b:=0) (y:=y) es.toList l 0 j v hm (by rw[hf,LU]);have h6:uH k e (lJ l q y) (es.modify j fun x=>{ x with key:=.int k q,val:=.int e y }):=by
      unfold uH;rw[<- h1];simp
     obtain⟨ev,rl⟩:=map_set (clock':=clock) r h0 h9 hw h6;refine⟨_,?_,ev,rl⟩;have hk:((es[j]?).map (·.key)).getD (.int k q)=.int k q:=by
      rw[Ng]at h2;rw[h2];rfl
     have h3:sameBits 10000 (.int k q) (.int k q)=true:=by simp[sameBits]
     simp only[mapUpdate,Sem.run_bind,run_underlying hu,Result.andThen_ok,dg hw,dL h4,jy h4 hm,hf,LX,hk,keyThatStays,h3,if_true,Sem.run_pure,jb _ hw]
   ·cases hy
  ·cases hy
 ·cases hb;exact rU r ha hc hy
 ·exact rV r ha hb hc hy
 ·cases hy
end
end Go.Ab
namespace Go.Ab
variable [Base]
inductive Bel (t:Nat):V->Prop where
 | rf {v:V} (h:v.rf=true):Bel t v
 | ptr {b off:Nat} (h:b<t):Bel t (.ptr b off)
 | sl {b off len cap k:Nat} (h:b<t):Bel t (.sl b off len cap k)
 | mref {b:Nat} (h:b<t):Bel t (.mref b)
 | func {fn:Fn} {f c:List V} (h:∀ x∈f,Bel t x) (h':∀ x∈c,Bel t x):Bel t (.func fn f c)
 | agg {cs:List V} (h:∀ x∈cs,Bel t x):Bel t (.agg cs)
 | tup {cs:List V} (h:∀ x∈cs,Bel t x):Bel t (.tup cs)
 | iface {ty:TypeId} {v:V} (h:Bel t v):Bel t (.iface ty v)
def Inv(D:Nat->Prop)(h:Heap)(t:Nat):Prop:=∀ b cs,b<t->D b->h[b]?=some (some cs)->∀ c∈cs,Bel t c
structure HS(cfg:Cfg)(h h':Heap):Prop where
 len:h.length<=h'.length
 prot:∀ b,b<h.length->cfg.wr b=false->h'[b]?=h[b]?
 inv:∀ (D:Nat->Prop) (t:Nat),t<=cfg.thr->t<=h.length->Inv D h t->Inv D h' t
theorem HS.refl(cfg:Cfg)(h:Heap):HS cfg h h:=⟨La _,fun _ _ _=>rfl,fun _ _ _ _ hi=>hi⟩
theorem HS.trans{cfg:Cfg}{h h' h0:Heap}(a:HS cfg h h')(b:HS cfg h' h0):HS cfg h h0:=
 ⟨L9 a.len b.len,fun x hx hw=>(b.prot x (Lu hx a.len) hw).trans (a.prot x hx hw),fun D t h1 h2 hi=>b.inv D t h1 (L9 h2 a.len) (a.inv D t h1 h2 hi)⟩
theorem HS.push(cfg:Cfg)(h:Heap)(o:Option (List V)):HS cfg h (h++[o]):=
 ⟨by simp,fun b hb _=>K8 hb,fun D t _ h2 hi b cs hb hD hc c h0=>by
  rw[K8 (by omega)]at hc;exact hi b cs hb hD hc c h0⟩
theorem BL{cs:List V}{off:Nat}{vs:List V}{c:V}(hc:c∈putAt cs off vs):c∈cs\/c∈vs:=by
 induction vs generalizing cs off with
 | nil=>exact .inl hc
 | cons v r ih =>
  rcases ih hc with h|h<;>grind
theorem HS.storeCells{cfg:Cfg}{h h':Heap}{b off:Nat}{vs:List V}(hs:aJ cfg h b off vs=some h'):HS cfg h h':=by
 unfold aJ at hs;split at hs
 ·rename_i cs hb;split at hs
  ·rename_i hc;simp only[Ld,decide_eq_true_eq,LP]at hc;obtain⟨⟨_,hw⟩,h0⟩:=hc;cases hs;refine⟨by simp,fun x _ hx=>?_,fun D t h1 h2 hi x cs' hx hD hc c h4=>?_⟩
   ·grind
   ·by_cases h6:b=x
    ·subst h6;rw[Lm (fh ⟨cs,aA hb⟩)]at hc;cases hc;rcases BL h4 with h|h
     ·exact hi b cs hx hD (aA hb) c h
     ·rcases h0 with h3|h3
      ·omega
      ·exact .rf (Lk.1 h3 c h)
    ·rw[Lb h6]at hc;exact hi x cs' hx hD hc c h4
  grind
 grind
theorem HS.kill{cfg:Cfg}{h:Heap}{b:Nat}(hw:cfg.wr b=true)(o:Option (List V)):HS cfg h ((h.set b none)++[o]):=by
 refine⟨by simp,fun x hx h4=>?_,fun D t _ h2 hi x cs hx hD hc c h0=>?_⟩
 ·grind
 ·rw[K8 (by grind)]at hc;by_cases h3:b=x
  ·grind
  ·rw[Lb h3]at hc;exact hi x cs hx hD hc c h0
theorem HS.store{P:Program}{cfg:Cfg}{h h':Heap}{t:TypeId}{a v:V}(hs:aN P cfg h t a v=some h'):HS cfg h h':=by
 unfold aN at hs
 grind[HS.storeCells]
theorem HS.append{P:Program}{cfg:Cfg}{h h':Heap}{t u:TypeId}{d x y:V}(hy:bV P cfg h t u d x=some (y,h')):HS cfg h h':=by
 unfold bV at hy;split at hy
 ·split at hy
  ·split at hy
   ·split at hy
    ·split at hy
     ·grind[refl,push]
     ·split at hy
      ·split at hy
       ·split at hy
        ·rename_i h2 h0;simp only[K7,Lj]at hy;obtain⟨_,rfl⟩:=hy;exact HS.storeCells h0
        grind
       ·split at hy
        ·split at hy
         ·rename_i hc;simp only[Ld,decide_eq_true_eq]at hc;simp only[K7,Lj]at hy;obtain⟨_,rfl⟩:=hy
          grind[HS.kill]
         grind
        grind
      grind
     grind
    grind
   grind
  grind
 grind
theorem HS.clear{P:Program}{cfg:Cfg}{h h':Heap}{t:TypeId}{x:V}(hy:iD P cfg h t x=some h'):HS cfg h h':=by
 unfold iD at hy
 grind[refl,HS.storeCells]
theorem HS.makeSlice{P:Program}{cfg:Cfg}{h h':Heap}{t:TypeId}{l c y:V}(hy:cB P h t l c=some (y,h')):HS cfg h h':=by
 unfold cB at hy
 grind[push]
theorem HS.buildSlice{P:Program}{cfg:Cfg}{h h':Heap}{t:TypeId}{n:Nat}{vs:List V}{y:V}(hy:aI P h t n vs=some (y,h')):HS cfg h h':=by
 grind[aI,push]
theorem HS.makeMap{P:Program}{cfg:Cfg}{h h':Heap}{t:TypeId}{y:V}(hy:dA P h t=some (y,h')):HS cfg h h':=by
 grind[dA,push]
theorem HS.setMap{cfg:Cfg}{h:Heap}{b:Nat}{k e:IntKind}{l l':List (Int×Int)}(hb:h[b]?=some (some [.mp k e l]))(hw:cfg.wr b=true):HS cfg h (h.set b (some [.mp k e l'])):=by
 refine⟨by simp,fun c hc h4=>?_,fun D t h1 h2 hi c cs hc hD h0 x hx=>?_⟩
 ·rw[Lb]
  grind
 ·by_cases h3:b=c
  ·subst h3;rw[Lm (K5.1 hb).1]at h0;cases h0;rw[LN.1 hx];exact .rf rfl
  ·rw[Lb h3]at h0;exact hi c cs hc hD h0 x hx
theorem HS.setMapS{cfg:Cfg}{h:Heap}{b:Nat}{l l':List (List V)}(hb:h[b]?=some (some [.mq l]))(hw:cfg.wr b=true):HS cfg h (h.set b (some [.mq l'])):=by
 refine⟨by simp,fun c hc h4=>?_,fun D t h1 h2 hi c cs hc hD h0 x hx=>?_⟩
 ·rw[Lb]
  grind
 ·by_cases h3:b=c
  ·subst h3;rw[Lm (K5.1 hb).1]at h0;cases h0;rw[LN.1 hx];exact .rf rfl
  ·rw[Lb h3]at h0;exact hi c cs hc hD h0 x hx
theorem HS.mapUpdateS{P:Program}{cfg:Cfg}{h h':Heap}{t:TypeId}{a b c:V}(hy:mapUpdateS P cfg h t a b c=some h'):HS cfg h h':=by
 unfold Go.Ab.mapUpdateS at hy;split at hy
 ·split at hy
  ·rename_i h0;split at hy
   ·rename_i hc;simp only[Ld,decide_eq_true_eq]at hc;split at hy
    ·cases hy;simp_all[setMapS,dz]
    grind
   grind
  grind
 grind
theorem HS.mapUpdateI{P:Program}{cfg:Cfg}{h h':Heap}{t:TypeId}{a c:V}{k:IntKind}{q:Int}(hy:mapUpdateI P cfg h t a k q c=some h'):HS cfg h h':=by
 unfold Go.Ab.mapUpdateI at hy;split at hy
 ·split at hy
  ·rename_i h0;split at hy
   ·rename_i hc;simp only[Ld,decide_eq_true_eq]at hc;split at hy
    ·cases hy;simp_all[setMapS,dz]
    grind
   grind
  grind
 grind
theorem HS.mapUpdate{P:Program}{cfg:Cfg}{h h':Heap}{t:TypeId}{a b c:V}(hy:cr P cfg h t a b c=some h'):HS cfg h h':=by
 unfold cr at hy;split at hy
 ·split at hy
  ·rename_i h0;split at hy
   ·rename_i hc;simp only[Ld,decide_eq_true_eq]at hc;obtain⟨⟨⟨⟨rfl,rfl⟩,rfl⟩,rfl⟩,hw⟩:=hc;cases hy;exact .setMap (gF h0) hw
   ·cases hy
  ·cases hy
 ·exact .mapUpdateI hy
 ·exact .mapUpdateS hy
 ·cases hy
theorem HS.conv{P:Program}{cfg:Cfg}{h h':Heap}{s d:TypeId}{x y:V}(hy:eh P h s d x=some (y,h')):HS cfg h h':=by
 unfold eh at hy
 grind[refl,push]
section
variable {P:Program}{m:Mu}{h:Heap}{w:World}
def ExecOK(P:Program)(o:Oper)(a:Act)(m:Mu)(h:Heap)(w:World)(x:V)(h':Heap):Prop:=
 ∃ nx v w',(execOp a.eval o).run P w=.ok nx w'/\(nx=.value v\/(nx=.skip/\v=undef))/\Out m h w x h' v w'
theorem ExecOK.value{o:Oper}{a:Act}{x:V}{h':Heap}{v:Value}{w':World}{s:Sem Value}(he:execOp a.eval o=(do pure (.value (<- s))))(hs:s.run P w=.ok v w')(h0:Out m h w x h' v w'):ExecOK P o a m h w x h':=
 ⟨.value v,v,w',by simp_all,.inl rfl,h0⟩
theorem ExecOK.value'{o:Oper}{a:Act}{x:V}{h':Heap}{s:Sem Value}(he:execOp a.eval o=(do pure (.value (<- s))))(hs:∃ v w',s.run P w=.ok v w'/\Out m h w x h' v w'):ExecOK P o a m h w x h':=
 let ⟨_,_,h1,h2⟩:=hs
 .value he h1 h2
theorem ExecOK.same{o:Oper}{a:Act}{x:V}{s:Sem Value}(r:Rel m h w)(he:execOp a.eval o=(do pure (.value (<- s))))(hs:∃ v,s.run P w=.ok v w/\R m h w x v):ExecOK P o a m h w x h:=
 let ⟨_,h1,h2⟩:=hs
 .value he h1 (.same r h2)
theorem ay{α:Type}{e:Option V}{h h':α}{x:V}(hx:e.map (·,h)=some (x,h')):e=some x/\h'=h:=by
 simp only[Lx,Lj]at hx
 grind
theorem Jw(r:Rel m h w){fr:List V}{a:Act}(f:FR m h w fr a){cfg:Cfg}{o:Oper}{op:Op}{x:V}{h':Heap}(hh:o.op=op)(hx:opV P cfg fr h op=some (x,h')):
  ExecOK P o a m h w x h'/\HS cfg h h':=by
 unfold opV at hx;split at hx
 case _ y => -- move
  obtain⟨h1,rfl⟩:=ay hx;exact⟨⟨.value (a.eval y),_,w,by grind[execOp,Sem.run_pure],.inl rfl,.same r (cq f h1)⟩,.refl _ _⟩
 case _ y => -- assign
  obtain⟨h1,rfl⟩:=ay hx;exact⟨⟨.value (a.eval y),_,w,by grind[execOp,Sem.run_pure],.inl rfl,.same r (cq f h1)⟩,.refl _ _⟩
 case _ c y z => -- pick
  split at hx
  ·rename_i hc;have h6:=cq f hc;generalize hj:a.eval c=ce at h6;cases h6;obtain⟨h1,rfl⟩:=ay hx;exact⟨⟨.value (a.eval y),_,w,by simp_all[execOp,asBool,Sem.run_bind,Sem.run_pure,Result.andThen_ok,if_true],.inl rfl,.same r (cq f h1)⟩,.refl _ _⟩
  ·rename_i hc;have h6:=cq f hc;generalize hj:a.eval c=ce at h6;cases h6;obtain⟨h1,rfl⟩:=ay hx;exact⟨⟨.value (a.eval z),_,w,by simp_all[execOp,asBool,Sem.run_bind,Sem.run_pure,Result.andThen_ok,Lv,if_false],.inl rfl,.same r (cq f h1)⟩,.refl _ _⟩
  grind
 case _ t => -- alloc
  split at hx
  ·rename_i z hz;cases hx;exact⟨.value' (s:=Instr.alloc t true (.tuple #[])) (by grind[execOp]) (Cn r hz),.push _ _ _⟩
  grind
 case _ t y => -- box
  split at hx
  ·rename_i v hv;split at hx
   ·rename_i cs ha;cases hx;exact⟨.value' (s:=Instr.box t (a.eval y)) (by grind[execOp]) (Iq r (cq f hv) ha),.push _ _ _⟩
   grind
  grind
 case _ t ps => -- build
  split at hx
  ·rename_i vs h7;obtain⟨h1,rfl⟩:=ay hx;obtain⟨hl,hr⟩:=sw f h7;obtain⟨v,hv,hn⟩:=Cy (P:=P) hl hr h1;refine⟨.value (s:=Instr.build t (ps.map fun (i,x)=>(i,a.eval x))) (by grind[execOp]) ?_ (.same r hn),.refl _ _⟩;rw[<- hv];congr 2
   grind
  grind
 case _ t n ps => -- buildSlice
  split at hx
  ·rename_i vs h7;exact⟨.value' (s:=Instr.buildSlice t n (ps.map fun (i,x)=>(i,a.eval x))) (by grind[execOp]) (rO r f h7 hx),.buildSlice hx⟩
  grind
 case _ t p => -- load
  split at hx
  ·rename_i v hv;obtain⟨h1,rfl⟩:=ay hx;exact⟨.same r (s:=Instr.loadAt t (a.eval p)) (by grind[execOp]) (zS r (cq f hv) h1),.refl _ _⟩
  grind
 case _ t p y => -- store
  split at hx
  ·rename_i pv v hp hv;split at hx
   ·rename_i h2 h4;simp only[K7,Lj]at hx;obtain⟨rfl,rfl⟩:=hx;obtain⟨w',h8,e,r'⟩:=EA (P:=P) r (cq f hp) (cq f hv) h4;exact⟨⟨.skip,undef,w',by grind[execOp,Sem.run_bind,Result.andThen_ok,Sem.run_pure],.inr ⟨rfl,rfl⟩,m,e,r',.no⟩,.store h4⟩
   grind
  grind
 case _ y => -- nilCheck
  split at hx
  ·rename_i v hv;obtain⟨h1,rfl⟩:=ay hx;have hr:=cq f hv;obtain⟨rfl,h2⟩:=we hr h1;refine⟨⟨.value (a.eval y),_,w,?_,.inl rfl,.same r hr⟩,.refl _ _⟩
   grind[execOp,Sem.run_pure]
  grind
 case _ op t y z _ => -- binOp
  split at hx
  ·rename_i b c hb hc;obtain⟨h1,rfl⟩:=ay hx;exact⟨.same r (s:=do eqGuard op t y z (a.eval y) (a.eval z);binOp op t (a.eval y) (a.eval z)) (by grind[execOp]) (xE (cq f hb) (cq f hc) h1),.refl _ _⟩
  grind
 case _ op t y => -- unOp
  split at hx
  ·rename_i b hb;obtain⟨h1,rfl⟩:=ay hx;exact⟨.same r (s:=Op.unary op (a.eval y)) (by grind[execOp]) (EJ (cq f hb) h1),.refl _ _⟩
  grind
 case _ s d y => -- convert
  split at hx
  ·rename_i b hb;exact⟨.value' (s:=convert s d (a.eval y)) (by grind[execOp]) (Fv r (cq f hb) hx),.conv hx⟩
  grind
 case _ fn f' c => -- makeFunc
  split at hx
  ·rename_i fs cs hu ha;cases hx;obtain⟨l1,r1⟩:=fH f hu;obtain⟨l2,r2⟩:=fH f ha;refine⟨.same r (s:=Instr.makeFunc fn (f'.map a.eval) (c.map a.eval)) (by simp only[execOp,hh]) ⟨.func fn (f'.map a.eval) (c.map a.eval),by simp[Instr.makeFunc],.func (by simpa using l1) (fun i x v hx hv=>r1 i x v hx ?_) (by simpa using l2) (fun i x v hx hv=>r2 i x v hx ?_)⟩,.refl _ _⟩<;>grind
  grind
 case _ t l c => -- makeSlice
  split at hx
  ·rename_i b d hb hd;exact⟨.value' (s:=Instr.makeSlice t (a.eval l) (a.eval c)) (by grind[execOp]) (tZ r (cq f hb) (cq f hd) hx),.makeSlice hx⟩
  grind
 case _ t y lo hi => -- slice
  split at hx
  ·rename_i b hb;obtain⟨h1,rfl⟩:=ay hx;refine⟨.same r (s:=Instr.sliceAt t (a.eval y) (lo.map a.eval) (hi.map a.eval) none) (by grind[execOp]) (Ek r (cq f hb) ?_ ?_ ?_ ?_ h1),.refl _ _⟩
   ·intro x v hx hv;cases lo with
    | none=>grind
    | some o=>grind[cq]
   ·intro x v hx hv;cases hi with
    | none=>grind
    | some o=>grind[cq]
   ·simp
   ·simp
  grind
 case _ s y g => -- fieldAddr
  split at hx
  ·rename_i b hb;obtain⟨h1,rfl⟩:=ay hx;exact⟨.same r (s:=Instr.fieldAt s (a.eval y) g) (by grind[execOp]) (tK (cq f hb) h1),.refl _ _⟩
  grind
 case _ s y g => -- field
  split at hx
  ·rename_i b hb;obtain⟨h1,rfl⟩:=ay hx;exact⟨.same r (s:=Instr.field s (a.eval y) g) (by grind[execOp]) (CZ (cq f hb) h1),.refl _ _⟩
  grind
 case _ s y g => -- indexAddr
  split at hx
  ·rename_i b c hb hc;obtain⟨h1,rfl⟩:=ay hx;exact⟨.same r (s:=Instr.indexAt s (a.eval y) (a.eval g)) (by grind[execOp]) (tS (cq f hb) (cq f hc) h1),.refl _ _⟩
  grind
 case _ s y g => -- index
  split at hx
  ·rename_i b c hb hc;obtain⟨h1,rfl⟩:=ay hx;exact⟨.same r (s:=Instr.index s (a.eval y) (a.eval g)) (by grind[execOp]) (Dq (cq f hb) (cq f hc) h1),.refl _ _⟩
  grind
 case _ y i => -- extract
  split at hx
  ·rename_i b hb;obtain⟨h1,rfl⟩:=ay hx;exact⟨.same r (s:=Instr.extract (a.eval y) i) (by grind[execOp]) (xV (cq f hb) h1),.refl _ _⟩
  grind
 case _ t => -- makeMap
  exact⟨.value' (s:=Instr.makeMap t none) (by grind[execOp]) (ym r hx),.makeMap hx⟩
 case _ t p q y => -- mapUpdate
  split at hx
  ·rename_i pv qv yv hp hq hv;split at hx
   ·rename_i h2 h4;simp only[K7,Lj]at hx;obtain⟨rfl,rfl⟩:=hx;obtain⟨w',h8,e,r'⟩:=mn (P:=P) r (cq f hp) (cq f hq) (cq f hv) h4;exact⟨⟨.skip,undef,w',by grind[execOp,Sem.run_bind,Result.andThen_ok,Sem.run_pure],.inr ⟨rfl,rfl⟩,m,e,r',.no⟩,.mapUpdate h4⟩
   grind
  grind
 case _ t p q y => -- insert
  split at hx
  ·rename_i pv qv yv hp hq hv;split at hx
   ·rename_i h2 h4;simp only[K7,Lj]at hx;obtain⟨rfl,rfl⟩:=hx;obtain⟨w',h8,e,r'⟩:=mn (P:=P) r (cq f hp) (cq f hq) (cq f hv) h4;exact⟨⟨.skip,undef,w',by grind[execOp,Sem.run_bind,Result.andThen_ok,Sem.run_pure],.inr ⟨rfl,rfl⟩,m,e,r',.no⟩,.mapUpdate h4⟩
   grind
  grind
 case _ t p q ok => -- lookup
  split at hx
  ·rename_i pv qv hp hq;obtain⟨h1,rfl⟩:=ay hx;exact⟨.same r (s:=Instr.lookup t (a.eval p) (a.eval q) ok) (by grind[execOp]) (BA r (cq f hp) (cq f hq) h1),.refl _ _⟩
  grind
 case _ b args tys => -- builtins
  split at hx
  ·cases hx
  ·rename_i vs h7;obtain⟨hl,hr⟩:=fH f h7;have he:∀ (d:Sem Next),(execOp a.eval o)=(do let d <- resolve a.eval { callee:=.builtin b,args:=args,argTypes:=tys } o.type;invoke d.target d.args):=fun _=>by grind[execOp]
   have hex:(execOp a.eval o)=builtin b tys o.type (args.map fun|.const _=>true|_=>false) (args.map a.eval):=by
    rw[he (pure .skip)];rfl
   split at hx
   ·rename_i t y h9;obtain⟨h1,rfl⟩:=ay hx;have ht:tys=#[t]:=by grind
    have h0:∃ v,args.map a.eval=#[v]/\R m h' w y v:=by
     have h2:(args.toList.map a.eval).length=1:=by omega
     match hm:args.toList.map a.eval,h2 with
     | [v],_=>exact⟨v,by grind,hr 0 y v rfl (by grind)⟩
    obtain⟨v,hv,h3⟩:=h0;exact⟨.same r (s:=Builtin.len_ #[t] o.type #[v]) (by rw[hex,ht,hv];rfl) (Jf h3 h1),.refl _ _⟩
   ·rename_i t u d y h9;have ht:tys=#[t,u]:=by grind
    have h0:∃ v v',args.map a.eval=#[v,v']/\R m h w d v/\R m h w y v':=by
     have h2:(args.toList.map a.eval).length=2:=by omega
     match hm:args.toList.map a.eval,h2 with
     | [v,v'],_=>exact⟨v,v',by grind,hr 0 d v rfl (by grind),hr 1 y v' rfl (by grind)⟩
    obtain⟨v,v',hv,h3,hf⟩:=h0;obtain⟨rfl,hw⟩:=AQ (P:=P) (ty:=o.type) r h3 hf hx;exact⟨.value' (s:=Builtin.append_ #[t,t] o.type #[v,v']) (by rw[hex,ht,hv];rfl) hw,.append hx⟩
   ·obtain⟨h1,rfl⟩:=ay hx;obtain⟨v,hv,h3⟩:=yq (P:=P) (ts:=tys) (ty:=o.type) (by omega) hr h1;refine⟨.same r (s:=Builtin.min_ tys o.type (args.map a.eval)) (by rw[hex];rfl) ⟨v,?_,h3⟩,.refl _ _⟩;rw[<- hv];congr 2;grind
   ·obtain⟨h1,rfl⟩:=ay hx;obtain⟨v,hv,h3⟩:=yo (P:=P) (ts:=tys) (ty:=o.type) (by omega) hr h1;refine⟨.same r (s:=Builtin.max_ tys o.type (args.map a.eval)) (by rw[hex];rfl) ⟨v,?_,h3⟩,.refl _ _⟩;rw[<- hv];congr 2;grind
   ·rename_i t y h9;have ht:tys=#[t]:=by grind
    have h0:∃ v,args.map a.eval=#[v]/\R m h w y v:=by
     have h2:(args.toList.map a.eval).length=1:=by omega
     match hm:args.toList.map a.eval,h2 with
     | [v],_=>exact⟨v,by grind,hr 0 y v rfl (by grind)⟩
    obtain⟨v,hv,h3⟩:=h0;split at hx
    ·rename_i h2 hg;simp only[K7,Lj]at hx;obtain⟨rfl,rfl⟩:=hx;exact⟨.value' (s:=Builtin.clear_ #[t] o.type #[v]) (by rw[hex,ht,hv];rfl) (CH r h3 hg),.clear hg⟩
    grind
   grind
 simp_all
end
end Go.Ab
