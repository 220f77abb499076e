/- Several texts of this proof in one. -/
import Derived.Test.YtldfgkjmficliaaGreatAbHeap
import Derived.Laws.BytesString
import Derived.IntWalk
import Derived.MapKept
set_option linter.all false
namespace Go.Ab
section
variable {P:Program}{m:Mu}{h:Heap}{w:World}
def Out(m:Mu)(h:Heap)(w:World)(x:V)(h':Heap)(v:Value)(w':World):Prop:=∃ m',Evo m h w m' h' w'/\Rel m' h' w'/\R m' h' w' x v
theorem Out.same(r:Rel m h w){x:V}{v:Value}(hr:R m h w x v):Out m h w x h v w:=⟨m,.refl _ _ _,r,hr⟩
theorem PW.at{cs:List V}{arr:Array Value}(hp:PW m h w cs arr):cs.length<=arr.size/\∀ (i:Nat) (c:V),cs[i]?=some c->∃ v,arr[i]?=some v/\R m h w c v:=by
 refine⟨by rw[hp.1];exact Lh _,fun i c hc=>?_⟩;have h0:i<arr.size:=by rw[hp.1];exact (Ld.1 hc).1
 exact⟨arr[i],Lr h0,hp.2 i c _ hc (Lr h0)⟩
theorem sD(r:Rel m h w){cs:List V}{t:TypeId}{v:Value}(hp:PW m h w cs v.cells):
  (newVar t v).run P w=.ok ⟨w.heap.size,0,none⟩ (w.alloc (.cells v.cells t))/\Out m h w (.ptr h.length 0) (h++[some cs]) (.pointer (some ⟨w.heap.size,0,none⟩)) (w.alloc (.cells v.cells t)):=by
 refine⟨by simp[newVar,newRow],upd m h.length w.heap.size,dw _ _,fZ r hp.at.1 hp.at.2,F5⟩
theorem B2(r:Rel m h w){t:TypeId}{z:V}(hz:zeroOf P t=some z):
  ∃ v w',(Instr.alloc t true (.tuple #[])).run P w=.ok v w'/\Out m h w (.ptr h.length 0) (h++[some (cR z)]) v w':=by
 obtain⟨zv,h0,h3,_⟩:=cy hz w;obtain⟨h1,h2⟩:=sD (P:=P) (t:=t) r (kJ (m:=m) (h:=h) (w:=w) h3);exact⟨_,_,by simp only[Instr.alloc,Sem.run_bind,h0,Result.andThen_ok,h1];rfl,h2⟩
theorem HX(r:Rel m h w){t:TypeId}{x:V}{xv:Value}{cs:List V}(hx:R m h w x xv)(hc:cellsOf x=some cs):
  ∃ v w',(Instr.box t xv).run P w=.ok v w'/\Out m h w (.ptr h.length 0) (h++[some cs]) v w':=by
 obtain⟨h1,h2⟩:=sD (P:=P) (t:=t) r (jW hc hx).1;exact⟨_,_,by simp only[Instr.box,Sem.run_bind,h1,Result.andThen_ok];rfl,h2⟩
theorem Ec(r:Rel m h w){cfg:Cfg}{t:TypeId}{p x:V}{pv xv:Value}{h':Heap}(hp:R m h w p pv)(hx:R m h w x xv)(hs:aQ P cfg h t p x=some h'):
  ∃ w',(Instr.storeAt t pv xv).run P w=.ok () w'/\Evo m h w m h' w'/\Rel m h' w':=by
 unfold aQ at hs;split at hs
 ·rename_i y off s vs h4 hc;split at hs
  ·rename_i hl;obtain⟨h0,h1⟩:=jW hc hx;have hb:∃ cs,ab h y=some cs:=by
    unfold aP at hs;split at hs
    ·rename_i cs hb;exact⟨cs,hb⟩
    ·cases hs
   obtain⟨cs,hb⟩:=hb;obtain⟨b,arr,T,h6,rfl,ha,hle,_⟩:=hp.ptr_at r hb;obtain⟨w',h3,e,r'⟩:=gU (P:=P) r h6 hb hs (us:=xv.cells.toList) (by simpa using h0.1) (fun i c u hc hu=>h0.2 i c u hc (by simpa using hu)) h1;refine⟨w',?_,e,r'⟩;have hne:¬ xv.cells.size≠s:=by rw[h0.1];omega
   simp only[Instr.storeAt,Instr.sureAddr,Sem.run_bind,Sem.run_pure,Result.andThen_ok,storeVar,bD h4,hne,if_false,h3]
  ·cases hs
 ·cases hs
theorem PW.append{cs ds:List V}{xs ys:List Value}(h1:PW m h w cs xs.toArray)(h2:PW m h w ds ys.toArray):PW m h w (cs++ds) (xs++ys).toArray:=by
 have e1:xs.length=cs.length:=by simpa using h1.1
 have e2:ys.length=ds.length:=by simpa using h2.1
 refine⟨by simp[e1,e2],fun i c v hc hv=>?_⟩;simp only[Ni]at hv;by_cases hi:i<cs.length
 ·rw[Lf hi]at hc;rw[Lf (by omega)]at hv;exact h1.2 i c v hc (by simpa using hv)
 ·rw[Lk (by omega)]at hc;rw[Lk (by omega),e1]at hv;exact h2.2 _ c v hc (by simpa using hv)
theorem pJ{s:Nat}:∀ {vs:List V}{us:List Value}{cs:List V},vs.length=us.length->(∀ (i:Nat) (c:V) (u:Value),vs[i]?=some c->us[i]?=some u->R m h w c u)->bf s vs=some cs ->
  PW m h w cs (us.flatMap fun u=>u.cells.toList).toArray/\(∀ u∈us,u.cells.size=s)/\cs.length=vs.length*s
 | [],[],cs,_,_,hc=>by simp[bf]at hc;subst hc;exact⟨⟨rfl,by simp⟩,by simp,by simp⟩
 | v::vs,u::us,cs,hl,hr,hc=>by
  simp only[bf]at hc;split at hc
  ·rename_i c1 h4;split at hc
   ·rename_i hs;split at hc
    ·rename_i rest h0;cases hc;obtain⟨h3,_⟩:=jW h4 (hr 0 v u rfl rfl);obtain⟨h6,h7,hlen⟩:=pJ (by simpa using hl) (fun i c x hi hx=>hr (i+1) c x (by simpa using hi) (by simpa using hx)) h0;refine⟨?_,?_,?_⟩
     ·rw[L4];exact PW.append (by simpa using h3) h6
     ·intro x hx;rcases Ly.1 hx with rfl|hx
      ·rw[h3.1,hs]
      ·exact h7 x hx
     ·simp[hlen,hs,Mc,Nat.add_comm]
    ·cases hc
   ·cases hc
  ·cases hc
 | [],_::_,_,hl,_,_=>by simp at hl
 | _::_,[],_,hl,_,_=>by simp at hl
theorem jH{fr:List V}{a:Act}(f:FR m h w fr a):∀ {ps:List (Nat×Operand)}{i0:Nat}{xs:List V},bc fr i0 ps=some xs ->
  ps.map (fun (i,x)=>(i,a.eval x))=((ps.map fun p=>a.eval p.2).zipIdx i0).map (fun x=>(x.2,x.1))/\xs.length=(ps.map fun p=>a.eval p.2).length /\
  ∀ (i:Nat) (c:V) (u:Value),xs[i]?=some c->(ps.map fun p=>a.eval p.2)[i]?=some u->R m h w c u
 | [],i0,xs,hx=>by simp[bc]at hx;subst hx;simp
 | (j,x)::ps,i0,xs,hx=>by
  simp only[bc]at hx;split at hx
  ·rename_i h0;subst h0;split at hx
   ·rename_i v hv;split at hx
    ·rename_i vs h4;cases hx;obtain⟨h1,h2,h3⟩:=jH f h4;refine⟨by simp[List.zipIdx_cons,h1],by simpa using h2,fun i c u hc hu=>?_⟩;cases i with
     | zero=>simp at hc hu;subst hc hu;exact dc f hv
     | succ i=>exact h3 i c u (by simpa using hc) (by simpa using hu)
    ·cases hx
   ·cases hx
  ·cases hx
theorem qJ{cs:List V}{w':World}{len k rc:Nat}(hlen:len<=rc)(h3:rc*k<=rsz w' w.heap.size)(cap:Nat)(h0:cap<=rc):
  R (upd m h.length w.heap.size) (h++[some cs]) w' (.sl h.length 0 len cap k) (.slice (some ⟨w.heap.size,0,none⟩) len rc):=
 .sl (by simp) h0 hlen fun _=>⟨w.heap.size,by simp[upd],rfl,by omega⟩
theorem kz{arr:Array Value}{T:TypeId}{fz:Nat×Nat}:rsz (w.alloc (.cells arr T fz)) w.heap.size=arr.size:=by simp only[rsz,gD]
theorem jB{s:Nat}:∀ {us:List Value},(∀ u∈us,u.cells.size=s)->(us.flatMap fun u=>u.cells.toList).length=us.length*s
 | [],_=>by simp
 | u::us,hu=>by
  have:=jB (us:=us) fun x hx=>hu x (Lm _ hx);simp[L4,this,hu u Lv,Mc,Nat.add_comm]
theorem rB(r:Rel m h w){fr:List V}{a:Act}(f:FR m h w fr a){t:TypeId}{len:Nat}{ps:Array (Nat×Operand)}{xs:List V}{y:V}{h':Heap}
  (hp:bc fr 0 ps.toList=some xs) (hy:aI P h t len xs=some (y,h')):
  ∃ v w',(Instr.buildSlice t len (ps.map fun (i,x)=>(i,a.eval x))).run P w=.ok v w'/\Out m h w y h' v w':=by
 obtain⟨ha,hd,he⟩:=jH f hp;generalize ht:(ps.toList.map fun p=>a.eval p.2)=us at *;obtain⟨qs,h7⟩:∃ qs:Array (Nat×Value),qs=ps.map fun (i,x)=>(i,a.eval x):=⟨_,rfl⟩;have hf:qs.toList=(us.zipIdx 0).map fun x=>(x.2,x.1):=by rw[h7,Array.toList_map];exact ha
 rw[<- h7];unfold aI at hy;split at hy
 ·rename_i elem hu;split at hy
  ·rename_i s hs;split at hy
   ·rename_i cs hh;split at hy
    ·rename_i hc;simp only[Lq,decide_eq_true_eq,OE]at hc;obtain⟨⟨⟨hl,h3⟩,hv⟩,z,hz⟩:=hc;cases hy;obtain⟨h8,h4,hw⟩:=pJ hd he hh;obtain⟨zv,hj,hA,_⟩:=cy hz w;have hlen:us.length=len:=by omega
     have hm:=jB h4
     -- the cells
     have key:∀ cells:Array Value,cells.size=len*s->Instr.fill (fun i=>some (i*s,s)) cells qs.toList=some (us.flatMap fun u=>u.cells.toList).toArray:=by
      intro cells h9;obtain⟨r1,hn,hD,hq⟩:=Great.fill_dense h3 us 0 cells h4 (by rw[h9];simp[hlen]);rw[hf,hn];congr 1;apply NQ;intro k;have hg:(us.flatMap fun u=>u.cells.toList).toArray[k]?=(us[k / s]?).bind fun v=>v.cells[k%s]?:=by rw[<- Great.flat_get h3 us h4 k];simp
      rw[hg,hq k];by_cases hk:k<us.length*s
      ·rw[if_pos (by simp;exact hk)];simp
      ·rw[if_neg (by simp;omega)];rw[NV (by rw[h9,<- hlen];omega)];have:us.length<=k / s:=(Nat.le_div_iff_mul_le h3).2 (by omega);rw[Lw this];rfl
     have h6:¬ len*s > 2 ^ 24:=by omega
     refine⟨.slice (some ⟨w.heap.size,0,none⟩) len len,w.alloc (.cells (us.flatMap fun u=>u.cells.toList).toArray elem),?_,?_⟩
     ·obtain⟨i,hi,hr⟩:=kG hs;subst hr;by_cases h0:len*i.size=0
      ·have hk:=key ((Array.range (len*i.size)).map ((#[]:Array Value)[·%(#[]:Array Value).size]!)) (by simp);rw[h0]at hk;simp only[Instr.buildSlice,Sem.run_bind,run_underlying hu,Result.andThen_ok,bD hs,h0,if_true];rw[if_neg (by decide)];simp only[Sem.run_bind,Sem.run_pure,Result.andThen_ok,hk];simp[newRow]
      ·have hk:=key ((Array.range (len*i.size)).map (zv.cells[·%zv.cells.size]!)) (by simp);simp only[Instr.buildSlice,Sem.run_bind,run_underlying hu,Result.andThen_ok,bD hs];rw[if_neg h6];simp only[Sem.run_bind,if_neg h0,hj,Sem.run_pure,Result.andThen_ok,hk];simp[newRow]
     ·exact⟨_,dw _ _,fZ r h8.at.1 h8.at.2,qJ (Lh _) (by rw[kz];simp[hm,hlen]) _ (Lh _)⟩
    ·cases hy
   ·cases hy
  ·cases hy
 ·cases hy
end
end Go.Ab
namespace Go.Ab
section
variable {P:Program}{m:Mu}{h:Heap}{w:World}
theorem gr{w':World}(hh:w'.heap=w.heap)(ho:w'.os=w.os)(ht:w'.tape=w.tape)(hu:w'.output=w.output):Evo m h w m h w' where
 zeq:=rfl
 len:=Lh _
 keep:=fun _ _ hl=>⟨hl,rfl⟩
 own:=fun x _ hl hb=>.inl ⟨x,hl,hb⟩
 frame:=fun _ _ _=>by rw[hh]
 size:=by rw[hh];exact Lh _
 rs:=fun b _=>by rw[dm (w:=w) (w':=w') (b:=b) (by rw[hh])];exact Lh _
 os:=ho
 tape:=ht
 output:=hu
theorem jM(r:Rel m h w){w':World}(hh:w'.heap=w.heap)(ho:w'.os=w.os)(ht:w'.tape=w.tape)(hu:w'.output=w.output):Rel m h w':=
 ⟨r.zo,fun b hb=>by rw[hh];exact r.zl b hb,r.inj,fun x cs b hx hb=>by
  exact (r.blk x cs b hx hb).carry (by rw[hh]) fun c v _ h0=>h0.evo (gr hh ho ht hu) r.lt⟩
theorem lp{w w':World}(hh:w'.heap=w.heap)(a:Addr):w'.cell? a=w.cell? a:=by simp[World.cell?,hh]
theorem Pt.values{b o:Nat}{cs:List V}(hp:Pt m h w b o cs):∃ vs:List Value,vs.length=cs.length/\(∀ (j:Nat) (v:Value),vs[j]?=some v->w.cell? ⟨b,o+j,none⟩=some v) /\
  ∀ (i:Nat) (c:V) (v:Value),cs[i]?=some c->vs[i]?=some v->R m h w c v:=by
 have h0:∀ i,i<cs.length->∃ v,w.cell? ⟨b,o+i,none⟩=some v/\∀ c,cs[i]?=some c->R m h w c v:=by
  intro i hi;obtain⟨v,hv,hr⟩:=hp i cs[i] (Lc hi);refine⟨v,hv,fun c hc=>?_⟩;rw[Lc hi]at hc;cases hc;exact hr
 let f:Nat->Value:=fun j=>if hj:j<cs.length then Classical.choose (h0 j hj) else undef
 refine⟨(List.range cs.length).map f,by simp,fun j v hv=>?_,fun i c v hc hv=>?_⟩
 ·by_cases hj:j<cs.length
  ·simp[hj]at hv;subst hv;simp only[f,hj,dite_true];exact (Nh (h0 j hj)).1
  ·simp[hj]at hv
 ·have hj:i<cs.length:=(Ld.1 hc).1;simp[hj]at hv;subst hv;simp only[f,hj,dite_true];exact (Nh (h0 i hj)).2 c hc
theorem Pt.drop_take{b o:Nat}{cs:List V}(hp:Pt m h w b o cs)(k n:Nat):Pt m h w b (o+k) ((cs.drop k).take n):=by
 intro i c hc;rw[LN]at hc;split at hc
 ·rw[Mh]at hc;rw[NM];exact hp (k+i) c hc
 ·cases hc
theorem R.sl_at(r:Rel m h w){x off len cap k:Nat}{v:Value}{cs:List V}(hv:R m h w (.sl x off len cap k) v)(hb:ab h x=some cs):
  ∃ b rc arr T,m x=some b/\v=.slice (some ⟨b,off,none⟩) len rc/\cap<=rc/\len<=rc/\off+rc*k<=arr.size/\w.heap[b]?=some (.cells arr T (0,0))/\cs.length<=arr.size/\Pt m h w b 0 cs:=by
 have hc:=aB hb;cases hv with
 | sl h8 h0 hlen hv =>
  obtain⟨b,h3,rfl,h4⟩:=hv ⟨cs,hc⟩;obtain⟨arr,T,ha,hl,hr⟩:=(r.blk x cs b hc h3).cells (dk hb);refine⟨b,_,arr,T,h3,rfl,h0,hlen,by simpa[rsz,ha]using h4,ha,hl,fun i c h6=>?_⟩;obtain⟨u,hu,h7⟩:=hr i c h6;exact⟨u,by simp[World.cell?,ha,hu],h7⟩
theorem nT{k:Nat}:∀ {xs:List (List V)}{q:Nat}{c:V},(∀ e∈xs,e.length=k)->xs.flatten[q]?=some c->0<k/\∃ e,xs[q / k]?=some e/\e[q%k]?=some c
 | [],q,c,_,hq=>by simp at hq
 | e::xs,q,c,hl,hq=>by
  have he:e.length=k:=hl e Lv;rw[Ou]at hq;by_cases h0:q<e.length
  ·rw[Lf h0]at hq;have hk:0<k:=by omega
   rw[he]at h0;exact⟨hk,e,by simp[Nat.div_eq_of_lt h0],by rw[NG h0];exact hq⟩
  ·rw[Lk (by omega)]at hq;obtain⟨hk,e',h1,h2⟩:=nT (fun e he=>hl e (Lm _ he)) hq;have h3:k<=q:=by omega
   refine⟨hk,e',?_,?_⟩
   ·rw[Nat.div_eq_sub_div hk h3,LV,<- he];rw[he];rw[he]at h1;exact h1
   ·rw[Nat.mod_eq_sub_mod h3];rw[he]at h2;exact h2
theorem Eb(r:Rel m h w){s n:Nat}{x:V}{xv:Value}{new:List V}(hx:R m h w x xv)(hs:aZ h s x=some (n,new)):
  ∃ news:List Value,news.length=new.length/\new.length=n*s/\(∀ (i:Nat) (c:V) (v:Value),new[i]?=some c->news[i]?=some v->R m h w c v) /\
   (∀ w':World,(Builtin.lenOf xv).run P w'=.ok n w')/\(∀ w':World,w'.heap=w.heap->(Builtin.firstCells s n xv).run P w'=.ok news.toArray w')/\∃ a l c,xv=.slice a l c:=by
 unfold aZ at hs;split at hs
 ·rename_i y off len cap k;split at hs
  ·rename_i cs hb;split at hs
   ·rename_i hc;simp only[Lq,decide_eq_true_eq]at hc;obtain⟨rfl,hle⟩:=hc;cases hs;obtain⟨b,rc,arr,T,hg,rfl,_,_,_,_,_,h6⟩:=hx.sl_at r hb;obtain⟨vs,h4,h7,h8⟩:=(h6.drop_take off (n*k)).values;have hlen:((cs.drop off).take (n*k)).length=n*k:=by simp;omega
    refine⟨vs,h4,hlen,h8,fun w'=>by simp[Builtin.lenOf],fun w' hh=>?_,_,_,_,rfl⟩;refine run_firstCells_some w' k n _ n rc vs (by rw[h4,hlen]) fun j v hj=>?_;rw[lp hh,add_lit];have:=h7 j v hj;rwa [L3]at this
   ·cases hs
  ·split at hs
   ·rename_i h0;subst h0;cases hs;cases hx;exact⟨[],rfl,by simp,by simp,fun w'=>by simp[Builtin.lenOf],fun w' _=>by simp[Builtin.firstCells,loadCells,loadCellsFrom],_,_,_,rfl⟩
   ·cases hs
 ·rename_i xs;split at hs
  ·rename_i h3;cases hs;simp only[Lp,beq_iff_eq]at h3;have h9:xs.flatten.length=xs.length*s:=by
    clear hx
    induction xs with
    | nil=>simp
    | cons e xs ih =>
     have h1:=h3 e Lv;have h2:=ih fun e he=>h3 e (Lm _ he);simp only[Ou,Lt,Lx,h1,h2,Mc,Ov];omega
   cases hx with
   | lst0 a rc _ =>
    refine⟨[],rfl,by simp,by simp,fun w'=>by simp[Builtin.lenOf],fun w' _=>?_,_,_,_,rfl⟩;cases a<;>simp[Builtin.firstCells,loadCells,loadCellsFrom]
   | lst rv hl hm hk hc hf hr =>
    rename_i b o k rc;have h6:Pt m h w b o xs.flatten:=by
     intro q c hq;obtain⟨h0,e,he,ha⟩:=nT h3 hq;have hd:k=s:=by rw[<- hk _ _ he];exact h3 e (Le he)
     subst hd;refine⟨_,?_,hr _ _ _ _ he ha⟩;rw[<- hc _ _ _ _ he ha,NM,Nat.mul_comm (q / k) k,Nat.div_add_mod]
    obtain⟨vs,h4,h7,h8⟩:=h6.values;refine⟨vs,h4,h9,h8,fun w'=>by simp[Builtin.lenOf],fun w' hh=>?_,_,_,_,rfl⟩;refine run_firstCells_some w' s xs.length _ _ rc vs (by rw[h4,h9]) fun j v hj=>?_;rw[lp hh,add_lit];exact h7 j v hj
  ·cases hs
 ·cases hs;cases hx;exact⟨[],rfl,by simp,by simp,fun w'=>by simp[Builtin.lenOf],fun w' _=>by simp[Builtin.firstCells],_,_,_,rfl⟩
 ·cases hs
end
end Go.Ab
namespace Go.Ab
section
variable {P:Program}{m:Mu}{h:Heap}{w:World}
theorem jO{t ty e:TypeId}{i:TypeInfo}(ht:P.underlying t=some (.slice e))(hi:P.info? e=some i){a:Addr}{sLen sCap n:Nat}{xv:Value}{news:List Value}{w':World}
  (hlen:(Builtin.lenOf xv).run P w=.ok n w) (hf:(Builtin.firstCells i.size n xv).run P w=.ok news.toArray w) (h0:sLen+n<=sCap)
  (h3:(storeCells (a.add (sLen*i.size)) news).run P w=.ok () w'):
  (Builtin.append_ #[t,t] ty #[.slice (some a) sLen sCap,xv]).run P w=.ok (.slice (some a) (sLen+n) sCap) w':=by
 simp[Builtin.append_,run_underlying ht,sizeOf,typeInfo,hi,hlen,h0,hf,h3]
theorem iA{t ty e:TypeId}{i:TypeInfo}{z:Value}(ht:P.underlying t=some (.slice e))(hi:P.info? e=some i)(hz:i.zero=some z){base:Option Addr}{sLen sCap n:Nat}{xv:Value}{olds news:List Value}
  (hlen:(Builtin.lenOf xv).run P w=.ok n w) (hf:(Builtin.firstCells i.size n xv).run P w.drew=.ok news.toArray w.drew)
  (ho:(Builtin.firstCells i.size sLen (.slice base sLen sCap)).run P w.drew=.ok olds.toArray w.drew)
  (hg:sCap<sLen+n) (h6:((sLen+n:Nat):Int)<=9223372036854775807) (h4:Builtin.nextslicecap (sLen+n) sCap*i.bytes<=281474976710656):
  (Builtin.append_ #[t,t] ty #[.slice base sLen sCap,xv]).run P w =
   .ok (.slice (some ⟨w.heap.size,0,none⟩) (sLen+n) (grownCap w (sLen+n) sCap e))
    (w.drew.alloc (.cells (olds.toArray++news.toArray++Builtin.zeroCells z.cells (grownCap w (sLen+n) sCap e-(sLen+n))) e)):=by
 have hn:¬ (sLen+n<=sCap):=by omega
 have h0:¬ (9223372036854775807<((sLen:Int)+(n:Int))):=by omega
 have h3:¬ (281474976710656<Builtin.nextslicecap (sLen+n) sCap*i.bytes):=by omega
 have he:∀ a b c:Array Value,a++b++c=a++(b++c):=fun a b c=>Oh;rw[he];simp[Builtin.append_,run_underlying ht,sizeOf,typeInfo,zeroValue,hi,hz,hlen,hn,h0,h3,Question.forced,ho,hf,newRow,grownCap]
theorem fg{h:Heap}{x y:Nat}{o:Option (List V)}(hl:live ((h.set x none)++[o]) y):(y<h.length/\y≠x/\live h y)\/y=h.length:=by
 have h4:=fw hl;simp at h4;by_cases hy:y=h.length
 ·exact .inr hy
 ·have h0:y<h.length:=by omega
  obtain⟨cs,hc⟩:=hl;rw[Lf (by simpa using h0)]at hc;by_cases h3:x=y
  ·subst h3;rw[Lo h0]at hc;simp at hc
  ·rw[Li h3]at hc;exact .inl ⟨h0,fun e=>h3 e.symm,cs,hc⟩
theorem uN{x nb:Nat}{cs:List V}{w':World}(h7:w.heap.size<=nb\/(live h x/\m x=some nb))
  (h0:∀ b,b<w.heap.size->b≠nb->w'.heap[b]?=w.heap[b]?) (h4:w.heap.size<=w'.heap.size) (h8:∀ b,b<w.heap.size->rsz w b<=rsz w' b)
  (h9:w'.os=w.os) (ha:w'.tape=w.tape) (h6:w'.output=w.output):Evo m h w (upd m h.length nb) ((h.set x none)++[some cs]) w' where
 zeq:=rfl
 len:=by simp
 keep:=fun y hy hl=>by
  rcases fg hl with⟨_,_,h3⟩|h3
  ·exact⟨h3,by simp[upd,LZ hy]⟩
  ·omega
 own:=fun y b hl hb=>by
  rcases fg hl with⟨h1,_,h3⟩|rfl
  ·exact .inl ⟨y,h3,by simpa[upd,LZ h1]using hb⟩
  ·simp only[upd,if_true,Ll]at hb;subst hb;rcases h7 with h1|⟨h1,h2⟩
   ·exact .inr h1
   ·exact .inl ⟨x,h1,h2⟩
 frame:=fun b hb hn=>h0 b hb fun e=>by
  subst e;rcases h7 with h1|⟨h1,h2⟩
  ·omega
  ·exact hn x h1 h2
 size:=h4
 rs:=h8
 os:=h9
 tape:=ha
 output:=h6
theorem wx(r:Rel m h w){x nb:Nat}{cs:List V}{w':World}(e:Evo m h w (upd m h.length nb) ((h.set x none)++[some cs]) w')(h8:w.heap.size<=nb\/(live h x/\m x=some nb))
  (h0:∀ b,b<w.heap.size->b≠nb->w'.heap[b]?=w.heap[b]?) {arr:Array Value} {T:TypeId} (ha:w'.heap[nb]?=some (.cells arr T (0,0)))
  (hl:cs.length<=arr.size) (hr:∀ (i:Nat) (c:V),cs[i]?=some c->∃ v,arr[i]?=some v/\R m h w c v):
  Rel (upd m h.length nb) ((h.set x none)++[some cs]) w':=by
 have hne:∀ y b,y<h.length->y≠x->live h y->m y=some b->b≠nb:=by
  rintro y b hy hd h9 hb rfl;rcases h8 with h1|⟨h1,h2⟩
  ·have:=r.lt y b h9 hb;omega
  ·exact hd (r.inj y x b h9 h1 hb h2)
 refine⟨fun y b hl hb hz=>?_,fun b hb=>LF (r.zl b hb) e.size,fun y z b hy hz h6 h4=>?_,fun y cs' b hy hb=>?_⟩
 ·rcases fg hl with⟨h1,_,h3⟩|rfl
  ·simp only[upd,LZ h1,if_false]at hb;exact r.zo y b h3 hb hz
  ·simp only[upd,if_true,Ll]at hb;subst hb;rcases h8 with h1|⟨h1,h2⟩
   ·have:=r.zl nb hz;omega
   ·exact r.zo x nb h1 h2 hz
 ·rcases fg hy with⟨h1,h2,h3⟩|rfl
  ·simp only[upd,LZ h1,if_false]at h6;rcases fg hz with⟨g1,g2,g3⟩|rfl
   ·simp only[upd,LZ g1,if_false]at h4;exact r.inj y z b h3 g3 h6 h4
   ·simp only[upd,if_true,Ll]at h4;exact absurd h4.symm (hne y b h1 h2 h3 h6)
  ·simp only[upd,if_true,Ll]at h6;rcases fg hz with⟨g1,g2,g3⟩|rfl
   ·simp only[upd,LZ g1,if_false]at h4;exact absurd h6.symm (hne z b g1 g2 g3 h4)
   ·rfl
 ·rcases fg ⟨cs',hy⟩ with⟨h1,h2,h3⟩|rfl
  ·simp only[upd,LZ h1,if_false]at hb;rw[Lf (by simpa using h1),Li (fun e=>h2 e.symm)]at hy;exact (r.blk y cs' b hy hb).carry (h0 b (r.lt y b h3 hb) (hne y b h1 h2 h3 hb)) fun c v _ h7=>h7.evo e r.lt
  ·simp only[upd,if_true,Ll]at hb;subst hb;simp at hy;subst hy;refine .inl ⟨arr,T,ha,hl,fun i c hc=>?_⟩;obtain⟨v,hv,h7⟩:=hr i c hc;exact⟨v,hv,h7.evo e r.lt⟩
theorem zw{x nb:Nat}{cs:List V}{w':World}{len cap k rc:Nat}(h0:cap<=rc)(hlen:len<=rc)(h3:rc*k<=rsz w' nb):
  R (upd m h.length nb) ((h.set x none)++[some cs]) w' (.sl h.length 0 len cap k) (.slice (some ⟨nb,0,none⟩) len rc):=
 .sl (by simp) h0 hlen fun _=>⟨nb,by simp[upd],rfl,by omega⟩
theorem jf{n y:Nat}(hr:roomy n y=true):n*y<=2 ^ 40/\n<=2 ^ 40:=by
 simpa[roomy]using hr
theorem yM{new:List V}{news:List Value}(h0:new.all V.leaf=true)(hlen:news.length=new.length)(hr:∀ (i:Nat) (c:V) (v:Value),new[i]?=some c->news[i]?=some v->R m h w c v):∀ u∈news,u.oneCell'=true:=by
 intro u hu;obtain⟨i,hi,rfl⟩:=Ma hu;have h3:i<new.length:=by omega
 exact qD (Lp.1 h0 _ (MG h3)) (hr i _ _ (Lc h3) (Lc hi))
theorem Ax(r:Rel m h w){cfg:Cfg}{t u ty:TypeId}{d x y:V}{dv xv:Value}{h':Heap}(hd:R m h w d dv)(hx:R m h w x xv)(hy:cb P cfg h t u d x=some (y,h')):
  t=u/\∃ v w',(Builtin.append_ #[t,t] ty #[dv,xv]).run P w=.ok v w'/\Out m h w y h' v w':=by
 unfold cb at hy;split at hy
 ·rename_i elem ht;split at hy
  ·rename_i s by_ hs hY;obtain⟨i,hi,rfl⟩:=kG hs;have hZ:i.bytes=by_:=by simpa[bytesOf,hi]using hY
   subst hZ;split at hy
   ·rename_i n new hF;obtain⟨news,hD,hH,hl,hm,hn,_⟩:=Eb (P:=P) r hx hF;split at hy
    ·rename_i hc;simp only[Lq,decide_eq_true_eq]at hc;obtain⟨⟨⟨hI,k1⟩,rfl⟩,hE⟩:=hc;obtain⟨z,hz,g0⟩:∃ z,zeroOf P elem=some z/\(cR z).length=i.size:=by
      unfold ru at hE;split at hE
      ·rename_i z hz;exact⟨z,hz,by simpa using hE⟩
      ·cases hE
     refine⟨rfl,?_⟩;obtain⟨zv,_,g1,g2⟩:=cy hz w;have hr:i.zero=some zv:=by simpa[hi]using g2
     have hP:zv.cells.size=i.size:=by rw[<- g0];exact (kJ (m:=m) (h:=h) (w:=w) g1).1
     have h1:=yM hI hD hl;have hQ:news.length=n*i.size:=by omega
     split at hy
     · -- a nil slice
      cases hd;split at hy
      ·rename_i hJ;have g3:=jf hJ;split at hy
       ·rename_i hR;subst hR;cases hy;have hu:news=[]:=My (by omega);subst hu;exact⟨.slice none 0 0,w,by simp[Builtin.append_,run_underlying ht,sizeOf,typeInfo,hi,hm,hn w rfl],.same r .nils⟩
       ·rename_i hR;cases hy;have hf:=grownCap_ge w (0+n) 0 elem;have h0:=iA (P:=P) (w:=w) (ty:=ty) (base:=none) (sLen:=0) (sCap:=0) (n:=n) (xv:=xv) (olds:=[]) (news:=news) ht hi hr (hm w) (hn _ rfl)
         (by simp[Builtin.firstCells]) (by omega) (by omega) (growslice_fits (by omega) (by rw[L3];omega))
        simp only[L3]at h0 hf;refine⟨_,_,h0,_,(gr (w:=w) (w':=w.drew) rfl rfl rfl rfl).trans (dw _ _),fZ (jM r (w':=w.drew) rfl rfl rfl rfl) (by simp;omega) ?_,?_⟩
        ·intro j c hj;have h3:j<news.length:=by rw[hD];exact (Ld.1 hj).1
         refine⟨news[j],by simp[Array.getElem?_append,h3],(hl j c _ hj (Lc h3)).evo (gr (w:=w) (w':=w.drew) rfl rfl rfl rfl) r.lt⟩
        ·refine qJ (w:=w.drew) hf ?_ _ hf;rw[kz];simp only[Ow,Nc,size_zeroCells,hQ,hP,Me,L3,<- Nat.add_mul];exact Nn _ (by omega)
      ·cases hy
     ·rename_i b off len cap k;split at hy
      ·rename_i hc;simp only[Lq,decide_eq_true_eq]at hc;obtain⟨rfl,hJ⟩:=hc;have g3:=jf hJ;split at hy
       ·rename_i hw;split at hy
        ·rename_i h2 h8;simp only[Ll,LL]at hy;obtain⟨rfl,rfl⟩:=hy;obtain⟨cs,hb⟩:∃ cs,ab h b=some cs:=by
          unfold aP at h8;split at h8
          ·rename_i cs hb;exact⟨cs,hb⟩
          ·cases h8
         obtain⟨b',rc,arr,T,hg,rfl,hA,hlen,g4,ha,hle,hK⟩:=hd.sl_at r hb;obtain⟨w',h0,e,r'⟩:=gU (P:=P) r hg hb h8 hD hl h1;refine⟨_,w',jO ht hi (hm w) (hn w rfl) (by omega) (by rw[add_lit];exact h0),m,e,r',?_⟩;refine .sl (LF (fw ⟨cs,aB hb⟩) e.len) hA (by omega) fun _=>⟨b',hg,rfl,?_⟩;have h1:=e.rs b' (r.lt b b' ⟨cs,aB hb⟩ hg);have h2:rsz w b'=arr.size:=by simp[rsz,ha]
         omega
        ·cases hy
       ·rename_i hw;split at hy
        ·rename_i cs hb;split at hy
         ·rename_i hS;simp only[Lq,decide_eq_true_eq]at hS;obtain⟨⟨rfl,_⟩,k2⟩:=hS;simp only[Ll,LL]at hy;obtain⟨rfl,rfl⟩:=hy;obtain⟨b',rc,arr,T,hg,rfl,hA,hlen,g4,ha,hle,hK⟩:=hd.sl_at r hb;have h4:live h b:=⟨cs,aB hb⟩;have hb'lt:=r.lt b b' h4 hg;have hh:(cs.take (len*i.size)).length=len*i.size:=by simp;omega
          have hmul:(len+n)*i.size=len*i.size+n*i.size:=Mc _ _ _;by_cases h9:len+n<=rc
          · -- in place
           have g5:(len+n)*i.size<=rc*i.size:=Nn _ h9;have h8:=run_storeCells_at P b' (len*i.size) T news 0 arr w ha (by omega) h1;simp only[MT]at h8;have h0:=jO (ty:=ty) (a:=⟨b',0,none⟩) ht hi (hm w) (hn w rfl) h9 (by rw[add_lit,L3];exact h8);generalize h6:(arr.toList.take (len*i.size)++news++arr.toList.drop (len*i.size+news.length)).toArray=arr' at h8 h0;have h7:arr'.size=arr.size:=by rw[<- h6];simp;omega
           have e:Evo m h w (upd m h.length b') ((h.set b none)++[some (cs.take (len*i.size)++new)]) (w.setRow b' arr'):=
            uN (.inr ⟨h4,hg⟩) (fun c _ hc=>setRow_other w b' c arr' hc) (by simp) (fun c _=>by
             by_cases hT:c=b'
             ·subst hT;simp only[rsz,ha,setRow_heap w c arr arr' T (0,0) ha];omega
             ·rw[dm (setRow_other w b' c arr' hT)];exact Lh _) rfl rfl rfl
           have hL:∀ q,q<(len+n)*i.size->arr'[q]?=if q<len*i.size then arr[q]? else news[q-len*i.size]?:=by
            intro q hq;have g6:(arr.toList.take (len*i.size)).length=len*i.size:=by simp;omega
            rw[<- h6,Ni];by_cases he:q<len*i.size
            ·rw[if_pos he,LD,Lf (by omega)];simp[he]
            ·rw[if_neg he,LD,Lk (by omega),g6,Lf (by omega)]
           refine⟨_,_,h0,_,e,wx r e (.inr ⟨h4,hg⟩) (fun c _ hc=>setRow_other w b' c arr' hc) (setRow_heap w b' arr arr' T (0,0) ha) (by simp only[Lt,hh,hH,h7];omega) ?_,?_⟩
           ·intro q c hq;have hM:q<(len+n)*i.size:=by
             have:=(Ld.1 hq).1;simp only[Lt,hh,hH]at this;omega
            rw[hL q hM];by_cases he:q<len*i.size
            ·rw[if_pos he];rw[Lf (by omega),LN,if_pos he]at hq;obtain⟨v,hv,g7⟩:=hK q c hq;refine⟨v,?_,g7⟩;simpa[World.cell?,ha]using hv
            ·rw[if_neg he];rw[Lk (by omega),hh]at hq;have h3:q-len*i.size<news.length:=by omega
             exact⟨_,Lc h3,hl _ c _ hq (Lc h3)⟩
           ·refine zw (by omega) (by omega) ?_;simp only[rsz,setRow_heap w b' arr arr' T (0,0) ha];omega
          · -- anew
           have hN:Pt m h w b' 0 (cs.take (len*i.size)):=by simpa using hK.drop_take 0 (len*i.size)
           obtain⟨olds,hX,g8,g9⟩:=hN.values;have hf:=grownCap_ge w (len+n) rc elem;have h0:=iA (P:=P) (w:=w) (ty:=ty) (base:=some ⟨b',0,none⟩) (sLen:=len) (sCap:=rc) (n:=n) (xv:=xv) (olds:=olds) (news:=news) ht hi hr (hm w) (hn _ rfl)
            (run_firstCells_some w.drew i.size len _ _ _ olds (by rw[hX,hh]) (fun j v hj=>by rw[lp (w:=w) (w':=w.drew) rfl,add_lit];exact g8 j v hj))
            (by omega) (by omega) (growslice_fits (by omega) (by omega))
           generalize h6:olds.toArray++news.toArray++Builtin.zeroCells zv.cells (grownCap w (len+n) rc elem-(len+n))=arr' at h0;have h7:arr'.size=grownCap w (len+n) rc elem*i.size:=by
            rw[<- h6];simp only[Ow,Nc,size_zeroCells,hQ,hP,hX,hh,<- Nat.add_mul];congr 1;omega
           have hO:∀ c,c<w.heap.size->c≠w.heap.size->(w.drew.alloc (.cells arr' elem)).heap[c]?=w.heap[c]?:=fun c hc _=>fl (w:=w.drew) hc;have e:Evo m h w (upd m h.length w.heap.size) ((h.set b none)++[some (cs.take (len*i.size)++new)]) (w.drew.alloc (.cells arr' elem)):=
            uN (.inl (Lh _)) hO (by simp) (fun c hc=>by rw[dm (hO c hc (LZ hc))];exact Lh _) rfl rfl rfl
           refine⟨_,_,h0,_,e,wx r e (.inl (Lh _)) hO (arr:=arr') (T:=elem) (gD (w:=w.drew)) ?_ ?_,?_⟩
           ·rw[h7];simp only[Lt,hh,hH,<- Nat.add_mul];exact Nn _ hf
           ·intro q c hq;rw[<- h6];by_cases he:q<len*i.size
            ·rw[Lf (by omega)]at hq;have h3:q<olds.length:=by omega
             refine⟨olds[q],?_,g9 q c _ hq (Lc h3)⟩;rw[Oh,MK (by simpa using h3)];simp[h3]
            ·rw[Lk (by omega),hh]at hq;have h3:q-len*i.size<news.length:=by rw[hD];exact (Ld.1 hq).1
             refine⟨news[q-len*i.size],?_,hl _ c _ hq (Lc h3)⟩;have k0:olds.length=len*i.size:=by omega
             rw[Oh,Od (by simp;omega),MK (by simp;omega)];simp[k0,h3]
           ·refine zw hf hf ?_;have:rsz (w.drew.alloc (.cells arr' elem)) w.heap.size=arr'.size:=kz (w:=w.drew);rw[this,h7];exact Lh _
         ·cases hy
        ·cases hy
      ·cases hy
     ·cases hy
    ·cases hy
   ·cases hy
  ·cases hy
 ·cases hy
end
end Go.Ab
namespace Go.Ab
section
variable {P:Program}{m:Mu}{h:Heap}{w:World}
theorem wrap_small{n:Int}(h0:0<=n)(h1:n<=2 ^ 40):IntKind.i64.wrap n=n:=IntWalk.i64_in n ⟨by omega,by omega⟩
theorem fT{z:List V}{s:Nat}(hz:z.length=s)(hs:0<s):∀ (n q:Nat),(br z n)[q]?=if q<n*s then z[q%s]? else none
 | 0,q=>by simp[br]
 | n+1,q=>by
  rw[br];by_cases hq:q<s
  ·rw[Lf (by omega),NG hq,if_pos (by rw[Mc];omega)]
  ·have h0:q%s=(q-s)%s:=Nat.mod_eq_sub_mod (by omega);rw[Lk (by omega),fT hz hs n,hz,h0];by_cases h2:q-s<n*s
   ·rw[if_pos h2,if_pos (by rw[Mc];omega)]
   ·rw[if_neg h2,if_neg (by rw[Mc];omega)]
theorem fN{z:List V}:∀ n,(br z n).length=n*z.length
 | 0=>by simp[br]
 | n+1=>by simp[br,fN n,Mc,Nat.add_comm]
theorem tK(r:Rel m h w){t:TypeId}{l c y:V}{lv cv:Value}{h':Heap}(hl:R m h w l lv)(hc:R m h w c cv)(hy:cE P h t l c=some (y,h')):
  ∃ v w',(Instr.makeSlice t lv cv).run P w=.ok v w'/\Out m h w y h' v w':=by
 unfold cE at hy;split at hy
 ·rename_i elem n mm hu;cases hl;cases hc;split at hy
  ·rename_i s by_ z hs hD hz;obtain⟨i,hi,rfl⟩:=kG hs;have hE:i.bytes=by_:=by simpa[bytesOf,hi]using hD
   subst hE;split at hy
   ·rename_i h4;simp only[Lq,decide_eq_true_eq,beq_iff_eq]at h4;obtain⟨⟨⟨⟨h0,hle⟩,hF⟩,he⟩,hj⟩:=h4;have hL:=jf hF;simp only[Ll,LL]at hy;obtain⟨rfl,rfl⟩:=hy;obtain⟨zv,hH,hI,_⟩:=cy hz w;have hm:=kJ (m:=m) (h:=h) (w:=w) hI;have hn:0<=mm:=by omega
    have hf:mm<=2 ^ 40:=by omega
    have hr:IntKind.i64.wrap n=n:=wrap_small h0 (by omega);have ht:IntKind.i64.wrap mm=mm:=wrap_small hn hf;have hg:((i.bytes:Int)*mm)=((mm.toNat*i.bytes:Nat):Int):=by
     rw[OI,MX hn,Int.mul_comm]
    have h6:¬ (281474976710656<(i.bytes:Int)*mm):=by rw[hg];omega
    have h7:¬ mm<0:=by omega
    have h8:¬ n<0:=by omega
    have h9:¬ n > mm:=by omega
    generalize h3:(Array.range (mm.toNat*i.size)).map (fun q=>zv.cells[q%zv.cells.size]!)=arr;have hd:arr.size=mm.toNat*i.size:=by rw[<- h3];simp
    have hh:(Instr.makeSlice t (.int .i64 n) (.int .i64 mm)).run P w=.ok (.slice (some ⟨w.heap.size,0,none⟩) n.toNat mm.toNat) (w.alloc (.cells arr elem)):=by
     by_cases hv:mm.toNat*i.size=0
     ·have ha:arr=#[]:=M7 (by omega);have hJ:∀ f:Nat->Value,Array.map f (Array.range 0)=#[]:=fun f=>M7 (by simp);simp[Instr.makeSlice,run_underlying hu,asInt,asIntOf,typeInfo,hi,hr,ht,h6,h7,h8,h9,sizeOf,hv,newRow,ha,hJ]
     ·simp[Instr.makeSlice,run_underlying hu,asInt,asIntOf,typeInfo,hi,hr,ht,h6,h7,h8,h9,sizeOf,hv,hH,newRow,<- h3]
    refine⟨_,_,hh,_,dw _ _,fZ r (by rw[fN,he,hd];exact Lh _) ?_,qJ (by omega) (by rw[kz,hd];exact Lh _) _ (Lh _)⟩;intro q c hq;rw[fT he hj]at hq;split at hq
    ·rename_i hK;have hw:zv.cells.size=i.size:=by rw[hm.1,he]
     have hA:q%i.size<zv.cells.size:=by rw[hw];exact Nat.mod_lt _ hj
     refine⟨zv.cells[q%i.size],?_,hm.2 _ c _ hq (Lr hA)⟩;rw[<- h3];simp[hK,hw,getElem!_pos zv.cells (q%i.size) hA]
    ·cases hq
   ·cases hy
  ·cases hy
 ·cases hy
theorem na(s:ByteArray):∀ (b i:Nat) (acc:Array Value),Conv.runesFrom s b i acc=acc++((ec s b i).map (Value.int .i32)).toArray
 | 0,i,acc=>by simp[Conv.runesFrom,ec]
 | b+1,i,acc=>by
  simp only[Conv.runesFrom,ec];split
  ·rw[na s b];apply MZ;simp
  ·simp
theorem rX:∀ {cs:List V}{vs:List Value}{bs:List UInt8},vs.length=cs.length->(∀ (i:Nat) (c:V) (v:Value),cs[i]?=some c->vs[i]?=some v->R m h w c v)->lT cs=some bs ->
  ∃ ns:List Int,vs=ns.map (Value.int .u8)/\bs=ns.map fun n=>UInt8.ofNat n.toNat
 | [],[],bs,_,_,hb=>by simp[lT]at hb;subst hb;exact⟨[],rfl,rfl⟩
 | c::cs,v::vs,bs,hl,hr,hb=>by
  unfold lT at hb;split at hb
  ·rename_i h1;cases h1
  ·rename_i n r h1;cases h1;split at hb
   ·rename_i bs' h0;cases hb;obtain⟨ns,h1,h2⟩:=rX (by simpa using hl) (fun i c v hc hv=>hr (i+1) c v (by simpa using hc) (by simpa using hv)) h0;have:=hr 0 _ v rfl rfl;cases this;exact⟨n::ns,by simp[h1],by simp[h2]⟩
   ·cases hb
  ·cases hb
 | [],_::_,_,hl,_,_=>by simp at hl
 | _::_,[],_,hl,_,_=>by simp at hl
theorem foldl_push(ns:List Int)(r:ByteArray):ns.foldl (fun r n=>r.push (UInt8.ofNat n.toNat)) r=⟨r.data++(ns.map fun n=>UInt8.ofNat n.toNat).toArray⟩:=by
 induction ns generalizing r with
 | nil=>simp
 | cons n ns ih =>
  rw[MP,ih];congr 1;show r.data.push _++_=_;apply MZ;simp
theorem uJ(r:Rel m h w){x:V}{xv:Value}{cs:List V}(hx:R m h w x xv)(he:jX h x=some cs):
  ∃ vs:List Value,vs.length=cs.length/\(∀ (i:Nat) (c:V) (v:Value),cs[i]?=some c->vs[i]?=some v->R m h w c v) /\
   (((∃ l c,xv=.slice none l c)/\vs=[])\/∃ a len cap,xv=.slice (some a) len cap/\(loadCells a len).run P w=.ok vs.toArray w):=by
 have h0:aZ h 1 x=some (cs.length,cs)\/False:=by
  unfold jX at he;split at he
  ·rename_i y off len cap k;split at he
   ·rename_i bl hb;split at he
    ·rename_i hc;simp only[Lq,decide_eq_true_eq]at hc;obtain⟨rfl,hle⟩:=hc;cases he;left;simp only[aZ,hb,Ox,hle,decide_true,M3,if_true,Ll,LL,and_true];simp;omega
    ·cases he
   ·cases he
  ·rename_i xs;left;have key:∀ (xs:List (List V)) (cs:List V),(xs.mapM fun e=>match e with|[c]=>some c|_=>none)=some cs->(xs.all (fun e=>e.length==1))=true/\xs.flatten=cs/\xs.length=cs.length:=by
    intro xs
    induction xs with
    | nil=>intro cs h;simp at h;subst h;simp
    | cons e xs ih =>
     intro cs h;simp only[MC,NK,NT,Oa]at h;obtain⟨c,h1,cs',h2,h3⟩:=h;cases h3;obtain⟨i1,i2,i3⟩:=ih cs' h2
     match e,h1 with
     | [c'],h1=>cases h1;simp[i1,i2,i3]
   obtain⟨k1,k2,k3⟩:=key xs cs he;simp only[aZ,k1,if_true,k2,k3]
  ·cases he;left;rfl
  ·cases he
 rcases h0 with h0|hf
 ·obtain⟨news,h1,h2,h3,h4,h5,a,l,c,rfl⟩:=Eb (P:=P) r hx h0;refine⟨news,h1,h3,?_⟩;have h6:=h5 w rfl;have h7:=h4 w;simp only[Builtin.lenOf,Sem.run_pure,Result.ok.injEq,and_true]at h7;subst h7;cases a with
  | some a =>
   right;refine⟨a,_,_,rfl,?_⟩;simpa[Builtin.firstCells]using h6
  | none =>
   left;have hn:news=[]:=by
    simp only[Builtin.firstCells,Sem.run_pure,Result.ok.injEq,and_true]at h6;have:=congrArg Array.toList h6;simpa using this.symm
   exact⟨⟨_,_,rfl⟩,hn⟩
 ·exact hf.elim
theorem sR:∀ {cs:List V}{vs:List Value}{ns:List Int},vs.length=cs.length->(∀ (i:Nat) (c:V) (v:Value),cs[i]?=some c->vs[i]?=some v->R m h w c v)->nc cs=some ns->vs=ns.map (Value.int .i32)
 | [],[],ns,_,_,hb=>by simp[nc]at hb;subst hb;rfl
 | c::cs,v::vs,ns,hl,hr,hb=>by
  unfold nc at hb;split at hb
  ·rename_i h1;cases h1
  ·rename_i n r h1;cases h1;split at hb
   ·rename_i ns' h0;cases hb;have ih:=sR (by simpa using hl) (fun i c v hc hv=>hr (i+1) c v (by simpa using hc) (by simpa using hv)) h0;have:=hr 0 _ v rfl rfl;cases this;simp[ih]
   ·cases hb
  ·cases hb
 | [],_::_,_,hl,_,_=>by simp at hl
 | _::_,[],_,hl,_,_=>by simp at hl
theorem oK{w:World}(body:Value->ByteArray->Sem (ForInStep ByteArray))(hb:∀ n r,(body (.int .i32 n) r).run P w=.ok (.yield (r++Utf8.encode n)) w)(ns:List Int)(r:ByteArray):
  (forIn (ns.map (Value.int .i32)) r body).run P w=.ok (ns.foldl (fun s n=>s++Utf8.encode n) r) w:=by
 induction ns generalizing r with
 | nil=>simp[Sem.run_pure]
 | cons n ns ih=>simp only[MF,List.forIn_cons,Sem.run_bind,hb,Result.andThen_ok,ih,MP]
theorem mZ(w:World)(a:Addr)(len cap:Nat)(ns:List Int)(h:(loadCells a len).run P w=.ok (ns.map (Value.int .i32)).toArray w):
  (Conv.runesToString (.slice (some a) len cap)).run P w=.ok (.string (ti ns)) w:=by
 unfold Conv.runesToString;simp only[Sem.run_bind,h,Result.andThen,List.forIn_toArray];rw[oK _ (by intro n r;simp[Sem.run_pure])];simp[Sem.run_pure,ti]
theorem Fb(r:Rel m h w){src dst:TypeId}{x y:V}{xv:Value}{h':Heap}(hx:R m h w x xv)(hy:fB P h src dst x=some (y,h')):
  ∃ v w',(convert src dst xv).run P w=.ok v w'/\Out m h w y h' v w':=by
 unfold fB at hy;split at hy
 ·rename_i e hs hd;split at hy
  ·rename_i he;split at hy
   ·rename_i cs h0;split at hy
    ·rename_i bs h9;simp only[Ll,LL]at hy;obtain⟨rfl,rfl⟩:=hy;obtain⟨vs,h1,h2,h3⟩:=uJ (P:=P) r hx h0;obtain⟨ns,rfl,rfl⟩:=rX h1 h2 h9;rcases h3 with⟨⟨l,c,rfl⟩,h4⟩|⟨a,len,cap,rfl,h4⟩
     ·have:ns=[]:=by simpa using h4
      subst this;exact⟨.string ByteArray.empty,w,by simp[convert,run_underlying hs,run_underlying hd,run_underlying he,Conv.bytesToString],.same r (.str _)⟩
     ·have hb:=run_bytesToString w a len cap ns h4;rw[foldl_push]at hb;refine⟨.string ⟨ByteArray.empty.data++(ns.map fun n=>UInt8.ofNat n.toNat).toArray⟩,w,by simp only[convert,Sem.run_bind,run_underlying hs,run_underlying hd,run_underlying he,Result.andThen_ok,hb],.same r ?_⟩;have:(⟨ByteArray.empty.data++(ns.map fun n=>UInt8.ofNat n.toNat).toArray⟩:ByteArray)=⟨(ns.map fun n=>UInt8.ofNat n.toNat).toArray⟩:=by
       show (⟨#[]++_⟩:ByteArray)=_;rw[Array.empty_append]
      rw[this];exact .str _
    ·cases hy
   ·cases hy
  ·rename_i he;split at hy
   ·rename_i cs h0;split at hy
    ·rename_i ns ha;simp only[Ll,LL]at hy;obtain⟨rfl,rfl⟩:=hy;obtain⟨vs,h1,h2,h3⟩:=uJ (P:=P) r hx h0;have hc:=sR h1 h2 ha;subst hc;rcases h3 with⟨⟨l,c,rfl⟩,h4⟩|⟨a,len,cap,rfl,h4⟩
     ·have:ns=[]:=by simpa using h4
      subst this;exact⟨.string ByteArray.empty,w,by simp[convert,run_underlying hs,run_underlying hd,run_underlying he,Conv.runesToString],.same r (.str _)⟩
     ·have hb:=mZ (P:=P) w a len cap ns h4;exact⟨.string (ti ns),w,by simp only[convert,Sem.run_bind,run_underlying hs,run_underlying hd,run_underlying he,Result.andThen_ok,hb],.same r (.str _)⟩
    ·cases hy
   ·cases hy
  ·cases hy
 ·rename_i sd k hs hd;split at hy
  ·rename_i k' n;cases hx;simp only[Ll,LL]at hy;obtain⟨rfl,rfl⟩:=hy;exact⟨.int k (k.wrap n),w,by cases sd<;>simp[convert,run_underlying hs,run_underlying hd,Conv.intToInt],.same r (.int _ _)⟩
  ·cases hy
 ·rename_i sd hne hs hd;split at hy
  ·rename_i s;cases hx;simp only[Ll,LL]at hy;obtain⟨rfl,rfl⟩:=hy;exact⟨.string s,w,by cases sd<;>simp[convert,run_underlying hs,run_underlying hd],.same r (.str _)⟩
  ·cases hy
 ·rename_i sd e hs hd;split at hy
  ·rename_i s;cases hx;split at hy
   ·rename_i he;simp only[Ll,LL]at hy;obtain⟨rfl,rfl⟩:=hy;have h6:(ec s s.size 0).length<=grownCap w (ec s s.size 0).length 0 e:=grownCap_ge _ _ _ _;generalize h7:grownCap w (ec s s.size 0).length 0 e=cap at h6;have h8:(convert src dst (.string s)).run P w=.ok (.slice (some ⟨w.heap.size,0,none⟩) (ec s s.size 0).length cap)
      (w.drew.alloc (.cells (((ec s s.size 0).map (Value.int .i32)).toArray++Array.replicate (cap-(ec s s.size 0).length) (.int .i32 0)) e)):=by
     cases sd<;>simp[convert,run_underlying hs,run_underlying hd,run_underlying he,Conv.stringToRunes,na,Question.forced,newRow,<- h7,grownCap]
    refine⟨_,_,h8,_,(gr (w:=w) (w':=w.drew) rfl rfl rfl rfl).trans (dw _ _),fZ (jM r (w':=w.drew) rfl rfl rfl rfl) (by simp) ?_,qJ (w:=w.drew) h6 ?_ _ h6⟩
    ·intro j c hj;rw[Ln]at hj;simp only[LG]at hj;obtain⟨n,hn,rfl⟩:=hj;have hf:=(Ld.1 hn).1;refine⟨.int .i32 n,?_,.int _ _⟩;rw[MK (by simpa using hf)];simp[hn]
    ·rw[kz];simp;omega
   ·cases hy
  ·cases hy
 ·cases hy
end
end Go.Ab
namespace Go.Ab
section
variable {P:Program}{m:Mu}{h:Heap}{w:World}
theorem rP{z:Array Value}{n q:Nat}(hq:q<n*z.size):(Builtin.zeroCells z n)[q]?=z[q%z.size]?:=by
 have hs:0<z.size:=by
  rcases M8 z.size with h|h
  ·rw[h]at hq;omega
  ·exact h
 have hm:q%z.size<z.size:=Nat.mod_lt _ hs;simp[Builtin.zeroCells,hq,hm]
theorem Co(r:Rel m h w){cfg:Cfg}{t ty:TypeId}{x:V}{xv:Value}{h':Heap}(hx:R m h w x xv)(hy:iP P cfg h t x=some h'):
  ∃ v w',(Builtin.clear_ #[t] ty #[xv]).run P w=.ok v w'/\Out m h w (.tup []) h' v w':=by
 have nothing:∀ {a:Option Addr} {c:Nat},h'=h->(∃ e,P.underlying t=some (.slice e))->xv=.slice a 0 c->∃ v w',(Builtin.clear_ #[t] ty #[xv]).run P w=.ok v w'/\Out m h w (.tup []) h' v w':=by
  rintro a c rfl ⟨e,hu⟩ rfl;refine⟨.tuple #[],w,?_,.same r (.tup rfl fun i c v h=>by simp at h)⟩;cases a<;>simp[Builtin.clear_,run_underlying hu]
 unfold iP at hy;split at hy
 ·rename_i e hu;cases hy;cases hx;exact nothing rfl ⟨_,hu⟩ rfl
 ·rename_i e hu;cases hy;generalize hl:([]:List (List V))=l at hx;cases hx with
  | lst0 a rc _=>exact nothing rfl ⟨_,hu⟩ rfl
  | lst rv hi hm hk hc hf hr=>subst hl;exact nothing rfl ⟨_,hu⟩ rfl
 ·rename_i elem b off len cap k hu;split at hy
  ·rename_i hl;subst hl;cases hy;cases hx;exact nothing rfl ⟨_,hu⟩ rfl
  ·rename_i hl;split at hy
   ·rename_i s z hs hz;split at hy
    ·rename_i hc;simp only[Lq,decide_eq_true_eq,beq_iff_eq]at hc;obtain⟨⟨⟨rfl,h0⟩,h7⟩,h8⟩:=hc;obtain⟨zv,hd,he,_⟩:=cy hz w;have h9:=kJ (m:=m) (h:=h) (w:=w) he;obtain⟨cs,hb⟩:∃ cs,ab h b=some cs:=by
      unfold aP at hy;split at hy
      ·rename_i cs hb;exact⟨cs,hb⟩
      ·cases hy
     obtain⟨rb,rc,arr,T,hg,rfl,_,_,_,_,_,_⟩:=hx.sl_at r hb;have h3:zv.cells.size=s:=by rw[h9.1,h0]
     have hh:(Builtin.zeroCells zv.cells len).size=len*s:=by rw[size_zeroCells,h3]
     have ha:∀ (i:Nat) (c:V) (u:Value),(br (cR z) len)[i]?=some c->(Builtin.zeroCells zv.cells len).toList[i]?=some u->R m h w c u:=by
      intro i c u hc h4;rw[fT h0 h7]at hc;split at hc
      ·rename_i hj;simp only[NA]at h4;rw[rP (by rw[h3];exact hj),h3]at h4;exact h9.2 _ c u hc h4
      ·cases hc
     have hlen:(Builtin.zeroCells zv.cells len).toList.length=(br (cR z) len).length:=by
      rw[fN,h0];simpa using hh
     have h1:∀ u∈(Builtin.zeroCells zv.cells len).toList,u.oneCell'=true:=by
      refine yM (m:=m) (h:=h) (w:=w) (new:=br (cR z) len) ?_ hlen ha;rw[Lp]at h8 ⊢;intro c hc;obtain⟨i,hi,rfl⟩:=Ma hc;have h2:=Lc hi;rw[fT h0 h7]at h2;split at h2
      ·exact h8 _ (Le h2)
      ·cases h2
     obtain⟨w',h6,e,r'⟩:=gU (P:=P) r hg hb hy hlen ha h1;refine⟨.tuple #[],w',?_,m,e,r',.tup rfl fun i c v h=>by simp at h⟩;cases len with
     | zero=>exact absurd rfl hl
     | succ len=>simp[Builtin.clear_,run_underlying hu,hd,h6]
    ·cases hy
   ·cases hy
 ·cases hy
end
end Go.Ab
namespace Go.Ab
open Go.Instr
def fnd:List (Int×Int)->Int->Nat->Option (Nat×Int)
 | [],_,_=>none
 | (a,v)::r,x,i=>if x==a then some (i,v) else fnd r x (i+1)
theorem vq(x:Int):∀ (l:List (Int×Int)) (i:Nat),(fnd l x i).map (·.2)=oH l x
 | [],_=>rfl
 | (a,v)::r,i=>by
  simp only[fnd,oH];split
  ·rfl
  ·exact vq x r (i+1)
theorem CI(x:Int):∀ (l:List (Int×Int)) (i j:Nat) (v:Int),fnd l x i=some (j,v)->i<=j
 | [],_,_,_,h=>by simp[fnd]at h
 | (a,u)::r,i,j,v,h=>by
  simp only[fnd]at h;split at h
  ·cases h;exact Lh _
  ·have:=CI x r (i+1) j v h;omega
theorem qi{k e:IntKind}{x:Int}:∀ (es:List MapEntry) (l:List (Int×Int)) (i:Nat),es.map (fun q=>(q.key,q.val))=l.map (fun q=>(Value.int k q.1,Value.int e q.2)) ->
  findNow (.int k) (.int k x) es i=some ((fnd l x i).map fun q=>(q.1,Value.int e q.2))
 | [],[],i,_=>rfl
 | [],_::_,i,h=>by simp at h
 | _::_,[],i,h=>by simp at h
 | q::es,(a,v)::l,i,h=>by
  simp only[MF,OJ,LL]at h;obtain⟨⟨h1,h2⟩,h3⟩:=h;simp only[findNow,h1,sameNow,if_true,fnd];by_cases h0:x=a
  ·subst h0;simp[h2]
  ·have e1:(x==a)=false:=by simpa using h0
   simp only[e1,LH,if_false];exact qi es l (i+1) h3
theorem sB{x y:Int}:∀ (l:List (Int×Int)) (i:Nat),fnd l x i=none->lJ l x y=l++[(x,y)]
 | [],_,_=>rfl
 | (a,v)::l,i,h=>by
  simp only[fnd]at h;split at h
  ·cases h
  ·rename_i h0;simp only[lJ,h0,if_false,L8,LH];rw[sB l (i+1) h]
theorem sC{k e:IntKind}{x y:Int}{b:Nat}:∀ (es:List MapEntry) (l:List (Int×Int)) (i j:Nat) (v:Int),es.map (fun q=>(q.key,q.val))=l.map (fun q=>(Value.int k q.1,Value.int e q.2))->fnd l x i=some (i+j,v) ->
  (es.modify j fun q=>{ q with key:=Value.int k x,val:=Value.int e y }).map (fun q=>(q.key,q.val))=(lJ l x y).map (fun q=>(Value.int k q.1,Value.int e q.2))/\(es[j]?).map (·.key)=some (Value.int k x)
 | [],[],i,j,v,_,h=>by simp[fnd]at h
 | [],_::_,i,j,v,h,_=>by simp at h
 | _::_,[],i,j,v,h,_=>by simp at h
 | q::es,(a,u)::l,i,j,v,h,hf=>by
  simp only[MF,OJ,LL]at h;obtain⟨⟨h1,h2⟩,h3⟩:=h;simp only[fnd]at hf;split at hf
  ·rename_i h0;have hj:j=0:=by simp at hf;omega
   subst hj;have h4:x=a:=by simpa using h0
   subst h4;simp[lJ,h1,h3]
  ·rename_i h0;have h6:=CI x l (i+1) (i+j) v hf;obtain⟨j',rfl⟩:∃ j',j=j'+1:=⟨j-1,by omega⟩;have ih:=sC (b:=b) (y:=y) es l (i+1) j' v h3 (by rw[hf];congr 2;omega);simp only[lJ,h0,if_false,LH,List.modify_succ_cons,MF,h1,h2,LV];exact⟨by rw[ih.1],ih.2⟩
section
variable {P:Program}{m:Mu}{h:Heap}{w:World}
theorem oa{t:TypeId}{k e:IntKind}(hk:gz P t=some (k,e)):∃ a b,P.underlying t=some (.map a b)/\P.underlying a=some (.int k)/\P.underlying b=some (.int e)/\zeroOf P b=some (.int e 0):=by
 unfold gz at hk;split at hk
 ·rename_i a b hu;split at hk
  ·rename_i k' e' e'' ha hb hz;split at hk
   ·rename_i he;cases hk;exact⟨a,b,hu,ha,hb,by rw[hz,he]⟩
   ·cases hk
  ·cases hk
 ·cases hk
theorem rL(r:Rel m h w)(k e:IntKind):Rel (upd m h.length w.heap.size) (h++[some [.mp k e []]]) (w.alloc (.map #[] 0)):=by
 have ev:=dw (m:=m) (h:=h) (w:=w) [.mp k e []] (.map #[] 0);refine⟨fun x b hl hb hz=>?_,fun b hb=>LF (r.zl b hb) ev.size,fun x y b hx hy h0 h3=>?_,fun x cs' b hx hb=>?_⟩
 ·rcases aL hl with h1|rfl
  ·simp only[upd,LZ h1,if_false]at hb;exact r.zo x b ((bC h1).1 hl) hb hz
  ·simp only[upd,if_true,Ll]at hb;have:=r.zl b hz;omega
 ·rcases aL hx with h1|rfl
  ·rcases aL hy with h2|rfl
   ·simp only[upd,LZ h1,LZ h2,if_false]at h0 h3;exact r.inj x y b ((bC h1).1 hx) ((bC h2).1 hy) h0 h3
   ·simp only[upd,LZ h1,if_false,if_true,Ll]at h0 h3;have:=r.lt x b ((bC h1).1 hx) h0;omega
  ·rcases aL hy with h2|rfl
   ·simp only[upd,LZ h2,if_false,if_true,Ll]at h0 h3;have:=r.lt y b ((bC h2).1 hy) h3;omega
   ·rfl
 ·rcases aL ⟨cs',hx⟩ with h1|rfl
  ·rw[Lf h1]at hx;simp only[upd,LZ h1,if_false]at hb;exact (r.blk x cs' b hx hb).carry (fl (r.lt x b ⟨cs',hx⟩ hb)) fun c v _ h4=>h4.evo ev r.lt
  ·simp only[upd,if_true,Ll]at hb;subst hb;simp at hx;subst hx;exact .inr (.inl ⟨k,e,[],#[],0,rfl,gD,rfl⟩)
theorem qT(r:Rel m h w):Rel (upd m h.length w.heap.size) (h++[some [.mq []]]) (w.alloc (.map #[] 0)):=by
 have ev:=dw (m:=m) (h:=h) (w:=w) [.mq []] (.map #[] 0);refine⟨fun x b hl hb hz=>?_,fun b hb=>LF (r.zl b hb) ev.size,fun x y b hx hy h0 h3=>?_,fun x cs' b hx hb=>?_⟩
 ·rcases aL hl with h1|rfl
  ·simp only[upd,LZ h1,if_false]at hb;exact r.zo x b ((bC h1).1 hl) hb hz
  ·simp only[upd,if_true,Ll]at hb;have:=r.zl b hz;omega
 ·rcases aL hx with h1|rfl
  ·rcases aL hy with h2|rfl
   ·simp only[upd,LZ h1,LZ h2,if_false]at h0 h3;exact r.inj x y b ((bC h1).1 hx) ((bC h2).1 hy) h0 h3
   ·simp only[upd,LZ h1,if_false,if_true,Ll]at h0 h3;have:=r.lt x b ((bC h1).1 hx) h0;omega
  ·rcases aL hy with h2|rfl
   ·simp only[upd,LZ h2,if_false,if_true,Ll]at h0 h3;have:=r.lt y b ((bC h2).1 hy) h3;omega
   ·rfl
 ·rcases aL ⟨cs',hx⟩ with h1|rfl
  ·rw[Lf h1]at hx;simp only[upd,LZ h1,if_false]at hb;exact (r.blk x cs' b hx hb).carry (fl (r.lt x b ⟨cs',hx⟩ hb)) fun c v _ h4=>h4.evo ev r.lt
  ·simp only[upd,if_true,Ll]at hb;subst hb;simp at hx;subst hx;exact .inr (.inr ⟨[],#[],0,rfl,gD,rfl,by simp⟩)
theorem xV(r:Rel m h w){t:TypeId}{x:V}{h':Heap}(hy:dQ P h t=some (x,h')):∃ v w',(makeMap t none).run P w=.ok v w'/\Out m h w x h' v w':=by
 unfold dQ at hy;split at hy
 ·rename_i k e hk;cases hy;exact⟨_,_,rfl,_,dw _ _,rL r k e,.mref (by simp) fun _=>by simp[upd]⟩
 ·split at hy
  ·cases hy;exact⟨_,_,rfl,_,dw _ _,qT r,.mref (by simp) fun _=>by simp[upd]⟩
  ·cases hy
theorem R.mref_at(r:Rel m h w){x:Nat}{v:Value}{k e:IntKind}{l:List (Int×Int)}(hv:R m h w (.mref x) v)(hb:mapOf h x=some (k,e,l)):
  ∃ b es clock,m x=some b/\v=.map (some b)/\w.heap[b]?=some (.map es clock)/\uu k e l es:=by
 have hc:=gO hb;cases hv with
 | mref h3 hv =>
  have h0:=hv ⟨_,hc⟩;rcases r.blk x _ _ hc h0 with⟨arr,T,ha,hl,hr⟩|⟨k',e',l',es,clock,heq,ha,hm⟩|⟨l',es,clock,heq,_⟩
  ·obtain⟨u,_,hu⟩:=hr 0 (.mp k e l) rfl;cases hu
  ·cases heq;exact⟨_,es,clock,h0,rfl,ha,hm⟩
  ·cases heq
theorem rC(n:Nat){em:Bool}{t:TypeId}{k:IntKind}{x:Int}(hu:P.underlying t=some (.int k)):(checkKey em (n+1) t (.int k x)).run P w=.ok () w:=by
 simp only[checkKey,Sem.run_bind,run_underlying hu,Result.andThen_ok,Sem.run_pure]
theorem iM{em:Bool}{t:TypeId}{k:IntKind}{x:Int}(hu:P.underlying t=some (.int k)):(checkKey em 10000 t (.int k x)).run P w=.ok () w:=rC 9999 hu
theorem eX{r:Nat}{es:Array MapEntry}{clock:Nat}(hb:w.heap[r]?=some (.map es clock)):(getObj r).run P w=.ok (.map es clock) w:=by
 simp[getObj,Sem.run,hb]
theorem jA{t:TypeId}{k e:IntKind}{x:Int}{es:Array MapEntry}{l:List (Int×Int)}(hu:P.underlying t=some (.int k))(hm:uu k e l es):
  (findKey t (.int k x) es.toList).run P w=.ok ((fnd l x 0).map fun q=>(q.1,Value.int e q.2)) w:=by
 simp only[findKey,Sem.run_bind,run_underlying hu,Result.andThen_ok,qi es.toList l 0 hm,Sem.run_pure]
theorem Bh{v:Value}{k:IntKind}{n:Int}(h:jF v=some (.int k n)):v=.int k n:=by
 unfold jF at h;split at h
 ·simp at h
 ·split at h<;>simp at h
 ·unfold gQ at h;split at h<;>simp at h;obtain⟨rfl,rfl⟩:=h;rfl
theorem Df{v:V}(hf:nS v=true):R m h w v (tI v):=by
 cases v<;>first|(exact .bool _)|(exact .int _ _)|simp[nS]at hf
theorem BX{v:V}{x:Value}(hf:nS v=true)(hr:R m h w v x):x=tI v:=by
 cases v<;>first|(cases hr;rfl)|simp[nS]at hf
theorem uj{v:V}(hf:fD v=true):R m h w v (valOf v):=by
 cases v with
 | agg cs =>
  refine .agg (by simp) fun i c x hc hx=>?_;simp only[Ni,Ln,hc,LW,Ll]at hx;subst hx;exact Df (Lp.1 hf c (Le hc))
 | bool b=>exact .bool _
 | int k n=>exact .int _ _
 | _=>simp[fD,nS]at hf
theorem yK{v:V}{x:Value}(hf:fD v=true)(hr:R m h w v x):x=valOf v:=by
 cases v with
 | agg cs =>
  cases hr with
  | agg hl hr =>
   rename_i vs;show Value.agg vs=Value.agg _;congr 1;refine Array.ext (by simpa using hl) fun i h1 h2=>?_;have hi:i<cs.length:=by omega
   have:=hr i cs[i] vs[i] (Lc hi) (Lr h1);rw[BX (Lp.1 hf _ (MG hi)) this];simp
 | bool b=>cases hr;rfl
 | int k n=>cases hr;rfl
 | _=>simp[fD,nS]at hf
theorem sz{t a:TypeId}{fs:List Field}{z:V}(hk:lI P t=some (a,fs,z)):∃ b fields,P.underlying t=some (.map a b)/\P.underlying a=some (.struct fields)/\fields.toList=fs/\zeroOf P b=some z/\fc P 0 fs=true/\fD z=true:=by
 unfold lI at hk;split at hk
 ·rename_i a' b hu;split at hk
  ·rename_i fields z' ha hz;split at hk
   ·rename_i hc;simp only[Lq]at hc;cases hk;exact⟨b,fields,hu,ha,rfl,hz,hc.1,hc.2⟩
   ·cases hk
  ·cases hk
 ·cases hk
theorem kU{a:TypeId}{key:V}{kv:Value}(hk:R m h w key kv):∀ (es:List MapEntry) (l:List (List V)) (i:Nat) (r:Option V),es.map (fun x=>(x.key,x.val))=l.map (fun e=>(valOf (e.headD .no),valOf (e.getD 1 .no))) ->
  (∀ e∈l,∃ k v,e=[k,v]/\fD k=true/\fD v=true)->findS P a key l=some r->∃ j,(findAsking a kv es i).run P w=.ok (r.map fun y=>(j,valOf y)) w/\∀ y,r=some y->fD y=true
 | [],[],i,r,_,_,hf=>by
  simp only[findS,Ll]at hf;subst hf;exact⟨0,by simp[findAsking],by simp⟩
 | [],_::_,_,_,he,_,_=>by simp at he
 | _::_,[],_,_,he,_,_=>by simp at he
 | q::es,e::l,i,r,he,hl,hf=>by
  obtain⟨k,v,rfl,h1,h2⟩:=hl e (Lv ..);simp only[MF,OJ,LL,List.headD_cons,List.getD_cons_succ,List.getD_cons_zero]at he;obtain⟨⟨h3,h4⟩,h6⟩:=he;simp only[findS]at hf;split at hf
  ·rename_i heq;cases hf;obtain⟨h0,_⟩:=oT (P:=P) (w:=w) hk (uj h1) heq;refine⟨i,?_,fun y hy=>by cases hy;exact h2⟩;simp only[findAsking,Sem.run_bind,h3,h0,Result.andThen_ok,if_true,Sem.run_pure,h4,LW]
  ·rename_i heq;obtain⟨h0,_⟩:=oT (P:=P) (w:=w) hk (uj h1) heq;obtain⟨j,hj,h7⟩:=kU hk es l (i+1) r h6 (fun e he=>hl e (Lm _ he)) hf;refine⟨j,?_,h7⟩;simp only[findAsking,Sem.run_bind,h3,h0,Result.andThen_ok,LH,if_false];exact hj
  ·cases hf
theorem nw{a:TypeId}{fields:Array Field}{ks:List V}{vs:Array Value}{es:Array MapEntry}{l:List (List V)}{r:Option V}(hu:P.underlying a=some (.struct fields))(hk:R m h w (.agg ks) (.agg vs))(hm:BQ l es)(hf:findS P a (.agg ks) l=some r):
  ∃ j,(findKey a (.agg vs) es.toList).run P w=.ok (r.map fun y=>(j,valOf y)) w/\∀ y,r=some y->fD y=true:=by
 obtain⟨j,hj,h3⟩:=kU (P:=P) hk es.toList l 0 r hm.1 hm.2 hf;refine⟨j,?_,h3⟩;cases h0:es.toList with
 | nil =>
  rw[h0]at hj;simp only[findKey,Sem.run_bind,run_underlying hu,Result.andThen_ok,findNow,Sem.run_pure];simpa[findAsking]using hj
 | cons q es' =>
  rw[h0]at hj;have hn:findNow (.struct fields) (.agg vs) (q::es') 0=none:=by simp[findNow,sameNow]
  simp only[findKey,Sem.run_bind,run_underlying hu,Result.andThen_ok,hn];exact hj
theorem pK{n:Nat}{em:Bool}{t:TypeId}{x:Value}{T:TypeDesc}(hu:P.underlying t=some T)(hT:(∃ k,T=.int k)\/T=.bool):(checkKey em (n+1) t x).run P w=.ok () w:=by
 rcases hT with⟨k,rfl⟩|rfl<;>simp only[checkKey,Sem.run_bind,run_underlying hu,Result.andThen_ok,Sem.run_pure]
theorem nr{n:Nat}{em:Bool}{a:TypeId}{fields:Array Field}{vs:Array Value}(hu:P.underlying a=some (.struct fields))(hk:fc P 0 fields.toList=true)(hl:vs.size=fields.toList.length):(checkKey em (n+1+1) a (.agg vs)).run P w=.ok () w:=by
 have key:∀ (fs:List Field) (i:Nat),fc P i fs=true->i+fs.length<=vs.size ->
   (forIn (m:=Sem) fs PUnit.unit fun f _=>do
    if f.name ≠ "_" then checkKey em (n + 1) f.type (← Go.part f.type vs f.offset)
    pure (ForInStep.yield PUnit.unit)).run P w=.ok PUnit.unit w:=by
  intro fs
  induction fs with
  | nil=>intro i _ _;simp
  | cons f fs ih =>
   intro i h6 h9;simp only[fc,Lq,decide_eq_true_eq]at h6;obtain⟨⟨h3,h7⟩,h0⟩:=h6;simp only[Lx]at h9;obtain⟨T,hT,h8⟩:∃ T,P.underlying f.type=some T/\((∃ k,T=.int k)\/T=.bool):=by
    split at h7
    ·rename_i k h4;exact⟨_,h4,.inl ⟨k,rfl⟩⟩
    ·rename_i h4;exact⟨_,h4,.inr rfl⟩
    ·cases h7
   have ha:oC P f.type=some false:=by
    rcases h8 with⟨k,rfl⟩|rfl<;>simp[oC,hT]
   have hp:(Go.part f.type vs f.offset).run P w=.ok vs[i] w:=by simp[Go.part,eF ha,h3,show i<vs.size by omega]
   rw[List.forIn_cons];simp only[Sem.run_bind];have hi:=ih (i+1) h0 (by omega);split
   ·simp only[Sem.run_bind,hp,pK (n:=n) hT h8,Result.andThen_ok,Sem.run_pure];exact hi
   ·simp only[Sem.run_pure,Result.andThen_ok];exact hi
 unfold checkKey;simp only[Sem.run_bind,run_underlying hu,Result.andThen_ok];have:=key fields.toList 0 hk (by omega);rw[Array.forIn_toList]at this;simp at this ⊢;rw[this];rfl
theorem jl{em:Bool}{a:TypeId}{fields:Array Field}{vs:Array Value}(hu:P.underlying a=some (.struct fields))(hk:fc P 0 fields.toList=true)(hl:vs.size=fields.toList.length):(checkKey em 10000 a (.agg vs)).run P w=.ok () w:=nr (n:=9998) hu hk hl
theorem R.mref_atS(r:Rel m h w){x:Nat}{v:Value}{l:List (List V)}(hv:R m h w (.mref x) v)(hb:lH h x=some l):
  ∃ b es clock,m x=some b/\v=.map (some b)/\w.heap[b]?=some (.map es clock)/\BQ l es:=by
 have hc:=gy hb;cases hv with
 | mref h3 hv =>
  have h0:=hv ⟨_,hc⟩;rcases r.blk x _ _ hc h0 with⟨arr,T,ha,hl,hr⟩|⟨k',e',l',es,clock,heq,ha,hm⟩|⟨l',es,clock,heq,ha,hm⟩
  ·obtain⟨u,_,hu⟩:=hr 0 (.mq l) rfl;cases hu
  ·cases heq
  ·cases heq;exact⟨_,es,clock,h0,rfl,ha,hm⟩
theorem xT(r:Rel m h w){t:TypeId}{x key:V}{xv kv:Value}{ok:Bool}{y:V}(hx:R m h w x xv)(hk:R m h w key kv)(hy:pe P h t x key ok=some y):∃ v,(lookup t xv kv ok).run P w=.ok v w/\R m h w y v:=by
 unfold pe at hy;split at hy
 ·rename_i a fs z b ks h9;split at hy
  ·rename_i l hd;split at hy
   ·rename_i hc;simp only[Lq,decide_eq_true_eq]at hc;obtain⟨tb,fields,hu,h0,rfl,hz,he,hn⟩:=sz h9;obtain⟨b',es,clock,ht,rfl,ha,hm⟩:=R.mref_atS r hx hd;obtain⟨zv,hg,hh,_⟩:=cy hz w;have h3:R m h w z zv:=tO hh;cases hk with
    | agg hl hr =>
    rename_i vs;have h4:R m h w (.agg ks) (.agg vs):=.agg hl hr;have h6:=jl (P:=P) (w:=w) (em:=es.isEmpty) (vs:=vs) h0 he (by omega);have tup:∀ a b:Value,∀ p q:V,R m h w p a->R m h w q b->R m h w (.tup [p,q]) (.tuple #[a,b]):=fun a b p q hp hq=>.tup rfl fun i c v hc hv=>by
     match i,hc,hv with
     | 0,hc,hv=>simp at hc hv;subst hc hv;exact hp
     | 1,hc,hv=>simp at hc hv;subst hc hv;exact hq
     | i+2,hc,_=>simp at hc
    split at hy
    ·rename_i y' hf;obtain⟨j,hj,h7⟩:=nw (P:=P) h0 h4 hm hf;cases hy;have h8:R m h w y' (valOf y'):=uj (h7 y' rfl);refine⟨if ok then .tuple #[valOf y',.bool true] else valOf y',?_,?_⟩
     ·simp only[lookup,Sem.run_bind,run_underlying hu,Result.andThen_ok,eX ha,Sem.run_pure,h6,hj,LW]
     ·cases ok
      ·exact h8
      ·exact tup _ _ _ _ h8 (.bool _)
    ·rename_i hf;obtain⟨j,hj,h7⟩:=nw (P:=P) h0 h4 hm hf;cases hy;refine⟨if ok then .tuple #[zv,.bool false] else zv,?_,?_⟩
     ·simp only[lookup,Sem.run_bind,run_underlying hu,Result.andThen_ok,eX ha,Sem.run_pure,h6,hj,Nl,hg]
     ·cases ok
      ·exact h3
      ·exact tup _ _ _ _ h3 (.bool _)
    ·cases hy
   ·cases hy
  ·cases hy
 ·cases hy
theorem Be(r:Rel m h w){t:TypeId}{x key:V}{xv kv:Value}{ok:Bool}{y:V}(hx:R m h w x xv)(hk:R m h w key kv)(hy:fx P h t x key ok=some y):∃ v,(lookup t xv kv ok).run P w=.ok v w/\R m h w y v:=by
 unfold fx at hy;split at hy
 ·rename_i k e b k1 q h6;split at hy
  ·rename_i k2 e2 l h7;split at hy
   ·rename_i hc;simp only[Lq,decide_eq_true_eq]at hc;obtain⟨⟨rfl,rfl⟩,rfl⟩:=hc;obtain⟨b',es,clock,hd,rfl,ha,hm⟩:=R.mref_at r hx h7;cases hk;obtain⟨ta,tb,hu,h4,he,hz⟩:=oa h6;obtain⟨zv,h8,h9,_⟩:=cy hz w;obtain rfl:=Bh h9;have hg:=vq q l 0;have h0:∀ res,fnd l q 0=res->(lookup t (.map (some b')) (.int k q) ok).run P w=.ok (match res with
      | some p=>if ok then .tuple #[.int e p.2,.bool true] else .int e p.2
      | none=>if ok then .tuple #[.int e 0,.bool false] else .int e 0) w:=by
     intro res h3;simp only[lookup,Sem.run_bind,run_underlying hu,Result.andThen_ok,eX ha,Sem.run_pure,iM h4,jA h4 hm,h3];cases res with
     | none=>simp[h8]
     | some p=>simp
    have tup:∀ a b:Value,∀ p q:V,R m h w p a->R m h w q b->R m h w (.tup [p,q]) (.tuple #[a,b]):=fun a b p q hp hq=>.tup rfl fun i c v hc hv=>by
     match i,hc,hv with
     | 0,hc,hv=>simp at hc hv;subst hc hv;exact hp
     | 1,hc,hv=>simp at hc hv;subst hc hv;exact hq
     | i+2,hc,_=>simp at hc
    cases hf:fnd l q 0 with
    | none =>
     rw[hf]at hg;simp only[Nl]at hg;rw[<- hg]at hy;simp only[Ll]at hy;refine⟨_,h0 none hf,?_⟩;cases ok<;>simp only[if_true,LH,if_false]at hy ⊢<;>subst hy
     ·exact .int _ _
     ·exact tup _ _ _ _ (.int _ _) (.bool _)
    | some p =>
     rw[hf]at hg;simp only[LW]at hg;rw[<- hg]at hy;simp only[Ll]at hy;refine⟨_,h0 (some p) hf,?_⟩;cases ok<;>simp only[if_true,LH,if_false]at hy ⊢<;>subst hy
     ·exact .int _ _
     ·exact tup _ _ _ _ (.int _ _) (.bool _)
   ·cases hy
  ·cases hy
 ·exact xT r hx hk hy
 ·cases hy
theorem map_set(r:Rel m h w){x b:Nat}{k e:IntKind}{l l':List (Int×Int)}{es es':Array MapEntry}{clock clock':Nat}(hx:h[x]?=some (some [.mp k e l]))(hb:m x=some b)(ha:w.heap[b]?=some (.map es clock))(hm:uu k e l' es'):
  Evo m h w m (h.set x (some [.mp k e l'])) { w with heap:=w.heap.setIfInBounds b (.map es' clock') }/\Rel m (h.set x (some [.mp k e l'])) { w with heap:=w.heap.setIfInBounds b (.map es' clock') }:=by
 have h3:live h x:=⟨_,hx⟩;have h0:∀ c,c≠b->(w.heap.setIfInBounds b (.map es' clock'))[c]?=w.heap[c]?:=fun c hc=>M6 (fun e=>hc e.symm);have h7:b<w.heap.size:=r.lt x b h3 hb;have ev:Evo m h w m (h.set x (some [.mp k e l'])) { w with heap:=w.heap.setIfInBounds b (.map es' clock') }:={
  zeq:=rfl
  len:=by simp
  keep:=fun y _ hl=>⟨(cq h3).1 hl,rfl⟩
  own:=fun y c hl hc=>.inl ⟨y,(cq h3).1 hl,hc⟩
  frame:=fun c _ hn=>h0 c fun h4=>hn x h3 (h4 ▸ hb)
  size:=by simp
  rs:=fun c _=>by
   by_cases h4:c=b
   ·subst h4;simp[rsz,ha]
   ·rw[dm (w:=w) (w':={ w with heap:=w.heap.setIfInBounds b (.map es' clock') }) (h0 c h4)];exact Lh _
  os:=rfl
  tape:=rfl
  output:=rfl }
 refine⟨ev,fun y c hy hc=>r.zo y c ((cq h3).1 hy) hc,fun c hc=>LF (r.zl c hc) ev.size,fun y z c hy hz h8 h9=>r.inj y z c ((cq h3).1 hy) ((cq h3).1 hz) h8 h9,fun y cs' c hy hc=>?_⟩;by_cases h6:x=y
 ·subst h6;rw[Lo (fw h3)]at hy;cases hy;rw[hb]at hc;cases hc;exact .inr (.inl ⟨k,e,l',es',clock',rfl,by simp[h7],hm⟩)
 ·rw[Li h6]at hy;have h4:c≠b:=fun e=>h6 (r.inj x y b h3 ⟨cs',hy⟩ hb (e ▸ hc));exact (r.blk y cs' c hy hc).carry (h0 c h4) fun d v _ hd=>hd.evo ev r.lt
theorem Dl(r:Rel m h w){x b:Nat}{l l':List (List V)}{es es':Array MapEntry}{clock clock':Nat}(hx:h[x]?=some (some [.mq l]))(hb:m x=some b)(ha:w.heap[b]?=some (.map es clock))(hm:BQ l' es'):
  Evo m h w m (h.set x (some [.mq l'])) { w with heap:=w.heap.setIfInBounds b (.map es' clock') }/\Rel m (h.set x (some [.mq l'])) { w with heap:=w.heap.setIfInBounds b (.map es' clock') }:=by
 have h3:live h x:=⟨_,hx⟩;have h0:∀ c,c≠b->(w.heap.setIfInBounds b (.map es' clock'))[c]?=w.heap[c]?:=fun c hc=>M6 (fun e=>hc e.symm);have h7:b<w.heap.size:=r.lt x b h3 hb;have ev:Evo m h w m (h.set x (some [.mq l'])) { w with heap:=w.heap.setIfInBounds b (.map es' clock') }:={
  zeq:=rfl
  len:=by simp
  keep:=fun y _ hl=>⟨(cq h3).1 hl,rfl⟩
  own:=fun y c hl hc=>.inl ⟨y,(cq h3).1 hl,hc⟩
  frame:=fun c _ hn=>h0 c fun h4=>hn x h3 (h4 ▸ hb)
  size:=by simp
  rs:=fun c _=>by
   by_cases h4:c=b
   ·subst h4;simp[rsz,ha]
   ·rw[dm (w:=w) (w':={ w with heap:=w.heap.setIfInBounds b (.map es' clock') }) (h0 c h4)];exact Lh _
  os:=rfl
  tape:=rfl
  output:=rfl }
 refine⟨ev,fun y c hy hc=>r.zo y c ((cq h3).1 hy) hc,fun c hc=>LF (r.zl c hc) ev.size,fun y z c hy hz h8 h9=>r.inj y z c ((cq h3).1 hy) ((cq h3).1 hz) h8 h9,fun y cs' c hy hc=>?_⟩;by_cases h6:x=y
 ·subst h6;rw[Lo (fw h3)]at hy;cases hy;rw[hb]at hc;cases hc;exact .inr (.inr ⟨l',es',clock',rfl,by simp[h7],hm⟩)
 ·rw[Li h6]at hy;have h4:c≠b:=fun e=>h6 (r.inj x y b h3 ⟨cs',hy⟩ hb (e ▸ hc));exact (r.blk y cs' c hy hc).carry (h0 c h4) fun d v _ hd=>hd.evo ev r.lt
theorem lM{r:Nat}{es:Array MapEntry}{clock:Nat}(o:Obj)(hb:w.heap[r]?=some (.map es clock)):(setObj r o).run P w=.ok () { w with heap:=w.heap.setIfInBounds r o }:=MapKept.run_setObj_map o hb
theorem rE(r:Rel m h w){cfg:Cfg}{t:TypeId}{a b c:V}{av bv cv:Value}{h':Heap}(ha:R m h w a av)(hb:R m h w b bv)(hc:R m h w c cv)(hy:mapUpdateS P cfg h t a b c=some h'):
  ∃ w',(mapUpdate t av bv cv).run P w=.ok () w'/\Evo m h w m h' w'/\Rel m h' w':=by
 unfold mapUpdateS at hy;split at hy
 ·rename_i ty fs z x ks h8;split at hy
  ·rename_i l h0;split at hy
   ·rename_i h3;simp only[Lq,decide_eq_true_eq]at h3;obtain⟨⟨⟨h4,h6⟩,hlen⟩,_⟩:=h3;split at hy
    ·rename_i hf;cases hy;obtain⟨tb,fields,hu,h7,rfl,hz,h9,hv⟩:=sz h8;obtain⟨b',es,clock,hd,rfl,hw,hm⟩:=R.mref_atS r ha h0;have hg:=yK h4 hb;have hh:=yK h6 hc;cases hb with
     | agg hl hr =>
     rename_i vs;have hn:R m h w (.agg ks) (.agg vs):=.agg hl hr;have hq:=jl (P:=P) (w:=w) (em:=false) (vs:=vs) h7 h9 (by omega);obtain⟨j,hj,_⟩:=nw (P:=P) h7 hn hm hf;have ht:BQ (l++[[.agg ks,c]]) (es.push { key:=.agg vs,val:=cv,born:=clock }):=by
      refine⟨?_,fun e he=>?_⟩
      ·rw[NW,Mm,Mm,hm.1];simp only[MF,List.map_nil,List.headD_cons,List.getD_cons_succ,List.getD_cons_zero,hg,hh]
      ·rcases LA.1 he with he|he
       ·exact hm.2 e he
       ·rw[LP]at he;exact⟨_,_,he,h4,h6⟩
     obtain⟨ev,rl⟩:=Dl (clock':=clock+1) r (gy h0) hd hw ht;refine⟨_,?_,ev,rl⟩;simp only[mapUpdate,Sem.run_bind,run_underlying hu,Result.andThen_ok,eX hw,hq,hj,Nl,lM _ hw]
    ·cases hy
   ·cases hy
  ·cases hy
 ·cases hy
theorem tL(r:Rel m h w){cfg:Cfg}{t:TypeId}{a b c:V}{av bv cv:Value}{h':Heap}(ha:R m h w a av)(hb:R m h w b bv)(hc:R m h w c cv)(hy:cF P cfg h t a b c=some h'):
  ∃ w',(mapUpdate t av bv cv).run P w=.ok () w'/\Evo m h w m h' w'/\Rel m h' w':=by
 unfold cF at hy;split at hy
 ·rename_i k e x k1 q e1 y hd;split at hy
  ·rename_i k2 e2 l h7;split at hy
   ·rename_i h8;simp only[Lq,decide_eq_true_eq]at h8;obtain⟨⟨⟨⟨rfl,rfl⟩,rfl⟩,rfl⟩,_⟩:=h8;cases hy;obtain⟨b',es,clock,h9,rfl,hw,hm⟩:=R.mref_at r ha h7;cases hb;cases hc;obtain⟨ta,tb,hu,h4,he,hz⟩:=oa hd;have h0:=gO h7;cases hf:fnd l q 0 with
    | none =>
     have h6:uu k e (lJ l q y) (es.push { key:=.int k q,val:=.int e y,born:=clock }):=by
      rw[sB l 0 hf];unfold uu at hm ⊢;simp[hm]
     obtain⟨ev,rl⟩:=map_set (clock':=clock+1) r h0 h9 hw h6;refine⟨_,?_,ev,rl⟩;simp only[mapUpdate,Sem.run_bind,run_underlying hu,Result.andThen_ok,eX hw,iM h4,jA h4 hm,hf,Nl,lM _ hw]
    | some p =>
     obtain⟨j,v⟩:=p;obtain⟨h1,h2⟩:=sC (b:=0) (y:=y) es.toList l 0 j v hm (by rw[hf,L3]);have h6:uu k e (lJ l q y) (es.modify j fun x=>{ x with key:=.int k q,val:=.int e y }):=by
      unfold uu;rw[<- h1];simp
     obtain⟨ev,rl⟩:=map_set (clock':=clock) r h0 h9 hw h6;refine⟨_,?_,ev,rl⟩;have hk:((es[j]?).map (·.key)).getD (.int k q)=.int k q:=by
      rw[NA]at h2;rw[h2];rfl
     have h3:sameBits 10000 (.int k q) (.int k q)=true:=by simp[sameBits]
     simp only[mapUpdate,Sem.run_bind,run_underlying hu,Result.andThen_ok,eX hw,iM h4,jA h4 hm,hf,LW,hk,keyThatStays,h3,if_true,Sem.run_pure,lM _ hw]
   ·cases hy
  ·cases hy
 ·exact rE r ha hb hc hy
 ·cases hy
end
end Go.Ab
