/- Several texts of this proof in one. -/
import Derived.Test.YtldfgkjmficliaaGreatAbHeap
import Derived.Laws.BytesString
import Derived.IntWalk
import Derived.MapKept
set_option linter.unusedSimpArgs false
set_option linter.unusedVariables false
namespace Go.Ab
section
variable {P:Program}{m:Mu}{h:Heap}{w:World}
def Out(m:Mu)(h:Heap)(w:World)(x:V)(h':Heap)(v:Value)(w':World):Prop:=∃ m',Evo m h w m' h' w'∧Rel m' h' w'∧R m' h' w' x v
theorem Out.same(r:Rel m h w){x:V}{v:Value}(hr:R m h w x v):Out m h w x h v w:=⟨m,.refl _ _ _,r,hr⟩
theorem PW.at{cs:List V}{arr:Array Value}(hp:PW m h w cs arr):cs.length≤arr.size∧∀ (i:Nat) (c:V),cs[i]?=some c→∃ v,arr[i]?=some v∧R m h w c v:=by
 refine⟨by rw[hp.1];exact Nat.le_refl _,fun i c hc=>?_⟩
 have hlt:i<arr.size:=by rw[hp.1];exact (List.getElem?_eq_some_iff.1 hc).1
 exact⟨arr[i],Array.getElem?_eq_getElem hlt,hp.2 i c _ hc (Array.getElem?_eq_getElem hlt)⟩
theorem rI(r:Rel m h w){cs:List V}{t:TypeId}{v:Value}(hp:PW m h w cs v.cells):
  (newVar t v).run P w=.ok ⟨w.heap.size,0,none⟩ (w.alloc (.cells v.cells t))∧Out m h w (.ptr h.length 0) (h++[some cs]) (.pointer (some ⟨w.heap.size,0,none⟩)) (w.alloc (.cells v.cells t)):=by
 refine⟨by simp[newVar,newRow],upd m h.length w.heap.size,dd _ _,fH r hp.at.1 hp.at.2,Fj⟩
theorem Bc(r:Rel m h w){t:TypeId}{z:V}(hz:zeroOf P t=some z):
  ∃ v w',(Instr.alloc t true (.tuple #[])).run P w=.ok v w'∧Out m h w (.ptr h.length 0) (h++[some (cJ z)]) v w':=by
 obtain⟨zv,hzr,hzo,_⟩:=ca hz w
 obtain⟨h1,h2⟩:=rI (P:=P) (t:=t) r (jM (m:=m) (h:=h) (w:=w) hzo)
 exact⟨_,_,by simp only[Instr.alloc,Sem.run_bind,hzr,Result.andThen_ok,h1];rfl,h2⟩
theorem G3(r:Rel m h w){t:TypeId}{x:V}{xv:Value}{cs:List V}(hx:R m h w x xv)(hc:cellsOf x=some cs):
  ∃ v w',(Instr.box t xv).run P w=.ok v w'∧Out m h w (.ptr h.length 0) (h++[some cs]) v w':=by
 obtain⟨h1,h2⟩:=rI (P:=P) (t:=t) r (jv hc hx).1
 exact⟨_,_,by simp only[Instr.box,Sem.run_bind,h1,Result.andThen_ok];rfl,h2⟩
theorem Dv(r:Rel m h w){cfg:Cfg}{t:TypeId}{p x:V}{pv xv:Value}{h':Heap}(hp:R m h w p pv)(hx:R m h w x xv)(hs:bf P cfg h t p x=some h'):
  ∃ w',(Instr.storeAt t pv xv).run P w=.ok () w'∧Evo m h w m h' w'∧Rel m h' w':=by
 unfold bf at hs
 split at hs
 ·rename_i y off s vs hsz hc
  split at hs
  ·rename_i hl
   obtain⟨hpw,h1⟩:=jv hc hx
   have hb:∃ cs,ab h y=some cs:=by
    unfold aO at hs
    split at hs
    ·rename_i cs hb;exact⟨cs,hb⟩
    ·cases hs
   obtain⟨cs,hb⟩:=hb
   obtain⟨b,arr,T,hmb,rfl,ha,hle,_⟩:=hp.ptr_at r hb
   obtain⟨w',hrun,e,r'⟩:=gC (P:=P) r hmb hb hs (us:=xv.cells.toList) (by simpa using hpw.1) (fun i c u hc hu=>hpw.2 i c u hc (by simpa using hu)) h1
   refine⟨w',?_,e,r'⟩
   have hne:¬ xv.cells.size≠s:=by rw[hpw.1];omega
   simp only[Instr.storeAt,Instr.sureAddr,Sem.run_bind,Sem.run_pure,Result.andThen_ok,storeVar,bj hsz,hne,if_false,hrun]
  ·cases hs
 ·cases hs
theorem PW.append{cs ds:List V}{xs ys:List Value}(h1:PW m h w cs xs.toArray)(h2:PW m h w ds ys.toArray):PW m h w (cs++ds) (xs++ys).toArray:=by
 have e1:xs.length=cs.length:=by simpa using h1.1
 have e2:ys.length=ds.length:=by simpa using h2.1
 refine⟨by simp[e1,e2],fun i c v hc hv=>?_⟩
 simp only[List.getElem?_toArray]at hv
 by_cases hi:i<cs.length
 ·rw[List.getElem?_append_left hi]at hc
  rw[List.getElem?_append_left (by omega)]at hv
  exact h1.2 i c v hc (by simpa using hv)
 ·rw[List.getElem?_append_right (by omega)]at hc
  rw[List.getElem?_append_right (by omega),e1]at hv
  exact h2.2 _ c v hc (by simpa using hv)
theorem oM{s:Nat}:∀ {vs:List V}{us:List Value}{cs:List V},vs.length=us.length→(∀ (i:Nat) (c:V) (u:Value),vs[i]?=some c→us[i]?=some u→R m h w c u)→bq s vs=some cs →
  PW m h w cs (us.flatMap fun u=>u.cells.toList).toArray∧(∀ u∈us,u.cells.size=s)∧cs.length=vs.length*s
 | [],[],cs,_,_,hc=>by simp[bq]at hc;subst hc;exact⟨⟨rfl,by simp⟩,by simp,by simp⟩
 | v::vs,u::us,cs,hl,hr,hc=>by
  simp only[bq]at hc
  split at hc
  ·rename_i c1 hc1
   split at hc
   ·rename_i hs
    split at hc
    ·rename_i rest hrest
     cases hc
     obtain⟨hp1,_⟩:=jv hc1 (hr 0 v u rfl rfl)
     obtain⟨hp2,hsz,hlen⟩:=oM (by simpa using hl) (fun i c x hi hx=>hr (i+1) c x (by simpa using hi) (by simpa using hx)) hrest
     refine⟨?_,?_,?_⟩
     ·rw[List.flatMap_cons]
      exact PW.append (by simpa using hp1) hp2
     ·intro x hx
      rcases List.mem_cons.1 hx with rfl|hx
      ·rw[hp1.1,hs]
      ·exact hsz x hx
     ·simp[hlen,hs,Nat.add_mul,Nat.add_comm]
    ·cases hc
   ·cases hc
  ·cases hc
 | [],_::_,_,hl,_,_=>by simp at hl
 | _::_,[],_,hl,_,_=>by simp at hl
theorem jh{fr:List V}{a:Act}(f:FR m h w fr a):∀ {ps:List (Nat×Operand)}{i0:Nat}{xs:List V},aQ fr i0 ps=some xs →
  ps.map (fun (i,x)=>(i,a.eval x))=((ps.map fun p=>a.eval p.2).zipIdx i0).map (fun x=>(x.2,x.1))∧xs.length=(ps.map fun p=>a.eval p.2).length ∧
  ∀ (i:Nat) (c:V) (u:Value),xs[i]?=some c→(ps.map fun p=>a.eval p.2)[i]?=some u→R m h w c u
 | [],i0,xs,hx=>by simp[aQ]at hx;subst hx;simp
 | (j,x)::ps,i0,xs,hx=>by
  simp only[aQ]at hx
  split at hx
  ·rename_i hij
   subst hij
   split at hx
   ·rename_i v hv
    split at hx
    ·rename_i vs hvs
     cases hx
     obtain⟨h1,h2,h3⟩:=jh f hvs
     refine⟨by simp[List.zipIdx_cons,h1],by simpa using h2,fun i c u hc hu=>?_⟩
     cases i with
     | zero=>simp at hc hu;subst hc hu;exact cR f hv
     | succ i=>exact h3 i c u (by simpa using hc) (by simpa using hu)
    ·cases hx
   ·cases hx
  ·cases hx
theorem pQ{cs:List V}{w':World}{len k rc:Nat}(hlen:len≤rc)(hsz:rc*k≤rsz w' w.heap.size)(cap:Nat)(hcap:cap≤rc):
  R (upd m h.length w.heap.size) (h++[some cs]) w' (.sl h.length 0 len cap k) (.slice (some ⟨w.heap.size,0,none⟩) len rc):=
 .sl (by simp) hcap hlen fun _=>⟨w.heap.size,by simp[upd],rfl,by omega⟩
theorem jH{arr:Array Value}{T:TypeId}{fz:Nat×Nat}:rsz (w.alloc (.cells arr T fz)) w.heap.size=arr.size:=by simp only[rsz,fY]
theorem iZ{s:Nat}:∀ {us:List Value},(∀ u∈us,u.cells.size=s)→(us.flatMap fun u=>u.cells.toList).length=us.length*s
 | [],_=>by simp
 | u::us,hu=>by
  have:=iZ (us:=us) fun x hx=>hu x (List.mem_cons_of_mem _ hx)
  simp[List.flatMap_cons,this,hu u List.mem_cons_self,Nat.add_mul,Nat.add_comm]
theorem qC(r:Rel m h w){fr:List V}{a:Act}(f:FR m h w fr a){t:TypeId}{len:Nat}{ps:Array (Nat×Operand)}{xs:List V}{y:V}{h':Heap}
  (hp:aQ fr 0 ps.toList=some xs) (hy:aM P h t len xs=some (y,h')):
  ∃ v w',(Instr.buildSlice t len (ps.map fun (i,x)=>(i,a.eval x))).run P w=.ok v w'∧Out m h w y h' v w':=by
 obtain⟨hp1,hp2,hp3⟩:=jh f hp
 generalize hus:(ps.toList.map fun p=>a.eval p.2)=us at *
 obtain⟨qs,hqs⟩:∃ qs:Array (Nat×Value),qs=ps.map fun (i,x)=>(i,a.eval x):=⟨_,rfl⟩
 have hqt:qs.toList=(us.zipIdx 0).map fun x=>(x.2,x.1):=by rw[hqs,Array.toList_map];exact hp1
 rw[← hqs]
 unfold aM at hy
 split at hy
 ·rename_i elem hu
  split at hy
  ·rename_i s hs
   split at hy
   ·rename_i cs hcs
    split at hy
    ·rename_i hc
     simp only[Bool.and_eq_true,decide_eq_true_eq,Option.isSome_iff_exists]at hc
     obtain⟨⟨⟨hl,hs0⟩,h24⟩,z,hz⟩:=hc
     cases hy
     obtain⟨hpw,hsz,hcl⟩:=oM hp2 hp3 hcs
     obtain⟨zv,hzr,hzo,_⟩:=ca hz w
     have hlen:us.length=len:=by omega
     have hfl:=iZ hsz
     -- the cells
     have key:∀ cells:Array Value,cells.size=len*s→Instr.fill (fun i=>some (i*s,s)) cells qs.toList=some (us.flatMap fun u=>u.cells.toList).toArray:=by
      intro cells hcz
      obtain⟨r1,hr1,hr2,hr3⟩:=Great.fill_dense hs0 us 0 cells hsz (by rw[hcz];simp[hlen])
      rw[hqt,hr1]
      congr 1
      apply Array.ext_getElem?
      intro k
      have hg:(us.flatMap fun u=>u.cells.toList).toArray[k]?=(us[k / s]?).bind fun v=>v.cells[k%s]?:=by rw[← Great.flat_get hs0 us hsz k];simp
      rw[hg,hr3 k]
      by_cases hk:k<us.length*s
      ·rw[if_pos (by simp;exact hk)];simp
      ·rw[if_neg (by simp;omega)]
       rw[Array.getElem?_eq_none (by rw[hcz,← hlen];omega)]
       have:us.length≤k / s:=(Nat.le_div_iff_mul_le hs0).2 (by omega)
       rw[List.getElem?_eq_none this];rfl
     have h24':¬ len*s > 2 ^ 24:=by omega
     refine⟨.slice (some ⟨w.heap.size,0,none⟩) len len,w.alloc (.cells (us.flatMap fun u=>u.cells.toList).toArray elem),?_,?_⟩
     ·obtain⟨i,hi,his⟩:=jK hs
      subst his
      by_cases h0:len*i.size=0
      ·have hk:=key ((Array.range (len*i.size)).map ((#[]:Array Value)[·%(#[]:Array Value).size]!)) (by simp)
       rw[h0]at hk
       simp only[Instr.buildSlice,Sem.run_bind,run_underlying hu,Result.andThen_ok,bj hs,h0,if_true]
       rw[if_neg (by decide)]
       simp only[Sem.run_bind,Sem.run_pure,Result.andThen_ok,hk]
       simp[newRow]
      ·have hk:=key ((Array.range (len*i.size)).map (zv.cells[·%zv.cells.size]!)) (by simp)
       simp only[Instr.buildSlice,Sem.run_bind,run_underlying hu,Result.andThen_ok,bj hs]
       rw[if_neg h24']
       simp only[Sem.run_bind,if_neg h0,hzr,Sem.run_pure,Result.andThen_ok,hk]
       simp[newRow]
     ·exact⟨_,dd _ _,fH r hpw.at.1 hpw.at.2,pQ (Nat.le_refl _) (by rw[jH];simp[hfl,hlen]) _ (Nat.le_refl _)⟩
    ·cases hy
   ·cases hy
  ·cases hy
 ·cases hy
end
end Go.Ab
namespace Go.Ab
section
variable {P:Program}{m:Mu}{h:Heap}{w:World}
theorem gG{w':World}(hh:w'.heap=w.heap)(ho:w'.os=w.os)(ht:w'.tape=w.tape)(hu:w'.output=w.output):Evo m h w m h w' where
 zeq:=rfl
 len:=Nat.le_refl _
 keep:=fun _ _ hl=>⟨hl,rfl⟩
 own:=fun x _ hl hb=>.inl ⟨x,hl,hb⟩
 frame:=fun _ _ _=>by rw[hh]
 size:=by rw[hh];exact Nat.le_refl _
 rs:=fun b _=>by rw[cI (w:=w) (w':=w') (b:=b) (by rw[hh])];exact Nat.le_refl _
 os:=ho
 tape:=ht
 output:=hu
theorem lN(r:Rel m h w){w':World}(hh:w'.heap=w.heap)(ho:w'.os=w.os)(ht:w'.tape=w.tape)(hu:w'.output=w.output):Rel m h w':=
 ⟨r.zo,fun b hb=>by rw[hh];exact r.zl b hb,r.inj,fun x cs b hx hb=>by
  exact (r.blk x cs b hx hb).carry (by rw[hh]) fun c v _ hrv=>hrv.evo (gG hh ho ht hu) r.lt⟩
theorem kn{w w':World}(hh:w'.heap=w.heap)(a:Addr):w'.cell? a=w.cell? a:=by simp[World.cell?,hh]
theorem Pt.values{b o:Nat}{cs:List V}(hp:Pt m h w b o cs):∃ vs:List Value,vs.length=cs.length∧(∀ (j:Nat) (v:Value),vs[j]?=some v→w.cell? ⟨b,o+j,none⟩=some v) ∧
  ∀ (i:Nat) (c:V) (v:Value),cs[i]?=some c→vs[i]?=some v→R m h w c v:=by
 have hall:∀ i,i<cs.length→∃ v,w.cell? ⟨b,o+i,none⟩=some v∧∀ c,cs[i]?=some c→R m h w c v:=by
  intro i hi
  obtain⟨v,hv,hr⟩:=hp i cs[i] (List.getElem?_eq_getElem hi)
  refine⟨v,hv,fun c hc=>?_⟩
  rw[List.getElem?_eq_getElem hi]at hc
  cases hc;exact hr
 let f:Nat→Value:=fun j=>if hj:j<cs.length then Classical.choose (hall j hj) else undef
 refine⟨(List.range cs.length).map f,by simp,fun j v hv=>?_,fun i c v hc hv=>?_⟩
 ·by_cases hj:j<cs.length
  ·simp[hj]at hv
   subst hv
   simp only[f,hj,dite_true];exact (Classical.choose_spec (hall j hj)).1
  ·simp[hj]at hv
 ·have hj:i<cs.length:=(List.getElem?_eq_some_iff.1 hc).1
  simp[hj]at hv
  subst hv
  simp only[f,hj,dite_true];exact (Classical.choose_spec (hall i hj)).2 c hc
theorem Pt.drop_take{b o:Nat}{cs:List V}(hp:Pt m h w b o cs)(k n:Nat):Pt m h w b (o+k) ((cs.drop k).take n):=by
 intro i c hc
 rw[List.getElem?_take]at hc
 split at hc
 ·rw[List.getElem?_drop]at hc
  rw[Nat.add_assoc]
  exact hp (k+i) c hc
 ·cases hc
theorem R.sl_at(r:Rel m h w){x off len cap k:Nat}{v:Value}{cs:List V}(hv:R m h w (.sl x off len cap k) v)(hb:ab h x=some cs):
  ∃ b rc arr T,m x=some b∧v=.slice (some ⟨b,off,none⟩) len rc∧cap≤rc∧len≤rc∧off+rc*k≤arr.size∧w.heap[b]?=some (.cells arr T (0,0))∧cs.length≤arr.size∧Pt m h w b 0 cs:=by
 have hc:=aA hb
 cases hv with
 | sl hlt hcap hlen hv =>
  obtain⟨b,hmb,rfl,hsz⟩:=hv ⟨cs,hc⟩
  obtain⟨arr,T,ha,hl,hr⟩:=(r.blk x cs b hc hmb).cells (cB hb)
  refine⟨b,_,arr,T,hmb,rfl,hcap,hlen,by simpa[rsz,ha]using hsz,ha,hl,fun i c hic=>?_⟩
  obtain⟨u,hu,hru⟩:=hr i c hic
  exact⟨u,by simp[World.cell?,ha,hu],hru⟩
theorem mZ{k:Nat}:∀ {xs:List (List V)}{q:Nat}{c:V},(∀ e∈xs,e.length=k)→xs.flatten[q]?=some c→0<k∧∃ e,xs[q / k]?=some e∧e[q%k]?=some c
 | [],q,c,_,hq=>by simp at hq
 | e::xs,q,c,hl,hq=>by
  have he:e.length=k:=hl e List.mem_cons_self
  rw[List.flatten_cons]at hq
  by_cases hlt:q<e.length
  ·rw[List.getElem?_append_left hlt]at hq
   have hk:0<k:=by omega
   rw[he]at hlt
   exact⟨hk,e,by simp[Nat.div_eq_of_lt hlt],by rw[Nat.mod_eq_of_lt hlt];exact hq⟩
  ·rw[List.getElem?_append_right (by omega)]at hq
   obtain⟨hk,e',h1,h2⟩:=mZ (fun e he=>hl e (List.mem_cons_of_mem _ he)) hq
   have hge:k≤q:=by omega
   refine⟨hk,e',?_,?_⟩
   ·rw[Nat.div_eq_sub_div hk hge,List.getElem?_cons_succ,← he];rw[he];rw[he]at h1;exact h1
   ·rw[Nat.mod_eq_sub_mod hge];rw[he]at h2;exact h2
theorem Du(r:Rel m h w){s n:Nat}{x:V}{xv:Value}{new:List V}(hx:R m h w x xv)(hs:bu h s x=some (n,new)):
  ∃ news:List Value,news.length=new.length∧new.length=n*s∧(∀ (i:Nat) (c:V) (v:Value),new[i]?=some c→news[i]?=some v→R m h w c v) ∧
   (∀ w':World,(Builtin.lenOf xv).run P w'=.ok n w')∧(∀ w':World,w'.heap=w.heap→(Builtin.firstCells s n xv).run P w'=.ok news.toArray w')∧∃ a l c,xv=.slice a l c:=by
 unfold bu at hs
 split at hs
 ·rename_i y off len cap k
  split at hs
  ·rename_i cs hb
   split at hs
   ·rename_i hc
    simp only[Bool.and_eq_true,decide_eq_true_eq]at hc
    obtain⟨rfl,hle⟩:=hc
    cases hs
    obtain⟨b,rc,arr,T,hmb,rfl,_,_,_,_,_,hpt⟩:=hx.sl_at r hb
    obtain⟨vs,hv1,hv2,hv3⟩:=(hpt.drop_take off (n*k)).values
    have hlen:((cs.drop off).take (n*k)).length=n*k:=by simp;omega
    refine⟨vs,hv1,hlen,hv3,fun w'=>by simp[Builtin.lenOf],fun w' hh=>?_,_,_,_,rfl⟩
    refine run_firstCells_some w' k n _ n rc vs (by rw[hv1,hlen]) fun j v hj=>?_
    rw[kn hh,add_lit]
    have:=hv2 j v hj
    rwa [Nat.zero_add]at this
   ·cases hs
  ·split at hs
   ·rename_i h0
    subst h0
    cases hs
    cases hx
    exact⟨[],rfl,by simp,by simp,fun w'=>by simp[Builtin.lenOf],fun w' _=>by simp[Builtin.firstCells,loadCells,loadCellsFrom],_,_,_,rfl⟩
   ·cases hs
 ·rename_i xs
  split at hs
  ·rename_i hall
   cases hs
   simp only[List.all_eq_true,beq_iff_eq]at hall
   have hfl:xs.flatten.length=xs.length*s:=by
    clear hx
    induction xs with
    | nil=>simp
    | cons e xs ih =>
     have h1:=hall e List.mem_cons_self
     have h2:=ih fun e he=>hall e (List.mem_cons_of_mem _ he)
     simp only[List.flatten_cons,List.length_append,List.length_cons,h1,h2,Nat.add_mul,Nat.one_mul];omega
   cases hx with
   | lst0 a rc _ =>
    refine⟨[],rfl,by simp,by simp,fun w'=>by simp[Builtin.lenOf],fun w' _=>?_,_,_,_,rfl⟩
    cases a<;>simp[Builtin.firstCells,loadCells,loadCellsFrom]
   | lst rv him hrc hk hc hf hr =>
    rename_i b o k rc
    have hpt:Pt m h w b o xs.flatten:=by
     intro q c hq
     obtain⟨h0,e,he,hec⟩:=mZ hall hq
     have hks:k=s:=by rw[← hk _ _ he];exact hall e (List.mem_of_getElem? he)
     subst hks
     refine⟨_,?_,hr _ _ _ _ he hec⟩
     rw[← hc _ _ _ _ he hec,Nat.add_assoc,Nat.mul_comm (q / k) k,Nat.div_add_mod]
    obtain⟨vs,hv1,hv2,hv3⟩:=hpt.values
    refine⟨vs,hv1,hfl,hv3,fun w'=>by simp[Builtin.lenOf],fun w' hh=>?_,_,_,_,rfl⟩
    refine run_firstCells_some w' s xs.length _ _ rc vs (by rw[hv1,hfl]) fun j v hj=>?_
    rw[kn hh,add_lit]
    exact hv2 j v hj
  ·cases hs
 ·cases hs
  cases hx
  exact⟨[],rfl,by simp,by simp,fun w'=>by simp[Builtin.lenOf],fun w' _=>by simp[Builtin.firstCells],_,_,_,rfl⟩
 ·cases hs
end
end Go.Ab
namespace Go.Ab
section
variable {P:Program}{m:Mu}{h:Heap}{w:World}
theorem jo{t ty e:TypeId}{i:TypeInfo}(ht:P.underlying t=some (.slice e))(hi:P.info? e=some i){a:Addr}{sLen sCap n:Nat}{xv:Value}{news:List Value}{w':World}
  (hlen:(Builtin.lenOf xv).run P w=.ok n w) (hf:(Builtin.firstCells i.size n xv).run P w=.ok news.toArray w) (hroom:sLen+n≤sCap)
  (hst:(storeCells (a.add (sLen*i.size)) news).run P w=.ok () w'):
  (Builtin.append_ #[t,t] ty #[.slice (some a) sLen sCap,xv]).run P w=.ok (.slice (some a) (sLen+n) sCap) w':=by
 simp[Builtin.append_,run_underlying ht,sizeOf,typeInfo,hi,hlen,hroom,hf,hst]
theorem gW{t ty e:TypeId}{i:TypeInfo}{z:Value}(ht:P.underlying t=some (.slice e))(hi:P.info? e=some i)(hz:i.zero=some z){base:Option Addr}{sLen sCap n:Nat}{xv:Value}{olds news:List Value}
  (hlen:(Builtin.lenOf xv).run P w=.ok n w) (hf:(Builtin.firstCells i.size n xv).run P w.drew=.ok news.toArray w.drew)
  (ho:(Builtin.firstCells i.size sLen (.slice base sLen sCap)).run P w.drew=.ok olds.toArray w.drew)
  (hg:sCap<sLen+n) (h63:((sLen+n:Nat):Int)≤9223372036854775807) (hfit:Builtin.nextslicecap (sLen+n) sCap*i.bytes≤281474976710656):
  (Builtin.append_ #[t,t] ty #[.slice base sLen sCap,xv]).run P w =
   .ok (.slice (some ⟨w.heap.size,0,none⟩) (sLen+n) (grownCap w (sLen+n) sCap e))
    (w.drew.alloc (.cells (olds.toArray++news.toArray++Builtin.zeroCells z.cells (grownCap w (sLen+n) sCap e-(sLen+n))) e)):=by
 have hn:¬ (sLen+n≤sCap):=by omega
 have h63':¬ (9223372036854775807<((sLen:Int)+(n:Int))):=by omega
 have h48':¬ (281474976710656<Builtin.nextslicecap (sLen+n) sCap*i.bytes):=by omega
 have he:∀ a b c:Array Value,a++b++c=a++(b++c):=fun a b c=>Array.append_assoc
 rw[he]
 simp[Builtin.append_,run_underlying ht,sizeOf,typeInfo,zeroValue,hi,hz,hlen,hn,h63',h48',Question.forced,ho,hf,newRow,grownCap]
theorem eM{h:Heap}{x y:Nat}{o:Option (List V)}(hl:live ((h.set x none)++[o]) y):(y<h.length∧y≠x∧live h y)∨y=h.length:=by
 have hlt:=eW hl
 simp at hlt
 by_cases hy:y=h.length
 ·exact .inr hy
 ·have hy':y<h.length:=by omega
  obtain⟨cs,hc⟩:=hl
  rw[List.getElem?_append_left (by simpa using hy')]at hc
  by_cases hxy:x=y
  ·subst hxy;rw[List.getElem?_set_self hy']at hc;simp at hc
  ·rw[List.getElem?_set_ne hxy]at hc
   exact .inl ⟨hy',fun e=>hxy e.symm,cs,hc⟩
theorem tV{x nb:Nat}{cs:List V}{w':World}(hnb:w.heap.size≤nb∨(live h x∧m x=some nb))
  (hframe:∀ b,b<w.heap.size→b≠nb→w'.heap[b]?=w.heap[b]?) (hsize:w.heap.size≤w'.heap.size) (hrs:∀ b,b<w.heap.size→rsz w b≤rsz w' b)
  (hos:w'.os=w.os) (htp:w'.tape=w.tape) (hout:w'.output=w.output):Evo m h w (upd m h.length nb) ((h.set x none)++[some cs]) w' where
 zeq:=rfl
 len:=by simp
 keep:=fun y hy hl=>by
  rcases eM hl with⟨_,_,h3⟩|h3
  ·exact⟨h3,by simp[upd,Nat.ne_of_lt hy]⟩
  ·omega
 own:=fun y b hl hb=>by
  rcases eM hl with⟨h1,_,h3⟩|rfl
  ·exact .inl ⟨y,h3,by simpa[upd,Nat.ne_of_lt h1]using hb⟩
  ·simp only[upd,if_true,Option.some.injEq]at hb
   subst hb
   rcases hnb with h1|⟨h1,h2⟩
   ·exact .inr h1
   ·exact .inl ⟨x,h1,h2⟩
 frame:=fun b hb hn=>hframe b hb fun e=>by
  subst e
  rcases hnb with h1|⟨h1,h2⟩
  ·omega
  ·exact hn x h1 h2
 size:=hsize
 rs:=hrs
 os:=hos
 tape:=htp
 output:=hout
theorem vv(r:Rel m h w){x nb:Nat}{cs:List V}{w':World}(e:Evo m h w (upd m h.length nb) ((h.set x none)++[some cs]) w')(hnb:w.heap.size≤nb∨(live h x∧m x=some nb))
  (hframe:∀ b,b<w.heap.size→b≠nb→w'.heap[b]?=w.heap[b]?) {arr:Array Value} {T:TypeId} (ha:w'.heap[nb]?=some (.cells arr T (0,0)))
  (hl:cs.length≤arr.size) (hr:∀ (i:Nat) (c:V),cs[i]?=some c→∃ v,arr[i]?=some v∧R m h w c v):
  Rel (upd m h.length nb) ((h.set x none)++[some cs]) w':=by
 have hne:∀ y b,y<h.length→y≠x→live h y→m y=some b→b≠nb:=by
  rintro y b hy hyx hly hb rfl
  rcases hnb with h1|⟨h1,h2⟩
  ·have:=r.lt y b hly hb;omega
  ·exact hyx (r.inj y x b hly h1 hb h2)
 refine⟨fun y b hl hb hz=>?_,fun b hb=>Nat.lt_of_lt_of_le (r.zl b hb) e.size,fun y z b hy hz hby hbz=>?_,fun y cs' b hy hb=>?_⟩
 ·rcases eM hl with⟨h1,_,h3⟩|rfl
  ·simp only[upd,Nat.ne_of_lt h1,if_false]at hb
   exact r.zo y b h3 hb hz
  ·simp only[upd,if_true,Option.some.injEq]at hb
   subst hb
   rcases hnb with h1|⟨h1,h2⟩
   ·have:=r.zl nb hz;omega
   ·exact r.zo x nb h1 h2 hz
 ·rcases eM hy with⟨h1,h2,h3⟩|rfl
  ·simp only[upd,Nat.ne_of_lt h1,if_false]at hby
   rcases eM hz with⟨g1,g2,g3⟩|rfl
   ·simp only[upd,Nat.ne_of_lt g1,if_false]at hbz
    exact r.inj y z b h3 g3 hby hbz
   ·simp only[upd,if_true,Option.some.injEq]at hbz
    exact absurd hbz.symm (hne y b h1 h2 h3 hby)
  ·simp only[upd,if_true,Option.some.injEq]at hby
   rcases eM hz with⟨g1,g2,g3⟩|rfl
   ·simp only[upd,Nat.ne_of_lt g1,if_false]at hbz
    exact absurd hby.symm (hne z b g1 g2 g3 hbz)
   ·rfl
 ·rcases eM ⟨cs',hy⟩ with⟨h1,h2,h3⟩|rfl
  ·simp only[upd,Nat.ne_of_lt h1,if_false]at hb
   rw[List.getElem?_append_left (by simpa using h1),List.getElem?_set_ne (fun e=>h2 e.symm)]at hy
   exact (r.blk y cs' b hy hb).carry (hframe b (r.lt y b h3 hb) (hne y b h1 h2 h3 hb)) fun c v _ hrv=>hrv.evo e r.lt
  ·simp only[upd,if_true,Option.some.injEq]at hb
   subst hb
   simp at hy
   subst hy
   refine .inl ⟨arr,T,ha,hl,fun i c hc=>?_⟩
   obtain⟨v,hv,hrv⟩:=hr i c hc
   exact⟨v,hv,hrv.evo e r.lt⟩
theorem yD{x nb:Nat}{cs:List V}{w':World}{len cap k rc:Nat}(hcap:cap≤rc)(hlen:len≤rc)(hsz:rc*k≤rsz w' nb):
  R (upd m h.length nb) ((h.set x none)++[some cs]) w' (.sl h.length 0 len cap k) (.slice (some ⟨nb,0,none⟩) len rc):=
 .sl (by simp) hcap hlen fun _=>⟨nb,by simp[upd],rfl,by omega⟩
theorem iH{n y:Nat}(hr:roomy n y=true):n*y≤2 ^ 40∧n≤2 ^ 40:=by
 simpa[roomy]using hr
theorem xT{new:List V}{news:List Value}(hall:new.all V.leaf=true)(hlen:news.length=new.length)(hr:∀ (i:Nat) (c:V) (v:Value),new[i]?=some c→news[i]?=some v→R m h w c v):∀ u∈news,u.oneCell'=true:=by
 intro u hu
 obtain⟨i,hi,rfl⟩:=List.getElem_of_mem hu
 have hi':i<new.length:=by omega
 exact pI (List.all_eq_true.1 hall _ (List.getElem_mem hi')) (hr i _ _ (List.getElem?_eq_getElem hi') (List.getElem?_eq_getElem hi))
theorem zy(r:Rel m h w){cfg:Cfg}{t u ty:TypeId}{d x y:V}{dv xv:Value}{h':Heap}(hd:R m h w d dv)(hx:R m h w x xv)(hy:cA P cfg h t u d x=some (y,h')):
  t=u∧∃ v w',(Builtin.append_ #[t,t] ty #[dv,xv]).run P w=.ok v w'∧Out m h w y h' v w':=by
 unfold cA at hy
 split at hy
 ·rename_i elem ht
  split at hy
  ·rename_i s by_ hs hby
   obtain⟨i,hi,rfl⟩:=jK hs
   have hbi:i.bytes=by_:=by simpa[bytesOf,hi]using hby
   subst hbi
   split at hy
   ·rename_i n new hsrc
    obtain⟨news,hn1,hn2,hn3,hn4,hn5,_⟩:=Du (P:=P) r hx hsrc
    split at hy
    ·rename_i hc
     simp only[Bool.and_eq_true,decide_eq_true_eq]at hc
     obtain⟨⟨⟨hall,hs0⟩,rfl⟩,hzf⟩:=hc
     obtain⟨z,hz,hzl⟩:∃ z,zeroOf P elem=some z∧(cJ z).length=i.size:=by
      unfold qy at hzf
      split at hzf
      ·rename_i z hz;exact⟨z,hz,by simpa using hzf⟩
      ·cases hzf
     refine⟨rfl,?_⟩
     obtain⟨zv,_,hzo,hzi⟩:=ca hz w
     have hzi':i.zero=some zv:=by simpa[hi]using hzi
     have hzs:zv.cells.size=i.size:=by rw[← hzl];exact (jM (m:=m) (h:=h) (w:=w) hzo).1
     have h1:=xT hall hn1 hn3
     have hnl:news.length=n*i.size:=by omega
     split at hy
     · -- a nil slice
      cases hd
      split at hy
      ·rename_i hrm
       have hrb:=iH hrm
       split at hy
       ·rename_i hn0
        subst hn0
        cases hy
        have hnews:news=[]:=List.eq_nil_of_length_eq_zero (by omega)
        subst hnews
        exact⟨.slice none 0 0,w,by simp[Builtin.append_,run_underlying ht,sizeOf,typeInfo,hi,hn4,hn5 w rfl],.same r .nils⟩
       ·rename_i hn0
        cases hy
        have hgc:=grownCap_ge w (0+n) 0 elem
        have hrun:=gW (P:=P) (w:=w) (ty:=ty) (base:=none) (sLen:=0) (sCap:=0) (n:=n) (xv:=xv) (olds:=[]) (news:=news) ht hi hzi' (hn4 w) (hn5 _ rfl)
         (by simp[Builtin.firstCells]) (by omega) (by omega) (growslice_fits (by omega) (by rw[Nat.zero_add];omega))
        simp only[Nat.zero_add]at hrun hgc
        refine⟨_,_,hrun,_,(gG (w:=w) (w':=w.drew) rfl rfl rfl rfl).trans (dd _ _),fH (lN r (w':=w.drew) rfl rfl rfl rfl) (by simp;omega) ?_,?_⟩
        ·intro j c hj
         have hlt:j<news.length:=by rw[hn1];exact (List.getElem?_eq_some_iff.1 hj).1
         refine⟨news[j],by simp[Array.getElem?_append,hlt],(hn3 j c _ hj (List.getElem?_eq_getElem hlt)).evo (gG (w:=w) (w':=w.drew) rfl rfl rfl rfl) r.lt⟩
        ·refine pQ (w:=w.drew) hgc ?_ _ hgc
         rw[jH]
         simp only[Array.size_append,List.size_toArray,size_zeroCells,hnl,hzs,List.length_nil,Nat.zero_add,← Nat.add_mul]
         exact Nat.mul_le_mul_right _ (by omega)
      ·cases hy
     ·rename_i b off len cap k
      split at hy
      ·rename_i hc
       simp only[Bool.and_eq_true,decide_eq_true_eq]at hc
       obtain⟨rfl,hrm⟩:=hc
       have hrb:=iH hrm
       split at hy
       ·rename_i hfits
        split at hy
        ·rename_i h2 hst
         simp only[Option.some.injEq,Prod.mk.injEq]at hy
         obtain⟨rfl,rfl⟩:=hy
         obtain⟨cs,hb⟩:∃ cs,ab h b=some cs:=by
          unfold aO at hst
          split at hst
          ·rename_i cs hb;exact⟨cs,hb⟩
          ·cases hst
         obtain⟨b',rc,arr,T,hmb,rfl,hcap,hlen,hsz,ha,hle,hpt⟩:=hd.sl_at r hb
         obtain⟨w',hrun,e,r'⟩:=gC (P:=P) r hmb hb hst hn1 hn3 h1
         refine⟨_,w',jo ht hi (hn4 w) (hn5 w rfl) (by omega) (by rw[add_lit];exact hrun),m,e,r',?_⟩
         refine .sl (Nat.lt_of_lt_of_le (eW ⟨cs,aA hb⟩) e.len) hcap (by omega) fun _=>⟨b',hmb,rfl,?_⟩
         have h1:=e.rs b' (r.lt b b' ⟨cs,aA hb⟩ hmb)
         have h2:rsz w b'=arr.size:=by simp[rsz,ha]
         omega
        ·cases hy
       ·rename_i hfits
        split at hy
        ·rename_i cs hb
         split at hy
         ·rename_i hc2
          simp only[Bool.and_eq_true,decide_eq_true_eq]at hc2
          obtain⟨⟨rfl,_⟩,hcl⟩:=hc2
          simp only[Option.some.injEq,Prod.mk.injEq]at hy
          obtain⟨rfl,rfl⟩:=hy
          obtain⟨b',rc,arr,T,hmb,rfl,hcap,hlen,hsz,ha,hle,hpt⟩:=hd.sl_at r hb
          have hlive:live h b:=⟨cs,aA hb⟩
          have hb'lt:=r.lt b b' hlive hmb
          have htl:(cs.take (len*i.size)).length=len*i.size:=by simp;omega
          have hmul:(len+n)*i.size=len*i.size+n*i.size:=Nat.add_mul _ _ _
          by_cases hroom:len+n≤rc
          · -- in place
           have hrcm:(len+n)*i.size≤rc*i.size:=Nat.mul_le_mul_right _ hroom
           have hst:=run_storeCells_at P b' (len*i.size) T news 0 arr w ha (by omega) h1
           simp only[Nat.add_zero]at hst
           have hrun:=jo (ty:=ty) (a:=⟨b',0,none⟩) ht hi (hn4 w) (hn5 w rfl) hroom (by rw[add_lit,Nat.zero_add];exact hst)
           generalize harr:(arr.toList.take (len*i.size)++news++arr.toList.drop (len*i.size+news.length)).toArray=arr' at hst hrun
           have hsz':arr'.size=arr.size:=by rw[← harr];simp;omega
           have e:Evo m h w (upd m h.length b') ((h.set b none)++[some (cs.take (len*i.size)++new)]) (w.setRow b' arr'):=
            tV (.inr ⟨hlive,hmb⟩) (fun c _ hc=>setRow_other w b' c arr' hc) (by simp) (fun c _=>by
             by_cases hcb:c=b'
             ·subst hcb;simp only[rsz,ha,setRow_heap w c arr arr' T (0,0) ha];omega
             ·rw[cI (setRow_other w b' c arr' hcb)];exact Nat.le_refl _) rfl rfl rfl
           have hget:∀ q,q<(len+n)*i.size→arr'[q]?=if q<len*i.size then arr[q]? else news[q-len*i.size]?:=by
            intro q hq
            have hal:(arr.toList.take (len*i.size)).length=len*i.size:=by simp;omega
            rw[← harr,List.getElem?_toArray]
            by_cases hql:q<len*i.size
            ·rw[if_pos hql,List.append_assoc,List.getElem?_append_left (by omega)];simp[hql]
            ·rw[if_neg hql,List.append_assoc,List.getElem?_append_right (by omega),hal,List.getElem?_append_left (by omega)]
           refine⟨_,_,hrun,_,e,vv r e (.inr ⟨hlive,hmb⟩) (fun c _ hc=>setRow_other w b' c arr' hc) (setRow_heap w b' arr arr' T (0,0) ha) (by simp only[List.length_append,htl,hn2,hsz'];omega) ?_,?_⟩
           ·intro q c hq
            have hqlt:q<(len+n)*i.size:=by
             have:=(List.getElem?_eq_some_iff.1 hq).1
             simp only[List.length_append,htl,hn2]at this;omega
            rw[hget q hqlt]
            by_cases hql:q<len*i.size
            ·rw[if_pos hql]
             rw[List.getElem?_append_left (by omega),List.getElem?_take,if_pos hql]at hq
             obtain⟨v,hv,hrv⟩:=hpt q c hq
             refine⟨v,?_,hrv⟩
             simpa[World.cell?,ha]using hv
            ·rw[if_neg hql]
             rw[List.getElem?_append_right (by omega),htl]at hq
             have hlt:q-len*i.size<news.length:=by omega
             exact⟨_,List.getElem?_eq_getElem hlt,hn3 _ c _ hq (List.getElem?_eq_getElem hlt)⟩
           ·refine yD (by omega) (by omega) ?_
            simp only[rsz,setRow_heap w b' arr arr' T (0,0) ha];omega
          · -- anew
           have hpt':Pt m h w b' 0 (cs.take (len*i.size)):=by simpa using hpt.drop_take 0 (len*i.size)
           obtain⟨olds,ho1,ho2,ho3⟩:=hpt'.values
           have hgc:=grownCap_ge w (len+n) rc elem
           have hrun:=gW (P:=P) (w:=w) (ty:=ty) (base:=some ⟨b',0,none⟩) (sLen:=len) (sCap:=rc) (n:=n) (xv:=xv) (olds:=olds) (news:=news) ht hi hzi' (hn4 w) (hn5 _ rfl)
            (run_firstCells_some w.drew i.size len _ _ _ olds (by rw[ho1,htl]) (fun j v hj=>by rw[kn (w:=w) (w':=w.drew) rfl,add_lit];exact ho2 j v hj))
            (by omega) (by omega) (growslice_fits (by omega) (by omega))
           generalize harr:olds.toArray++news.toArray++Builtin.zeroCells zv.cells (grownCap w (len+n) rc elem-(len+n))=arr' at hrun
           have hsz':arr'.size=grownCap w (len+n) rc elem*i.size:=by
            rw[← harr]
            simp only[Array.size_append,List.size_toArray,size_zeroCells,hnl,hzs,ho1,htl,← Nat.add_mul]
            congr 1;omega
           have hfr:∀ c,c<w.heap.size→c≠w.heap.size→(w.drew.alloc (.cells arr' elem)).heap[c]?=w.heap[c]?:=fun c hc _=>eQ (w:=w.drew) hc
           have e:Evo m h w (upd m h.length w.heap.size) ((h.set b none)++[some (cs.take (len*i.size)++new)]) (w.drew.alloc (.cells arr' elem)):=
            tV (.inl (Nat.le_refl _)) hfr (by simp) (fun c hc=>by rw[cI (hfr c hc (Nat.ne_of_lt hc))];exact Nat.le_refl _) rfl rfl rfl
           refine⟨_,_,hrun,_,e,vv r e (.inl (Nat.le_refl _)) hfr (arr:=arr') (T:=elem) (fY (w:=w.drew)) ?_ ?_,?_⟩
           ·rw[hsz']
            simp only[List.length_append,htl,hn2,← Nat.add_mul]
            exact Nat.mul_le_mul_right _ hgc
           ·intro q c hq
            rw[← harr]
            by_cases hql:q<len*i.size
            ·rw[List.getElem?_append_left (by omega)]at hq
             have hlt:q<olds.length:=by omega
             refine⟨olds[q],?_,ho3 q c _ hq (List.getElem?_eq_getElem hlt)⟩
             rw[Array.append_assoc,Array.getElem?_append_left (by simpa using hlt)]
             simp[hlt]
            ·rw[List.getElem?_append_right (by omega),htl]at hq
             have hlt:q-len*i.size<news.length:=by rw[hn1];exact (List.getElem?_eq_some_iff.1 hq).1
             refine⟨news[q-len*i.size],?_,hn3 _ c _ hq (List.getElem?_eq_getElem hlt)⟩
             have hol:olds.length=len*i.size:=by omega
             rw[Array.append_assoc,Array.getElem?_append_right (by simp;omega),Array.getElem?_append_left (by simp;omega)]
             simp[hol,hlt]
           ·refine yD hgc hgc ?_
            have:rsz (w.drew.alloc (.cells arr' elem)) w.heap.size=arr'.size:=jH (w:=w.drew)
            rw[this,hsz']
            exact Nat.le_refl _
         ·cases hy
        ·cases hy
      ·cases hy
     ·cases hy
    ·cases hy
   ·cases hy
  ·cases hy
 ·cases hy
end
end Go.Ab
namespace Go.Ab
section
variable {P:Program}{m:Mu}{h:Heap}{w:World}
theorem wrap_small{n:Int}(h0:0≤n)(h1:n≤2 ^ 40):IntKind.i64.wrap n=n:=IntWalk.i64_in n ⟨by omega,by omega⟩
theorem fC{z:List V}{s:Nat}(hz:z.length=s)(hs:0<s):∀ (n q:Nat),(bm z n)[q]?=if q<n*s then z[q%s]? else none
 | 0,q=>by simp[bm]
 | n+1,q=>by
  rw[bm]
  by_cases hq:q<s
  ·rw[List.getElem?_append_left (by omega),Nat.mod_eq_of_lt hq,if_pos (by rw[Nat.add_mul];omega)]
  ·have hmod:q%s=(q-s)%s:=Nat.mod_eq_sub_mod (by omega)
   rw[List.getElem?_append_right (by omega),fC hz hs n,hz,hmod]
   by_cases h2:q-s<n*s
   ·rw[if_pos h2,if_pos (by rw[Nat.add_mul];omega)]
   ·rw[if_neg h2,if_neg (by rw[Nat.add_mul];omega)]
theorem fw{z:List V}:∀ n,(bm z n).length=n*z.length
 | 0=>by simp[bm]
 | n+1=>by simp[bm,fw n,Nat.add_mul,Nat.add_comm]
theorem sQ(r:Rel m h w){t:TypeId}{l c y:V}{lv cv:Value}{h':Heap}(hl:R m h w l lv)(hc:R m h w c cv)(hy:cE P h t l c=some (y,h')):
  ∃ v w',(Instr.makeSlice t lv cv).run P w=.ok v w'∧Out m h w y h' v w':=by
 unfold cE at hy
 split at hy
 ·rename_i elem n mm hu
  cases hl;cases hc
  split at hy
  ·rename_i s by_ z hs hby hz
   obtain⟨i,hi,rfl⟩:=jK hs
   have hbi:i.bytes=by_:=by simpa[bytesOf,hi]using hby
   subst hbi
   split at hy
   ·rename_i hcnd
    simp only[Bool.and_eq_true,decide_eq_true_eq,beq_iff_eq]at hcnd
    obtain⟨⟨⟨⟨h0,hle⟩,hrm⟩,hzl⟩,hs0⟩:=hcnd
    have hrb:=iH hrm
    simp only[Option.some.injEq,Prod.mk.injEq]at hy
    obtain⟨rfl,rfl⟩:=hy
    obtain⟨zv,hzr,hzo,_⟩:=ca hz w
    have hpz:=jM (m:=m) (h:=h) (w:=w) hzo
    have hm0:0≤mm:=by omega
    have hm40:mm≤2 ^ 40:=by omega
    have hwn:IntKind.i64.wrap n=n:=wrap_small h0 (by omega)
    have hwm:IntKind.i64.wrap mm=mm:=wrap_small hm0 hm40
    have hnat:((i.bytes:Int)*mm)=((mm.toNat*i.bytes:Nat):Int):=by
     rw[Int.natCast_mul,Int.toNat_of_nonneg hm0,Int.mul_comm]
    have hbig:¬ (281474976710656<(i.bytes:Int)*mm):=by rw[hnat];omega
    have hm0':¬ mm<0:=by omega
    have hn0':¬ n<0:=by omega
    have hnm':¬ n > mm:=by omega
    generalize harr:(Array.range (mm.toNat*i.size)).map (fun q=>zv.cells[q%zv.cells.size]!)=arr
    have hasz:arr.size=mm.toNat*i.size:=by rw[← harr];simp
    have hrun:(Instr.makeSlice t (.int .i64 n) (.int .i64 mm)).run P w=.ok (.slice (some ⟨w.heap.size,0,none⟩) n.toNat mm.toNat) (w.alloc (.cells arr elem)):=by
     by_cases hz0:mm.toNat*i.size=0
     ·have ha:arr=#[]:=Array.eq_empty_of_size_eq_zero (by omega)
      have hr0:∀ f:Nat→Value,Array.map f (Array.range 0)=#[]:=fun f=>Array.eq_empty_of_size_eq_zero (by simp)
      simp[Instr.makeSlice,run_underlying hu,asInt,asIntOf,typeInfo,hi,hwn,hwm,hbig,hm0',hn0',hnm',sizeOf,hz0,newRow,ha,hr0]
     ·simp[Instr.makeSlice,run_underlying hu,asInt,asIntOf,typeInfo,hi,hwn,hwm,hbig,hm0',hn0',hnm',sizeOf,hz0,hzr,newRow,← harr]
    refine⟨_,_,hrun,_,dd _ _,fH r (by rw[fw,hzl,hasz];exact Nat.le_refl _) ?_,pQ (by omega) (by rw[jH,hasz];exact Nat.le_refl _) _ (Nat.le_refl _)⟩
    intro q c hq
    rw[fC hzl hs0]at hq
    split at hq
    ·rename_i hlt
     have hzc:zv.cells.size=i.size:=by rw[hpz.1,hzl]
     have hq2:q%i.size<zv.cells.size:=by rw[hzc];exact Nat.mod_lt _ hs0
     refine⟨zv.cells[q%i.size],?_,hpz.2 _ c _ hq (Array.getElem?_eq_getElem hq2)⟩
     rw[← harr]
     simp[hlt,hzc,getElem!_pos zv.cells (q%i.size) hq2]
    ·cases hq
   ·cases hy
  ·cases hy
 ·cases hy
theorem lQ(s:ByteArray):∀ (b i:Nat) (acc:Array Value),Conv.runesFrom s b i acc=acc++((dN s b i).map (Value.int .i32)).toArray
 | 0,i,acc=>by simp[Conv.runesFrom,dN]
 | b+1,i,acc=>by
  simp only[Conv.runesFrom,dN]
  split
  ·rw[lQ s b]
   apply Array.ext'
   simp
  ·simp
theorem qZ:∀ {cs:List V}{vs:List Value}{bs:List UInt8},vs.length=cs.length→(∀ (i:Nat) (c:V) (v:Value),cs[i]?=some c→vs[i]?=some v→R m h w c v)→kU cs=some bs →
  ∃ ns:List Int,vs=ns.map (Value.int .u8)∧bs=ns.map fun n=>UInt8.ofNat n.toNat
 | [],[],bs,_,_,hb=>by simp[kU]at hb;subst hb;exact⟨[],rfl,rfl⟩
 | c::cs,v::vs,bs,hl,hr,hb=>by
  unfold kU at hb
  split at hb
  ·rename_i h1;cases h1
  ·rename_i n r h1
   cases h1
   split at hb
   ·rename_i bs' hbs
    cases hb
    obtain⟨ns,h1,h2⟩:=qZ (by simpa using hl) (fun i c v hc hv=>hr (i+1) c v (by simpa using hc) (by simpa using hv)) hbs
    have:=hr 0 _ v rfl rfl
    cases this
    exact⟨n::ns,by simp[h1],by simp[h2]⟩
   ·cases hb
  ·cases hb
 | [],_::_,_,hl,_,_=>by simp at hl
 | _::_,[],_,hl,_,_=>by simp at hl
theorem foldl_push(ns:List Int)(r:ByteArray):ns.foldl (fun r n=>r.push (UInt8.ofNat n.toNat)) r=⟨r.data++(ns.map fun n=>UInt8.ofNat n.toNat).toArray⟩:=by
 induction ns generalizing r with
 | nil=>simp
 | cons n ns ih =>
  rw[List.foldl_cons,ih]
  congr 1
  show r.data.push _++_=_
  apply Array.ext'
  simp
theorem tR(r:Rel m h w){x:V}{xv:Value}{cs:List V}(hx:R m h w x xv)(he:jw h x=some cs):
  ∃ vs:List Value,vs.length=cs.length∧(∀ (i:Nat) (c:V) (v:Value),cs[i]?=some c→vs[i]?=some v→R m h w c v) ∧
   (((∃ l c,xv=.slice none l c)∧vs=[])∨∃ a len cap,xv=.slice (some a) len cap∧(loadCells a len).run P w=.ok vs.toArray w):=by
 have hsrc:bu h 1 x=some (cs.length,cs)∨False:=by
  unfold jw at he
  split at he
  ·rename_i y off len cap k
   split at he
   ·rename_i bl hb
    split at he
    ·rename_i hc
     simp only[Bool.and_eq_true,decide_eq_true_eq]at hc
     obtain⟨rfl,hle⟩:=hc
     cases he
     left
     simp only[bu,hb,Nat.mul_one,hle,decide_true,Bool.and_true,if_true,Option.some.injEq,Prod.mk.injEq,and_true]
     simp;omega
    ·cases he
   ·cases he
  ·rename_i xs
   left
   have key:∀ (xs:List (List V)) (cs:List V),(xs.mapM fun e=>match e with|[c]=>some c|_=>none)=some cs→(xs.all (fun e=>e.length==1))=true∧xs.flatten=cs∧xs.length=cs.length:=by
    intro xs
    induction xs with
    | nil=>intro cs h;simp at h;subst h;simp
    | cons e xs ih =>
     intro cs h
     simp only[List.mapM_cons,Option.bind_eq_bind,Option.bind_eq_some_iff,Option.pure_def]at h
     obtain⟨c,h1,cs',h2,h3⟩:=h
     cases h3
     obtain⟨i1,i2,i3⟩:=ih cs' h2
     match e,h1 with
     | [c'],h1=>cases h1;simp[i1,i2,i3]
   obtain⟨k1,k2,k3⟩:=key xs cs he
   simp only[bu,k1,if_true,k2,k3]
  ·cases he;left;rfl
  ·cases he
 rcases hsrc with hsrc|hf
 ·obtain⟨news,h1,h2,h3,h4,h5,a,l,c,rfl⟩:=Du (P:=P) r hx hsrc
  refine⟨news,h1,h3,?_⟩
  have h6:=h5 w rfl
  have h7:=h4 w
  simp only[Builtin.lenOf,Sem.run_pure,Result.ok.injEq,and_true]at h7
  subst h7
  cases a with
  | some a =>
   right
   refine⟨a,_,_,rfl,?_⟩
   simpa[Builtin.firstCells]using h6
  | none =>
   left
   have hn:news=[]:=by
    simp only[Builtin.firstCells,Sem.run_pure,Result.ok.injEq,and_true]at h6
    have:=congrArg Array.toList h6
    simpa using this.symm
   exact⟨⟨_,_,rfl⟩,hn⟩
 ·exact hf.elim
theorem rR:∀ {cs:List V}{vs:List Value}{ns:List Int},vs.length=cs.length→(∀ (i:Nat) (c:V) (v:Value),cs[i]?=some c→vs[i]?=some v→R m h w c v)→lR cs=some ns→vs=ns.map (Value.int .i32)
 | [],[],ns,_,_,hb=>by simp[lR]at hb;subst hb;rfl
 | c::cs,v::vs,ns,hl,hr,hb=>by
  unfold lR at hb
  split at hb
  ·rename_i h1;cases h1
  ·rename_i n r h1
   cases h1
   split at hb
   ·rename_i ns' hns
    cases hb
    have ih:=rR (by simpa using hl) (fun i c v hc hv=>hr (i+1) c v (by simpa using hc) (by simpa using hv)) hns
    have:=hr 0 _ v rfl rfl
    cases this
    simp[ih]
   ·cases hb
  ·cases hb
 | [],_::_,_,hl,_,_=>by simp at hl
 | _::_,[],_,hl,_,_=>by simp at hl
theorem nF{w:World}(body:Value→ByteArray→Sem (ForInStep ByteArray))(hb:∀ n r,(body (.int .i32 n) r).run P w=.ok (.yield (r++Utf8.encode n)) w)(ns:List Int)(r:ByteArray):
  (forIn (ns.map (Value.int .i32)) r body).run P w=.ok (ns.foldl (fun s n=>s++Utf8.encode n) r) w:=by
 induction ns generalizing r with
 | nil=>simp[Sem.run_pure]
 | cons n ns ih=>simp only[List.map_cons,List.forIn_cons,Sem.run_bind,hb,Result.andThen_ok,ih,List.foldl_cons]
theorem lP(w:World)(a:Addr)(len cap:Nat)(ns:List Int)(h:(loadCells a len).run P w=.ok (ns.map (Value.int .i32)).toArray w):
  (Conv.runesToString (.slice (some a) len cap)).run P w=.ok (.string (sy ns)) w:=by
 unfold Conv.runesToString
 simp only[Sem.run_bind,h,Result.andThen,List.forIn_toArray]
 rw[nF _ (by intro n r;simp[Sem.run_pure])]
 simp[Sem.run_pure,sy]
theorem El(r:Rel m h w){src dst:TypeId}{x y:V}{xv:Value}{h':Heap}(hx:R m h w x xv)(hy:fc P h src dst x=some (y,h')):
  ∃ v w',(convert src dst xv).run P w=.ok v w'∧Out m h w y h' v w':=by
 unfold fc at hy
 split at hy
 ·rename_i e hs hd
  split at hy
  ·rename_i he
   split at hy
   ·rename_i cs hcs
    split at hy
    ·rename_i bs hbs
     simp only[Option.some.injEq,Prod.mk.injEq]at hy
     obtain⟨rfl,rfl⟩:=hy
     obtain⟨vs,h1,h2,h3⟩:=tR (P:=P) r hx hcs
     obtain⟨ns,rfl,rfl⟩:=qZ h1 h2 hbs
     rcases h3 with⟨⟨l,c,rfl⟩,h4⟩|⟨a,len,cap,rfl,h4⟩
     ·have:ns=[]:=by simpa using h4
      subst this
      exact⟨.string ByteArray.empty,w,by simp[convert,run_underlying hs,run_underlying hd,run_underlying he,Conv.bytesToString],.same r (.str _)⟩
     ·have hb:=run_bytesToString w a len cap ns h4
      rw[foldl_push]at hb
      refine⟨.string ⟨ByteArray.empty.data++(ns.map fun n=>UInt8.ofNat n.toNat).toArray⟩,w,by simp only[convert,Sem.run_bind,run_underlying hs,run_underlying hd,run_underlying he,Result.andThen_ok,hb],.same r ?_⟩
      have:(⟨ByteArray.empty.data++(ns.map fun n=>UInt8.ofNat n.toNat).toArray⟩:ByteArray)=⟨(ns.map fun n=>UInt8.ofNat n.toNat).toArray⟩:=by
       show (⟨#[]++_⟩:ByteArray)=_
       rw[Array.empty_append]
      rw[this]
      exact .str _
    ·cases hy
   ·cases hy
  ·rename_i he
   split at hy
   ·rename_i cs hcs
    split at hy
    ·rename_i ns hns
     simp only[Option.some.injEq,Prod.mk.injEq]at hy
     obtain⟨rfl,rfl⟩:=hy
     obtain⟨vs,h1,h2,h3⟩:=tR (P:=P) r hx hcs
     have hvs:=rR h1 h2 hns
     subst hvs
     rcases h3 with⟨⟨l,c,rfl⟩,h4⟩|⟨a,len,cap,rfl,h4⟩
     ·have:ns=[]:=by simpa using h4
      subst this
      exact⟨.string ByteArray.empty,w,by simp[convert,run_underlying hs,run_underlying hd,run_underlying he,Conv.runesToString],.same r (.str _)⟩
     ·have hb:=lP (P:=P) w a len cap ns h4
      exact⟨.string (sy ns),w,by simp only[convert,Sem.run_bind,run_underlying hs,run_underlying hd,run_underlying he,Result.andThen_ok,hb],.same r (.str _)⟩
    ·cases hy
   ·cases hy
  ·cases hy
 ·rename_i sd k hs hd
  split at hy
  ·rename_i k' n
   cases hx
   simp only[Option.some.injEq,Prod.mk.injEq]at hy
   obtain⟨rfl,rfl⟩:=hy
   exact⟨.int k (k.wrap n),w,by cases sd<;>simp[convert,run_underlying hs,run_underlying hd,Conv.intToInt],.same r (.int _ _)⟩
  ·cases hy
 ·rename_i sd hne hs hd
  split at hy
  ·rename_i s
   cases hx
   simp only[Option.some.injEq,Prod.mk.injEq]at hy
   obtain⟨rfl,rfl⟩:=hy
   exact⟨.string s,w,by cases sd<;>simp[convert,run_underlying hs,run_underlying hd],.same r (.str _)⟩
  ·cases hy
 ·rename_i sd e hs hd
  split at hy
  ·rename_i s
   cases hx
   split at hy
   ·rename_i he
    simp only[Option.some.injEq,Prod.mk.injEq]at hy
    obtain⟨rfl,rfl⟩:=hy
    have hge:(dN s s.size 0).length≤grownCap w (dN s s.size 0).length 0 e:=grownCap_ge _ _ _ _
    generalize hcap:grownCap w (dN s s.size 0).length 0 e=cap at hge
    have hrun:(convert src dst (.string s)).run P w=.ok (.slice (some ⟨w.heap.size,0,none⟩) (dN s s.size 0).length cap)
      (w.drew.alloc (.cells (((dN s s.size 0).map (Value.int .i32)).toArray++Array.replicate (cap-(dN s s.size 0).length) (.int .i32 0)) e)):=by
     cases sd<;>simp[convert,run_underlying hs,run_underlying hd,run_underlying he,Conv.stringToRunes,lQ,Question.forced,newRow,← hcap,grownCap]
    refine⟨_,_,hrun,_,(gG (w:=w) (w':=w.drew) rfl rfl rfl rfl).trans (dd _ _),fH (lN r (w':=w.drew) rfl rfl rfl rfl) (by simp) ?_,pQ (w:=w.drew) hge ?_ _ hge⟩
    ·intro j c hj
     rw[List.getElem?_map]at hj
     simp only[Option.map_eq_some_iff]at hj
     obtain⟨n,hn,rfl⟩:=hj
     have hlt:=(List.getElem?_eq_some_iff.1 hn).1
     refine⟨.int .i32 n,?_,.int _ _⟩
     rw[Array.getElem?_append_left (by simpa using hlt)]
     simp[hn]
    ·rw[jH];simp;omega
   ·cases hy
  ·cases hy
 ·cases hy
end
end Go.Ab
namespace Go.Ab
section
variable {P:Program}{m:Mu}{h:Heap}{w:World}
theorem qR{z:Array Value}{n q:Nat}(hq:q<n*z.size):(Builtin.zeroCells z n)[q]?=z[q%z.size]?:=by
 have hs:0<z.size:=by
  rcases Nat.eq_zero_or_pos z.size with h|h
  ·rw[h]at hq;omega
  ·exact h
 have hm:q%z.size<z.size:=Nat.mod_lt _ hs
 simp[Builtin.zeroCells,hq,hm]
theorem Bv(r:Rel m h w){cfg:Cfg}{t ty:TypeId}{x:V}{xv:Value}{h':Heap}(hx:R m h w x xv)(hy:ir P cfg h t x=some h'):
  ∃ v w',(Builtin.clear_ #[t] ty #[xv]).run P w=.ok v w'∧Out m h w (.tup []) h' v w':=by
 have nothing:∀ {a:Option Addr} {c:Nat},h'=h→(∃ e,P.underlying t=some (.slice e))→xv=.slice a 0 c→∃ v w',(Builtin.clear_ #[t] ty #[xv]).run P w=.ok v w'∧Out m h w (.tup []) h' v w':=by
  rintro a c rfl ⟨e,hu⟩ rfl
  refine⟨.tuple #[],w,?_,.same r (.tup rfl fun i c v h=>by simp at h)⟩
  cases a<;>simp[Builtin.clear_,run_underlying hu]
 unfold ir at hy
 split at hy
 ·rename_i e hu
  cases hy;cases hx
  exact nothing rfl ⟨_,hu⟩ rfl
 ·rename_i e hu
  cases hy
  generalize hl:([]:List (List V))=l at hx
  cases hx with
  | lst0 a rc _=>exact nothing rfl ⟨_,hu⟩ rfl
  | lst rv hi hrc hk hc hf hr=>subst hl;exact nothing rfl ⟨_,hu⟩ rfl
 ·rename_i elem b off len cap k hu
  split at hy
  ·rename_i hl
   subst hl
   cases hy;cases hx
   exact nothing rfl ⟨_,hu⟩ rfl
  ·rename_i hl
   split at hy
   ·rename_i s z hs hz
    split at hy
    ·rename_i hc
     simp only[Bool.and_eq_true,decide_eq_true_eq,beq_iff_eq]at hc
     obtain⟨⟨⟨rfl,hzl⟩,hs0⟩,hlf⟩:=hc
     obtain⟨zv,hzr,hzo,_⟩:=ca hz w
     have hpz:=jM (m:=m) (h:=h) (w:=w) hzo
     obtain⟨cs,hb⟩:∃ cs,ab h b=some cs:=by
      unfold aO at hy
      split at hy
      ·rename_i cs hb;exact⟨cs,hb⟩
      ·cases hy
     obtain⟨rb,rc,arr,T,hmb,rfl,_,_,_,_,_,_⟩:=hx.sl_at r hb
     have hzs:zv.cells.size=s:=by rw[hpz.1,hzl]
     have hus:(Builtin.zeroCells zv.cells len).size=len*s:=by rw[size_zeroCells,hzs]
     have hrr:∀ (i:Nat) (c:V) (u:Value),(bm (cJ z) len)[i]?=some c→(Builtin.zeroCells zv.cells len).toList[i]?=some u→R m h w c u:=by
      intro i c u hc hu'
      rw[fC hzl hs0]at hc
      split at hc
      ·rename_i hlt
       simp only[Array.getElem?_toList]at hu'
       rw[qR (by rw[hzs];exact hlt),hzs]at hu'
       exact hpz.2 _ c u hc hu'
      ·cases hc
     have hlen:(Builtin.zeroCells zv.cells len).toList.length=(bm (cJ z) len).length:=by
      rw[fw,hzl];simpa using hus
     have h1:∀ u∈(Builtin.zeroCells zv.cells len).toList,u.oneCell'=true:=by
      refine xT (m:=m) (h:=h) (w:=w) (new:=bm (cJ z) len) ?_ hlen hrr
      rw[List.all_eq_true]at hlf ⊢
      intro c hc
      obtain⟨i,hi,rfl⟩:=List.getElem_of_mem hc
      have h2:=List.getElem?_eq_getElem hi
      rw[fC hzl hs0]at h2
      split at h2
      ·exact hlf _ (List.mem_of_getElem? h2)
      ·cases h2
     obtain⟨w',hrun,e,r'⟩:=gC (P:=P) r hmb hb hy hlen hrr h1
     refine⟨.tuple #[],w',?_,m,e,r',.tup rfl fun i c v h=>by simp at h⟩
     cases len with
     | zero=>exact absurd rfl hl
     | succ len=>simp[Builtin.clear_,run_underlying hu,hzr,hrun]
    ·cases hy
   ·cases hy
 ·cases hy
end
end Go.Ab
namespace Go.Ab
open Go.Instr
def fnd:List (Int×Int)→Int→Nat→Option (Nat×Int)
 | [],_,_=>none
 | (a,v)::r,x,i=>if x==a then some (i,v) else fnd r x (i+1)
theorem uv(x:Int):∀ (l:List (Int×Int)) (i:Nat),(fnd l x i).map (·.2)=nC l x
 | [],_=>rfl
 | (a,v)::r,i=>by
  simp only[fnd,nC]
  split
  ·rfl
  ·exact uv x r (i+1)
theorem BO(x:Int):∀ (l:List (Int×Int)) (i j:Nat) (v:Int),fnd l x i=some (j,v)→i≤j
 | [],_,_,_,h=>by simp[fnd]at h
 | (a,u)::r,i,j,v,h=>by
  simp only[fnd]at h
  split at h
  ·cases h;exact Nat.le_refl _
  ·have:=BO x r (i+1) j v h;omega
theorem pf{k e:IntKind}{x:Int}:∀ (es:List MapEntry) (l:List (Int×Int)) (i:Nat),es.map (fun q=>(q.key,q.val))=l.map (fun q=>(Value.int k q.1,Value.int e q.2)) →
  findNow (.int k) (.int k x) es i=some ((fnd l x i).map fun q=>(q.1,Value.int e q.2))
 | [],[],i,_=>rfl
 | [],_::_,i,h=>by simp at h
 | _::_,[],i,h=>by simp at h
 | q::es,(a,v)::l,i,h=>by
  simp only[List.map_cons,List.cons.injEq,Prod.mk.injEq]at h
  obtain⟨⟨h1,h2⟩,h3⟩:=h
  simp only[findNow,h1,sameNow,if_true,fnd]
  by_cases hxa:x=a
  ·subst hxa;simp[h2]
  ·have e1:(x==a)=false:=by simpa using hxa
   simp only[e1,Bool.false_eq_true,if_false]
   exact pf es l (i+1) h3
theorem rG{x y:Int}:∀ (l:List (Int×Int)) (i:Nat),fnd l x i=none→kI l x y=l++[(x,y)]
 | [],_,_=>rfl
 | (a,v)::l,i,h=>by
  simp only[fnd]at h
  split at h
  ·cases h
  ·rename_i hxa
   simp only[kI,hxa,if_false,List.cons_append,Bool.false_eq_true]
   rw[rG l (i+1) h]
theorem rH{k e:IntKind}{x y:Int}{b:Nat}:∀ (es:List MapEntry) (l:List (Int×Int)) (i j:Nat) (v:Int),es.map (fun q=>(q.key,q.val))=l.map (fun q=>(Value.int k q.1,Value.int e q.2))→fnd l x i=some (i+j,v) →
  (es.modify j fun q=>{ q with key:=Value.int k x,val:=Value.int e y }).map (fun q=>(q.key,q.val))=(kI l x y).map (fun q=>(Value.int k q.1,Value.int e q.2))∧(es[j]?).map (·.key)=some (Value.int k x)
 | [],[],i,j,v,_,h=>by simp[fnd]at h
 | [],_::_,i,j,v,h,_=>by simp at h
 | _::_,[],i,j,v,h,_=>by simp at h
 | q::es,(a,u)::l,i,j,v,h,hf=>by
  simp only[List.map_cons,List.cons.injEq,Prod.mk.injEq]at h
  obtain⟨⟨h1,h2⟩,h3⟩:=h
  simp only[fnd]at hf
  split at hf
  ·rename_i hxa
   have hj:j=0:=by simp at hf;omega
   subst hj
   have hxa':x=a:=by simpa using hxa
   subst hxa'
   simp[kI,h1,h3]
  ·rename_i hxa
   have hge:=BO x l (i+1) (i+j) v hf
   obtain⟨j',rfl⟩:∃ j',j=j'+1:=⟨j-1,by omega⟩
   have ih:=rH (b:=b) (y:=y) es l (i+1) j' v h3 (by rw[hf];congr 2;omega)
   simp only[kI,hxa,if_false,Bool.false_eq_true,List.modify_succ_cons,List.map_cons,h1,h2,List.getElem?_cons_succ]
   exact⟨by rw[ih.1],ih.2⟩
section
variable {P:Program}{m:Mu}{h:Heap}{w:World}
theorem ni{t:TypeId}{k e:IntKind}(hk:fU P t=some (k,e)):∃ a b,P.underlying t=some (.map a b)∧P.underlying a=some (.int k)∧P.underlying b=some (.int e)∧zeroOf P b=some (.int e 0):=by
 unfold fU at hk
 split at hk
 ·rename_i a b hu
  split at hk
  ·rename_i k' e' e'' ha hb hz
   split at hk
   ·rename_i he
    cases hk
    exact⟨a,b,hu,ha,hb,by rw[hz,he]⟩
   ·cases hk
  ·cases hk
 ·cases hk
theorem qP(r:Rel m h w)(k e:IntKind):Rel (upd m h.length w.heap.size) (h++[some [.mp k e []]]) (w.alloc (.map #[] 0)):=by
 have ev:=dd (m:=m) (h:=h) (w:=w) [.mp k e []] (.map #[] 0)
 refine⟨fun x b hl hb hz=>?_,fun b hb=>Nat.lt_of_lt_of_le (r.zl b hb) ev.size,fun x y b hx hy hbx hby=>?_,fun x cs' b hx hb=>?_⟩
 ·rcases aK hl with h1|rfl
  ·simp only[upd,Nat.ne_of_lt h1,if_false]at hb
   exact r.zo x b ((bg h1).1 hl) hb hz
  ·simp only[upd,if_true,Option.some.injEq]at hb
   have:=r.zl b hz
   omega
 ·rcases aK hx with h1|rfl
  ·rcases aK hy with h2|rfl
   ·simp only[upd,Nat.ne_of_lt h1,Nat.ne_of_lt h2,if_false]at hbx hby
    exact r.inj x y b ((bg h1).1 hx) ((bg h2).1 hy) hbx hby
   ·simp only[upd,Nat.ne_of_lt h1,if_false,if_true,Option.some.injEq]at hbx hby
    have:=r.lt x b ((bg h1).1 hx) hbx
    omega
  ·rcases aK hy with h2|rfl
   ·simp only[upd,Nat.ne_of_lt h2,if_false,if_true,Option.some.injEq]at hbx hby
    have:=r.lt y b ((bg h2).1 hy) hby
    omega
   ·rfl
 ·rcases aK ⟨cs',hx⟩ with h1|rfl
  ·rw[List.getElem?_append_left h1]at hx
   simp only[upd,Nat.ne_of_lt h1,if_false]at hb
   exact (r.blk x cs' b hx hb).carry (eQ (r.lt x b ⟨cs',hx⟩ hb)) fun c v _ hrv=>hrv.evo ev r.lt
  ·simp only[upd,if_true,Option.some.injEq]at hb
   subst hb
   simp at hx
   subst hx
   exact .inr (.inl ⟨k,e,[],#[],0,rfl,fY,rfl⟩)
theorem qe(r:Rel m h w):Rel (upd m h.length w.heap.size) (h++[some [.mq []]]) (w.alloc (.map #[] 0)):=by
 have ev:=dd (m:=m) (h:=h) (w:=w) [.mq []] (.map #[] 0)
 refine⟨fun x b hl hb hz=>?_,fun b hb=>Nat.lt_of_lt_of_le (r.zl b hb) ev.size,fun x y b hx hy hbx hby=>?_,fun x cs' b hx hb=>?_⟩
 ·rcases aK hl with h1|rfl
  ·simp only[upd,Nat.ne_of_lt h1,if_false]at hb
   exact r.zo x b ((bg h1).1 hl) hb hz
  ·simp only[upd,if_true,Option.some.injEq]at hb
   have:=r.zl b hz
   omega
 ·rcases aK hx with h1|rfl
  ·rcases aK hy with h2|rfl
   ·simp only[upd,Nat.ne_of_lt h1,Nat.ne_of_lt h2,if_false]at hbx hby
    exact r.inj x y b ((bg h1).1 hx) ((bg h2).1 hy) hbx hby
   ·simp only[upd,Nat.ne_of_lt h1,if_false,if_true,Option.some.injEq]at hbx hby
    have:=r.lt x b ((bg h1).1 hx) hbx
    omega
  ·rcases aK hy with h2|rfl
   ·simp only[upd,Nat.ne_of_lt h2,if_false,if_true,Option.some.injEq]at hbx hby
    have:=r.lt y b ((bg h2).1 hy) hby
    omega
   ·rfl
 ·rcases aK ⟨cs',hx⟩ with h1|rfl
  ·rw[List.getElem?_append_left h1]at hx
   simp only[upd,Nat.ne_of_lt h1,if_false]at hb
   exact (r.blk x cs' b hx hb).carry (eQ (r.lt x b ⟨cs',hx⟩ hb)) fun c v _ hrv=>hrv.evo ev r.lt
  ·simp only[upd,if_true,Option.some.injEq]at hb
   subst hb
   simp at hx
   subst hx
   exact .inr (.inr ⟨[],#[],0,rfl,fY,rfl,by simp⟩)
theorem xe(r:Rel m h w){t:TypeId}{x:V}{h':Heap}(hy:dB P h t=some (x,h')):∃ v w',(makeMap t none).run P w=.ok v w'∧Out m h w x h' v w':=by
 unfold dB at hy
 split at hy
 ·rename_i k e hk
  cases hy
  exact⟨_,_,rfl,_,dd _ _,qP r k e,.mref (by simp) fun _=>by simp[upd]⟩
 ·split at hy
  ·cases hy
   exact⟨_,_,rfl,_,dd _ _,qe r,.mref (by simp) fun _=>by simp[upd]⟩
  ·cases hy
theorem R.mref_at(r:Rel m h w){x:Nat}{v:Value}{k e:IntKind}{l:List (Int×Int)}(hv:R m h w (.mref x) v)(hb:mapOf h x=some (k,e,l)):
  ∃ b es clock,m x=some b∧v=.map (some b)∧w.heap[b]?=some (.map es clock)∧tD k e l es:=by
 have hc:=gx hb
 cases hv with
 | mref hlt hv =>
  have hmb:=hv ⟨_,hc⟩
  rcases r.blk x _ _ hc hmb with⟨arr,T,ha,hl,hr⟩|⟨k',e',l',es,clock,heq,ha,hm⟩|⟨l',es,clock,heq,_⟩
  ·obtain⟨u,_,hu⟩:=hr 0 (.mp k e l) rfl
   cases hu
  ·cases heq
   exact⟨_,es,clock,hmb,rfl,ha,hm⟩
  ·cases heq
theorem qD(n:Nat){em:Bool}{t:TypeId}{k:IntKind}{x:Int}(hu:P.underlying t=some (.int k)):(checkKey em (n+1) t (.int k x)).run P w=.ok () w:=by
 simp only[checkKey,Sem.run_bind,run_underlying hu,Result.andThen_ok,Sem.run_pure]
theorem im{em:Bool}{t:TypeId}{k:IntKind}{x:Int}(hu:P.underlying t=some (.int k)):(checkKey em 10000 t (.int k x)).run P w=.ok () w:=qD 9999 hu
theorem eF{r:Nat}{es:Array MapEntry}{clock:Nat}(hb:w.heap[r]?=some (.map es clock)):(getObj r).run P w=.ok (.map es clock) w:=by
 simp[getObj,Sem.run,hb]
theorem iY{t:TypeId}{k e:IntKind}{x:Int}{es:Array MapEntry}{l:List (Int×Int)}(hu:P.underlying t=some (.int k))(hm:tD k e l es):
  (findKey t (.int k x) es.toList).run P w=.ok ((fnd l x 0).map fun q=>(q.1,Value.int e q.2)) w:=by
 simp only[findKey,Sem.run_bind,run_underlying hu,Result.andThen_ok,pf es.toList l 0 hm,Sem.run_pure]
theorem Aw{v:Value}{k:IntKind}{n:Int}(h:jg v=some (.int k n)):v=.int k n:=by
 unfold jg at h
 split at h
 ·simp at h
 ·split at h<;>simp at h
 ·unfold gA at h
  split at h<;>simp at h
  obtain⟨rfl,rfl⟩:=h
  rfl
theorem Cn{v:V}(hf:mX v=true):R m h w v (sO v):=by
 cases v<;>first|(exact .bool _)|(exact .int _ _)|simp[mX]at hf
theorem A9{v:V}{x:Value}(hf:mX v=true)(hr:R m h w v x):x=sO v:=by
 cases v<;>first|(cases hr;rfl)|simp[mX]at hf
theorem tu{v:V}(hf:fg v=true):R m h w v (valOf v):=by
 cases v with
 | agg cs =>
  refine .agg (by simp) fun i c x hc hx=>?_
  simp only[List.getElem?_toArray,List.getElem?_map,hc,Option.map_some,Option.some.injEq]at hx
  subst hx
  exact Cn (List.all_eq_true.1 hf c (List.mem_of_getElem? hc))
 | bool b=>exact .bool _
 | int k n=>exact .int _ _
 | _=>simp[fg,mX]at hf
theorem xR{v:V}{x:Value}(hf:fg v=true)(hr:R m h w v x):x=valOf v:=by
 cases v with
 | agg cs =>
  cases hr with
  | agg hl hr =>
   rename_i vs
   show Value.agg vs=Value.agg _
   congr 1
   refine Array.ext (by simpa using hl) fun i h1 h2=>?_
   have hi:i<cs.length:=by omega
   have:=hr i cs[i] vs[i] (List.getElem?_eq_getElem hi) (Array.getElem?_eq_getElem h1)
   rw[A9 (List.all_eq_true.1 hf _ (List.getElem_mem hi)) this]
   simp
 | bool b=>cases hr;rfl
 | int k n=>cases hr;rfl
 | _=>simp[fg,mX]at hf
theorem rE{t a:TypeId}{fs:List Field}{z:V}(hk:kH P t=some (a,fs,z)):∃ b fields,P.underlying t=some (.map a b)∧P.underlying a=some (.struct fields)∧fields.toList=fs∧zeroOf P b=some z∧eL P 0 fs=true∧fg z=true:=by
 unfold kH at hk
 split at hk
 ·rename_i a' b hu
  split at hk
  ·rename_i fields z' ha hz
   split at hk
   ·rename_i hc
    simp only[Bool.and_eq_true]at hc
    cases hk
    exact⟨b,fields,hu,ha,rfl,hz,hc.1,hc.2⟩
   ·cases hk
  ·cases hk
 ·cases hk
theorem jV{a:TypeId}{key:V}{kv:Value}(hk:R m h w key kv):∀ (es:List MapEntry) (l:List (List V)) (i:Nat) (r:Option V),es.map (fun x=>(x.key,x.val))=l.map (fun e=>(valOf (e.headD .no),valOf (e.getD 1 .no))) →
  (∀ e∈l,∃ k v,e=[k,v]∧fg k=true∧fg v=true)→findS P a key l=some r→∃ j,(findAsking a kv es i).run P w=.ok (r.map fun y=>(j,valOf y)) w∧∀ y,r=some y→fg y=true
 | [],[],i,r,_,_,hf=>by
  simp only[findS,Option.some.injEq]at hf
  subst hf
  exact⟨0,by simp[findAsking],by simp⟩
 | [],_::_,_,_,he,_,_=>by simp at he
 | _::_,[],_,_,he,_,_=>by simp at he
 | q::es,e::l,i,r,he,hl,hf=>by
  obtain⟨k,v,rfl,h1,h2⟩:=hl e (List.mem_cons_self ..)
  simp only[List.map_cons,List.cons.injEq,Prod.mk.injEq,List.headD_cons,List.getD_cons_succ,List.getD_cons_zero]at he
  obtain⟨⟨hq1,hq2⟩,he'⟩:=he
  simp only[findS]at hf
  split at hf
  ·rename_i heq
   cases hf
   obtain⟨hrun,_⟩:=nP (P:=P) (w:=w) hk (tu h1) heq
   refine⟨i,?_,fun y hy=>by cases hy;exact h2⟩
   simp only[findAsking,Sem.run_bind,hq1,hrun,Result.andThen_ok,if_true,Sem.run_pure,hq2,Option.map_some]
  ·rename_i heq
   obtain⟨hrun,_⟩:=nP (P:=P) (w:=w) hk (tu h1) heq
   obtain⟨j,hj,hfl⟩:=jV hk es l (i+1) r he' (fun e he=>hl e (List.mem_cons_of_mem _ he)) hf
   refine⟨j,?_,hfl⟩
   simp only[findAsking,Sem.run_bind,hq1,hrun,Result.andThen_ok,Bool.false_eq_true,if_false]
   exact hj
  ·cases hf
theorem mh{a:TypeId}{fields:Array Field}{ks:List V}{vs:Array Value}{es:Array MapEntry}{l:List (List V)}{r:Option V}(hu:P.underlying a=some (.struct fields))(hk:R m h w (.agg ks) (.agg vs))(hm:A5 l es)(hf:findS P a (.agg ks) l=some r):
  ∃ j,(findKey a (.agg vs) es.toList).run P w=.ok (r.map fun y=>(j,valOf y)) w∧∀ y,r=some y→fg y=true:=by
 obtain⟨j,hj,hfl⟩:=jV (P:=P) hk es.toList l 0 r hm.1 hm.2 hf
 refine⟨j,?_,hfl⟩
 cases hes:es.toList with
 | nil =>
  rw[hes]at hj
  simp only[findKey,Sem.run_bind,run_underlying hu,Result.andThen_ok,findNow,Sem.run_pure]
  simpa[findAsking]using hj
 | cons q es' =>
  rw[hes]at hj
  have hn:findNow (.struct fields) (.agg vs) (q::es') 0=none:=by simp[findNow,sameNow]
  simp only[findKey,Sem.run_bind,run_underlying hu,Result.andThen_ok,hn]
  exact hj
theorem oN{n:Nat}{em:Bool}{t:TypeId}{x:Value}{T:TypeDesc}(hu:P.underlying t=some T)(hT:(∃ k,T=.int k)∨T=.bool):(checkKey em (n+1) t x).run P w=.ok () w:=by
 rcases hT with⟨k,rfl⟩|rfl<;>simp only[checkKey,Sem.run_bind,run_underlying hu,Result.andThen_ok,Sem.run_pure]
theorem mf{n:Nat}{em:Bool}{a:TypeId}{fields:Array Field}{vs:Array Value}(hu:P.underlying a=some (.struct fields))(hk:eL P 0 fields.toList=true)(hl:vs.size=fields.toList.length):(checkKey em (n+1+1) a (.agg vs)).run P w=.ok () w:=by
 have key:∀ (fs:List Field) (i:Nat),eL P i fs=true→i+fs.length≤vs.size →
   (forIn (m:=Sem) fs PUnit.unit fun f _=>do
    if f.name ≠ "_" then checkKey em (n + 1) f.type (← Go.part f.type vs f.offset)
    pure (ForInStep.yield PUnit.unit)).run P w=.ok PUnit.unit w:=by
  intro fs
  induction fs with
  | nil=>intro i _ _;simp
  | cons f fs ih =>
   intro i hki hli
   simp only[eL,Bool.and_eq_true,decide_eq_true_eq]at hki
   obtain⟨⟨hoff,hty⟩,hrest⟩:=hki
   simp only[List.length_cons]at hli
   obtain⟨T,hT,hT2⟩:∃ T,P.underlying f.type=some T∧((∃ k,T=.int k)∨T=.bool):=by
    split at hty
    ·rename_i k hk';exact⟨_,hk',.inl ⟨k,rfl⟩⟩
    ·rename_i hk';exact⟨_,hk',.inr rfl⟩
    ·cases hty
   have hag:pC P f.type=some false:=by
    rcases hT2 with⟨k,rfl⟩|rfl<;>simp[pC,hT]
   have hp:(Go.part f.type vs f.offset).run P w=.ok vs[i] w:=by simp[Go.part,dZ hag,hoff,show i<vs.size by omega]
   rw[List.forIn_cons]
   simp only[Sem.run_bind]
   have hi:=ih (i+1) hrest (by omega)
   split
   ·simp only[Sem.run_bind,hp,oN (n:=n) hT hT2,Result.andThen_ok,Sem.run_pure]
    exact hi
   ·simp only[Sem.run_pure,Result.andThen_ok]
    exact hi
 unfold checkKey
 simp only[Sem.run_bind,run_underlying hu,Result.andThen_ok]
 have:=key fields.toList 0 hk (by omega)
 rw[Array.forIn_toList]at this
 simp at this ⊢
 rw[this]
 rfl
theorem iO{em:Bool}{a:TypeId}{fields:Array Field}{vs:Array Value}(hu:P.underlying a=some (.struct fields))(hk:eL P 0 fields.toList=true)(hl:vs.size=fields.toList.length):(checkKey em 10000 a (.agg vs)).run P w=.ok () w:=mf (n:=9998) hu hk hl
theorem R.mref_atS(r:Rel m h w){x:Nat}{v:Value}{l:List (List V)}(hv:R m h w (.mref x) v)(hb:kG h x=some l):
  ∃ b es clock,m x=some b∧v=.map (some b)∧w.heap[b]?=some (.map es clock)∧A5 l es:=by
 have hc:=fT hb
 cases hv with
 | mref hlt hv =>
  have hmb:=hv ⟨_,hc⟩
  rcases r.blk x _ _ hc hmb with⟨arr,T,ha,hl,hr⟩|⟨k',e',l',es,clock,heq,ha,hm⟩|⟨l',es,clock,heq,ha,hm⟩
  ·obtain⟨u,_,hu⟩:=hr 0 (.mq l) rfl
   cases hu
  ·cases heq
  ·cases heq
   exact⟨_,es,clock,hmb,rfl,ha,hm⟩
theorem xd(r:Rel m h w){t:TypeId}{x key:V}{xv kv:Value}{ok:Bool}{y:V}(hx:R m h w x xv)(hk:R m h w key kv)(hy:nY P h t x key ok=some y):∃ v,(lookup t xv kv ok).run P w=.ok v w∧R m h w y v:=by
 unfold nY at hy
 split at hy
 ·rename_i a fs z b ks hmk
  split at hy
  ·rename_i l hmo
   split at hy
   ·rename_i hc
    simp only[Bool.and_eq_true,decide_eq_true_eq]at hc
    obtain⟨tb,fields,hu,hua,rfl,hz,hkf,hzf⟩:=rE hmk
    obtain⟨b',es,clock,hmb,rfl,ha,hm⟩:=R.mref_atS r hx hmo
    obtain⟨zv,hzr,hzo,_⟩:=ca hz w
    have hzR:R m h w z zv:=sU hzo
    cases hk with
    | agg hl hr =>
    rename_i vs
    have hkR:R m h w (.agg ks) (.agg vs):=.agg hl hr
    have hck:=iO (P:=P) (w:=w) (em:=es.isEmpty) (vs:=vs) hua hkf (by omega)
    have tup:∀ a b:Value,∀ p q:V,R m h w p a→R m h w q b→R m h w (.tup [p,q]) (.tuple #[a,b]):=fun a b p q hp hq=>.tup rfl fun i c v hc hv=>by
     match i,hc,hv with
     | 0,hc,hv=>simp at hc hv;subst hc hv;exact hp
     | 1,hc,hv=>simp at hc hv;subst hc hv;exact hq
     | i+2,hc,_=>simp at hc
    split at hy
    ·rename_i y' hf
     obtain⟨j,hj,hfl⟩:=mh (P:=P) hua hkR hm hf
     cases hy
     have hyR:R m h w y' (valOf y'):=tu (hfl y' rfl)
     refine⟨if ok then .tuple #[valOf y',.bool true] else valOf y',?_,?_⟩
     ·simp only[lookup,Sem.run_bind,run_underlying hu,Result.andThen_ok,eF ha,Sem.run_pure,hck,hj,Option.map_some]
     ·cases ok
      ·exact hyR
      ·exact tup _ _ _ _ hyR (.bool _)
    ·rename_i hf
     obtain⟨j,hj,hfl⟩:=mh (P:=P) hua hkR hm hf
     cases hy
     refine⟨if ok then .tuple #[zv,.bool false] else zv,?_,?_⟩
     ·simp only[lookup,Sem.run_bind,run_underlying hu,Result.andThen_ok,eF ha,Sem.run_pure,hck,hj,Option.map_none,hzr]
     ·cases ok
      ·exact hzR
      ·exact tup _ _ _ _ hzR (.bool _)
    ·cases hy
   ·cases hy
  ·cases hy
 ·cases hy
theorem Ar(r:Rel m h w){t:TypeId}{x key:V}{xv kv:Value}{ok:Bool}{y:V}(hx:R m h w x xv)(hk:R m h w key kv)(hy:eX P h t x key ok=some y):∃ v,(lookup t xv kv ok).run P w=.ok v w∧R m h w y v:=by
 unfold eX at hy
 split at hy
 ·rename_i k e b k1 q hmk
  split at hy
  ·rename_i k2 e2 l hmo
   split at hy
   ·rename_i hc
    simp only[Bool.and_eq_true,decide_eq_true_eq]at hc
    obtain⟨⟨rfl,rfl⟩,rfl⟩:=hc
    obtain⟨b',es,clock,hmb,rfl,ha,hm⟩:=R.mref_at r hx hmo
    cases hk
    obtain⟨ta,tb,hu,hua,hub,hz⟩:=ni hmk
    obtain⟨zv,hzr,hzo,_⟩:=ca hz w
    obtain rfl:=Aw hzo
    have hg:=uv q l 0
    have hrun:∀ res,fnd l q 0=res→(lookup t (.map (some b')) (.int k q) ok).run P w=.ok (match res with
      | some p=>if ok then .tuple #[.int e p.2,.bool true] else .int e p.2
      | none=>if ok then .tuple #[.int e 0,.bool false] else .int e 0) w:=by
     intro res hres
     simp only[lookup,Sem.run_bind,run_underlying hu,Result.andThen_ok,eF ha,Sem.run_pure,im hua,iY hua hm,hres]
     cases res with
     | none=>simp[hzr]
     | some p=>simp
    have tup:∀ a b:Value,∀ p q:V,R m h w p a→R m h w q b→R m h w (.tup [p,q]) (.tuple #[a,b]):=fun a b p q hp hq=>.tup rfl fun i c v hc hv=>by
     match i,hc,hv with
     | 0,hc,hv=>simp at hc hv;subst hc hv;exact hp
     | 1,hc,hv=>simp at hc hv;subst hc hv;exact hq
     | i+2,hc,_=>simp at hc
    cases hf:fnd l q 0 with
    | none =>
     rw[hf]at hg
     simp only[Option.map_none]at hg
     rw[← hg]at hy
     simp only[Option.some.injEq]at hy
     refine⟨_,hrun none hf,?_⟩
     cases ok<;>simp only[if_true,Bool.false_eq_true,if_false]at hy ⊢<;>subst hy
     ·exact .int _ _
     ·exact tup _ _ _ _ (.int _ _) (.bool _)
    | some p =>
     rw[hf]at hg
     simp only[Option.map_some]at hg
     rw[← hg]at hy
     simp only[Option.some.injEq]at hy
     refine⟨_,hrun (some p) hf,?_⟩
     cases ok<;>simp only[if_true,Bool.false_eq_true,if_false]at hy ⊢<;>subst hy
     ·exact .int _ _
     ·exact tup _ _ _ _ (.int _ _) (.bool _)
   ·cases hy
  ·cases hy
 ·exact xd r hx hk hy
 ·cases hy
theorem map_set(r:Rel m h w){x b:Nat}{k e:IntKind}{l l':List (Int×Int)}{es es':Array MapEntry}{clock clock':Nat}(hx:h[x]?=some (some [.mp k e l]))(hb:m x=some b)(ha:w.heap[b]?=some (.map es clock))(hm:tD k e l' es'):
  Evo m h w m (h.set x (some [.mp k e l'])) { w with heap:=w.heap.setIfInBounds b (.map es' clock') }∧Rel m (h.set x (some [.mp k e l'])) { w with heap:=w.heap.setIfInBounds b (.map es' clock') }:=by
 have hlx:live h x:=⟨_,hx⟩
 have hother:∀ c,c≠b→(w.heap.setIfInBounds b (.map es' clock'))[c]?=w.heap[c]?:=fun c hc=>Array.getElem?_setIfInBounds_ne (fun e=>hc e.symm)
 have hlt:b<w.heap.size:=r.lt x b hlx hb
 have ev:Evo m h w m (h.set x (some [.mp k e l'])) { w with heap:=w.heap.setIfInBounds b (.map es' clock') }:={
  zeq:=rfl
  len:=by simp
  keep:=fun y _ hl=>⟨(bU hlx).1 hl,rfl⟩
  own:=fun y c hl hc=>.inl ⟨y,(bU hlx).1 hl,hc⟩
  frame:=fun c _ hn=>hother c fun hcb=>hn x hlx (hcb ▸ hb)
  size:=by simp
  rs:=fun c _=>by
   by_cases hcb:c=b
   ·subst hcb;simp[rsz,ha]
   ·rw[cI (w:=w) (w':={ w with heap:=w.heap.setIfInBounds b (.map es' clock') }) (hother c hcb)];exact Nat.le_refl _
  os:=rfl
  tape:=rfl
  output:=rfl }
 refine⟨ev,fun y c hy hc=>r.zo y c ((bU hlx).1 hy) hc,fun c hc=>Nat.lt_of_lt_of_le (r.zl c hc) ev.size,fun y z c hy hz hcy hcz=>r.inj y z c ((bU hlx).1 hy) ((bU hlx).1 hz) hcy hcz,fun y cs' c hy hc=>?_⟩
 by_cases hxy:x=y
 ·subst hxy
  rw[List.getElem?_set_self (eW hlx)]at hy
  cases hy
  rw[hb]at hc
  cases hc
  exact .inr (.inl ⟨k,e,l',es',clock',rfl,by simp[hlt],hm⟩)
 ·rw[List.getElem?_set_ne hxy]at hy
  have hcb:c≠b:=fun e=>hxy (r.inj x y b hlx ⟨cs',hy⟩ hb (e ▸ hc))
  exact (r.blk y cs' c hy hc).carry (hother c hcb) fun d v _ hrv=>hrv.evo ev r.lt
theorem Cr(r:Rel m h w){x b:Nat}{l l':List (List V)}{es es':Array MapEntry}{clock clock':Nat}(hx:h[x]?=some (some [.mq l]))(hb:m x=some b)(ha:w.heap[b]?=some (.map es clock))(hm:A5 l' es'):
  Evo m h w m (h.set x (some [.mq l'])) { w with heap:=w.heap.setIfInBounds b (.map es' clock') }∧Rel m (h.set x (some [.mq l'])) { w with heap:=w.heap.setIfInBounds b (.map es' clock') }:=by
 have hlx:live h x:=⟨_,hx⟩
 have hother:∀ c,c≠b→(w.heap.setIfInBounds b (.map es' clock'))[c]?=w.heap[c]?:=fun c hc=>Array.getElem?_setIfInBounds_ne (fun e=>hc e.symm)
 have hlt:b<w.heap.size:=r.lt x b hlx hb
 have ev:Evo m h w m (h.set x (some [.mq l'])) { w with heap:=w.heap.setIfInBounds b (.map es' clock') }:={
  zeq:=rfl
  len:=by simp
  keep:=fun y _ hl=>⟨(bU hlx).1 hl,rfl⟩
  own:=fun y c hl hc=>.inl ⟨y,(bU hlx).1 hl,hc⟩
  frame:=fun c _ hn=>hother c fun hcb=>hn x hlx (hcb ▸ hb)
  size:=by simp
  rs:=fun c _=>by
   by_cases hcb:c=b
   ·subst hcb;simp[rsz,ha]
   ·rw[cI (w:=w) (w':={ w with heap:=w.heap.setIfInBounds b (.map es' clock') }) (hother c hcb)];exact Nat.le_refl _
  os:=rfl
  tape:=rfl
  output:=rfl }
 refine⟨ev,fun y c hy hc=>r.zo y c ((bU hlx).1 hy) hc,fun c hc=>Nat.lt_of_lt_of_le (r.zl c hc) ev.size,fun y z c hy hz hcy hcz=>r.inj y z c ((bU hlx).1 hy) ((bU hlx).1 hz) hcy hcz,fun y cs' c hy hc=>?_⟩
 by_cases hxy:x=y
 ·subst hxy
  rw[List.getElem?_set_self (eW hlx)]at hy
  cases hy
  rw[hb]at hc
  cases hc
  exact .inr (.inr ⟨l',es',clock',rfl,by simp[hlt],hm⟩)
 ·rw[List.getElem?_set_ne hxy]at hy
  have hcb:c≠b:=fun e=>hxy (r.inj x y b hlx ⟨cs',hy⟩ hb (e ▸ hc))
  exact (r.blk y cs' c hy hc).carry (hother c hcb) fun d v _ hrv=>hrv.evo ev r.lt
theorem kM{r:Nat}{es:Array MapEntry}{clock:Nat}(o:Obj)(hb:w.heap[r]?=some (.map es clock)):(setObj r o).run P w=.ok () { w with heap:=w.heap.setIfInBounds r o }:=MapKept.run_setObj_map o hb
theorem qJ(r:Rel m h w){cfg:Cfg}{t:TypeId}{a b c:V}{av bv cv:Value}{h':Heap}(ha:R m h w a av)(hb:R m h w b bv)(hc:R m h w c cv)(hy:mapUpdateS P cfg h t a b c=some h'):
  ∃ w',(mapUpdate t av bv cv).run P w=.ok () w'∧Evo m h w m h' w'∧Rel m h' w':=by
 unfold mapUpdateS at hy
 split at hy
 ·rename_i ty fs z x ks hmk
  split at hy
  ·rename_i l hmo
   split at hy
   ·rename_i hcc
    simp only[Bool.and_eq_true,decide_eq_true_eq]at hcc
    obtain⟨⟨⟨hfk,hfv⟩,hlen⟩,_⟩:=hcc
    split at hy
    ·rename_i hf
     cases hy
     obtain⟨tb,fields,hu,hua,rfl,hz,hkf,hzf⟩:=rE hmk
     obtain⟨b',es,clock,hmb,rfl,hw,hm⟩:=R.mref_atS r ha hmo
     have hkv:=xR hfk hb
     have hcv:=xR hfv hc
     cases hb with
     | agg hl hr =>
     rename_i vs
     have hkR:R m h w (.agg ks) (.agg vs):=.agg hl hr
     have hck:=iO (P:=P) (w:=w) (em:=false) (vs:=vs) hua hkf (by omega)
     obtain⟨j,hj,_⟩:=mh (P:=P) hua hkR hm hf
     have hm':A5 (l++[[.agg ks,c]]) (es.push { key:=.agg vs,val:=cv,born:=clock }):=by
      refine⟨?_,fun e he=>?_⟩
      ·rw[Array.toList_push,List.map_append,List.map_append,hm.1]
       simp only[List.map_cons,List.map_nil,List.headD_cons,List.getD_cons_succ,List.getD_cons_zero,hkv,hcv]
      ·rcases List.mem_append.1 he with he|he
       ·exact hm.2 e he
       ·rw[List.mem_singleton]at he
        exact⟨_,_,he,hfk,hfv⟩
     obtain⟨ev,rl⟩:=Cr (clock':=clock+1) r (fT hmo) hmb hw hm'
     refine⟨_,?_,ev,rl⟩
     simp only[mapUpdate,Sem.run_bind,run_underlying hu,Result.andThen_ok,eF hw,hck,hj,Option.map_none,kM _ hw]
    ·cases hy
   ·cases hy
  ·cases hy
 ·cases hy
theorem sR(r:Rel m h w){cfg:Cfg}{t:TypeId}{a b c:V}{av bv cv:Value}{h':Heap}(ha:R m h w a av)(hb:R m h w b bv)(hc:R m h w c cv)(hy:cu P cfg h t a b c=some h'):
  ∃ w',(mapUpdate t av bv cv).run P w=.ok () w'∧Evo m h w m h' w'∧Rel m h' w':=by
 unfold cu at hy
 split at hy
 ·rename_i k e x k1 q e1 y hmk
  split at hy
  ·rename_i k2 e2 l hmo
   split at hy
   ·rename_i hcc
    simp only[Bool.and_eq_true,decide_eq_true_eq]at hcc
    obtain⟨⟨⟨⟨rfl,rfl⟩,rfl⟩,rfl⟩,_⟩:=hcc
    cases hy
    obtain⟨b',es,clock,hmb,rfl,hw,hm⟩:=R.mref_at r ha hmo
    cases hb;cases hc
    obtain⟨ta,tb,hu,hua,hub,hz⟩:=ni hmk
    have hlive:=gx hmo
    cases hf:fnd l q 0 with
    | none =>
     have hm':tD k e (kI l q y) (es.push { key:=.int k q,val:=.int e y,born:=clock }):=by
      rw[rG l 0 hf]
      unfold tD at hm ⊢
      simp[hm]
     obtain⟨ev,rl⟩:=map_set (clock':=clock+1) r hlive hmb hw hm'
     refine⟨_,?_,ev,rl⟩
     simp only[mapUpdate,Sem.run_bind,run_underlying hu,Result.andThen_ok,eF hw,im hua,iY hua hm,hf,Option.map_none,kM _ hw]
    | some p =>
     obtain⟨j,v⟩:=p
     obtain⟨h1,h2⟩:=rH (b:=0) (y:=y) es.toList l 0 j v hm (by rw[hf,Nat.zero_add])
     have hm':tD k e (kI l q y) (es.modify j fun x=>{ x with key:=.int k q,val:=.int e y }):=by
      unfold tD
      rw[← h1]
      simp
     obtain⟨ev,rl⟩:=map_set (clock':=clock) r hlive hmb hw hm'
     refine⟨_,?_,ev,rl⟩
     have hk:((es[j]?).map (·.key)).getD (.int k q)=.int k q:=by
      rw[Array.getElem?_toList]at h2
      rw[h2];rfl
     have hbits:sameBits 10000 (.int k q) (.int k q)=true:=by simp[sameBits]
     simp only[mapUpdate,Sem.run_bind,run_underlying hu,Result.andThen_ok,eF hw,im hua,iY hua hm,hf,Option.map_some,hk,keyThatStays,hbits,if_true,Sem.run_pure,kM _ hw]
   ·cases hy
  ·cases hy
 ·exact qJ r ha hb hc hy
 ·cases hy
end
end Go.Ab
