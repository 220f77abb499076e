/- Several texts of this proof in one. -/
import Derived.Test.YtoappddifbgegaaGreatAbOp
import Derived.Scope
import Derived.RangeFuncLeaves
import Derived.RangeFuncRecord
set_option linter.all false
namespace Go.Ab
section
variable {P:Program}{m:Mu}{h:Heap}{w:World}
theorem R.bel{x:V}{v:Value}(hr:R m h w x v):Bel h.length x:=by
 induction hr with
 | ptr h0 _=>exact .ptr h0
 | sl h0 _ _ _=>exact .sl h0
 | agg hl _ ih =>
  refine .agg fun c hc=>?_;obtain⟨i,hi,rfl⟩:=LV hc;exact ih i _ _ (K4 hi) (Lf (by omega))
 | tup hl _ ih =>
  refine .tup fun c hc=>?_;obtain⟨i,hi,rfl⟩:=LV hc;exact ih i _ _ (K4 hi) (Lf (by omega))
 | func hl _ h3 _ ih ih' =>
  refine .func (fun c hc=>?_) (fun c hc=>?_)
  ·obtain⟨i,hi,rfl⟩:=LV hc;exact ih i _ _ (K4 hi) (Lf (by omega))
  ·obtain⟨i,hi,rfl⟩:=LV hc;exact ih' i _ _ (K4 hi) (Lf (by omega))
 | iface _ ih=>exact .iface ih
 | mref h0 _=>exact .mref h0
 | _=>exact .rf rfl
theorem BR.bel{cs:List V}{b:Nat}(hb:BR m h w cs b){c:V}(hc:c∈cs):Bel h.length c:=by
 rcases hb with⟨arr,T,ha,hl,hr⟩|⟨k,e,l,es,clock,rfl,_,_⟩|⟨l,es,clock,rfl,_,_⟩
 ·obtain⟨i,hi,rfl⟩:=LV hc;obtain⟨v,_,hv⟩:=hr i _ (K4 hi);exact hv.bel
 ·rw[LN.1 hc];exact .rf rfl
 ·rw[LN.1 hc];exact .rf rfl
theorem aX{h:Heap}{n x:Nat}(hl:live (h.take n) x):x<n/\live h x:=by
 obtain⟨cs,hc⟩:=hl;rw[L7]at hc;split at hc
 ·rename_i hx;exact⟨hx,cs,hc⟩
 grind
theorem Imm.take{n b:Nat}(hi:Imm m h w b):Imm m (h.take n) w b:=⟨hi.1,hi.2.1,fun x hx=>hi.2.2 x (aX hx).2⟩
theorem R.take{n:Nat}(hn:n<=h.length){x:V}{v:Value}(hr:R m h w x v)(hb:Bel n x):R m (h.take n) w x v:=by
 have hlen:(h.take n).length=n:=by grind
 induction hr with
 | any v=>exact .any v
 | no=>exact .no
 | bool b=>exact .bool b
 | int k n=>exact .int k n
 | str s=>exact .str s
 | nilp=>exact .nilp
 | ptr h4 hv =>
  cases hb with
  | rf h=>grind[V.rf]
  | ptr h0=>exact .ptr (by omega) fun hl=>hv (aX hl).2
 | lptr rv hi hc hf _ ih=>exact .lptr rv hi.take hc hf fun i c h6=>ih i c h6 (.rf (hf i c h6))
 | nils=>exact .nils
 | sl h4 h3 hlen hv =>
  cases hb with
  | rf h=>grind[V.rf]
  | sl h0=>exact .sl (by omega) h3 hlen fun hl=>hv (aX hl).2
 | lst0 a rc ha=>exact .lst0 a rc ha
 | lst rv hi h7 hk hc hf _ ih=>exact .lst rv hi.take h7 hk hc hf fun i e j c he hj=>ih i e j c he hj (.rf (hf i e j c he hj))
 | agg hl _ ih =>
  cases hb with
  | rf h=>grind[V.rf]
  | agg h=>exact .agg hl fun i c v hc hv=>ih i c v hc hv (h c (K6 hc))
 | tup hl _ ih =>
  cases hb with
  | rf h=>grind[V.rf]
  | tup h=>exact .tup hl fun i c v hc hv=>ih i c v hc hv (h c (K6 hc))
 | func hl _ h8 _ ih ih' =>
  cases hb with
  | rf h=>grind[V.rf]
  | func h h'=>exact .func hl (fun i c v hc hv=>ih i c v hc hv (h c (K6 hc))) h8 (fun i c v hc hv=>ih' i c v hc hv (h' c (K6 hc)))
 | nilf=>exact .nilf
 | nili=>exact .nili
 | nilm=>exact .nilm
 | iface _ ih =>
  cases hb with
  | rf h=>grind[V.rf]
  | iface h=>exact .iface (ih h)
 | mref h4 hv =>
  cases hb with
  | rf h=>grind[V.rf]
  | mref h0=>exact .mref (by omega) fun hl=>hv (aX hl).2
theorem mapM_some{f:V->Option V}:∀ {xs ys:List V},xs.mapM f=some ys->xs.length=ys.length/\∀ (i:Nat) (y:V),ys[i]?=some y->∃ x,xs[i]?=some x/\f x=some y
 | [],ys,hx=>by simp_all
 | x::xs,ys,hx=>by
  simp only[Mn,Nt,NA,NV]at hx;obtain⟨y,h1,ys',h2,h3⟩:=hx;cases h3;obtain⟨hl,ih⟩:=mapM_some h2
  grind
theorem iC(k:Nat):∀ (n:Nat) (cs:List V),(chunk k n cs).length=n
 | 0,_=>rfl
 | n+1,cs=>by simp[chunk,iC k n]
theorem gO(k:Nat):∀ (n:Nat) (cs:List V) (i:Nat) (e:List V),n*k<=cs.length->(chunk k n cs)[i]?=some e->e.length=k/\i<n/\∀ (j:Nat) (c:V),e[j]?=some c->cs[i*k+j]?=some c
 | 0,cs,i,e,_,he=>by grind[chunk]
 | n+1,cs,i,e,hl,he=>by
  have hm:(n+1)*k=n*k+k:=by grind
  cases i with
  | zero =>
   grind[chunk]
  | succ i =>
   simp only[chunk,LG]at he;obtain⟨h1,h2,h3⟩:=gO k n (cs.drop k) i e (by grind) he
   grind
theorem np(r:Rel m h w){n:Nat}(hn:n<=h.length):∀ (d:Nat) {x y:V}{v:Value},R m h w x v->frz h n d x=some y->R m (h.take n) w y v
 | 0,x,y,v,_,hf=>by grind[frz]
 | d+1,x,y,v,hr,hf=>by
  have hlen:(h.take n).length=n:=by grind
  simp only[frz]at hf;split at hf
  ·rename_i b off len cap k;split at hf
   ·rename_i hb;cases hf;exact hr.take hn (.sl hb)
   ·rename_i hb;split at hf
    ·rename_i cs hh;split at hf
     ·rename_i hle;split at hf
      ·rename_i cs' h8;split at hf
       ·rename_i hM;cases hf;obtain⟨b',rc,arr,T,ht,rfl,hE,hF,hN,ha,hO,hH⟩:=hr.sl_at r hh;obtain⟨hy,h9⟩:=mapM_some h8;have hA:cs'.length=len*k:=by grind
        have hD:∀ (q:Nat) (c:V),cs'[q]?=some c->∃ u,w.cell? ⟨b',off+q,none⟩=some u/\R m (h.take n) w c u:=by
         intro q c hq;obtain⟨c0,hd,hg⟩:=h9 q c hq;obtain⟨u,hu,hI⟩:=(hH.drop_take off (len*k)) q c0 hd;rw[LU]at hu;exact⟨u,hu,np r hn d hI hg⟩
        by_cases h0:len=0
        ·subst h0;exact .lst0 _ _ (fun h=>by cases h)
        ·have hv:Imm m (h.take n) w b':=by
          refine⟨r.lt b b' ⟨cs,aA hh⟩ ht,r.zo b b' ⟨cs,aA hh⟩ ht,fun z hz hJ=>?_⟩;obtain⟨hP,hK⟩:=aX hz;have:=r.inj z b b' hK ⟨cs,aA hh⟩ hJ ht;omega
         have hL:(chunk k len cs').length=len:=iC _ _ _;let rv:Nat->Nat->Value:=fun i j=>((w.cell? ⟨b',off+(i*k+j),none⟩).getD undef)
         have hw:∀ (i:Nat) (e:List V) (j:Nat) (c:V),(chunk k len cs')[i]?=some e->e[j]?=some c->w.cell? ⟨b',off+i*k+j,none⟩=some (rv i j)/\R m (h.take n) w c (rv i j)/\c.rf=true:=by
          intro i e j c he hj;obtain⟨_,_,h3⟩:=gO k len cs' i e (by omega) he
          grind
         have:=R.lst (m:=m) (h:=h.take n) (w:=w) (xs:=chunk k len cs') (b:=b') (o:=off) (k:=k) (rc:=rc) rv hv (by omega)
          (fun i e he=>(gO k len cs' i e (by omega) he).1) (fun i e j c he hj=>(hw i e j c he hj).1) (fun i e j c he hj=>(hw i e j c he hj).2.2) (fun i e j c he hj=>(hw i e j c he hj).2.1)
         simp_all
       grind
      grind
     grind
    grind
  ·rename_i b off;split at hf
   ·rename_i hb;cases hf;exact hr.take hn (.ptr hb)
   grind
  ·rename_i b;split at hf
   ·rename_i hb;cases hf;exact hr.take hn (.mref hb)
   grind
  ·cases hf;cases hr;exact .lst0 _ _ (fun _=>rfl)
  ·rename_i cs;split at hf
   ·rename_i cs' h8;cases hf;obtain⟨hy,h9⟩:=mapM_some h8;cases hr with
    | agg hl hr =>
     refine .agg (by omega) fun i c u hc hu=>?_;obtain⟨c0,hd,hg⟩:=h9 i c hc;exact np r hn d (hr i c0 u hd hu) hg
   grind
  ·rename_i cs;split at hf
   ·rename_i cs' h8;cases hf;obtain⟨hy,h9⟩:=mapM_some h8;cases hr with
    | tup hl hr =>
     refine .tup (by omega) fun i c u hc hu=>?_;obtain⟨c0,hd,hg⟩:=h9 i c hc;exact np r hn d (hr i c0 u hd hu) hg
   grind
  ·cases hf;exact hr.take hn (.func (by simp) (by simp))
  ·cases hf
  ·cases hf
  ·rename_i h1 h2 hm hQ h3 h4 h5 h6 h7;cases hf;refine hr.take hn (.rf ?_);cases x<;>first|rfl|(exact absurd rfl (h1 _ _ _ _ _))|(exact absurd rfl (h2 _ _))|(exact absurd rfl (hm _))|(exact absurd rfl (h3 _))|simp_all|simp_all|simp_all
def bA(P:Program)(call:aF):Prop:=∀ cfg f args h r h',call cfg f args h=some (r,h')->HS cfg h h'/\(∃ fn,P.funcs[f]?=some fn/\fn.body.isNone=false) /\
 ∀ m w vs,Rel m h w->PW m h w args vs->Calls P f vs w fun e w'=>∃ v,e=.returned v/\Out m h w r h' v w'
theorem Inv.of_rel(r:Rel m h w):Inv (fun x=>∃ b,m x=some b) h h.length:=by
 rintro x cs hx ⟨b,hb⟩ hc c h0;rcases r.blk x cs b hc hb with⟨arr,T,ha,hl,hr⟩|⟨k,e,l,es,clock,rfl,_,_⟩|⟨l,es,clock,rfl,_,_⟩
 ·obtain⟨i,hi,rfl⟩:=LV h0;obtain⟨v,_,hv⟩:=hr i _ (K4 hi);exact hv.bel
 ·rw[LN.1 h0];exact .rf rfl
 ·rw[LN.1 h0];exact .rf rfl
theorem Out.cut{x y:V}{h':Heap}{v:Value}{w':World}{cfg:Cfg}(r:Rel m h w)(hs:HS cfg h h')(h3:h.length<=cfg.thr)(ho:Out m h w x h' v w')(hf:frz h' h.length 6 x=some y):
  Out m h w y (h'.take h.length) v w':=by
 obtain⟨m',e,r',hr⟩:=ho;have hlen:(h'.take h.length).length=h.length:=by have:=hs.len;grind
 have hinv:=hs.inv _ _ h3 (La _) (Inv.of_rel r);refine⟨m',⟨e.zeq,by omega,fun x hx hl=>e.keep x hx (aX hl).2,fun x b hl hb=>e.own x b (aX hl).2 hb,e.frame,e.size,e.rs,e.os,e.tape,e.output⟩,
  ⟨fun x b hl hb=>r'.zo x b (aX hl).2 hb,r'.zl,fun x y b hx hy=>r'.inj x y b (aX hx).2 (aX hy).2,fun x cs b hx hb=>?_⟩,np r' hs.len 6 hr hf⟩
 have h0:x<h.length/\h'[x]?=some (some cs):=by
  grind
 have hk:=e.keep x h0.1 ⟨cs,h0.2⟩;exact (r'.blk x cs b h0.2 hb).carry rfl fun c u h4 h6=>h6.take hs.len (hinv x cs h0.1 ⟨b,hk.2 ▸ hb⟩ h0.2 c h4)
theorem HS.cut{cfg cfg':Cfg}{h':Heap}(hs:HS cfg' h h')(h0:h.length<=cfg'.thr)(hw:∀ b,b<h.length->cfg.wr b=false->cfg'.wr b=false):HS cfg h (h'.take h.length):=by
 refine⟨by have:=hs.len;grind,fun b hb h3=>?_,fun D t _ h2 hi b cs hb hD hc c h4=>?_⟩
 ·rw[L7,if_pos hb];exact hs.prot b hb (hw b hb h3)
 ·rw[L7,if_pos (by omega)]at hc;exact hs.inv D t (by omega) h2 hi b cs hb hD hc c h4
theorem R.conv{m':Mu}{h':Heap}(hi:∀ b,Imm m h w b->Imm m' h' w b){x:V}{v:Value}(hr:R m h w x v)(hb:Bel 0 x):R m' h' w x v:=by
 induction hr with
 | any v=>exact .any v
 | no=>exact .no
 | bool b=>exact .bool b
 | int k n=>exact .int k n
 | str s=>exact .str s
 | nilp=>exact .nilp
 | ptr h3 hv =>
  cases hb with
  | rf h=>grind[V.rf]
  | ptr h0=>omega
 | lptr rv hm hc hf _ ih=>exact .lptr rv (hi _ hm) hc hf fun i c h4=>ih i c h4 (.rf (hf i c h4))
 | nils=>exact .nils
 | sl h3 h6 hlen hv =>
  cases hb with
  | rf h=>grind[V.rf]
  | sl h0=>omega
 | lst0 a rc ha=>exact .lst0 a rc ha
 | lst rv hm h7 hk hc hf _ ih=>exact .lst rv (hi _ hm) h7 hk hc hf fun i e j c he hj=>ih i e j c he hj (.rf (hf i e j c he hj))
 | agg hl _ ih =>
  cases hb with
  | rf h=>grind[V.rf]
  | agg h=>exact .agg hl fun i c v hc hv=>ih i c v hc hv (h c (K6 hc))
 | tup hl _ ih =>
  cases hb with
  | rf h=>grind[V.rf]
  | tup h=>exact .tup hl fun i c v hc hv=>ih i c v hc hv (h c (K6 hc))
 | func hl _ h8 _ ih ih' =>
  cases hb with
  | rf h=>grind[V.rf]
  | func h h'=>exact .func hl (fun i c v hc hv=>ih i c v hc hv (h c (K6 hc))) h8 (fun i c v hc hv=>ih' i c v hc hv (h' c (K6 hc)))
 | nilf=>exact .nilf
 | nili=>exact .nili
 | nilm=>exact .nilm
 | iface _ ih =>
  cases hb with
  | rf h=>grind[V.rf]
  | iface h=>exact .iface (ih h)
 | mref h3 hv =>
  cases hb with
  | rf h=>grind[V.rf]
  | mref h0=>omega
theorem R.unnil{x:V}{v:Value}(hr:R m h w x v):R m h w (unnil x) v:=by
 cases hr<;>first|exact .lst0 _ _ (fun _=>rfl)|exact .lst0 _ _ ‹_›|(simp only[Ab.unnil];constructor<;>assumption)
theorem AV{x:V}(hx:x.noref=true):Bel 0 x:=by
 have key:∀ cs:List V,cs.all V.rf=true->∀ c∈cs,Bel 0 c:=fun cs h c hc=>.rf (Lk.1 h c hc);cases x<;>first
  | (simp[V.noref,V.rf]at hx;done)
  | exact .rf rfl
  | exact .agg (key _ hx)
  | exact .tup (key _ hx)
  | (simp only[V.noref,Ld]at hx;exact .func (key _ hx.1) (key _ hx.2))
theorem th(r:Rel m h w):Rel m [] w:=
 ⟨fun _ _ h _=>by obtain⟨cs,hc⟩:=h;grind,r.zl,fun _ _ _ h=>by obtain⟨cs,hc⟩:=h;grind,fun _ _ _ h=>by simp at h⟩
theorem mv{x:Nat}(hl:live [] x):False:=by obtain⟨cs,hc⟩:=hl;grind
theorem iJ{m0 m':Mu}{h':Heap}{w':World}(r:Rel m h w)(e:Evo m0 [] w m' h' w'):Evo m h w m h w'/\Rel m h w':=by
 have h0:∀ b,b<w.heap.size->w'.heap[b]?=w.heap[b]?:=fun b hb=>e.frame b hb fun x hl=>(mv hl).elim;have ev:Evo m h w m h w':=⟨rfl,La _,fun x _ hl=>⟨hl,rfl⟩,fun x b hl hb=>.inl ⟨x,hl,hb⟩,fun b hb _=>h0 b hb,e.size,e.rs,e.os,e.tape,e.output⟩;refine⟨ev,r.zo,fun b hz=>Lu (r.zl b hz) e.size,r.inj,fun x cs b hc hb=>?_⟩;exact (r.blk x cs b hc hb).carry (h0 b (r.lt x b ⟨cs,hc⟩ hb)) fun c v _ h3=>h3.evo ev r.lt
theorem pe{m':Mu}{h':Heap}{w':World}(r:Rel m' h' w')(h8:∀ x b,live h' x->m' x=some b->Imm m h w' b):
  ∀ (d:Nat) {x y:V} {v:Value},R m' h' w' x v->own h' d x=true->frz h' 0 d x=some y->R m h w' y v
 | 0,x,y,v,_,ho,hf=>by grind[frz]
 | d+1,x,y,v,hr,ho,hf=>by
  simp only[frz]at hf;split at hf
  ·rename_i b off len cap k;split at hf
   ·omega
   ·split at hf
    ·rename_i cs hn;simp only[own,hn]at ho;split at hf
     ·rename_i hle;split at hf
      ·rename_i cs' h9;split at hf
       ·rename_i hJ;cases hf;obtain⟨b',rc,arr,T,hA,rfl,hD,hE,hK,ha,hL,hF⟩:=hr.sl_at r hn;obtain⟨hw,hg⟩:=mapM_some h9;have hy:cs'.length=len*k:=by grind
        have hz:∀ (q:Nat) (c:V),cs'[q]?=some c->∃ u,w'.cell? ⟨b',off+q,none⟩=some u/\R m h w' c u:=by
         intro q c hq;obtain⟨c0,hd,hh⟩:=hg q c hq;obtain⟨u,hu,hH⟩:=(hF.drop_take off (len*k)) q c0 hd;rw[LU]at hu;exact⟨u,hu,pe r h8 d hH (Lk.1 ho c0 (K6 hd)) hh⟩
        by_cases h0:len=0
        ·subst h0;exact .lst0 _ _ (fun h=>by cases h)
        ·have ht:Imm m h w' b':=h8 b b' ⟨cs,aA hn⟩ hA;have hI:(chunk k len cs').length=len:=iC _ _ _;let rv:Nat->Nat->Value:=fun i j=>((w'.cell? ⟨b',off+(i*k+j),none⟩).getD undef)
         have hv:∀ (i:Nat) (e:List V) (j:Nat) (c:V),(chunk k len cs')[i]?=some e->e[j]?=some c->w'.cell? ⟨b',off+i*k+j,none⟩=some (rv i j)/\R m h w' c (rv i j)/\c.rf=true:=by
          intro i e j c he hj;obtain⟨_,_,h3⟩:=gO k len cs' i e (by omega) he
          grind
         have:=R.lst (m:=m) (h:=h) (w:=w') (xs:=chunk k len cs') (b:=b') (o:=off) (k:=k) (rc:=rc) rv ht (by omega)
          (fun i e he=>(gO k len cs' i e (by omega) he).1) (fun i e j c he hj=>(hv i e j c he hj).1) (fun i e j c he hj=>(hv i e j c he hj).2.2) (fun i e j c he hj=>(hv i e j c he hj).2.1)
         simp_all
       grind
      grind
     grind
    grind
  ·simp_all
  ·simp_all
  ·cases hf;cases hr;exact .lst0 _ _ (fun _=>rfl)
  ·rename_i cs;simp only[own]at ho;split at hf
   ·rename_i cs' h9;cases hf;obtain⟨hw,hg⟩:=mapM_some h9;cases hr with
    | agg hl hr =>
     refine .agg (by omega) fun i c u hc hu=>?_;obtain⟨c0,hd,hh⟩:=hg i c hc;exact pe r h8 d (hr i c0 u hd hu) (Lk.1 ho c0 (K6 hd)) hh
   grind
  ·rename_i cs;simp only[own]at ho;split at hf
   ·rename_i cs' h9;cases hf;obtain⟨hw,hg⟩:=mapM_some h9;cases hr with
    | tup hl hr =>
     refine .tup (by omega) fun i c u hc hu=>?_;obtain⟨c0,hd,hh⟩:=hg i c hc;exact pe r h8 d (hr i c0 u hd hu) (Lk.1 ho c0 (K6 hd)) hh
   grind
  ·grind[own]
  ·simp_all
  ·simp_all
  ·rename_i h1 h2 hm hM h3 h4 h5 h6 h7;cases hf;cases hr with
   | any _=>grind[own]
   | no=>exact .no
   | bool _=>exact .bool _
   | int _ _=>exact .int _ _
   | str _=>exact .str _
   | nilp=>exact .nilp
   | ptr _ _=>simp_all
   | lptr _ _ _ _ _=>grind[own]
   | nils=>simp_all
   | sl _ _ _ _=>grind
   | lst0 a rc ha=>exact .lst0 a rc ha
   | lst rv hi hN hk hc hf hr =>
    rename_i xs _ _ _ _;cases xs with
    | nil=>exact .lst0 _ _ (fun h=>by cases h)
    | cons _ _=>grind[own]
   | agg _ _=>simp_all
   | tup _ _=>simp_all
   | func _ _ _ _=>simp_all
   | nilf=>exact .nilf
   | nili=>exact .nili
   | nilm=>exact .nilm
   | iface _=>simp_all
   | mref _ _=>simp_all
theorem gN{md:FuncId->Nat}{call:aF}(h4:bA P call){cfg:Cfg}{f:FuncId}{args:List V}{h:Heap}{x:V}{h':Heap}(hx:af md call cfg f args h=some (x,h')):
  HS cfg h h'/\(∃ fn,P.funcs[f]?=some fn/\fn.body.isNone=false)/\∀ m w vs,Rel m h w->PW m h w args vs->Calls P f vs w fun e w'=>∃ v,e=.returned v/\Out m h w x h' v w':=by
 unfold af at hx;split at hx
 ·split at hx
  ·rename_i h9;split at hx
   ·rename_i r h2 hc;split at hx
    ·rename_i r' hf;simp only[K7,Lj]at hx;obtain⟨rfl,rfl⟩:=hx;obtain⟨hs,h6,h0⟩:=h4 _ _ _ _ _ _ hc;refine⟨.refl _ _,h6,fun m w vs hr hp=>?_⟩;let m0:Mu:=⟨fun _=>none,fun b=>b<w.heap.size/\(m.z b\/∃ x,live h x/\m x=some b)⟩
     have r0:Rel m0 [] w:=⟨fun _ _ h _=>(mv h).elim,fun b hb=>hb.1,fun _ _ _ h=>(mv h).elim,fun _ _ _ h=>by simp⟩;have hm:∀ b,Imm m h w b->Imm m0 [] w b:=by
      rintro b ⟨h1,h2,h3⟩;refine⟨h1,?_,fun x hl=>(mv hl).elim⟩
      grind
     have ha:PW m0 [] w args vs:=⟨hp.1,fun i c v hc hv=>(hp.2 i c v hc hv).conv hm (AV (Lk.1 h9 c (K6 hc)))⟩;refine (h0 m0 w vs r0 ha).mono ?_;rintro e w' ⟨v,he,m',ev,r',hd⟩;obtain⟨ev',rl'⟩:=iJ hr ev;have hg:=np r' (LA _) 6 hd hf;rw[NG]at hg;refine⟨v,he,m,ev',rl',hg.conv (fun b hb=>?_) hg.bel⟩;obtain⟨h1,h2,_⟩:=hb;rw[ev.zeq]at h2;refine⟨h1,fun hz=>h2 ⟨hr.zl b hz,.inl hz⟩,fun x hl hj=>h2 ⟨hr.lt x b hl hj,.inr ⟨x,hl,hj⟩⟩⟩
    grind
   grind
  ·split at hx
   ·rename_i r h2 hc;split at hx
    ·rename_i r' hf;simp only[K7,Lj]at hx;obtain⟨rfl,rfl⟩:=hx;obtain⟨hs,h6,h0⟩:=h4 _ _ _ _ _ _ hc;refine⟨hs.cut (La _) fun b hb _=>?_,h6,fun m w vs hr hp=>(h0 m w vs hr hp).mono ?_⟩
     ·grind[Cfg.wr]
     ·rintro e w' ⟨v,he,ho⟩;exact⟨v,he,ho.cut hr hs (La _) hf⟩
    grind
   grind
 ·split at hx
  ·rename_i r h2 hc;split at hx
   ·rename_i r' hf;simp only[K7,Lj]at hx;obtain⟨rfl,rfl⟩:=hx;obtain⟨hs,h6,h0⟩:=h4 _ _ _ _ _ _ hc;refine⟨hs.cut (La _) fun b _ hw=>hw,h6,fun m w vs hr hp=>(h0 m w vs hr hp).mono ?_⟩;rintro e w' ⟨v,he,ho⟩;exact⟨v,he,ho.cut hr hs (La _) hf⟩
   grind
  grind
 ·split at hx
  ·rename_i r h2 hc;split at hx
   ·rename_i r' hf;simp only[K7,Lj]at hx;obtain⟨rfl,rfl⟩:=hx;obtain⟨hs,h6,h0⟩:=h4 _ _ _ _ _ _ hc;refine⟨hs.cut (La _) fun b _ hw=>hw,h6,fun m w vs hr hp=>(h0 m w vs hr hp).mono ?_⟩;rintro e w' ⟨v,he,ho⟩;exact⟨v,he,ho.cut hr hs (La _) hf⟩
   grind
  grind
 ·split at hx
  ·cases hx
  ·rename_i args' h7;split at hx
   ·rename_i r h2 hc;split at hx
    ·rename_i hh;split at hx
     ·rename_i r' hf;simp only[K7,Lj]at hx;obtain⟨rfl,rfl⟩:=hx;obtain⟨hs,h6,h0⟩:=h4 _ _ _ _ _ _ hc;refine⟨.refl _ _,h6,fun m w vs hr hp=>?_⟩;obtain⟨hn,hq⟩:=mapM_some h7;have ha:PW m [] w args' vs:=by
       refine⟨by rw[<- hn];exact hp.1,fun i c v hc hv=>?_⟩;obtain⟨c0,ht,h8⟩:=hq i c hc;simp only[frzA,Lx]at h8;obtain⟨c1,h8,rfl⟩:=h8;have:=np hr (LA _) 6 (hp.2 i c0 v ht hv) h8;rw[NG]at this;exact this.unnil
      refine (h0 m w vs (th hr) ha).mono ?_;rintro e w' ⟨v,he,m',ev,r',hd⟩;obtain⟨ev',rl'⟩:=iJ hr ev;refine⟨v,he,m,ev',rl',pe r' (fun x b hl hb=>?_) 6 hd hh hf⟩;have hu:w.heap.size<=b:=by
       rcases ev.own x b hl hb with⟨y,hy,_⟩|hu<;>grind[mv]
      refine⟨r'.lt x b hl hb,fun hz=>?_,fun y hy hA=>?_⟩
      ·have:=hr.zl b hz;omega
      ·have:=hr.lt y b hy hA;omega
     grind
    grind
   grind
 ·exact h4 _ _ _ _ _ _ hx
end
end Go.Ab
namespace Go.Ab
variable [Base]
def ck (P : Program) : Prop := ∀ (g : Nat) (fn : Func), P.funcs[g]? = some fn → (fn.name == "runtime.NumGoroutine") = false
section
variable {P:Program}{m:Mu}{h:Heap}{w:World}
theorem dH{ops:Array Oper}{fr:List V}{a:Act}{o:Oper}{b:Bool}(f:FR m h w fr a)(hw:cy ops fr o=some b):Region.wanted o (yielded ops a.tmps)=b:=by
 unfold cy at hw;split at hw
 ·rename_i hg;cases hw;simp[Region.wanted,hg]
 ·rename_i j want hg;split at hw
  ·rename_i p hp;split at hw
   ·rename_i d hd;split at hw
    ·rename_i b' hb;cases hw;have h0:d<a.tmps.size:=by rw[<- f.len];exact (K5.1 hb).1
     have hr:=f.slot d _ _ hb (Lf h0);generalize hv:a.tmps[d]=v at hr;cases hr;have:a.tmps[d]?=some (.bool b'):=by rw[Lf h0,hv]
     simp[Region.wanted,hg,yielded,hp,hd,this]
    ·rename_i hb;cases hw;have h0:d<a.tmps.size:=by rw[<- f.len];exact (K5.1 hb).1
     have hr:=f.slot d _ _ hb (Lf h0);generalize hv:a.tmps[d]=v at hr;cases hr;have:a.tmps[d]?=some undef:=by rw[Lf h0,hv]
     simp[Region.wanted,hg,yielded,hp,hd,this,undef]
    ·cases hw
   ·cases hw
  ·cases hw
theorem sg{xs ys:List V}{us vs:Array Value}(h1:PW m h w xs us)(h2:PW m h w ys vs):PW m h w (xs++ys) (us++vs):=by
 have:=PW.append (xs:=us.toList) (ys:=vs.toList) (by omega) (by omega);have e:(us.toList++vs.toList).toArray=us++vs:=by simp
 simp_all
theorem Jv{cfg:Cfg}{fr:List V}{h h':Heap}{op:Op}{x:V}(hx:opV P cfg fr h op=some (x,h')):HS cfg h h':=by
 unfold opV at hx
 repeat' split at hx
 all_goals first
  | (cases hx;done)
  | (obtain⟨_,rfl⟩:=ay hx;exact .refl _ _)
  | (cases hx;exact .push _ _ _)
  | exact .buildSlice hx
  | exact .makeSlice hx
  | exact .conv hx
  | exact .append hx
  | exact .makeMap hx
  | (simp only[K7,Lj]at hx;obtain⟨_,rfl⟩:=hx;first|exact .refl _ _|exact .store ‹_›|exact .clear ‹_›|exact .mapUpdate ‹_›)
theorem eG(hN:ck P){md:FuncId->Nat}{call:aF}(h4:bA P call){cfg:Cfg}{fr:List V}{h h':Heap}{o:Oper}{x:V}(hx:aB P md call cfg fr h o.op=some (x,h')):
  (∀ m w a,Rel m h w->FR m h w fr a->∀ (K:Act->World->Prop) (Q:Exit->Act->World->Prop),(∀ v w',Out m h w x h' v w'->K (a.put o.dst v) w')->o.wp P a w K Q)/\HS cfg h h':=by
 unfold aB at hx;split at hx
 ·rename_i f args tys h9;split at hx
  ·rename_i g first captured vs hf ha
   obtain⟨hs,⟨fn,h7,h6⟩,h0⟩:=gN h4 hx;refine⟨fun m w a r fR K Q hK=>?_,hs⟩;have h8:=cq fR hf;obtain⟨hl,hr⟩:=fH fR ha;generalize hd:a.eval f=fe at h8;cases h8 with
   | func he hg hh hj =>
    rename_i fs cs;have hm:PW m h w ((first++vs)++captured) ((fs++args.map a.eval)++cs):=
     sg (sg ⟨he,hg⟩ ⟨by simp_all,fun i c v hc hv=>hr i c v hc (by simp_all)⟩) ⟨hh,hj⟩
    have h3:(execOp a.eval o).run P w=.ok (.enter g ((fs++args.map a.eval)++cs)) w:=by
     simp only[execOp,h9,Sem.run_bind,resolve,hd,Deferred.ofValue,Sem.run_pure,Result.andThen_ok,invoke,callFunc,run_program,h7,hN g fn h7,h6,Lv,if_false]
    unfold Oper.wp;rw[h3];refine (h0 m w _ r hm).mono ?_;simp_all
  grind
 ·refine⟨fun m w a r fR K Q hK=>?_,Jv hx⟩;obtain⟨⟨nx,v,w',h3,hn,ho⟩,_⟩:=Jw r fR rfl hx;unfold Oper.wp;rw[h3];rcases hn with rfl|⟨rfl,rfl⟩
  ·exact hK v w' ho
  ·exact hK undef w' ho
def After(m:Mu)(h:Heap)(w:World)(fr':List V)(h':Heap)(a':Act)(w':World):Prop:=∃ m',Evo m h w m' h' w'/\Rel m' h' w'/\FR m' h' w' fr' a'
theorem After.trans{fr2:List V}{h1 h2:Heap}{a2:Act}{w1 w2:World}{m1:Mu}(e:Evo m h w m1 h1 w1)(k:After m1 h1 w1 fr2 h2 a2 w2):After m h w fr2 h2 a2 w2:=
 let ⟨m',e',r',f'⟩:=k
 ⟨m',e.trans e',r',f'⟩
theorem iu(hN:ck P){md:FuncId->Nat}{call:aF}(h0:bA P call){cfg:Cfg}{ops:Array Oper}{fr fr':List V}{h h':Heap}{o:Oper}(hx:cZ P md call cfg ops o fr h=some (fr',h')):
  HS cfg h h'/\∀ m w a,Rel m h w->FR m h w fr a->∀ (K:Act->World->Prop) (Q:Exit->Act->World->Prop),(∀ a' w',After m h w fr' h' a' w'->K a' w') ->
   if Region.wanted o (yielded ops a.tmps) then o.wp P a w K Q\/(o.asks P a w/\LetsOut Q) else K (a.put o.dst undef) w:=by
 unfold cZ at hx;split at hx
 ·rename_i hw;split at hx
  ·rename_i v h2 hv;simp only[K7,Lj]at hx;obtain⟨rfl,rfl⟩:=hx;obtain⟨h3,hs⟩:=eG hN h0 hv;refine⟨hs,fun m w a r fR K Q hK=>?_⟩;rw[dH fR hw];simp only[if_true];refine .inl (h3 m w a r fR K Q fun u w' ⟨m',e,r',hr⟩=>hK _ _ ⟨m',e,r',(fR.evo r e).put hr o.dst⟩)
  ·cases hx
 ·rename_i hw;simp only[K7,Lj]at hx;obtain⟨rfl,rfl⟩:=hx;refine⟨.refl _ _,fun m w a r fR K Q hK=>?_⟩;rw[dH fR hw];simp only[Lv,if_false];exact hK _ _ ⟨m,.refl _ _ _,r,fR.put .no o.dst⟩
 ·cases hx
theorem nJ(hN:ck P){md:FuncId->Nat}{call:aF}(h0:bA P call){cfg:Cfg}{ops:Array Oper}:∀ (l:List Oper) {fr fr':List V}{h h':Heap},cm P md call cfg ops l fr h=some (fr',h') ->
  HS cfg h h'/\∀ m w a,Rel m h w->FR m h w fr a->∀ (Q:Exit->Act->World->Prop),(∀ a' w',After m h w fr' h' a' w'->Q .normal a' w')->wpList P ops Q l a w
 | [],fr,fr',h,h',hx=>by
  simp only[cm,K7,Lj]at hx;obtain⟨rfl,rfl⟩:=hx;exact⟨.refl _ _,fun m w a r fR Q hQ=>hQ a w ⟨m,.refl _ _ _,r,fR⟩⟩
 | o::l,fr,fr',h,h',hx=>by
  simp only[cm]at hx;split at hx
  ·rename_i fr1 h1 h2;obtain⟨h6,h3⟩:=iu hN h0 h2;obtain⟨h7,h4⟩:=nJ hN h0 l hx;refine⟨h6.trans h7,fun m w a r fR Q hQ=>?_⟩;simp only[wpList];exact h3 m w a r fR _ Q fun a' w' ⟨m',e,r',f'⟩=>h4 m' w' a' r' f' Q fun a2 w2 k=>hQ a2 w2 (k.trans e)
  grind
def jw:Ex->Exit
 | .normal=>.normal
 | .exit id=>.exit id
 | .ret=>.ret
def tv(P:Program)(draw:jq):Prop:=∀ cfg ops fr h fr' h',draw cfg ops fr h=some (fr',h')->HS cfg h h' /\
 ∀ m w a id,Rel m h w->FR m h w fr a->∀ (Q:Exit->Act->World->Prop),(∀ a' w',After m h w fr' h' a' w'->Q .normal a' w')->(Code.region id ops true).wp P Q a w
def pC(P:Program)(cfg:Cfg)(c:Code)(fr:List V)(h:Heap)(s:St):Prop:=HS cfg h s.2.2 /\
 ∀ m w a,Rel m h w->FR m h w fr a->∀ (Q:Exit->Act->World->Prop),(∀ a' w',After m h w s.2.1 s.2.2 a' w'->Q (jw s.1) a' w')->c.wp P Q a w
theorem zM{cfg:Cfg}{c:Code}{body:List V->Heap->Option St}(hb:∀ fr h s,body fr h=some s->pC P cfg c fr h s):∀ (n:Nat) (fr:List V) (h:Heap) (s:St),iter body n fr h=some s ->
  HS cfg h s.2.2/\s.1≠.normal/\∀ m w a,Rel m h w->FR m h w fr a->∀ (Q:Exit->Act->World->Prop),(∀ a' w',After m h w s.2.1 s.2.2 a' w'->Q (jw s.1) a' w')->Code.rounds P c Q n a w
 | 0,fr,h,s,hi=>by grind[iter]
 | n+1,fr,h,s,hi=>by
  simp only[iter]at hi;split at hi
  ·rename_i fr1 h1 h4;obtain⟨h0,h3⟩:=hb _ _ _ h4;obtain⟨h6,hne,h7⟩:=zM hb n fr1 h1 s hi;refine⟨h0.trans h6,hne,fun m w a r fR Q hQ=>?_⟩;rw[rounds_succ];exact h3 m w a r fR _ fun a' w' ⟨m',e,r',f'⟩=>h7 m' w' a' r' f' Q fun a2 w2 k=>hQ a2 w2 (k.trans e)
  ·rename_i hne;obtain⟨h0,h3⟩:=hb _ _ _ hi;have hn:s.1≠.normal:=by
    intro e;obtain⟨e1,f1,h1⟩:=s;simp_all
   refine⟨h0,hn,fun m w a r fR Q hQ=>?_⟩;rw[rounds_succ];refine h3 m w a r fR _ fun a' w' k=>?_;have:=hQ a' w' k;revert this;cases hs:s.1 with
   | normal=>simp_all
   | exit id=>exact fun x=>x
   | ret=>exact fun x=>x
theorem zt(hN:ck P){md:FuncId->Nat}{call:aF}(h0:bA P call){draw:jq}(h3:tv P draw){cfg:Cfg}{n:Nat}:∀ (c:Code) (fr:List V) (h:Heap) (s:St),
  code P md call draw cfg n c fr h=some s->pC P cfg c fr h s:=by
 intro c
 induction c with
 | skip =>
  intro fr h s hx;simp only[code,K7]at hx;subst hx;exact⟨.refl _ _,fun m w a r fR Q hQ=>wp_skip (hQ a w ⟨m,.refl _ _ _,r,fR⟩)⟩
 | region id ops dr =>
  intro fr h s hx;cases dr with
  | false =>
   simp only[code]at hx;split at hx
   ·rename_i fr' h' hr;cases hx;obtain⟨hs,hw⟩:=nJ hN h0 _ hr;exact⟨hs,fun m w a r fR Q hQ=>wp_region_list (hw m w a r fR Q hQ)⟩
   grind
  | true =>
   simp only[code]at hx;split at hx
   ·rename_i fr' h' hr;cases hx;obtain⟨hs,hw⟩:=h3 _ _ _ _ _ _ hr;exact⟨hs,fun m w a r fR Q hQ=>hw m w a id r fR Q hQ⟩
   grind
 | seq x y ihx ihy =>
  intro fr h s hx;simp only[code]at hx;split at hx
  ·rename_i fr1 h1 h2;obtain⟨h6,h7⟩:=ihx _ _ _ h2;obtain⟨h8,h9⟩:=ihy _ _ _ hx;refine⟨h6.trans h8,fun m w a r fR Q hQ=>wp_seq (h7 m w a r fR _ fun a' w' ⟨m',e,r',f'⟩=>h9 m' w' a' r' f' Q fun a2 w2 k=>hQ a2 w2 (k.trans e))⟩
  ·rename_i hne;obtain⟨h6,h7⟩:=ihx _ _ _ hx;refine⟨h6,fun m w a r fR Q hQ=>wp_seq (h7 m w a r fR _ fun a' w' k=>?_)⟩;have:=hQ a' w' k;revert this;obtain⟨e1,f1,h1⟩:=s;cases e1 with
   | normal=>simp_all
   | exit id=>exact fun x=>x
   | ret=>exact fun x=>x
 | cond c x y ihx ihy =>
  intro fr h s hx;simp only[code]at hx;split at hx
  ·rename_i hc;obtain⟨hs,hw⟩:=ihx _ _ _ hx;refine⟨hs,fun m w a r fR Q hQ=>?_⟩;have h4:=cq fR hc;generalize ha:a.eval c=ce at h4;cases h4
   grind[wp_cond_true]
  ·rename_i hc;obtain⟨hs,hw⟩:=ihy _ _ _ hx;refine⟨hs,fun m w a r fR Q hQ=>?_⟩;have h4:=cq fR hc;generalize ha:a.eval c=ce at h4;cases h4
   grind[wp_cond_false]
  grind
 | block id b ih =>
  intro fr h s hx;simp only[code]at hx;split at hx
  ·rename_i i fr1 h1 h2;cases hx;obtain⟨hs,hw⟩:=ih _ _ _ h2;refine⟨hs,fun m w a r fR Q hQ=>wp_block (hw m w a r fR _ fun a' w' k=>?_)⟩;have:=hQ a' w' k;simp only[jw,Exit.inBlock];by_cases hi:i=id
   ·simp_all[if_pos,jw]
   simp_all[if_neg,jw]
  ·rename_i hne;obtain⟨hs,hw⟩:=ih _ _ _ hx;refine⟨hs,fun m w a r fR Q hQ=>wp_block (hw m w a r fR _ fun a' w' k=>?_)⟩;have:=hQ a' w' k;revert this;obtain⟨e1,f1,h1⟩:=s;cases e1 with
   | normal=>exact fun x=>x
   | exit id=>simp_all
   | ret=>exact fun x=>x
 | loop b ih =>
  intro fr h s hx;simp only[code]at hx;obtain⟨hs,_,hw⟩:=zM (c:=b) (fun fr h s hb=>ih fr h s hb) n fr h s hx;exact⟨hs,fun m w a r fR Q hQ=>wp_loop_rounds n (hw m w a r fR Q hQ)⟩
 | exit id =>
  intro fr h s hx;simp only[code,K7]at hx;subst hx;exact⟨.refl _ _,fun m w a r fR Q hQ=>wp_exit (hQ a w ⟨m,.refl _ _ _,r,fR⟩)⟩
 | ret =>
  intro fr h s hx;simp only[code,K7]at hx;subst hx;exact⟨.refl _ _,fun m w a r fR Q hQ=>wp_ret (hQ a w ⟨m,.refl _ _ _,r,fR⟩)⟩
 | rangeFunc=>grind[code]
 | scope=>grind[code]
 | label=>grind[code]
 | goto=>grind[code]
 | refuse=>grind[code]
def uk(tmps:Array Value):ResultVar->Sem Value
 | .tmp t=>pure (tmps.getD t undef)
 | .cell b t=>do loadVar t (<- asAddr (tmps.getD b undef))
theorem um(r:Rel m h w){fr:List V}{a:Act}(fR:FR m h w fr a):∀ (l:List ResultVar) (xs:List V),gH P fr h l=some xs ->
  ∃ vs:List Value,(l.mapM (uk a.tmps)).run P w=.ok vs w/\vs.length=xs.length/\∀ (i:Nat) (c:V) (v:Value),xs[i]?=some c->vs[i]?=some v->R m h w c v
 | [],xs,hx=>by
  simp[gH]at hx;subst hx;exact⟨[],by simp,rfl,by simp⟩
 | .tmp t::l,xs,hx=>by
  simp only[gH]at hx;split at hx
  ·rename_i x h7;split at hx
   ·rename_i ys h6;cases hx;obtain⟨vs,h1,h2,h3⟩:=um r fR l ys h6;have hr:R m h w x (a.tmps.getD t undef):=cq fR (o:=.tmp t) h7;refine⟨a.tmps.getD t undef::vs,?_,by simp[h2],fun i c v hc hv=>?_⟩
    ·rw[Mn];simp only[uk,Sem.run_bind,Sem.run_pure,Result.andThen_ok,h1]
    ·cases i with
     | zero=>simp only[MT,K7]at hc hv;subst hc hv;exact hr
     | succ i=>exact h3 i c v (by simpa using hc) (by simpa using hv)
   ·cases hx
  ·cases hx
 | .cell b t::l,xs,hx=>by
  simp only[gH]at hx;split at hx
  ·rename_i p h8;split at hx
   ·rename_i x h4;split at hx
    ·rename_i ys h6;cases hx;obtain⟨vs,h1,h2,h3⟩:=um r fR l ys h6;have hp:R m h w p (a.tmps.getD b undef):=cq fR (o:=.tmp b) h8;obtain⟨v,hv,hr⟩:=zS (P:=P) r hp h4;have h0:(do loadVar t (<- asAddr (a.tmps.getD b undef)):Sem Value).run P w=.ok v w:=by
      have:∃ ad,a.tmps.getD b undef=.pointer (some ad):=by
       unfold ej at h4;split at h4
       ·generalize a.tmps.getD b undef=q at hp;cases hp;exact⟨_,rfl⟩
       ·generalize a.tmps.getD b undef=q at hp;cases hp;exact⟨_,rfl⟩
       ·cases h4
      obtain⟨ad,h9⟩:=this;rw[h9]at hv ⊢;simpa[Instr.loadAt,Instr.sureAddr,asAddr]using hv
     refine⟨v::vs,?_,by simp[h2],fun i c u hc hu=>?_⟩
     ·rw[Mn];rw[Sem.run_bind,show (uk a.tmps (.cell b t)).run P w=.ok v w from h0];simp only[Sem.run_bind,Result.andThen_ok,h1,Sem.run_pure]
     ·cases i with
      | zero=>simp only[MT,K7]at hc hu;subst hc hu;exact hr
      | succ i=>exact h3 i c u (by simpa using hc) (by simpa using hu)
    ·cases hx
   ·cases hx
  ·cases hx
omit [Base] in
theorem mg{fn:Func}{tmps:Array Value}{R:Ending->World->Prop}{B:Nat}:∀ (Ds:List Nat) (w:World),Ds.Nodup->(∀ D∈Ds,B<=D/\w.heap[D]?=some (.deferred (some []))) ->
  (∀ w2:World,(∀ b,b ∉ Ds->w2.heap[b]?=w.heap[b]?)->w2.heap.size=w.heap.size->(∀ D∈Ds,w2.heap[D]?=some (.deferred none))->w2.os=w.os/\w2.tape=w.tape/\w2.output=w.output->∃ v,(results fn tmps).run P w2=.ok v w2/\R (.returned v) w2) ->
  LeavesInM Fence.wide 0 P fn tmps R (Ds.map mark) .returning w
 | [],w,_,_,hR=>hR w (fun _ _=>rfl) rfl (fun _ h=>by cases h) ⟨rfl,rfl,rfl⟩
 | D::Ds,w,hn,hd,hR=>by
  obtain⟨h6,h0⟩:=List.nodup_cons.1 hn;have hD:=(hd D Ll).2;have h7:D<w.heap.size:=(Lo.1 hD).1;refine⟨by simp,.inl ⟨D,_,rfl,run_takeDeferred hD,mg (B:=B) Ds _ h0 (fun E hE=>?_) fun w2 h1 h2 h3 h4=>hR w2 (fun b hb=>?_) ?_ (fun E hE=>?_) ?_⟩⟩
  ·grind[List.mem_cons_of_mem,World.putObj_heap_other,trans]
  ·grind[List.mem_cons_self,List.mem_cons_of_mem,World.putObj_heap_other]
  ·simp_all
  ·rcases Lt.1 hE with rfl|h<;>grind[World.putObj_heap_same]
  ·exact h4
omit [Base] in
theorem qy{cfg:Cfg}{f:FuncId}{fn:Func}{c:Code}{args xs fr:List V}{h h2:Heap}{e:Ex}(hf:P.funcs[f]?=some fn)(hb:fn.body=some c)(hne:∀ id,e≠.exit id)
  (hk:∀ b:Base,@pC b P cfg c (args++List.replicate (fn.ntmps-args.length) .no) h (e,fr,h2)) (h7:gH P fr h2 fn.results.toList=some xs):
  HS cfg h h2/\(∃ fn,P.funcs[f]?=some fn/\fn.body.isNone=false)/\∀ m w vs,Rel m h w->PW m h w args vs->Calls P f vs w fun e w'=>∃ v,e=.returned v/\Out m h w (oneOf xs) h2 v w':=by
 refine⟨(hk ⟨0⟩).1,⟨fn,hf,by simp[hb]⟩,fun m w vs r hp=>?_⟩
 letI:Base:=⟨w.heap.size⟩
 have h8:(Base.n:Nat)=w.heap.size:=rfl;refine callsIn_wide.1 (callsIn_of_wp_marks (F:=Fence.wide) (n:=0) hf hb trivial (wpIn_wide.2 ((hk this).2 m w _ r ?_ _ ?_)) rfl)
 ·refine⟨by simp[hp.1],fun i y v hy hv=>?_,Mks.nil (La _)⟩;by_cases hi:i<args.length
  ·rw[K8 hi]at hy;rw[Mh (by rw[hp.1];exact hi)]at hv;exact hp.2 i y v hy hv
  ·rw[Lg (by omega)]at hy;rw[MY (by rw[hp.1];omega)]at hv;simp only[NB,MQ]at hy hv;split at hy
   ·split at hv
    ·cases hy;cases hv;exact .no
    grind
   grind
 ·rintro a' w' ⟨m',e',r',f'⟩;have fin:∀ w3:World,Rel m' h2 w3->FR m' h2 w3 fr { a' with defers:=[] }->Evo m h w m' h2 w3->∃ v,(results fn a'.tmps).run P w3=.ok v w3/\∃ u,Ending.returned v=.returned u/\Out m h w (oneOf xs) h2 u w3:=by
   clear f' r' e';intro w3 r' f' e';obtain⟨us,h1,h2',h3⟩:=um (P:=P) r' f' _ _ h7;have h0:(results fn a'.tmps).run P w3=.ok (if h:us.toArray.size=1 then us.toArray[0] else .tuple us.toArray) w3:=by
    unfold results;have:fn.results=fn.results.toList.toArray:=by simp
    rw[this,List.mapM_toArray,Sem.run_bind,Sem.run_map];have h6:∀ l:List ResultVar,(l.mapM fun
      | .tmp t=>pure (a'.tmps.getD t undef)
      | .cell a t=>do loadVar t (<- asAddr (a'.tmps.getD a undef)):Sem (List Value))=l.mapM (uk a'.tmps):=fun l=>by
     congr 1
    erw [h6,h1]
    rfl
   refine⟨_,h0,_,rfl,m',e',r',?_⟩;clear h0 h1 h7
   match xs,us,h2',h3 with
   | [x1],[u1],_,h3=>exact h3 0 x1 u1 rfl rfl
   | [],[],_,_=>exact .tup rfl (by simp)
   | x1::x2::xs,u1::u2::us,hl,h3 =>
    have hne:¬ (u1::u2::us).toArray.size=1:=by simp
    rw[dif_neg hne];exact .tup (by omega) (fun i c v hc hv=>h3 i c v hc (by simp_all))
  obtain⟨hr,Ds,he,hg,h9⟩:=f'.defers;have h4:LeavesInM Fence.wide 0 P fn a'.tmps (fun e w'=>∃ v,e=.returned v/\Out m h w (oneOf xs) h2 v w') a'.defers .returning w':=by
   rw[hg];refine mg (B:=w.heap.size) Ds w' he h9 fun w2 k1 k2 k3 k4=>?_;obtain⟨r2,f2,e2⟩:Rel m' h2 w2/\FR m' h2 w2 fr { a' with defers:=[] }/\Evo m h w m' h2 w2:=by
    have ha:∀ b,rsz w2 b=rsz w' b:=fun b=>by
     by_cases hb:b∈Ds<;>grind[rsz]
    have hh:∀ p,w2.cell? p=w'.cell? p:=fun p=>by
     by_cases hb:p.block∈Ds<;>grind[World.cell?]
    have hR:∀ {x:V} {v:Value},R m' h2 w' x v->R m' h2 w2 x v:=fun hx=>hx.same k2 ha hh;refine⟨⟨r'.zo,fun b hb=>by rw[k2];exact r'.zl b hb,r'.inj,fun x cs b hx hm=>?_⟩,⟨f'.len,fun i x v hx hv=>hR (f'.slot i x v hx hv),Mks.nil (by omega)⟩,?_⟩
    ·have hd:=r'.blk x cs b hx hm;have hj:b ∉ Ds:=fun hb=>by
      rcases hd with⟨arr,T,e,_⟩|⟨_,_,_,_,_,_,e,_⟩|⟨_,_,_,_,e,_⟩<;>rw[(h9 b hb).2]at e<;>cases e
     exact hd.carry (k1 b hj) fun _ _ _=>hR
    ·have hn:∀ b,b<w.heap.size->b ∉ Ds:=fun b hb hm=>by grind
     exact⟨e'.zeq,e'.len,e'.keep,e'.own,fun b hb hq=>(k1 b (hn b hb)).trans (e'.frame b hb hq),by omega,fun b hb=>by rw[ha];exact e'.rs b hb,k4.1.trans e'.os,k4.2.1.trans e'.tape,k4.2.2.trans e'.output⟩
   simp_all
  cases e with
  | normal=>exact h4
  | exit id=>simp_all
  | ret=>exact h4
omit [Base] in
theorem FE(hN:ck P){md:FuncId->Nat}{call:aF}(h0:bA P call){draw:jq}(h3:∀ b:Base,@tv b P draw){cfg:Cfg}{n:Nat}{f:FuncId}{fn:Func}{args:List V}{h h':Heap}{x:V}
  (hf:P.funcs[f]?=some fn) (hx:xZ P md call draw n cfg fn args h=some (x,h')):
  HS cfg h h'/\(∃ fn,P.funcs[f]?=some fn/\fn.body.isNone=false)/\∀ m w vs,Rel m h w->PW m h w args vs->Calls P f vs w fun e w'=>∃ v,e=.returned v/\Out m h w x h' v w':=by
 unfold xZ at hx;split at hx
 ·cases hx
 ·rename_i c hb;split at hx
  ·cases hx
  ·rename_i e fr h2 hne hc;split at hx
   ·rename_i xs h4;simp only[K7,Lj]at hx;obtain⟨rfl,rfl⟩:=hx;exact qy hf hb hne (fun b=>@zt b P hN md call h0 draw (h3 b) cfg n _ _ _ _ hc) h4
   grind
  grind
end
end Go.Ab
namespace Go.Ab
structure Evw(m:Mu)(h:Heap)(w:World)(m':Mu)(h':Heap)(w':World):Prop where
 zeq:m'.z=m.z
 len:h.length<=h'.length
 keep:∀ x,x<h.length->live h' x->live h x/\∀ b,m x=some b->m' x=some b
 own:∀ (x b:Nat),live h' x->m' x=some b->(∃ y,live h y/\m y=some b)\/w.heap.size<=b
 frame:∀ b,b<w.heap.size->(∀ x,live h x->m x≠some b)->w'.heap[b]?=w.heap[b]?
 size:w.heap.size<=w'.heap.size
 rs:∀ b,b<w.heap.size->rsz w b<=rsz w' b
section
variable {m m':Mu}{h h':Heap}{w w':World}
theorem Imm.evw{b:Nat}(e:Evw m h w m' h' w')(hi:Imm m h w b):Imm m' h' w' b:=by
 refine⟨Lu hi.1 e.size,by rw[e.zeq];exact hi.2.1,fun x hl hx=>?_⟩;rcases e.own x b hl hx with⟨y,hy,h0⟩|h3
 ·exact hi.2.2 y hy h0
 ·exact absurd hi.1 (Nat.not_lt.2 h3)
theorem Imm.cellw{b:Nat}(e:Evw m h w m' h' w')(hi:Imm m h w b)(o:Nat):w'.cell? ⟨b,o,none⟩=w.cell? ⟨b,o,none⟩:=
 cell?_of_block (e.frame b hi.1 hi.2.2) o
theorem R.evw(e:Evw m h w m' h' w')(h4:∀ (x b:Nat),live h x->m x=some b->b<w.heap.size){x:V}{v:Value}(hr:R m h w x v):R m' h' w' x v:=by
 induction hr with
 | any v=>exact .any v
 | no=>exact .no
 | bool b=>exact .bool b
 | int k n=>exact .int k n
 | str s=>exact .str s
 | nilp=>exact .nilp
 | ptr h0 hv =>
  refine .ptr (Lu h0 e.len) fun hl=>?_;obtain⟨h3,hm⟩:=e.keep _ h0 hl
  grind
 | lptr rv hi hc hf _ ih=>exact .lptr rv (hi.evw e) (fun i c h7=>(hi.cellw e _).trans (hc i c h7)) hf ih
 | nils=>exact .nils
 | sl h0 h6 hlen hv =>
  refine .sl (Lu h0 e.len) h6 hlen fun hl=>?_;obtain⟨h3,hm⟩:=e.keep _ h0 hl;obtain⟨b,hb,h8,hs⟩:=hv h3;exact⟨b,hm b hb,h8,L9 hs (e.rs b (h4 _ _ h3 hb))⟩
 | lst0 a rc ha=>exact .lst0 a rc ha
 | lst rv hi h9 hk hc hf _ ih=>exact .lst rv (hi.evw e) h9 hk (fun i x j c hx hj=>(hi.cellw e _).trans (hc i x j c hx hj)) hf ih
 | agg hl _ ih=>exact .agg hl ih
 | tup hl _ ih=>exact .tup hl ih
 | func hl _ hd _ ih ih'=>exact .func hl ih hd ih'
 | nilf=>exact .nilf
 | nili=>exact .nili
 | nilm=>exact .nilm
 | iface _ ih=>exact .iface ih
 | mref h0 hv =>
  refine .mref (Lu h0 e.len) fun hl=>?_;obtain⟨h3,hm⟩:=e.keep _ h0 hl;simp_all
end
section
variable {m:Mu}{g:Heap}{w:World}
def Mu.cut(m:Mu)(g:Heap)(n:Nat):Mu:={ f:=fun x=>if x<n then m x else none,z:=fun b=>m.z b\/∃ x,n<=x/\live g x/\m x=some b }
theorem cM{n x:Nat}(hx:x<n):live (g.take n) x↔live g x:=by
 simp[live,hx]
theorem Imm.cut{n b:Nat}(hi:Imm m g w b):Imm (m.cut g n) (g.take n) w b:=by
 refine⟨hi.1,?_,fun x hx h0=>?_⟩
 ·rintro (h|⟨x,_,h2,h3⟩)
  ·exact hi.2.1 h
  ·exact hi.2.2 x h2 h3
 ·obtain⟨h1,h2⟩:=aX hx;simp only[Mu.cut,h1,if_true]at h0;exact hi.2.2 x h2 h0
theorem R.cut{n:Nat}(hn:n<=g.length){x:V}{v:Value}(hr:R m g w x v)(hb:Bel n x):R (m.cut g n) (g.take n) w x v:=by
 have hlen:(g.take n).length=n:=by grind
 induction hr with
 | any v=>exact .any v
 | no=>exact .no
 | bool b=>exact .bool b
 | int k n=>exact .int k n
 | str s=>exact .str s
 | nilp=>exact .nilp
 | ptr h4 hv =>
  cases hb with
  | rf h=>grind[V.rf]
  | ptr h0 =>
   refine .ptr (by omega) fun hl=>?_
   grind[aX,Mu.cut]
 | lptr rv hi hc hf _ ih=>exact .lptr rv hi.cut hc hf fun i c h6=>ih i c h6 (.rf (hf i c h6))
 | nils=>exact .nils
 | sl h4 h3 hlen hv =>
  cases hb with
  | rf h=>grind[V.rf]
  | sl h0 =>
   refine .sl (by omega) h3 hlen fun hl=>?_
   grind[aX,Mu.cut]
 | lst0 a rc ha=>exact .lst0 a rc ha
 | lst rv hi h7 hk hc hf _ ih=>exact .lst rv hi.cut h7 hk hc hf fun i e j c he hj=>ih i e j c he hj (.rf (hf i e j c he hj))
 | agg hl _ ih =>
  cases hb with
  | rf h=>grind[V.rf]
  | agg h=>exact .agg hl fun i c v hc hv=>ih i c v hc hv (h c (K6 hc))
 | tup hl _ ih =>
  cases hb with
  | rf h=>grind[V.rf]
  | tup h=>exact .tup hl fun i c v hc hv=>ih i c v hc hv (h c (K6 hc))
 | func hl _ h8 _ ih ih' =>
  cases hb with
  | rf h=>grind[V.rf]
  | func h h'=>exact .func hl (fun i c v hc hv=>ih i c v hc hv (h c (K6 hc))) h8 (fun i c v hc hv=>ih' i c v hc hv (h' c (K6 hc)))
 | nilf=>exact .nilf
 | nili=>exact .nili
 | nilm=>exact .nilm
 | iface _ ih =>
  cases hb with
  | rf h=>grind[V.rf]
  | iface h=>exact .iface (ih h)
 | mref h4 hv =>
  cases hb with
  | rf h=>grind[V.rf]
  | mref h0=>exact .mref (by omega) fun hl=>by grind[Mu.cut,aX]
theorem Rel.cut{n:Nat}(hn:n<=g.length)(r:Rel m g w)(hb:∀ x cs b,x<n->g[x]?=some (some cs)->m x=some b->∀ c∈cs,Bel n c):Rel (m.cut g n) (g.take n) w:=by
 have hm:∀ x b,x<n->(m.cut g n) x=some b->m x=some b:=fun x b hx h0=>by grind[Mu.cut]
 refine⟨fun x b hl h0=>?_,fun b hz=>?_,fun x y b hx hy h7 h8=>?_,fun x cs b hx h0=>?_⟩
 ·obtain⟨h1,h2⟩:=aX hl;have h3:=hm x b h1 h0;rintro (h|⟨y,h4,h5,h6⟩)
  ·exact r.zo x b h2 h3 h
  ·have:=r.inj x y b h2 h5 h3 h6;omega
 ·rcases hz with h|⟨y,_,h5,h6⟩
  ·exact r.zl b h
  ·exact r.lt y b h5 h6
 ·obtain⟨h1,h2⟩:=aX hx;obtain⟨h3,h4⟩:=aX hy;exact r.inj x y b h2 h4 (hm x b h1 h7) (hm y b h3 h8)
 ·obtain⟨h1,h2⟩:=aX ⟨cs,hx⟩;rw[L7,if_pos h1]at hx;have h3:=hm x b h1 h0;exact (r.blk x cs b hx h3).carry rfl fun c v h9 ha=>ha.cut hn (hb x cs b h1 hx h3 c h9)
def Mu.glue(m m':Mu)(n':Nat):Mu:={ f:=fun x=>if x<n' then m' x else m x,z:=m.z }
section
variable {m':Mu}{g':Heap}{w':World}{n n':Nat}
theorem Imm.glue(hz:m'.z=(m.cut g n).z)(h6:n<=n')(h0:∀ x,n'<=x->g'[x]?=g[x]?){b:Nat}(hi:Imm m' (g'.take n') w' b):Imm (m.glue m' n') g' w' b:=by
 refine⟨hi.1,fun h=>hi.2.1 (by rw[hz];exact .inl h),fun x hx h3=>?_⟩;by_cases h4:x<n'
 ·simp only[Mu.glue,h4,if_true]at h3;exact hi.2.2 x ((cM h4).2 hx) h3
 ·simp only[Mu.glue,h4,if_false]at h3;obtain⟨cs,hc⟩:=hx;rw[h0 x (by omega)]at hc;exact hi.2.1 (by rw[hz];exact .inr ⟨x,by omega,⟨cs,hc⟩,h3⟩)
theorem R.glue(hz:m'.z=(m.cut g n).z)(h7:n<=n')(h0:∀ x,n'<=x->g'[x]?=g[x]?)(hlen:n'<=g'.length){x:V}{v:Value}(hr:R m' (g'.take n') w' x v):R (m.glue m' n') g' w' x v:=by
 have h3:(g'.take n').length=n':=by grind
 induction hr with
 | any v=>exact .any v
 | no=>exact .no
 | bool b=>exact .bool b
 | int k n=>exact .int k n
 | str s=>exact .str s
 | nilp=>exact .nilp
 | ptr h4 hv =>
  rw[h3]at h4;refine .ptr (by omega) fun hl=>?_
  grind[cM,Mu.glue]
 | lptr rv hi hc hf _ ih=>exact .lptr rv (hi.glue hz h7 h0) hc hf ih
 | nils=>exact .nils
 | sl h4 h6 hlen hv =>
  rw[h3]at h4;refine .sl (by omega) h6 hlen fun hl=>?_
  grind[cM,Mu.glue]
 | lst0 a rc ha=>exact .lst0 a rc ha
 | lst rv hi h8 hk hc hf _ ih=>exact .lst rv (hi.glue hz h7 h0) h8 hk hc hf ih
 | agg hl _ ih=>exact .agg hl ih
 | tup hl _ ih=>exact .tup hl ih
 | func hl _ h3 _ ih ih'=>exact .func hl ih h3 ih'
 | nilf=>exact .nilf
 | nili=>exact .nili
 | nilm=>exact .nilm
 | iface _ ih=>exact .iface ih
 | mref h4 hv =>
  rw[h3]at h4;exact .mref (by omega) fun hl=>by grind[Mu.glue,cM]
theorem vg(_r:Rel m g w)(hn:n<=g.length)(h6:n<=n')(hlen:g'.length=g.length)(h3:∀ x,n'<=x->g'[x]?=g[x]?)(h4:∀ x,n<=x->x<n'->live g' x->live g x/\m x=none)
  (e:Evo (m.cut g n) (g.take n) w m' (g'.take n') w'):Evw m g w (m.glue m' n') g' w' where
 zeq:=rfl
 len:=by omega
 keep:=fun x hx hl=>by
  by_cases h7:x<n
  ·obtain⟨h1,h2⟩:=e.keep x (by grind) ((cM (by omega)).2 hl);refine⟨(aX h1).2,fun b hb=>?_⟩;simp_all[Mu.glue,if_true,Mu.cut]
  ·by_cases h0:x<n'
   ·simp_all
   ·obtain⟨cs,hc⟩:=hl;rw[h3 x (by omega)]at hc;exact⟨⟨cs,hc⟩,fun b hb=>by grind[Mu.glue]⟩
 own:=fun x b hl hb=>by
  by_cases h0:x<n'
  ·simp only[Mu.glue,h0,if_true]at hb;rcases e.own x b ((cM h0).2 hl) hb with⟨y,hy,h8⟩|h9<;>grind[aX,Mu.cut]
  ·simp only[Mu.glue,h0,if_false]at hb;obtain⟨cs,hc⟩:=hl;rw[h3 x (by omega)]at hc;exact .inl ⟨x,⟨cs,hc⟩,hb⟩
 frame:=fun b hb hn=>e.frame b hb fun x hx ha=>by
  grind[aX,Mu.cut]
 size:=e.size
 rs:=e.rs
theorem D5(r:Rel m g w)(hn:n<=g.length)(hg:n<=n')(hlen:g'.length=g.length)(hq:n'<=g.length)(h6:∀ x,n'<=x->g'[x]?=g[x]?)(hd:∀ x,n<=x->x<n'->live g' x->live g x/\m x=none)
  (e:Evo (m.cut g n) (g.take n) w m' (g'.take n') w') (r':Rel m' (g'.take n') w'):Rel (m.glue m' n') g' w':=by
 have ew:=vg r hn hg hlen h6 hd e;have hz:=e.zeq;have h7:∀ x b,x<n'->live g' x->(m.glue m' n') x=some b->live (g'.take n') x/\m' x=some b:=fun x b hx hl hb=>⟨(cM hx).2 hl,by grind[Mu.glue]⟩;have h0:∀ x b,¬ x<n'->live g' x->(m.glue m' n') x=some b->live g x/\m x=some b:=fun x b hx hl hb=>by
  obtain⟨cs,hc⟩:=hl;rw[h6 x (by omega)]at hc;exact⟨⟨cs,hc⟩,by grind[Mu.glue]⟩
 have hh:∀ x y b,x<n'->¬ y<n'->live g' x->live g' y->(m.glue m' n') x=some b->(m.glue m' n') y=some b->False:=by
  intro x y b hx hy hj hm h9 ha;obtain⟨h1,h2⟩:=h7 x b hx hj h9;obtain⟨h3,h4⟩:=h0 y b hy hm ha;exact r'.zo x b h1 h2 (by rw[hz];exact .inr ⟨y,by omega,h3,h4⟩)
 refine⟨fun x b hl hb=>?_,fun b hb=>Lu (r.zl b hb) e.size,fun x y b hx hy h9 ha=>?_,fun x cs b hx hb=>?_⟩
 ·by_cases h8:x<n'
  ·obtain⟨h1,h2⟩:=h7 x b h8 hl hb;exact fun h=>r'.zo x b h1 h2 (by rw[hz];exact .inl h)
  ·obtain⟨h1,h2⟩:=h0 x b h8 hl hb;exact r.zo x b h1 h2
 ·by_cases h8:x<n'
  ·by_cases he:y<n'
   ·obtain⟨h1,h2⟩:=h7 x b h8 hx h9;obtain⟨h3,h4⟩:=h7 y b he hy ha;exact r'.inj x y b h1 h3 h2 h4
   grind
  ·by_cases he:y<n'
   ·grind
   ·obtain⟨h1,h2⟩:=h0 x b h8 hx h9;obtain⟨h3,h4⟩:=h0 y b he hy ha;exact r.inj x y b h1 h3 h2 h4
 ·by_cases h8:x<n'
  ·obtain⟨h1,h2⟩:=h7 x b h8 ⟨cs,hx⟩ hb;exact (r'.blk x cs b (by grind) h2).carry rfl fun c v _ hf=>hf.glue hz hg h6 (by omega)
  ·obtain⟨h1,h2⟩:=h0 x b h8 ⟨cs,hx⟩ hb;rw[h6 x (by omega)]at hx;refine (r.blk x cs b hx h2).carry (e.frame b (r.lt x b h1 h2) (fun y hy hr=>?_)) fun c v _ hf=>hf.evw ew r.lt;obtain⟨h3,h4⟩:=aX hy;have:=r.inj x y b h1 h4 h2 (by grind[Mu.cut]);omega
end
end
end Go.Ab
namespace Go.Ab
section
variable {P:Program}
theorem ju{fr fr':List V}:∀ {l:List Operand},(∀ o∈l,ev fr o=ev fr' o)->cH fr l=cH fr' l
 | [],_=>rfl
 | o::l,h=>by
  simp only[cH,h o Ll,ju fun x hx=>h x (Lc _ hx)]
theorem kO{fr fr':List V}:∀ {l:List (Nat×Operand)},(∀ o∈l,ev fr o.2=ev fr' o.2)->cU fr l=cU fr' l
 | [],_=>rfl
 | (i,o)::l,h=>by
  simp only[cU,h (i,o) Ll,kO fun x hx=>h x (Lc _ hx)]
theorem gu{fr fr':List V}:∀ {l:List (Nat×Operand)}{i:Nat},(∀ o∈l,ev fr o.2=ev fr' o.2)->aV fr i l=aV fr' i l
 | [],_,_=>rfl
 | (i,o)::l,j,h=>by
  simp only[aV,h (i,o) Ll,gu fun x hx=>h x (Lc _ hx)]
theorem iR{md:FuncId->Nat}{call:aF}{cfg:Cfg}{fr fr':List V}{h:Heap}{op:Op}(hc:∀ o∈op.operands.toList,ev fr o=ev fr' o):aB P md call cfg fr h op=aB P md call cfg fr' h op:=by
 cases op
 case call c =>
  obtain⟨callee,args,tys⟩:=c;have h0:cH fr args.toList=cH fr' args.toList:=ju fun o ho=>hc o (by grind[Op.operands,Call.operands]);cases callee with
  | value f =>
   grind[ev,Op.operands,Call.operands,aB]
  | invoke r n=>rfl
  | builtin b=>grind[aB,opV]
 case build t ps =>
  grind[cU,kO,Op.operands,aB,opV]
 case buildSlice t n ps =>
  grind[aV,gu,Op.operands,aB,opV]
 case makeFunc fn f c =>
  grind[cH,ju,Op.operands,aB,opV]
 case slice t x l hh mx =>
  have h1:ev fr x=ev fr' x:=hc x (by simp[Op.operands]);have h2:l.map (ev fr)=l.map (ev fr'):=by
   cases l with
   | none=>rfl
   | some o=>grind[Op.operands]
  have h3:hh.map (ev fr)=hh.map (ev fr'):=by
   cases hh with
   | none=>rfl
   | some o=>grind[Op.operands]
  cases mx with
  | none=>grind[aB,opV]
  | some o=>rfl
 case makeMap t r =>
  cases r with
  | none=>rfl
  | some o=>rfl
 all_goals
  simp only[Op.operands,Lt,MB,or_false,forall_eq_or_imp,forall_eq]at hc
  try simp only[aB,opV,hc]
def eF(P:Program):Op->Bool
 | .move _|.assign _|.pick ..|.build ..|.nilCheck _|.binOp ..|.unOp ..|.makeFunc ..|.fieldAddr ..|.field ..|.indexAddr ..|.index ..|.extract ..=>true
 | .load ..|.slice ..|.alloc _|.box ..|.buildSlice ..|.makeSlice ..=>true
 | .makeMap _ none=>true
 | .call { callee:=.builtin b,.. }=>match b with
  | .len|.min|.max=>true
  | _=>false
 | .convert _ d _=>match P.underlying d with
  | some (.int _)=>true
  | _=>false
 | _=>false
def eJ(fr:List V):Op->Option Nat
 | .load _ a=>match ev fr a with
  | some (.ptr b _)=>some b
  | _=>none
 | .slice _ x _ _ _=>match ev fr x with
  | some (.ptr b _)=>some b
  | _=>none
 | _=>none
theorem nR{h:Heap}{x y:Nat}{o:Option (List V)}(hne:y≠x):ab (h.set x o) y=ab h y:=by
 grind[ab,List.getElem?_set_ne]
theorem Bw{h:Heap}{x:Nat}{o:Option (List V)}{t:TypeId}{p:V}(hne:∀ b off,p=.ptr b off->b≠x):ej P (h.set x o) t p=ej P h t p:=by
 cases p<;>simp only[ej];rename_i b off;rw[nR (hne b off rfl)]
theorem yM{h:Heap}{x:Nat}{o:Option (List V)}{t:TypeId}{p:V}{lo hi:Option (Option V)}(hne:∀ b off,p=.ptr b off->b≠x):cN P (h.set x o) t p lo hi=cN P h t p lo hi:=by
 unfold cN;split<;>try rfl
 rename_i n elem b off hu;rw[nR (hne b off rfl)]
theorem Gu{cfg:Cfg}{fr:List V}{h h':Heap}{op:Op}{v:V}{x:Nat}(o:Option (List V))(h3:eF P op=true)(hr:eJ fr op≠some x)(hx:x<h.length)(hv:opV P cfg fr h op=some (v,h')):
  opV P cfg fr (h.set x o) op=some (v,h'.set x o):=by
 have key:∀ {e:Option V},e.map (·,h)=some (v,h')->e.map (·,h.set x o)=some (v,h'.set x o):=by
  simp_all
 cases op<;>simp only[eF,Lv]at h3
 case move y=>exact key hv
 case assign y=>exact key hv
 case pick c a b =>
  grind[opV]
 case alloc t =>
  simp only[opV]at hv ⊢;split at hv<;>grind
 case box t y =>
  simp only[opV]at hv ⊢;split at hv
  ·rename_i z hz;split at hv<;>grind
  grind
 case build t ps =>
  simp only[opV]at hv ⊢;split at hv<;>grind
 case buildSlice t n ps =>
  simp only[opV]at hv ⊢;split at hv
  ·rename_i vs h0
   try simp only[h0]
   unfold aI at hv ⊢;split at hv
   ·rename_i e hu
    try simp only[hu]
    split at hv
    ·rename_i s hs
     try simp only[hs]
     split at hv<;>grind
    grind
   grind
  grind
 case load t a =>
  simp only[opV]at hv ⊢;split at hv<;>grind[Bw,eJ]
 case nilCheck y =>
  simp only[opV]at hv ⊢;split at hv<;>grind
 case binOp b t y z u =>
  simp only[opV]at hv ⊢;split at hv<;>grind
 case unOp b t y =>
  simp only[opV]at hv ⊢;split at hv<;>grind
 case convert s d y =>
  simp only[opV]at hv ⊢;split at hv
  ·rename_i p hp
   try simp only[hp]
   split at h3
   ·rename_i k hd;unfold eh at hv ⊢;rw[hd]at hv ⊢;split at hv
    ·simp_all
    ·rename_i k' sd h1 h2;cases h2;split at hv<;>grind
    ·simp_all
    ·simp_all
    grind
   grind
  grind
 case makeFunc fn f c =>
  simp only[opV]at hv ⊢;split at hv<;>grind
 case makeSlice t l c =>
  simp only[opV]at hv ⊢;split at hv
  ·rename_i p q hp hq
   try simp only[hp,hq]
   unfold cB at hv ⊢;split at hv
   ·rename_i e n m hu
    try simp only[hu]
    split at hv<;>grind
   grind
  grind
 case makeMap t r =>
  cases r with
  | some o=>simp_all
  | none =>
   simp only[opV]at hv ⊢;unfold dA at hv ⊢;split at hv
   ·grind
   ·rename_i hk;split at hv
    ·grind
    ·rename_i hz;split at hv<;>grind
 case slice t y l hh mx =>
  cases mx with
  | none =>
   simp only[opV]at hv ⊢;split at hv<;>grind[yM,eJ]
  | some o=>grind[opV]
 case fieldAddr s y f =>
  simp only[opV]at hv ⊢;split at hv<;>grind
 case field s y f =>
  simp only[opV]at hv ⊢;split at hv<;>grind
 case indexAddr s y f =>
  simp only[opV]at hv ⊢;split at hv<;>grind
 case index s y f =>
  simp only[opV]at hv ⊢;split at hv<;>grind
 case extract y i =>
  simp only[opV]at hv ⊢;split at hv<;>grind
 case call c =>
  obtain⟨callee,args,tys⟩:=c;cases callee with
  | value f=>grind
  | invoke r n=>grind
  | builtin b =>
   simp only[opV]at hv ⊢;split at hv
   ·cases hv
   ·rename_i vs h0
    try simp only[h0]
    split at hv<;>grind
end
end Go.Ab
namespace Go.Ab
section
variable {P:Program}{ops:Array Oper}{Q:Exit->Act->World->Prop}
def Ready(S:Nat->Bool)(o:Oper):Prop:=∀ e∈o.after.toList,Region.binds .any e=true->S e.on=true
def Closed(ops:Array Oper)(S:Nat->Bool):Prop:=∀ i o,ops[i]?=some o->S i=true->Ready S o
def ba(S:Nat->Bool)(i:Nat):Nat->Bool:=fun j=>if j=i then true else S j
theorem Ready.add{S:Nat->Bool}{o:Oper}{i:Nat}(h:Ready S o):Ready (ba S i) o:=fun e he hb=>by
 unfold ba;split
 ·rfl
 ·exact h e he hb
theorem Closed.add{S:Nat->Bool}{i:Nat}{o:Oper}(hi:ops[i]?=some o)(hr:Ready S o)(h:Closed ops S):Closed ops (ba S i):=fun j oj hj h0=>by
 by_cases h3:j=i
 ·subst h3;rw[hi]at hj;cases hj;exact hr.add
 ·simp only[ba,h3,if_false]at h0;exact (h j oj hj h0).add
def xy(ops:Array Oper):Prop:=∀ i o,ops[i]?=some o->∀ e∈o.after.toList,Region.binds .any e=true->e.on<i
def setOf(listed:Array Bool):Nat->Bool:=fun i=>listed.getD i false
theorem cS{listed:Array Bool}{i:Nat}(hi:i<listed.size):setOf (listed.setIfInBounds i true)=ba (setOf listed) i:=by
 funext j;unfold setOf ba;by_cases h0:j=i
 ·simp_all
 ·have:i≠j:=fun e=>h0 e.symm;simp_all
theorem mem_ready{listed:Array Bool}{i:Nat}(hs:listed.size=ops.size):i∈Region.ready .any ops listed↔∃ o,ops[i]?=some o/\setOf listed i=false/\Ready (setOf listed) o:=by
 unfold Region.ready Ready setOf;simp only[Ow,NH,Ld,Mq];constructor
 ·rintro⟨hi,hl,ha⟩;have ho:ops[i]?=some ops[i]:=Lf hi;have h0:i<listed.size:=by omega
  refine⟨ops[i],ho,by simp_all,?_⟩;rw[ho]at ha;simp only[LX,MF,Array.all_eq_true]at ha;intro e he hb;obtain⟨k,hk,rfl⟩:=LV he
  grind
 grind
def iE(listed:Array Bool):Nat:=listed.toList.count false
theorem lz{listed:Array Bool}{i:Nat}(hi:i<listed.size)(hf:setOf listed i=false):iE (listed.setIfInBounds i true)+1=iE listed:=by
 unfold iE;have h1:listed[i]=false:=by simp_all[setOf,L4]
 grind
theorem nS{listed:Array Bool}(h0:iE listed=0){i:Nat}(hi:i<listed.size):setOf listed i=true:=by
 unfold iE at h0;rw[List.count_eq_zero]at h0;have:listed[i]≠false:=fun e=>h0 (by grind);simp_all[setOf,L4]
theorem gK(h0:xy ops){listed:Array Bool}(hs:listed.size=ops.size)(hr:Region.ready .any ops listed=[]):∀ i,i<ops.size->setOf listed i=true:=by
 intro i
 induction i using Nat.strongRecOn with
 | _ i ih =>
  intro hi;by_cases hl:setOf listed i=true
  ·exact hl
  ·have ho:ops[i]?=some ops[i]:=Lf hi;have:i∈Region.ready .any ops listed:=(mem_ready hs).2 ⟨ops[i],ho,by simp_all,fun e he hb=>by
    have h3:=h0 i _ ho e he hb
    grind⟩
   simp_all
theorem nc(h3:xy ops)(J:(Nat->Bool)->Act->World->Prop)
  (h4:∀ S a w,J S a w->Closed ops S->∀ i o,ops[i]?=some o->S i=false->Ready S o->wpOp P ops Q i (J (ba S i)) a w)
  (h6:∀ S a w,J S a w->(∀ i,i<ops.size->S i=true)->Q .normal a w):∀ (fuel:Nat) (listed:Array Bool) (a:Act) (w:World),listed.size=ops.size->iE listed=fuel->Closed ops (setOf listed)->J (setOf listed) a w ->
  wpAny P .any ops Q fuel listed a w
 | 0,listed,a,w,hs,hc,_,hj=>by
  have h7:∀ i,i<ops.size->setOf listed i=true:=fun i hi=>nS hc (by omega);refine⟨?_,h6 _ a w hj h7⟩;simp_all[MP,mem_ready,Lo]
 | fuel+1,listed,a,w,hs,hc,h9,hj=>by
  refine⟨fun hr=>h6 _ a w hj (gK h3 hs hr),fun i hi=>?_⟩;obtain⟨o,ho,hf,h0⟩:=(mem_ready hs).1 hi;have ha:i<listed.size:=by grind
  refine wpOp_mono (fun a' w' hd=>?_) (h4 _ a w hj h9 i o ho hf h0);have h8:=cS ha;refine nc h3 J h4 h6 fuel _ a' w' (by simp[hs]) ?_ ?_ (by simp_all)
  ·grind[lz]
  ·rw[h8];exact h9.add ho h0
theorem kZ(hm:P.follows .mixedOrders=true)(h3:xy ops)(J:(Nat->Bool)->Act->World->Prop)
  (h4:∀ S a w,J S a w->Closed ops S->∀ i o,ops[i]?=some o->S i=false->Ready S o->wpOp P ops Q i (J (ba S i)) a w)
  (h6:∀ S a w,J S a w->(∀ i,i<ops.size->S i=true)->Q .normal a w) {id:Nat} {a:Act} {w:World} (h0:J (fun _=>false) a { w with drawn:=w.drawn+1 }):(Code.region id ops true).wp P Q a w:=by
 have h7:setOf (Array.replicate ops.size false)=fun _=>false:=by
  funext i;simp[setOf,L4,MQ];split<;>rfl
 refine wp_region_any hm (nc h3 J h4 h6 ops.size _ a _ (by simp) ?_ ?_ ?_)
 ·simp[iE]
 ·rw[h7];intro i o _ h;cases h
 simp_all
/-! ### What comes before what, by bits -/
def oV(acc:List Nat)(o:Oper):Nat:=o.after.toList.foldl (fun s e=>if Region.binds .any e then s ||| 2 ^ e.on ||| acc.getD e.on 0 else s) 0
def gC:List Nat->List Oper->List Nat
 | acc,[]=>acc
 | acc,o::r=>gC (acc++[oV acc o]) r
theorem sh:∀ (l:List Oper) (acc:List Nat),(∀ j,j<acc.length->(gC acc l)[j]?=acc[j]?)/\∀ j o,l[j]?=some o->(gC acc l)[acc.length+j]?=some (oV ((gC acc l).take (acc.length+j)) o)
 | [],acc=>⟨fun _ _=>rfl,fun j o h=>by simp at h⟩
 | o::r,acc=>by
  obtain⟨h1,h2⟩:=sh r (acc++[oV acc o]);refine⟨fun j hj=>?_,fun j oj hj=>?_⟩
  ·grind[gC,List.getElem?_append_left]
  ·cases j with
   | zero =>
    simp only[MT,K7]at hj;subst hj;simp only[gC,Nb];rw[h1 acc.length (by simp)];simp only[List.getElem?_concat_length,K7];congr 1;apply LJ
    grind
   | succ j =>
    have:=h2 j oj (by simp_all);simp only[Ln,LZ]at this
    grind[gC]
theorem na(acc:List Nat)(i:Nat):∀ (es:List Edge) (s:Nat),(es.foldl (fun s e=>if Region.binds .any e then s ||| 2 ^ e.on ||| acc.getD e.on 0 else s) s).testBit i=true ->
  s.testBit i=true\/∃ e∈es,Region.binds .any e=true/\(i=e.on\/(acc.getD e.on 0).testBit i=true)
 | [],s,h=>.inl h
 | e::es,s,h=>by
  rw[Nd]at h;rcases na acc i es _ h with h|⟨e',h0,hb,h⟩<;>grind
def ord(ops:Array Oper)(i j:Nat):Bool:=((gC [] ops.toList).getD j 0).testBit i
theorem bm(h3:xy ops){S:Nat->Bool}(h6:Closed ops S){i:Nat}:∀ (j:Nat) (o:Oper),ops[j]?=some o->Ready S o->ord ops i j=true->S i=true:=by
 intro j
 induction j using Nat.strongRecOn with
 | _ j ih =>
  intro o ho hr h0;unfold ord at h0;have hm:=(sh ops.toList []).2 j o (by simp_all);simp only[L3,LU]at hm;rw[K9,hm,MF,oV]at h0;rcases na _ i _ 0 h0 with h|⟨e,he,hb,h⟩
  ·simp at h
  ·have h7:=h3 j o ho e he hb;have hS:=hr e he hb;rcases h with rfl|h
   ·exact hS
   ·have h8:j<ops.size:=(Lo.1 ho).1;have h4:ops[e.on]?=some ops[e.on]:=Lf (by omega);refine ih e.on h7 _ h4 (h6 e.on _ h4 hS) ?_;simp_all[ord,K9,L7,if_pos]
end
end Go.Ab
namespace Go.Ab
def only(Q:Exit->Act->World->Prop):Exit->Act->World->Prop
 | .normal,a,w=>Q .normal a w
 | _,_,_=>False
section
variable {P:Program}{ops:Array Oper}{Q:Exit->Act->World->Prop}
theorem wg:¬ LetsOut (only Q):=fun ⟨_,_,h⟩=>h
def Ap(ops:Array Oper)(x y:Oper):Prop:=(∀ d,x.dst=some d->d ∉ y.looksAt ops)/\(∀ d,x.dst=some d->y.dst≠some d)/\(∀ d,y.dst=some d->d ∉ x.looksAt ops)
theorem Ap.of{x y:Oper}(h:x.apart ops y=true):Ap ops x y:=Oper.apart_spec h
theorem Ap.symm{x y:Oper}(h:Ap ops x y):Ap ops y x:=⟨h.2.2,fun d hd hx=>h.2.1 d hx hd,h.1⟩
def Blind(P:Program)(ops:Array Oper)(o:Oper)(a:Act)(u:Value):Prop:=
 (Region.wanted o (yielded ops a.tmps)=true/\∀ w,(execOp a.eval o).run P w=.ok (.value u) w)\/(Region.wanted o (yielded ops a.tmps)=false/\u=undef)
theorem Blind.put{o oj:Oper}{a:Act}{u z:Value}(hs:∀ cs b,o.op≠.select cs b)(hb:Blind P ops o a u)(h:∀ d,oj.dst=some d->d ∉ o.looksAt ops):Blind P ops o (a.put oj.dst z) u:=by
 unfold Blind;rw[wanted_put o a oj.dst z h,execOp_put o hs a oj.dst z h];exact hb
theorem ve{a:Act}{ds:List Deferred}:({ a with defers:=ds }:Act).eval=a.eval:=by
 funext x;cases x<;>rfl
theorem Blind.defers{o:Oper}{a:Act}{u:Value}{ds:List Deferred}(hb:Blind P ops o a u):Blind P ops o { a with defers:=ds } u:=by
 grind[Blind,ve]
theorem rH{i:Nat}{o:Oper}(ho:ops[i]?=some o){a:Act}{u:Value}(hb:Blind P ops o a u){K:Act->World->Prop}{w:World}(hK:K (a.put o.dst u) w):wpOp P ops Q i K a w:=by
 unfold wpOp;rw[ho];simp only;rcases hb with⟨h1,h2⟩|⟨h1,rfl⟩
 ·rw[h1];simp only[if_true];refine .inl ?_;unfold Oper.wp;rw[h2 w];exact hK
 simp_all
theorem wpOp_put{j:Nat}{oi oj:Oper}(hj:ops[j]?=some oj)(h6:Ap ops oi oj)(h4:∀ cs b,oi.op≠.select cs b)(h7:∀ cs b,oj.op≠.select cs b){a:Act}{u:Value}(hb:Blind P ops oi a u)
  {K K':Act->World->Prop} {w:World} (h:wpOp P ops (only Q) j K (a.put oi.dst u) w) (hK:∀ a' w',Blind P ops oi a' u->K (a'.put oi.dst u) w'->K' a' w'):wpOp P ops (only Q) j K' a w:=by
 obtain⟨h1,h2,h3⟩:=h6;have h0:∀ (b:Act) (z:Value),(b.put oi.dst u).put oj.dst z=(b.put oj.dst z).put oi.dst u:=fun b z=>Act.put_comm b u z h2;have fin:∀ z w',K ((a.put oi.dst u).put oj.dst z) w'->K' (a.put oj.dst z) w':=fun z w' hk=>hK _ _ (hb.put h4 h3) (by simp_all);unfold wpOp at *;rw[hj]at h ⊢;simp only at h ⊢;rw[wanted_put oj a oi.dst u h1]at h;split
 ·rename_i hw;rw[hw]at h;simp only[if_true]at h;rcases h with h|⟨_,h⟩
  ·refine .inl ?_;unfold Oper.wp at h ⊢;rw[execOp_put oj h7 a oi.dst u h1]at h;generalize (execOp a.eval oj).run P w=r at h ⊢;cases r with
   | ok nx w' =>
    cases nx<;>simp only[Oper.upon]at h ⊢<;>try exact h
    case value z=>simp_all
    case skip=>simp_all
    case defer d =>
     have e:({ a.put oi.dst u with defers:=d::(a.put oi.dst u).defers }:Act)=({ a with defers:=d::a.defers }:Act).put oi.dst u:=by cases oi.dst<;>rfl
     rw[e,h0]at h;exact hK _ _ (hb.defers.put h4 h3) h
    case enter f args =>
     refine h.mono ?_;rintro (v|c|_) w'' he
     ·simp_all
     ·exact he
     omega
    grind[Rows.mono]
   | halt x w' =>
    cases x<;>simp only[Oper.upon]at h ⊢<;>exact h
  ·exact absurd h wg
 simp_all
theorem wpAny_first(h3:∀ (j:Nat) (o:Oper) cs b,ops[j]?=some o->o.op≠.select cs b){i:Nat}{oi:Oper}(hi:ops[i]?=some oi){u:Value}:∀ (fuel:Nat) (listed:Array Bool) (a:Act) (w:World),listed.size=ops.size->setOf listed i=false->Ready (setOf listed) oi ->
  (∀ j oj,ops[j]?=some oj->j≠i->setOf listed j=false->(∀ S:Nat->Bool,(∀ q,setOf listed q=true->S q=true)->S i=false->Closed ops S->Ready S oj->Ap ops oi oj))->Closed ops (setOf listed) ->
  Blind P ops oi a u->wpAny P .any ops (only Q) fuel (listed.setIfInBounds i true) (a.put oi.dst u) w->wpAny P .any ops (only Q) (fuel+1) listed a w:=by
 intro fuel
 induction fuel with
 | zero =>
  intro listed a w hs hf hr h6 h7 hb h;have h8:i<listed.size:=by grind
  refine⟨fun hn=>?_,fun j hj=>?_⟩
  ·have:i∈Region.ready .any ops listed:=(mem_ready hs).2 ⟨oi,hi,hf,hr⟩;simp_all
  ·obtain⟨oj,h0,he,h4⟩:=(mem_ready hs).1 hj;by_cases h9:j=i
   ·grind[rH]
   ·exfalso;have:j∈Region.ready .any ops (listed.setIfInBounds i true):=(mem_ready (by simp[hs])).2 ⟨oj,h0,by simp_all[cS,ba],by rw[cS h8];exact h4.add⟩;rw[h.1]at this;grind
 | succ fuel ih =>
  intro listed a w hs hf hr h6 h7 hb h;have h8:i<listed.size:=by grind
  refine⟨fun hn=>?_,fun j hj=>?_⟩
  ·have:i∈Region.ready .any ops listed:=(mem_ready hs).2 ⟨oi,hi,hf,hr⟩;simp_all
  ·obtain⟨oj,h0,he,h4⟩:=(mem_ready hs).1 hj;by_cases h9:j=i
   ·grind[rH]
   ·have hg:j<listed.size:=by grind
    have hy:i≠j:=fun e=>h9 e.symm;have ha:j∈Region.ready .any ops (listed.setIfInBounds i true):=(mem_ready (by simp[hs])).2 ⟨oj,h0,by simp_all[cS,ba],by rw[cS h8];exact h4.add⟩;have hc:=h6 j oj h0 h9 he (setOf listed) (fun q hq=>hq) hf h7 h4;refine wpOp_put h0 hc (fun cs b=>h3 i oi cs b hi) (fun cs b=>h3 j oj cs b h0) hb (h.2 j ha) fun a' w' hh hk=>?_;have hl:(listed.setIfInBounds i true).setIfInBounds j true=(listed.setIfInBounds j true).setIfInBounds i true:=by
     grind
    rw[hl]at hk;refine ih (listed.setIfInBounds j true) a' w' (by simp[hs]) ?_ ?_ ?_ ?_ hh hk
    ·simp_all[cS,ba]
    ·rw[cS hg];exact hr.add
    ·intro q oq hm ht hA S hd hu hv hw;refine h6 q oq hm ht ?_ S (fun z hz=>hd z (by simp_all[cS,ba])) hu hv hw;simp_all[cS,ba]
    ·rw[cS hg];exact h7.add h0 h4
end
end Go.Ab
namespace Go.Ab
def aU(o:Oper):Bool:=
 match o.op with
 | .call { callee:=.value _,.. }=>true
 | .store ..=>true
 | _=>false
def nu(ld:List Nat)(x:List Nat):Bool:=x.all fun b=>!ld.contains b
def cL(P:Program)(md:FuncId->Nat)(call:aF)(cfg:Cfg)(n0:Nat)(ops:Array Oper)(o:Oper)(fr:List V)(h:Heap)(x:List Nat)(ld:List Nat):Option (V×Heap×List Nat×List Nat):=
 match cy ops fr o with
 | none=>none
 | some false=>some (.no,h,x,ld)
 | some true =>
  match o.op with
  | .call { callee:=.value f,args,argTypes:=_ }=>match ev fr f,cH fr args.toList with
   | some (.func (.func g) first captured),some vs =>
    match md g with
    | 0=>match af md call ⟨h.length,[],h.length⟩ g ((first++vs)++captured) h with
     | some (v,h')=>some (v,h',x,ld)
     | none=>none
    | 3=>match af md call ⟨h.length,[],h.length⟩ g ((first++vs)++captured) h with
     | some (v,h')=>some (v,h',x,ld)
     | none=>none
    | 1=>match (first++vs)++captured with
     | .ptr b _::_ =>
      if cfg.wr b&&decide (b<n0) then
       match af md call ⟨h.length,[b],h.length⟩ g ((first++vs)++captured) h with
       | some (v,h')=>some (v,h',b::x,ld)
       | none=>none
      else none
     | _=>none
    | 2=>match af md call ⟨h.length,[],h.length⟩ g ((first++vs)++captured) h with
     | some (v,h')=>some (v,h',x,ld)
     | none=>none
    | m =>
     if (decide (m=4)||decide (m=5))&&((mapsIn h).all fun b=>cfg.wr b&&decide (b<n0)) then
      match af md call ⟨h.length,mapsIn h,h.length⟩ g ((first++vs)++captured) h with
      | some (v,h')=>some (v,h',mapsIn h++x,ld)
      | none=>none
     else none
   | _,_=>none
  | .store t p y=>match ev fr p with
   | some (.ptr b _) =>
    if cfg.wr b then
     match opV P ⟨h.length,[b],h.length⟩ fr h (.store t p y) with
     | some (v,h')=>some (v,h',b::x,ld)
     | none=>none
    else none
   | _=>none
  | op=>if eF P op then
    match opV P cfg fr h op with
    | some (v,h')=>some (v,h',x,match eJ fr op with
     | some b=>b::ld
     | none=>ld)
    | none=>none
   else none
def cW(P:Program)(md:FuncId->Nat)(call:aF)(cfg:Cfg)(n0:Nat)(ops:Array Oper):List Oper->List V->Heap->List Nat->List Nat->Option (List V×Heap×List Nat×List Nat)
 | [],fr,h,x,ld=>some (fr,h,x,ld)
 | o::r,fr,h,x,ld=>match cL P md call cfg n0 ops o fr h x ld with
  | some (v,h',x',ld')=>cW P md call cfg n0 ops r (put fr o.dst v) h' x' ld'
  | none=>none
def DB(P:Program)(ts:Array TypeId):Bool:=
 match ts.toList with
 | [t]=>match P.underlying t with
  | some (.slice e)=>match P.underlying e with
   | some (.slice _)=>true
   | _=>false
  | _=>false
 | _=>false
theorem sH{P:Program}{ts:Array TypeId}(h:DB P ts=true):∃ t,ts=#[t]:=by
 grind[DB]
def cJ(P:Program)(o:Oper):Bool:=
 match o.op with
 | .move _|.extract ..|.unOp ..=>true
 | .binOp _ t _ _ _=>match P.underlying t with
  | some (.int _)=>true
  | _=>false
 | .call { callee:=.builtin .max,.. }=>true
 | .call { callee:=.builtin .min,.. }=>true
 | .call { callee:=.builtin .len,args:=_,argTypes:=ts }=>DB P ts
 | _=>false
def ei(P:Program):Nat->List Oper->Nat
 | _,[]=>0
 | i,o::r=>(if cJ P o then 2 ^ i else 0) ||| ei P (i+1) r
def iI(fm:Nat)(ms:List Nat)(n:Nat):Nat:=(List.range n).foldl (fun acc j=>if (ms.getD j 0 ||| fm)%2 ^ j==2 ^ j-1 then acc else j+1) 0
def A5(o:Oper)(j:Nat):Bool:=o.after.toList.all fun e=>!Region.binds .any e||decide (e.on<j)
def pr(ops:Array Oper)(mj:Nat)(oj:Oper):Nat->List Oper->Bool
 | _,[]=>true
 | i,oi::r=>(mj.testBit i||(oi.apart ops oj&&!(aU oi&&aU oj)))&&pr ops mj oj (i+1) r
def pj(ops:Array Oper)(ms:List Nat):List Oper->Nat->List Oper->Bool
 | _,_,[]=>true
 | before,j,o::r=>pr ops (ms.getD j 0) o 0 before&&pj ops ms (before++[o]) (j+1) r
def uf(P:Program)(ops:Array Oper)(mj:Nat)(oj:Oper):Nat->List Oper->Bool
 | _,[]=>true
 | i,oi::r=>(mj.testBit i||(cJ P oi&&oi.apart ops oj))&&uf P ops mj oj (i+1) r
def pz(P:Program)(ops:Array Oper)(ms:List Nat):List Oper->Nat->List Oper->Bool
 | _,_,[]=>true
 | before,j,o::r=>(ms.getD j 0==2 ^ j-1||uf P ops (ms.getD j 0) o 0 before)&&pz P ops ms (before++[o]) (j+1) r
def HR(o:Oper):Bool:=
 match o.op with
 | .select ..=>false
 | _=>true
def tz:Nat->List Oper->Bool
 | _,[]=>true
 | j,o::r=>A5 o j&&tz (j+1) r
def sS(P:Program)(ops:Array Oper)(ms:List Nat)(N:Nat):Bool:=
 decide (N<=ops.size)&&pz P ops ms (ops.toList.take N) N (ops.toList.drop N)&&tz 0 ops.toList&&pj ops ms [] 0 (ops.toList.take N)&&ops.toList.all HR
def appB(o:Oper):Bool:=
 match o.op with
 | .call { callee:=.builtin .append,.. }=>true
 | _=>false
def Hz(o:Oper):Bool:=
 match o.op with
 | .move (.const _)=>o.after.isEmpty
 | _=>false
def Ah(ops:Array Oper):Bool:=
 match ops.toList.getLast? with
 | some o=>Hz o&&ops.toList.all (fun q=>q.guard.isNone)&&ops.toList.any appB&&ops.toList.dropLast.all fun q=>o.apart ops q
 | none=>false
def fC(P:Program)(md:FuncId->Nat)(call:aF)(cfg:Cfg)(ops:Array Oper)(fr:List V)(h:Heap):Option (List V×Heap):=
 let ms:=gC [] ops.toList
 let N:=iI (ei P 0 ops.toList) ms ops.size
 if sS P ops ms N then
  match cW P md call cfg h.length ops (ops.toList.take N) fr h [] []with
  | some (fr1,h1,x,ld) =>
   if nu ld x then cm P md call cfg ops (ops.toList.drop N) fr1 h1 else none
  | none=>none
 else none
/-! Regions of loads and stores of single cells, in whatever order -/
def sOp(o:Oper):Bool:=
 match o.op with
 | .move _|.fieldAddr ..|.indexAddr ..|.load ..|.store ..|.binOp ..=>true
 | _=>false
def qd:List Oper->Bool
 | []=>true
 | o::r=>r.all (fun q=>o.dst.isNone||q.dst != o.dst)&&qd r
def sOK(P:Program)(ops:Array Oper):Bool:=
 ops.toList.all sOp&&ops.toList.all (fun q=>q.guard.isNone)&&qd ops.toList&&(ops.toList.dropWhile fun o=>!aU o).any (fun o=>match o.op with|.fieldAddr ..=>true|_=>false)&&sS P ops (gC [] ops.toList) ops.size
def lP(fr:List V)(o:Oper):Option (Bool×Nat×Nat):=
 match o.op with
 | .load _ a=>match ev fr a with
  | some (.ptr b k)=>some (false,b,k)
  | _=>none
 | .store _ a _=>match ev fr a with
  | some (.ptr b k)=>some (true,b,k)
  | _=>none
 | _=>none
abbrev Eff:=Option Tmp×V×Option (Nat×Nat×V)
def ja(h:Heap)(b k:Nat)(u:V):Heap:=
 match ab h b with
 | some cs=>h.set b (some (cs.set k u))
 | none=>h
def eO(st:List V×Heap)(e:Eff):List V×Heap:=(put st.1 e.1 e.2.1,match e.2.2 with
 | some (b,k,u)=>ja st.2 b k u
 | none=>st.2)
def rQ(fr:List V)(o:Oper)(v:V):Option Eff:=
 match o.op with
 | .store _ a x=>match ev fr a,ev fr x with
  | some (.ptr b k),some u=>if u.leaf then some (o.dst,v,some (b,k,u)) else none
  | _,_=>none
 | .load ..=>if v.leaf then some (o.dst,v,none) else none
 | _=>some (o.dst,v,none)
def oA(x:Option (Bool×Nat×Nat))(l:List (Option (Bool×Nat×Nat))):Bool:=l.all fun y=>match x,y with
 | some (w,c),some (w',c')=>!(w||w')||decide (c≠c')
 | _,_=>true
def runS(P:Program)(cfg:Cfg):List Oper->List V×Heap->List (Option (Bool×Nat×Nat))->Option (List Eff)
 | [],_,_=>some []
 | o::r,st,l=>match opV P cfg st.1 st.2 o.op with
  | some (v,_)=>match rQ st.1 o v with
   | some e=>if oA (lP st.1 o) l then (runS P cfg r (eO st e) (l++[lP st.1 o])).map (e::·) else none
   | none=>none
  | none=>none
def Hw(P:Program)(cfg:Cfg)(ops:Array Oper)(fr:List V)(h:Heap):Option (List V×Heap):=
 (runS P cfg ops.toList (fr,h) []).map fun E=>E.foldl eO (fr,h)
/-! Regions whose writers (calls, stores) stand in one order; loads look at blocks that no one in the region writes -/
def nN(o:Oper):Bool:=
 match o.op with
 | .call { callee:=.value _,.. }=>true
 | _=>false
def oOp(o:Oper):Bool:=
 match o.op with
 | .move _|.assign _|.fieldAddr ..|.indexAddr ..|.load ..|.store ..|.binOp ..|.nilCheck _=>true
 | .call { callee:=.value _,.. }=>true
 | .slice _ _ _ _ none=>true
 | .buildSlice ..=>true
 | .call { callee:=.builtin .append,.. }=>true
 | _=>false
def isW(o:Oper):Bool:=
 match o.op with
 | .call { callee:=.value _,.. }=>true
 | .store ..=>true
 | .buildSlice ..=>true
 | .call { callee:=.builtin .append,.. }=>true
 | _=>false
def ordOK(ms:List Nat)(l:List Oper):Bool:=(List.range l.length).all fun j=>(List.range j).all fun i=>match l[i]?,l[j]? with
 | some p,some q=>!(isW p&&isW q)||(ms.getD j 0).testBit i
 | _,_=>true
theorem nC{ms:List Nat}{l:List Oper}(h:ordOK ms l=true){i j:Nat}{p q:Oper}(h0:i<j)(hp:l[i]?=some p)(hq:l[j]?=some q)(h1:isW p=true)(h2:isW q=true):(ms.getD j 0).testBit i=true:=by
 unfold ordOK at h
 grind
def oOK(P:Program)(ops:Array Oper):Bool:=
 ops.toList.all oOp&&ops.toList.all (fun q=>q.guard.isNone)&&qd ops.toList&&sS P ops (gC [] ops.toList) ops.size&&ordOK (gC [] ops.toList) ops.toList&&(ops.toList.drop (iI (ei P 0 ops.toList) (gC [] ops.toList) ops.size)).all fun q=>!nN q
def Bo(o:Oper):Bool:=
 match o.op with
 | .load ..=>true
 | _=>false
def tT(o:Oper):Bool:=
 match o.op with
 | .store ..=>true
 | _=>false
def lsOK(ms:List Nat)(l:List Oper):Bool:=(List.range l.length).all fun j=>(List.range j).all fun i=>match l[i]?,l[j]? with
 | some p,some q=>!((Bo p&&tT q)||(tT p&&Bo q))||(ms.getD j 0).testBit i
 | _,_=>true
theorem vZ{ms:List Nat}{l:List Oper}(h:lsOK ms l=true){i j:Nat}{p q:Oper}(h0:i<j)(hp:l[i]?=some p)(hq:l[j]?=some q)(h1:(Bo p=true/\tT q=true)\/(tT p=true/\Bo q=true)):(ms.getD j 0).testBit i=true:=by
 unfold lsOK at h;rw[Lk]at h;have h3:=h j (NH.2 (K5.1 hq).1)
 grind
def ln(P:Program)(md:FuncId->Nat)(call:aF)(cfg:Cfg)(n0:Nat)(o:Oper)(fr:List V)(h:Heap)(x ld:List Nat):Option (V×Heap×List Nat×List Nat):=
 match o.op with
 | .call { callee:=.value f,args,argTypes:=tys }=>match ev fr f with
  | some (.func (.func g) _ _) =>
   if md g=0\/md g=2\/md g=3 then
    match aB P md call ⟨h.length,[],h.length⟩ fr h (.call { callee:=.value f,args:=args,argTypes:=tys }) with
    | some (v,h')=>some (v,h',x,ld)
    | none=>none
   else none
  | _=>none
 | .store t p y=>match ev fr p with
  | some (.ptr b _)=>match opV P cfg fr h (.store t p y) with
   | some (v,h')=>some (v,h',b::x,ld)
   | none=>none
  | _=>none
 | .load t p=>match opV P cfg fr h (.load t p) with
  | some (v,h')=>match ev fr p with
   | some (.ptr b _)=>if b<n0 then some (v,h',x,b::ld) else none
   | _=>some (v,h',x,ld)
  | none=>none
 | .slice t y lo hi none=>match ev fr y with
  | some (.ptr _ _)=>none
  | _=>match opV P cfg fr h (.slice t y lo hi none) with
   | some (v,h')=>some (v,h',x,ld)
   | none=>none
 | .call { callee:=.builtin .append,args,argTypes }=>match cH fr args.toList with
  | some (.nils::_)=>match opV P cfg fr h (.call { callee:=.builtin .append,args:=args,argTypes:=argTypes }) with
   | some (v,h')=>some (v,h',x,ld)
   | none=>none
  | _=>none
 | op=>match opV P cfg fr h op with
  | some (v,h')=>some (v,h',x,ld)
  | none=>none
def oP(P:Program)(md:FuncId->Nat)(call:aF)(cfg:Cfg)(n0:Nat):List Oper->List V->Heap->List Nat->List Nat->Option (List V×Heap×List Nat×List Nat)
 | [],fr,h,x,ld=>some (fr,h,x,ld)
 | o::r,fr,h,x,ld=>match ln P md call cfg n0 o fr h x ld with
  | some (v,h',x',ld')=>oP P md call cfg n0 r (put fr o.dst v) h' x' ld'
  | none=>none
def nT(P:Program)(md:FuncId->Nat)(call:aF)(cfg:Cfg)(ops:Array Oper)(fr:List V)(h:Heap):Option (List V×Heap):=
 match oP P md call cfg h.length ops.toList fr h [] []with
 | some (fr',h',x,ld)=>if nu ld x||lsOK (gC [] ops.toList) ops.toList then some (fr',h') else none
 | none=>none
def ez(P:Program)(md:FuncId->Nat)(call:aF)(cfg:Cfg)(ops:Array Oper)(fr:List V)(h:Heap):Option (List V×Heap):=
 if Ah ops then
  match ops.toList.getLast? with
  | some o=>match o.op with
   | .move x=>match ev fr x with
    | some v=>fC P md call cfg ops.toList.dropLast.toArray (put fr o.dst v) h
    | none=>none
   | _=>none
  | none=>none
 else if sOK P ops then Hw P cfg ops fr h
 else match fC P md call cfg ops fr h with
  | some r=>some r
  | none=>if oOK P ops then nT P md call cfg ops fr h else none
section
variable {P:Program}{ops:Array Oper}
theorem pL:∀ (l:List Oper) (j:Nat),tz j l=true->∀ i o,l[i]?=some o->∀ e∈o.after.toList,Region.binds .any e=true->e.on<j+i
 | [],_,_,i,o,h=>by simp at h
 | p::l,j,hb,i,o,h=>by
  simp only[tz,Ld]at hb;cases i with
  | zero =>
   simp at h;subst h;intro e he h0;have:=Lk.1 hb.1 e he;simp_all
  | succ i =>
   have:=pL l (j+1) hb.2 i o (by simp_all)
   grind
theorem oC{mj:Nat}{oj:Oper}:∀ (l:List Oper) (i0:Nat),pr ops mj oj i0 l=true->∀ i oi,l[i]?=some oi->mj.testBit (i0+i)=true\/(oi.apart ops oj=true/\¬ (aU oi=true/\aU oj=true))
 | [],_,_,i,oi,h=>by simp at h
 | p::l,i0,hb,i,oi,h=>by
  simp only[pr,Ld,LP,Mq]at hb;cases i with
  | zero =>
   simp_all
  | succ i =>
   have:=oC l (i0+1) hb.2 i oi (by simp_all)
   grind
theorem oe{ms:List Nat}:∀ (l before:List Oper) (j0:Nat),j0=before.length->pj ops ms before j0 l=true ->
  ∀ i j oi oj,i<j->(before++l)[i]?=some oi->(before++l)[j]?=some oj->j0<=j->(ms.getD j 0).testBit i=true\/(oi.apart ops oj=true/\¬ (aU oi=true/\aU oj=true))
 | [],before,j0,h0,_,i,j,oi,oj,h3,hi,hj,h4=>by
  simp_all
 | o::l,before,j0,h0,hb,i,j,oi,oj,h3,hi,hj,h4=>by
  simp only[pj,Ld]at hb;by_cases h6:j=j0
  ·subst h6;rw[h0,Lg (by omega),NF]at hj;simp at hj;subst hj;rw[K8 (by omega)]at hi;have:=oC before 0 hb.1 i oi hi;simp_all
  ·exact oe l (before++[o]) (j0+1) (by grind) hb.2 i j oi oj h3 (by simp_all) (by simp_all) (by omega)
theorem mI{mj:Nat}{oj:Oper}:∀ (l:List Oper) (i0:Nat),uf P ops mj oj i0 l=true->∀ i oi,l[i]?=some oi->mj.testBit (i0+i)=true\/(cJ P oi=true/\oi.apart ops oj=true)
 | [],_,_,i,oi,h=>by simp at h
 | p::l,i0,hb,i,oi,h=>by
  simp only[uf,Ld,LP]at hb;cases i with
  | zero =>
   simp_all
  | succ i =>
   have:=mI l (i0+1) hb.2 i oi (by simp_all)
   grind
theorem oH{ms:List Nat}:∀ (l before:List Oper) (j0:Nat),j0=before.length->pz P ops ms before j0 l=true ->
  ∀ i j oi oj,i<j->(before++l)[i]?=some oi->(before++l)[j]?=some oj->j0<=j->(ms.getD j 0).testBit i=true\/(cJ P oi=true/\oi.apart ops oj=true)
 | [],before,j0,h0,_,i,j,oi,oj,h3,hi,hj,h4=>by
  simp_all
 | o::l,before,j0,h0,hb,i,j,oi,oj,h3,hi,hj,h4=>by
  simp only[pz,Ld,LP,beq_iff_eq]at hb;by_cases h6:j=j0
  ·subst h6;rw[h0,Lg (by omega),NF]at hj;simp at hj;subst hj;rw[K8 (by omega)]at hi;rcases hb.1 with h|h
   ·simp_all
   ·have:=mI before 0 h i oi hi;simp_all
  ·exact oH l (before++[o]) (j0+1) (by grind) hb.2 i j oi oj h3 (by simp_all) (by simp_all) (by omega)
structure Static(P:Program)(ops:Array Oper)(N:Nat):Prop where
 le:N<=ops.size
 back:xy ops
 tail:∀ i j oi oj,N<=j->i<j->ops[i]?=some oi->ops[j]?=some oj->ord ops i j=true\/(cJ P oi=true/\oi.apart ops oj=true)
 head:∀ i j oi oj,i<j->j<N->ops[i]?=some oi->ops[j]?=some oj->ord ops i j=true\/(oi.apart ops oj=true/\¬ (aU oi=true/\aU oj=true))
 nosel:∀ (j:Nat) (o:Oper) cs b,ops[j]?=some o->o.op≠.select cs b
theorem jd{N:Nat}(h:sS P ops (gC [] ops.toList) N=true):Static P ops N:=by
 simp only[sS,Ld,decide_eq_true_eq]at h;obtain⟨⟨⟨⟨h1,h2⟩,h3⟩,h4⟩,h5⟩:=h;refine⟨h1,fun i o ho e he hb=>?_,fun i j oi oj hN h0 hi hj=>?_,fun i j oi oj h0 h6 hi hj=>?_,fun j o cs b ho he=>?_⟩
 ·have:=pL ops.toList 0 h3 i o (by simp_all) e he hb;omega
 ·have:=oH (P:=P) (ops.toList.drop N) (ops.toList.take N) N (by grind) h2 i j oi oj h0 (by simp_all) (by simp_all) hN;exact this
 ·have:=oe (ops.toList.take N) [] 0 rfl h4 i j oi oj h0 (by grind) (by grind) (by omega);exact this
 grind[List.mem_of_getElem?,List.all_eq_true,HR]
/-! ### The trace of the first operations -/
theorem qB{md:FuncId->Nat}{call:aF}{cfg:Cfg}{n0:Nat}:∀ (l:List Oper) (fr:List V) (h:Heap) (x:List Nat) (ld:List Nat) {fr':List V}{h':Heap}{x':List Nat}{ld':List Nat},
  cW P md call cfg n0 ops l fr h x ld=some (fr',h',x',ld') ->
  ∃ (F:Nat->List V) (H:Nat->Heap) (X:Nat->List Nat) (D:Nat->List Nat) (v:Nat->V),F 0=fr/\H 0=h/\X 0=x/\D 0=ld/\F l.length=fr'/\H l.length=h'/\X l.length=x'/\D l.length=ld' /\
   ∀ i o,l[i]?=some o->cL P md call cfg n0 ops o (F i) (H i) (X i) (D i)=some (v i,H (i+1),X (i+1),D (i+1))/\F (i+1)=put (F i) o.dst (v i)
 | [],fr,h,x,ld,fr',h',x',ld',hr=>by
  simp only[cW,K7,Lj]at hr;obtain⟨rfl,rfl,rfl,rfl⟩:=hr;exact⟨fun _=>fr,fun _=>h,fun _=>x,fun _=>ld,fun _=>.no,rfl,rfl,rfl,rfl,rfl,rfl,rfl,rfl,fun i o hi=>by grind⟩
 | o::l,fr,h,x,ld,fr',h',x',ld',hr=>by
  simp only[cW]at hr;split at hr
  ·rename_i v h1 x1 ld1 hs;obtain⟨F,H,X,D,vs,e1,e2,e3,e4,e5,e6,e7,e8,h0⟩:=qB l _ _ _ _ hr;refine⟨fun i=>match i with|0=>fr|i+1=>F i,fun i=>match i with|0=>h|i+1=>H i,fun i=>match i with|0=>x|i+1=>X i,fun i=>match i with|0=>ld|i+1=>D i,
    fun i=>match i with|0=>v|i+1=>vs i,rfl,rfl,rfl,rfl,e5,e6,e7,e8,fun i oi hi=>?_⟩
   grind
  grind
def frS(ops:Array Oper)(v:Nat->V)(S:Nat->Bool)(fr:List V):Nat->List V
 | 0=>fr
 | i+1=>match ops[i]? with
  | some o=>if S i then put (frS ops v S fr i) o.dst (v i) else frS ops v S fr i
  | none=>frS ops v S fr i
theorem Ai{fr:List V}{d:Option Tmp}{v:V}{s:Nat}(hne:d≠some s):(put fr d v)[s]?=fr[s]?:=by
 cases d with
 | none=>rfl
 | some d=>grind[put,List.getElem?_set_ne]
theorem yC(fr:List V)(d:Option Tmp)(v:V):(put fr d v).length=fr.length:=by cases d<;>simp[put]
theorem yb{v:Nat->V}{S:Nat->Bool}{fr:List V}(n:Nat):(frS ops v S fr n).length=fr.length:=by
 induction n with
 | zero=>rfl
 | succ n ih =>
  grind[frS,yC]
theorem C7{v:Nat->V}{S S':Nat->Bool}{fr:List V}{s:Nat}(n:Nat)(h:∀ j o,j<n->ops[j]?=some o->S j=S' j\/o.dst≠some s):(frS ops v S fr n)[s]?=(frS ops v S' fr n)[s]?:=by
 induction n with
 | zero=>rfl
 | succ n ih =>
  have ih:=ih fun j o hj ho=>h j o (by omega) ho;simp only[frS];split
  ·rename_i o ho;rcases h n o (by omega) ho with he|hne
   ·rw[he];split
    ·cases hd:o.dst with
     | none=>exact ih
     | some d =>
      grind[put,yb,List.getElem?_set_ne]
    omega
   grind[Ai]
  omega
theorem Bc{v:Nat->V}{fr:List V}{i:Nat}(n:Nat)(hi:i<=n):frS ops v (fun j=>decide (j<i)) fr n=frS ops v (fun _=>true) fr i:=by
 have step:∀ k,k<=i->frS ops v (fun j=>decide (j<i)) fr k=frS ops v (fun _=>true) fr k:=by
  intro k hk
  induction k with
  | zero=>rfl
  | succ k ih=>grind[frS,decide_true]
 induction n with
 | zero =>
  simp_all
 | succ n ih =>
  by_cases h0:i=n+1
  ·simp_all
  ·have h1:=ih (by omega);simp only[frS,show ¬ n<i by omega,decide_false,Lv,if_false];split<;>exact h1
theorem put_comm{fr:List V}{d d':Option Tmp}{u v:V}(hne:∀ s,d=some s->d'≠some s):put (put fr d u) d' v=put (put fr d' v) d u:=by
 cases d with
 | none=>rfl
 | some d=>cases d' with
  | none=>rfl
  | some d' =>
   have:d≠d':=fun e=>hne d rfl (by rw[e]);simp only[put];rw[NR _ _ this]
theorem zF{v:Nat->V}{S:Nat->Bool}{fr:List V}{i:Nat}{o:Oper}(ho:ops[i]?=some o)(hS:S i=false)(n:Nat)(hi:i<n)
  (h0:∀ j oj,i<j->j<n->ops[j]?=some oj->S j=true->∀ s,o.dst=some s->oj.dst≠some s):frS ops v (ba S i) fr n=put (frS ops v S fr n) o.dst (v i):=by
 have low:∀ k,k<=i->frS ops v (ba S i) fr k=frS ops v S fr k:=by
  intro k hk
  induction k with
  | zero=>rfl
  | succ k ih =>
   grind[ba,frS]
 induction n with
 | zero=>omega
 | succ n ih =>
  by_cases h3:n=i
  ·simp_all[ba,frS,if_true,Lv,if_false,La]
  grind[ba,frS,put_comm]
end
end Go.Ab
