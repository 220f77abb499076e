/- Several texts of this proof in one. -/
import Derived.Test.YtoappddifbgegaaGreatPiL
import Derived.Test.YtoappddifbgegaaGreatPaTq
set_option linter.all false
set_option maxHeartbeats 4000000
set_option maxRecDepth 100000
namespace Go.Ab
open Go.Proofs Go.Proofs.Tryz
namespace Bi
@[simp] theorem cv3_32{h:Heap}{k:IntKind}{n:Int}:eh prog h 3 345 (.int k n)=some (.int .u64 (IntKind.u64.wrap n),h):=by kernel_rfl
@[simp] theorem cv32_3{h:Heap}{k:IntKind}{n:Int}:eh prog h 345 3 (.int k n)=some (.int .i64 (IntKind.i64.wrap n),h):=by kernel_rfl
theorem AN{n:Int}(h1:0<=n)(h2:n<=9223372036854775807):IntKind.u64.wrap n=n:=by
 rw[IntKind.wrap_u64];omega
def Asc(l:List Int):Prop:=∀ (i j:Nat) (x y:Int),i<j->l[i]?=some x->l[j]?=some y->x<y
section
variable {prim:FuncId->Option Prim}(d:Nat) (cfg:Cfg) (h:Heap)
theorem DL(hp:prim 330=none)(x:Int):af md (K prim (d+1)) cfg 330 [.int .i64 x] h=some (.bool false,h):=by
 refine aP rfl hp func330 rfl rfl rfl (by simp) ?_;simp
theorem Gf(hp:prim 321=none)(h0:prim 330=none)(x y:Int):af md (K prim (d+2)) cfg 321 [.int .i64 x,.int .i64 y] h=some (.bool (decide (x<y)),h):=by
 refine aP rfl hp func321 rfl rfl rfl (by simp) ?_;have hN:=fun cfg h x=>DL (prim:=prim) d cfg h h0 x;simp[hN]
theorem xG(hp:∀ f,Np2 f->prim f=none)(l:List Int)(hl:l.length<=2000)(ha:Asc l)(k:Nat)(x:Int)(hk:l[k]?=some x){args:List V}(h0:args.mapM (frzA h)=some [il l,.int .i64 x]):
  af md (K prim (d+3)) cfg 297 args h=some (.tup [.int .i64 k,.bool true],h):=by
 refine call3 rfl (hp 297 (by decide)) func297 rfl rfl rfl (args':=[il l,.int .i64 x]) h0 ?_;have hL:=fun cfg h x y=>Gf (prim:=prim) d cfg h (hp 321 (by decide)) (hp 330 (by decide)) x y;have h9:=(K5.1 hk).1;simp;refine ah (fun m fr H=>∃ lo hi:Nat,lo<=k/\k<=hi/\hi<=l.length/\m=hi-lo/\H=[]/\Slots 54 [(0,il l),(1,.int .i64 x),(6,.int .i64 l.length),(7,.int .i64 lo),(8,.int .i64 hi)] fr) (m:=l.length) (by omega) ⟨0,l.length,by omega,by omega,by omega,by omega,rfl,by simp⟩ ?_;rintro m fr H ⟨lo,hi,h1,h2,h3,rfl,rfl,hs⟩;obtain⟨j,rfl⟩:=hs.ex;clear hs;by_cases h8:lo<hi
 ·obtain⟨y,hy⟩:∃ y,l[(lo+hi) / 2]?=some y:=⟨_,K4 (by omega)⟩;have hf:((lo:Int)+hi).fdiv (2 ^ (min 1 IntKind.u64.bits))=((lo+hi) / 2:Nat):=by
   rw[show (2:Int) ^ (min 1 IntKind.u64.bits)=2 from rfl,Nk _ (by omega)];omega
  have hd:(((lo:Int)+hi) / 2).toNat=(lo+hi) / 2:=by omega
  simp(disch:=omega)[h8,wrap64,AN,hf,hd,hy,hL,-getElem?_pos];by_cases hc:y<x
  ·simp(disch:=omega)[hc,wrap64,-getElem?_pos];refine ae (m':=hi-((lo+hi) / 2+1)) (by omega) ⟨(lo+hi) / 2+1,hi,?_,h2,h3,rfl,rfl,by simp(disch:=omega)⟩;rcases LS k ((lo+hi) / 2+1) with h6|h7
   ·exfalso;rcases LS k ((lo+hi) / 2) with h4|h4
    ·have:=ha _ _ _ _ h4 hk hy;omega
    ·obtain rfl:k=(lo+hi) / 2:=by omega
     rw[hk]at hy;cases hy;omega
   ·exact h7
  ·simp(disch:=omega)[hc,-getElem?_pos];refine ae (m':=(lo+hi) / 2-lo) (by omega) ⟨lo,(lo+hi) / 2,h1,?_,by omega,rfl,rfl,by simp(disch:=omega)⟩;rcases LS ((lo+hi) / 2) k with h6|h7
   ·have:=ha _ _ _ _ h6 hy hk;omega
   ·exact h7
 ·have:lo=k:=by omega
  subst this;simp(disch:=omega)[h8,hk,h9,own,-getElem?_pos]
theorem rk(hp:prim 286=none)(t o M:List Int)(n:Nat)(e:Int)(y0 y1 y2:Option (List V))(T:Heap)(i:Nat)(x:Int)(hx:o[i]?=some x):
  af md (K prim (d+1)) cfg 286 [.ptr 3 0,.int .i64 i] (y0::y1::y2::some (pcs t o M n e)::T)=some (.bool (gone x),y0::y1::y2::some (pcs t o M n e)::T):=by
 refine xH rfl hp func286 rfl rfl rfl (by simp) ?_;unfold gone;by_cases h0:x=16
 ·simp(disch:=omega)[hx,h0,-getElem?_pos]
 ·by_cases h3:x=14
  ·simp(disch:=omega)[hx,h3,-getElem?_pos]
  ·by_cases h4:x=17
   ·simp(disch:=omega)[hx,h4,-getElem?_pos]
   ·by_cases h6:x=15
    ·simp(disch:=omega)[hx,h6,-getElem?_pos]
    ·by_cases h7:x=18
     ·simp(disch:=omega)[hx,h7,-getElem?_pos]
     ·by_cases h9:x=9
      ·simp(disch:=omega)[hx,h9,-getElem?_pos]
      ·simp(disch:=omega)[hx,h0,h3,h4,h6,h7,h9,-getElem?_pos]
end
def kG(lv kept:List Int)(e lev:Int)(p q:Nat)(last:Bool):Int×Int:=
 (fc (max lev (if 0<p then lvl lv (kept.getD (p-1) 0) else e)),fc (max lev (if q+1<kept.length/\last=false then lvl lv (kept.getD (q+1) 0) else e)))
theorem Be{h:Heap}{n d b cap:Nat}{k:IntKind}{l:List Int}{J:List V}(hb:ab h b=some (l.map (V.int k)++J))(hn:n<=b):frz h n (d+2) (.sl b 0 l.length cap 1)=some (.lst (l.map fun x=>[.int k x])):=by
 have e:¬ b<n:=by omega
 have e3:chunk 1 l.length (l.map (V.int k))=l.map fun x=>[V.int k x]:=by
  have:=gP (l.map (V.int k));simp only[ML,Ou]at this;exact this
 have e4:(l.map (V.int k)).all V.rf=true:=by
  rw[Lk];intro c hc;obtain⟨x,_,rfl⟩:=Me.1 hc;rfl
 have e5:(l.map (V.int k)++J).take l.length=l.map (V.int k):=Mz (by simp);rw[jA];simp only[e,if_false,hb,Oa,Mo,e5,fk,e3,e4,if_true];rw[if_pos (by simp)]
theorem yc{h:Heap}{b cap:Nat}{k:IntKind}{l:List Int}{J:List V}(hb:ab h b=some (l.map (V.int k)++J)):frzA h (.sl b 0 l.length cap 1)=some (.lst (l.map fun x=>[.int k x])):=by
 unfold frzA;rw[Be (d:=4) hb (LA _)];rfl
theorem gx{k:IntKind}{l:List Int}{J:List V}{i:Nat}{x:Int}(hx:l[i]?=some x):slot (l.map (V.int k)++J) i=some (.int k x):=by
 rw[slot,K8 (by simpa using (K5.1 hx).1),Lh,hx];rfl
section
variable {prim:FuncId->Option Prim}(d:Nat) (cfg:Cfg)
theorem Fx(hp:∀ f,Np2 f->prim f=none)(t o M:List Int)(n:Nat)(e:Int)(he:0<=e)(hX:o.length=n)(lv kept l:List Int)(hY:lv.length=n)(hM:kept.length<=2000)(hZ:l.length<=2000)(hk:Pl n kept)(ha:Asc kept)(y0 y1:Option (List V))(T:Heap)(lev:Int)(hN:0<=lev)(kb lb kc lc p q:Nat)(f g og:Int)
  (JK JL:List V) (hJ:ab T kb=some (kept.map (V.int .i64)++JK)) (hr:ab T lb=some (l.map (V.int .i64)++JL)) (hf:l[0]?=some f) (hg:l[l.length-1]?=some g) (hz:kept[p]?=some f) (hA:kept[q]?=some g) (hw:o[g.toNat]?=some og):
  af md (K prim (d+4)) cfg 307 [.ptr 3 0,.agg [.sl (lb+1+1+1+1) 0 l.length lc 1,.int .i64 lev,.int .i64 0,.int .i64 0],.sl (kb+1+1+1+1) 0 kept.length kc 1] (y0::y1::some (lv.map (V.int .i64))::some (pcs t o M n e)::T) =
   some (.agg [.sl (lb+1+1+1+1) 0 l.length lc 1,.int .i64 lev,.int .i64 (kG lv kept e lev p q (ini og)).1,.int .i64 (kG lv kept e lev p q (ini og)).2],y0::y1::some (lv.map (V.int .i64))::some (pcs t o M n e)::T):=by
 refine xH rfl (hp 307 (by decide)) func307 rfl rfl rfl (by simp) ?_;have hD:=ao hJ;have hy:∀ (i:Nat) (x:Int),kept[i]?=some x->slot (kept.map (V.int .i64)++JK) i=some (.int .i64 x):=fun i x hx=>gx hx;have hK:∀ (i:Nat) (x:Int),l[i]?=some x->slot (l.map (V.int .i64)++JL) i=some (.int .i64 x):=fun i x hx=>gx hx;have g0:=hy p f hz;have hE:=ao hr;have h6:∀ T',ab (T++T') kb=some (kept.map (V.int .i64)++JK):=fun T'=>(aj hD).trans hJ;have h7:∀ T',ab (T++T') lb=some (l.map (V.int .i64)++JL):=fun T'=>(aj hE).trans hr;have hL:∀ y0 y1 y2 y3 T',frzA (y0::y1::y2::y3::(T++T')) (.sl (kb+1+1+1+1) 0 kept.length kc 1)=some (il kept):=by
  intro y0 y1 y2 y3 T';have h1:ab (y0::y1::y2::y3::(T++T')) (kb+1+1+1+1)=some (kept.map (V.int .i64)++JK):=by simp[h6]
  exact yc h1
 have hS:=fun cfg h x hx=>nL (prim:=prim) (d+2) cfg h (hp 309 (by decide)) x hx;have hI:=fun cfg h x=>lD (prim:=prim) (d+2) cfg h (hp 304 (by decide)) x;have hB:=fun cfg h k x hk args ht=>xG (prim:=prim) d cfg h hp kept hM ha k x hk (args:=args) ht;have hO:∀ cfg y0 y1 y2 y3 T',af md (K prim (d+3)) cfg 297 [.sl (kb+1+1+1+1) 0 kept.length kc 1,.int .i64 f] (y0::y1::y2::y3::(T++T'))=some (.tup [.int .i64 p,.bool true],y0::y1::y2::y3::(T++T')):=fun cfg y0 y1 y2 y3 T'=>hB cfg _ p f hz _ (by simp[Mn,hL]);have hh:∀ cfg y0 y1 y2 y3 T',af md (K prim (d+3)) cfg 297 [.sl (kb+1+1+1+1) 0 kept.length kc 1,.int .i64 g] (y0::y1::y2::y3::(T++T'))=some (.tup [.int .i64 q,.bool true],y0::y1::y2::y3::(T++T')):=fun cfg y0 y1 y2 y3 T'=>hB cfg _ q g hA _ (by simp[Mn,hL]);have b4:∀ x T',isMap x=false->ab (T++some x::T') T.length=some x:=fun x T' hx=>by
  have:=bn (h:=T) (r:=some x::T') (k:=0);simp[hx]
 have h3:md 309=0:=rfl;have hj:∀ q,(Cfg.wr ⟨T.length+1+1+1+1,[],q⟩ (T.length+1+1+1+1))=true:=fun q=>by simp[Cfg.wr]
 have hl:∀ h,frz h (T.length+1+1+1+1) 5 (.sl (lb+1+1+1+1) 0 l.length lc 1)=some (.sl (lb+1+1+1+1) 0 l.length lc 1):=fun h=>by rw[jA,if_pos (by omega)]
 have hm:∀ q,(Cfg.wr ⟨T.length+1+1+1+1,[],q⟩ (T.length+1+1+1+1+1))=true:=fun q=>by simp[Cfg.wr]
 have g1:0<l.length:=(K5.1 hf).1;have hP:=hK _ _ hf;have hn:=hK _ _ hg;have h4:((l.length:Int)-1).toNat=l.length-1:=by omega
 have g2:=hk.rng g (K6 hA);have g3:=(K5.1 hz).1;have g4:=(K5.1 hA).1;simp(disch:=omega);refine ai 9 (by kernel_rfl) ?_;simp(disch:=omega)[h7,hP,hO,-getElem?_pos];by_cases h0:0<p
 ·obtain⟨u,hu⟩:∃ u,kept[p-1]?=some u:=⟨_,K4 (by omega)⟩;have g5:=hk.rng u (K6 hu);have hQ:lv[u.toNat]?=some (lvl lv u):=by rw[lvl,K9,K4 (by omega)];rfl
  have hR:((p:Int)-1).toNat=p-1:=by omega
  have h9:(if 0<p then lvl lv (kept.getD (p-1) 0) else e)=lvl lv u:=by rw[if_pos h0,K9,hu];rfl
  simp(disch:=omega)[h0];refine ai 9 (by kernel_rfl) ?_;simp(disch:=omega)[hR,h6,hy _ _ hu,hQ,wrap64,-getElem?_pos];have hT:∀ AF,0<=max lev AF:=fun AF=>by omega
  by_cases hq:q+1<kept.length
  ·have h8:(q:Int)+1<kept.length:=by omega
   have hF:((q:Int)+1).toNat=q+1:=by omega
   cases hv:ini og
   ·obtain⟨u2,hc⟩:∃ u,kept[q+1]?=some u:=⟨_,K4 hq⟩;have hH:=hk.rng u2 (K6 hc);have hd:lv[u2.toNat]?=some (lvl lv u2):=by rw[lvl,K9,K4 (by omega)];rfl
    have e2:kG lv kept e lev p q false=(fc (max lev (lvl lv u)),fc (max lev (lvl lv u2))):=by unfold kG;rw[h9,if_pos ⟨hq,rfl⟩,K9,hc];rfl
    rw[e2];simp(disch:=omega)[hr,hn,hh,h8,hw,hI,hv,wrap64,-getElem?_pos];refine ai 9 (by kernel_rfl) ?_;simp(disch:=omega)[hF,h6,hy _ _ hc,hd,wrap64,-getElem?_pos];refine ai 11 (by kernel_rfl) ?_;simp(disch:=omega)[hS,h3,hj,hm,hl]
    skip
   ·have e2:kG lv kept e lev p q true=(fc (max lev (lvl lv u)),fc (max lev e)):=by unfold kG;rw[h9,if_neg (by simp)]
    rw[e2];simp(disch:=omega)[hr,hn,hh,h8,hw,hI,hv,wrap64,-getElem?_pos];refine ai 11 (by kernel_rfl) ?_;simp(disch:=omega)[hS,h3,hj,hm,hl]
    skip
  ·have h8:¬ (q:Int)+1<kept.length:=by omega
   have e2:kG lv kept e lev p q (ini og)=(fc (max lev (lvl lv u)),fc (max lev e)):=by unfold kG;rw[h9,if_neg (fun h=>hq h.1)]
   rw[e2];simp(disch:=omega)[hr,hn,hh,h8,wrap64,-getElem?_pos];refine ai 11 (by kernel_rfl) ?_;simp(disch:=omega)[hS,h3,hj,hm,hl]
   skip
 ·have h9:(if 0<p then lvl lv (kept.getD (p-1) 0) else e)=e:=by rw[if_neg h0]
  simp(disch:=omega)[h0];have hT:∀ AF,0<=max lev AF:=fun AF=>by omega
  by_cases hq:q+1<kept.length
  ·have h8:(q:Int)+1<kept.length:=by omega
   have hF:((q:Int)+1).toNat=q+1:=by omega
   cases hv:ini og
   ·obtain⟨u2,hc⟩:∃ u,kept[q+1]?=some u:=⟨_,K4 hq⟩;have hH:=hk.rng u2 (K6 hc);have hd:lv[u2.toNat]?=some (lvl lv u2):=by rw[lvl,K9,K4 (by omega)];rfl
    have e2:kG lv kept e lev p q false=(fc (max lev (e)),fc (max lev (lvl lv u2))):=by unfold kG;rw[h9,if_pos ⟨hq,rfl⟩,K9,hc];rfl
    rw[e2];simp(disch:=omega)[h7,hn,h4,hh,h8,hw,hI,hv,wrap64,-getElem?_pos];refine ai 9 (by kernel_rfl) ?_;simp(disch:=omega)[hF,h6,hy _ _ hc,hd,wrap64,-getElem?_pos];refine ai 11 (by kernel_rfl) ?_;simp(disch:=omega)[hS,h3,hj,hm,hl]
    skip
   ·have e2:kG lv kept e lev p q true=(fc (max lev (e)),fc (max lev e)):=by unfold kG;rw[h9,if_neg (by simp)]
    rw[e2];simp(disch:=omega)[h7,hn,h4,hh,h8,hw,hI,hv,wrap64,-getElem?_pos];refine ai 11 (by kernel_rfl) ?_;simp(disch:=omega)[hS,h3,hj,hm,hl]
    skip
  ·have h8:¬ (q:Int)+1<kept.length:=by omega
   have e2:kG lv kept e lev p q (ini og)=(fc (max lev (e)),fc (max lev e)):=by unfold kG;rw[h9,if_neg (fun h=>hq h.1)]
   rw[e2];simp(disch:=omega)[h7,hn,h4,hh,h8,wrap64,-getElem?_pos];refine ai 11 (by kernel_rfl) ?_;simp(disch:=omega)[hS,h3,hj,hm,hl]
   skip
end
end Bi
end Go.Ab
namespace Go.Ab.Bi
open Go.Proofs Go.Proofs.Tryz
structure Nst(H:Heap)(lo:Nat)(v:V)(vs:List V)(rs:List (List Int)):Prop where
 out:Stk H lo 1 v vs
 len:vs.length=rs.length
 inn:∀ (i:Nat) (u:V) (r:List Int),vs[i]?=some u->rs[i]?=some r->Stk H lo 1 u (r.map (V.int .i64))/\Dj v u
 dj:∀ (i j:Nat) (u w:V),i<j->vs[i]?=some u->vs[j]?=some w->Dj u w
theorem Nst.zero{H:Heap}{lo:Nat}:Nst H lo .nils [] []:=⟨.inl ⟨rfl,rfl⟩,rfl,fun _ _ _ h=>by simp at h,fun _ _ _ _ _ h=>by simp at h⟩
theorem Nst.rs_at{H:Heap}{lo:Nat}{v:V}{vs:List V}{rs:List (List Int)}(h:Nst H lo v vs rs){i:Nat}{u:V}(hu:vs[i]?=some u):∃ r,rs[i]?=some r:=
 ⟨_,K4 (h.len ▸ (K5.1 hu).1)⟩
theorem Nst.blk{H:Heap}{lo:Nat}{v:V}{vs:List V}{rs:List (List Int)}(h:Nst H lo v vs rs){i:Nat}{u:V}(hu:vs[i]?=some u){b:Nat}(hb:cC u=some b):lo<=b/\b<H.length:=by
 obtain⟨r,hr⟩:=h.rs_at hu;exact (h.inn i u r hu hr).1.blk hb
theorem Nst.frame{H H' : Heap}{lo : Nat}{v : V}{vs : List V}{rs : List (List Int)}(h : Nst H lo v vs rs)(hf : ∀ c, lo <= c -> c < H.length -> ab H' c = ab H c): Nst H' lo v vs rs :=
  ⟨h.out.of_blk fun b hb => hf b (h.out.blk hb).1 (h.out.blk hb).2, h.len,
   fun i u r hu hr => ⟨(h.inn i u r hu hr).1.of_blk fun b hb => hf b (h.blk hu hb).1 (h.blk hu hb).2, (h.inn i u r hu hr).2⟩, h.dj⟩
theorem Nst.more{H H':Heap}{lo:Nat}{v d:V}{vs:List V}{rs:List (List Int)}(h:Nst H lo v vs rs)(hs:Stk H' lo 1 d (vs++[.nils]))(hf:∀ c,cC v≠some c->c<H.length->ab H' c=ab H c)(hb:cC d=cC v\/cC d=some H.length):Nst H' lo d (vs++[.nils]) (rs++[[]]):=by
 refine⟨hs,by simp[h.len],fun i u r hu hr=>?_,fun i j u w h3 hu hw=>?_⟩
 ·by_cases hi:i<vs.length
  ·rw[K8 hi]at hu;rw[K8 (h.len ▸ hi)]at hr;obtain⟨h1,h2⟩:=h.inn i u r hu hr;refine⟨h1.of_blk fun b h0=>hf b (fun hv=>h2 b hv h0) (h1.blk h0).2,fun b hd h0=>?_⟩;rcases hb with hb|hb
   ·exact h2 b (hb ▸ hd) h0
   ·rw[hb]at hd;cases hd;exact absurd (h1.blk h0).2 (by omega)
  ·have hl:=(K5.1 hu).1;have h4:i=vs.length:=by simp at hl;omega
   subst h4;rw[Lg (La _)]at hu;rw[Lg (by rw[h.len];exact La _)]at hr;simp[h.len]at hu hr;subst hu hr;exact⟨.inl ⟨rfl,rfl⟩,Dj.nils⟩
 ·have hl:=(K5.1 hw).1;have hi:i<vs.length:=by simp at hl;omega
  rw[K8 hi]at hu;by_cases hj:j<vs.length
  ·rw[K8 hj]at hw;exact h.dj i j u w h3 hu hw
  ·have h6:j=vs.length:=by simp at hl;omega
   subst h6;rw[Lg (La _)]at hw;simp at hw;subst hw;exact Dj.nils
theorem Nst.grow{H H1 H2:Heap}{lo:Nat}{v u d:V}{vs:List V}{rs:List (List Int)}{r r':List Int}(h:Nst H lo v (vs++[u]) (rs++[r]))(hl:vs.length=rs.length)(hs:Stk H1 lo 1 d (r'.map (V.int .i64)))
  (hf:∀ c,cC u≠some c->c<H.length->ab H1 c=ab H c) (hb:cC d=cC u\/cC d=some H.length)
  (hc:Stk H2 lo 1 v (vs++[d])) (h9:∀ c,cC v≠some c->c<H1.length->ab H2 c=ab H1 c) (hle:H.length<=H1.length):Nst H2 lo v (vs++[d]) (rs++[r']):=by
 have h8:(vs++[u])[vs.length]?=some u:=by simp
 obtain⟨ht,he⟩:=h.inn vs.length u r h8 (by simp[hl]);have ha:Dj v d:=by
  intro b hv hd;rcases hb with hb|hb
  ·exact he b hv (hb ▸ hd)
  ·rw[hb]at hd;cases hd;exact absurd (h.out.blk hv).2 (by omega)
 refine⟨hc,by simp[hl],fun i w q hw hq=>?_,fun i j w z hg hw hz=>?_⟩
 ·by_cases hi:i<vs.length
  ·rw[K8 hi]at hw;rw[K8 (hl ▸ hi)]at hq;have h0:(vs++[u])[i]?=some w:=by rw[K8 hi];exact hw
   obtain⟨h1,h2⟩:=h.inn i w q h0 (by rw[K8 (hl ▸ hi)];exact hq);have h3:=h.dj i vs.length w u hi h0 h8;refine⟨h1.of_blk fun b h4=>?_,h2⟩;have hh:=(h1.blk h4).2;rw[h9 b (fun hv=>h2 b hv h4) (by omega),hf b (fun hm=>h3 b h4 hm) hh]
  ·have h7:=(K5.1 hw).1;have hn:i=vs.length:=by simp at h7;omega
   subst hn;rw[Lg (La _)]at hw;rw[Lg (by rw[hl];exact La _)]at hq;simp[hl]at hw hq;subst hw hq;exact⟨hs.of_blk fun b h6=>h9 b (fun hv=>ha b hv h6) (hs.blk h6).2,ha⟩
 ·have h7:=(K5.1 hz).1;have hi:i<vs.length:=by simp at h7;omega
  rw[K8 hi]at hw;have h0:(vs++[u])[i]?=some w:=by rw[K8 hi];exact hw
  by_cases hj:j<vs.length
  ·rw[K8 hj]at hz;exact h.dj i j w z hg h0 (by rw[K8 hj];exact hz)
  ·have hr:j=vs.length:=by simp at h7;omega
   subst hr;rw[Lg (La _)]at hz;simp at hz;subst hz;have h3:=h.dj i vs.length w u hi h0 h8;intro b h4 h6;rcases hb with hb|hb
   ·exact h3 b h4 (hb ▸ h6)
   ·rw[hb]at h6;cases h6;exact absurd (h.blk h0 h4).2 (by omega)
end Go.Ab.Bi
namespace Go.Ab.Bi
def aZ(o:List Int):Nat->List Int
 | 0=>[]
 | k+1=>if gone (o.getD k 0) then aZ o k else aZ o k++[(k:Int)]
def oG(rs:List (List Int))(x:Int):List (List Int):=rs.dropLast++[rs.getLastD []++[x]]
def grp(lv kept:List Int):Nat->List (List Int)
 | 0=>[]
 | k+1=>if k=0\/lvl lv (kept.getD k 0)≠lvl lv (kept.getD (k-1) 0) then grp lv kept k++[[kept.getD k 0]] else oG (grp lv kept k) (kept.getD k 0)
def bgn(rs:List (List Int))(x:Int):Option Nat:=rs.findIdx? fun r=>r.head?==some x
def fol(o M:List Int)(rs:List (List Int))(i:Nat):Int:=
 match (rs.getD i []).getLast? with
 | none=>-1
 | some z=>if ini (o.getD z.toNat 0)&&decide (0<=M.getD z.toNat 0) then match bgn rs (M.getD z.toNat 0) with|some k=>(k:Int)|none=>-1 else -1
def chn(F:Nat->Int)(rs:List (List Int)):Nat->Int->List Int
 | 0,_=>[]
 | f+1,j=>if 0<=j then rs.getD j.toNat []++chn F rs f (F j.toNat) else []
theorem eR(o:List Int):∀ (k:Nat) (x:Int),x∈aZ o k->0<=x/\x<k
 | 0,x,h=>by simp[aZ]at h
 | k+1,x,h=>by
  unfold aZ at h;split at h
  ·have:=eR o k x h;omega
  ·rcases LB.1 h with h|h
   ·have:=eR o k x h;omega
   ·simp at h;omega
theorem gV(o:List Int):∀ k,(aZ o k).length<=k
 | 0=>by simp[aZ]
 | k+1=>by
  have:=gV o k;unfold aZ;split
  ·omega
  ·simp;omega
theorem fO(o:List Int):∀ k,(aZ o k).Pairwise (·<·)
 | 0=>by simp[aZ]
 | k+1=>by
  unfold aZ;split
  ·exact fO o k
  ·refine NT.2 ⟨fO o k,by simp,?_⟩;intro a ha b hb;simp at hb;have:=eR o k a ha;omega
theorem Ig{l:List Int}(h:l.Pairwise (·<·)):Asc l:=by
 intro i j x y h0 hx hy;obtain⟨hi,rfl⟩:=K5.1 hx;obtain⟨hj,rfl⟩:=K5.1 hy;exact Mc.1 h i j hi hj h0
theorem yO{rs:List (List Int)}(h:rs≠[])(x:Int):(oG rs x).flatten=rs.flatten++[x]:=by
 obtain⟨a,b,rfl⟩:∃ a b,rs=a++[b]:=⟨rs.dropLast,rs.getLast h,(ME h).symm⟩;simp[oG]
theorem tP(lv kept:List Int):∀ k,0<k->grp lv kept k≠[]
 | 0,h=>by omega
 | k+1,_=>by
  unfold grp oG;split<;>simp
theorem mb(lv kept:List Int):∀ k,k<=kept.length->(grp lv kept k).flatten=kept.take k
 | 0,_=>by simp[grp]
 | k+1,h=>by
  have ih:=mb lv kept k (by omega);have hg:kept[k]?=some (kept.getD k 0):=by rw[K9,K4 (by omega)];rfl
  have ht:kept.take (k+1)=kept.take k++[kept.getD k 0]:=by rw[LD,hg];rfl
  rw[ht,<- ih];rw[show grp lv kept (k+1)=if k=0\/lvl lv (kept.getD k 0)≠lvl lv (kept.getD (k-1) 0) then grp lv kept k++[[kept.getD k 0]] else oG (grp lv kept k) (kept.getD k 0) from rfl];split
  ·simp
  ·rename_i hn;exact yO (tP lv kept k (by omega)) _
theorem pf(lv kept:List Int):∀ k,∀ r∈grp lv kept k,r≠[]
 | 0,r,h=>by simp[grp]at h
 | k+1,r,h=>by
  unfold grp at h;split at h
  ·rcases LB.1 h with h|h
   ·exact pf lv kept k r h
   ·simp at h;simp[h]
  ·rcases LB.1 h with h|h
   ·exact pf lv kept k r (List.dropLast_subset _ h)
   ·simp at h;simp[h]
theorem ph(lv kept:List Int):∀ k,(grp lv kept k).length<=k
 | 0=>by simp[grp]
 | k+1=>by
  have:=ph lv kept k;unfold grp;split
  ·simp;omega
  ·rename_i hn;have:=tP lv kept k (by omega);have:=LW.2 this;simp[oG];omega
theorem zr(F:Nat->Int)(rs:List (List Int))(hF:∀ j,j<rs.length->F j<0\/((j:Int)<F j/\F j<rs.length)):∀ (f j:Nat),j<rs.length->(chn F rs f j).Sublist (rs.drop j).flatten
 | 0,j,_=>by simp[chn]
 | f+1,j,hj=>by
  unfold chn;rw[if_pos (by omega),Lq hj,N8];have hd:rs.getD ((j:Int)).toNat []=rs[j]:=by rw[Lr,K9,K4 hj];rfl
  rw[hd];refine List.Sublist.append (Oh _) ?_;rcases hF j hj with h|⟨h1,h2⟩
  ·cases f with
   | zero=>simp[chn]
   | succ f=>simp[chn,Int.not_le.2 (by simpa using h)]
  ·obtain⟨k,hk⟩:∃ k:Nat,F j=k:=⟨(F j).toNat,by omega⟩;rw[Lr,hk];refine (zr F rs hF f k (by omega)).trans ?_;obtain⟨r,hr⟩:∃ r,k=(j+1)+r:=⟨k-(j+1),by omega⟩;rw[hr,<- List.drop_drop];generalize rs.drop (j+1)=l;have:l=l.take r++l.drop r:=(Ma r l).symm
   conv=>rhs;rw[this]
   rw[List.flatten_append];exact N6 _ _
theorem pO{rs:List (List Int)}{x:Int}{k:Nat}(h:bgn rs x=some k):∃ r,rs[k]?=some r/\r.head?=some x:=by
 unfold bgn at h;obtain⟨hk,h1,_⟩:=List.findIdx?_eq_some_iff_getElem.1 h;exact⟨rs[k],K4 hk,by simpa using h1⟩
theorem ya{o M:List Int}{rs:List (List Int)}(hM:MOK o M)(hp:rs.flatten.Pairwise (·<·))(hn:∀ x∈rs.flatten,0<=x/\x<o.length)(j:Nat)(hj:j<rs.length):fol o M rs j<0\/((j:Int)<fol o M rs j/\fol o M rs j<rs.length):=by
 unfold fol;have hd:rs.getD j []=rs[j]:=by rw[K9,K4 hj];rfl
 rw[hd];cases hz:rs[j].getLast? with
 | none=>simp
 | some z =>
  have h0:z∈rs[j]:=List.mem_of_getLast? hz;have h6:z∈rs.flatten:=NP.2 ⟨_,MA hj,h0⟩;have h9:=hn z h6;simp only;split
  ·rename_i hc;rw[Ld,decide_eq_true_eq]at hc;have ho:o[z.toNat]?=some (o.getD z.toNat 0):=by rw[K9,K4 (by omega)];rfl
   have hm:=hM.at_ z.toNat _ ho hc.1;have h7:M.getD z.toNat 0=mt o z.toNat:=by rw[K9,hm];rfl
   rw[h7]at hc ⊢;rcases HP (c:=o) (i:=z.toNat) (by omega) with h|⟨m,h1,h2,h3,-⟩
   ·omega
   ·rw[h1];cases hb:bgn rs (m:Int) with
    | none=>simp
    | some k =>
     right;obtain⟨r,hr,hh⟩:=pO hb;obtain⟨hk,rfl⟩:=K5.1 hr;have h8:(m:Int)∈rs[k]:=Oi hh;refine⟨?_,by simp only;omega⟩;simp only;obtain⟨p1,p2⟩:=Nh.1 hp;rcases Mr j k with h|h|h
     ·omega
     ·subst h;have p3:=p1 _ (MA hj);cases he:rs[j]with
      | nil=>rw[he]at hh;simp at hh
      | cons a r =>
       rw[he]at hh hz p3 h0;simp at hh;subst hh;rcases Lt.1 h0 with h4|h4
       ·omega
       ·have:=(L8.1 p3).1 z h4;omega
     ·have:=Mc.1 p2 k j hk hj h _ h8 _ h0;omega
  ·simp
theorem Ct{rs:List (List Int)}{i:Nat}{r:List Int}{x:Int}(hr:rs[i]?=some r)(hx:r.head?=some x)(hd:∀ (j:Nat) (q:List Int),j<i->rs[j]?=some q->q.head?≠some x)(z:Int):bgn (rs.take (i+1)) z=if z=x then some i else bgn (rs.take i) z:=by
 have h4:=(K5.1 hr).1;have h3:(rs.take i).length=i:=by simp;omega
 have e:rs.take (i+1)=rs.take i++[r]:=by rw[LD,hr];rfl
 rw[e];unfold bgn;rw[List.findIdx?_append];by_cases hz:z=x
 ·subst hz;have hn:(rs.take i).findIdx? (fun r=>r.head?==some z)=none:=by
   rw[List.findIdx?_eq_none_iff];intro q hq;obtain⟨j,hj⟩:=M4.1 hq;have h0:=(K5.1 hj).1;rw[h3]at h0;rw[LI h0]at hj;have:=hd j q h0 hj;simpa using this
  simp[hn,hx,h3]
 ·have:¬ x=z:=fun h=>hz h.symm;simp[hx,hz,this]
theorem Di{rs:List (List Int)}(hp:rs.flatten.Pairwise (·<·)){i j:Nat}{r q:List Int}{x:Int}(hr:rs[i]?=some r)(hx:r.head?=some x)(hj:j<i)(hq:rs[j]?=some q):q.head?≠some x:=by
 intro h;obtain⟨hi,rfl⟩:=K5.1 hr;obtain⟨h0,rfl⟩:=K5.1 hq;have:=Mc.1 (Nh.1 hp).2 j i h0 hi hj x (Oi h) x (Oi hx);omega
end Go.Ab.Bi
namespace Go.Ab
open Go.Proofs Go.Proofs.Tryz
namespace Bi
theorem sB(l:List Int)(x:Int):l.map (V.int .i64)++[.int .i64 x]=(l++[x]).map (V.int .i64):=by simp
theorem Nst.push{H:Heap}{lo:Nat}{v:V}{vs:List V}{rs:List (List Int)}(h:Nst H lo v vs rs)(X:Heap):Nst (H++X) lo v vs rs:=h.frame fun _ _ hc=>aj hc
theorem Nst.push4{a0 a1 a2 a3:Option (List V)}{U X:Heap}{lo:Nat}{v:V}{vs:List V}{rs:List (List Int)}(h:Nst (a0::a1::a2::a3::(U++X)) lo v vs rs)(Y:Heap):Nst (a0::a1::a2::a3::(U++(X++Y))) lo v vs rs:=by simpa using h.push Y
theorem Nst.top{H:Heap}{lo:Nat}{v u:V}{vs:List V}{rs:List (List Int)}(h:Nst H lo v (vs++[u]) rs):∃ b cap J,v=.sl b 0 (vs.length+1) cap 1/\b<H.length/\lo<=b/\ab H b=some (vs++u::J):=by
 obtain⟨b,nn,cap,J,rfl,h1,h2,h3,h4,-⟩:=h.out.pos (by simp);simp at h3;exact⟨b,cap,J,by rw[<- h3],h2,h1,by simpa using h4⟩
theorem rA(vs J:List V)(u:V):slot (vs++u::J) vs.length=some u:=by simp[slot]
theorem uj{h:Heap}{a0 a1 a2 a3:Option (List V)}{T:Heap}(ht:h.take (T.length+4)=a0::a1::a2::a3::T):∃ T',h=a0::a1::a2::a3::(T++T'):=by
 refine⟨h.drop (T.length+4),?_⟩
 conv=>lhs;rw[<- List.take_append_drop (T.length+4) h,ht]
 simp
section
variable {P:Program}{md':FuncId->Nat}{call:aF}{cfg:Cfg}
theorem J5{dst:Option Tmp}{fr:List V}{ops:Array Oper}{rest:List Oper}{Q:ca}{a0 a1 a2 a3:Option (List V)}{T T':Heap}{dv x:V}{cs:List V}{y:Nat}
  (ho:Stk (a0::a1::a2::a3::(T++T')) (T.length+4) 1 dv cs) (h0:cfg.lo<=T.length+4) (h3:cfg.thr<=T.length+4)
  (h4:isMap [x]=false) (h8:cs.length<=4000) (hy:y<=100)
  (H:∀ d' T'',Stk (a0::a1::a2::a3::(T++T'')) (T.length+4) 1 d' (cs++[x])->@wO P md' call cfg ⟨ops⟩ ⟨rest⟩ (put fr dst d') (a0::a1::a2::a3::(T++T'')) ⟨Q⟩):
  @wS P md' call cfg ⟨dst⟩ ⟨fr⟩ (fX cfg (a0::a1::a2::a3::(T++T')) 1 y dv 1 [x]) ⟨ops⟩ ⟨rest⟩ ⟨Q⟩:=by
 have hs:(cs.length / 1+1)*y<=1099511627776:=by
  have:(cs.length / 1+1)*y<=4001*100:=Nj (by omega) hy;omega
 refine kB (lo:=T.length+4) ho h0 h3 (by simp) rfl h4 (by omega) hs (by omega) ?_;intro d' h' h6 _ h7 hlen h9 hb;have ht:h'.take (T.length+4)=a0::a1::a2::a3::T:=by
  rw[h7];simp
 obtain⟨T'',rfl⟩:=uj ht;exact H d' T'' h6
theorem xo{dst:Option Tmp}{fr:List V}{ops:Array Oper}{rest:List Oper}{Q:ca}{a0 a1 a2 a3:Option (List V)}{U X:Heap}{w:V}{vs:List V}{rs:List (List Int)}{y:Nat}
  (ho:Nst (a0::a1::a2::a3::(U++X)) (U.length+4) w vs rs) (h0:cfg.lo<=U.length+4) (h3:cfg.thr<=U.length+4) (h8:vs.length<=4000) (hy:y<=100)
  (H:∀ d' X',Nst (a0::a1::a2::a3::(U++X')) (U.length+4) d' (vs++[.nils]) (rs++[[]])->@wO P md' call cfg ⟨ops⟩ ⟨rest⟩ (put fr dst d') (a0::a1::a2::a3::(U++X')) ⟨Q⟩):
  @wS P md' call cfg ⟨dst⟩ ⟨fr⟩ (fX cfg (a0::a1::a2::a3::(U++X)) 1 y w 1 [.nils]) ⟨ops⟩ ⟨rest⟩ ⟨Q⟩:=by
 have hs:(vs.length / 1+1)*y<=1099511627776:=by
  have:(vs.length / 1+1)*y<=4001*100:=Nj (by omega) hy;omega
 refine kB (lo:=U.length+4) ho.out h0 h3 (by simp) rfl rfl (by omega) hs (by omega) ?_;intro d' h' h4 _ h6 hlen h7 hb;have ht:h'.take (U.length+4)=a0::a1::a2::a3::U:=by
  rw[h6];simp
 obtain⟨X',rfl⟩:=uj ht;exact H d' X' (ho.more h4 h7 hb)
theorem rG{dst:Option Tmp}{fr:List V}{ops:Array Oper}{rest:List Oper}{Q:ca}{a0 a1 a2 a3:Option (List V)}{U X:Heap}{b cap:Nat}{u:V}{vs J:List V}{rs:List (List Int)}{r:List Int}{x:Int}{y:Nat}
  (ho:Nst (a0::a1::a2::a3::(U++X)) (U.length+4) (.sl b 0 (vs.length+1) cap 1) (vs++[u]) (rs++[r])) (h6:ab (a0::a1::a2::a3::(U++X)) b=some (vs++u::J)) (hl:vs.length=rs.length) (ha:cfg.lo<=U.length+4) (hd:cfg.thr<=U.length+4) (hu:r.length<=4000) (hy:y<=100)
  (H:∀ d' X' X'',stv cfg (a0::a1::a2::a3::(U++X')) b vs.length 1 (cellsOf d')=some (a0::a1::a2::a3::(U++X''))->Nst (a0::a1::a2::a3::(U++X'')) (U.length+4) (.sl b 0 (vs.length+1) cap 1) (vs++[d']) (rs++[r++[x]]) ->
   @wO P md' call cfg ⟨ops⟩ ⟨rest⟩ (put fr dst d') (a0::a1::a2::a3::(U++X')) ⟨Q⟩):
  @wS P md' call cfg ⟨dst⟩ ⟨fr⟩ (fX cfg (a0::a1::a2::a3::(U++X)) 1 y u 1 [.int .i64 x]) ⟨ops⟩ ⟨rest⟩ ⟨Q⟩:=by
 obtain⟨he,hf⟩:=ho.inn vs.length u r (by simp) (by simp[hl]);have h8:=ho.out.blk (b:=b) rfl;have hs:((r.map (V.int .i64)).length / 1+1)*y<=1099511627776:=by
  have:((r.map (V.int .i64)).length / 1+1)*y<=4001*100:=Nj (by simp;omega) hy;omega
 refine kB (lo:=U.length+4) he ha hd (by simp) rfl rfl (by omega) hs (by simp;omega) ?_;intro d' h' h7 hg hh hlen h9 hb;have ht:h'.take (U.length+4)=a0::a1::a2::a3::U:=by
  rw[hh];simp
 obtain⟨X',rfl⟩:=uj ht;have h0:=(h9 b (fun e=>hf b rfl e) h8.2).trans h6;have hj:=ao h0;have hm:((a0::a1::a2::a3::(U++X')).set b (some (vs++d'::J))).take (U.length+4)=a0::a1::a2::a3::U:=by
  rw[Mf h8.1];simp
 obtain⟨X'',hX⟩:=uj hm;have hw:cfg.wr b=true:=by simp only[Cfg.wr,LP,decide_eq_true_eq];left;omega
 have hn:stv cfg (a0::a1::a2::a3::(U++X')) b vs.length 1 (cellsOf d')=some (a0::a1::a2::a3::(U++X'')):=by
  rw[<- hX,h7.cells,EB,if_pos (show [d'].length=1 from rfl),gI,h0];simp only[Md];rw[if_pos,show vs++u::J=vs++(u::J) from rfl,ic [d'] vs (u::J) (by simp)]
  ·simp
  ·simp only[hw,M1,Ld,decide_eq_true_eq,LP,Ln];simp;left;omega
 refine H d' X' X'' hn ?_;rw[<- hX];rw[sB]at h7;have hq:isMap (vs++d'::J)=false:=by
  have hr:=dy h6;cases vs with
  | nil=>cases d'<;>first|rfl|simp[V.leaf]at hg
  | cons z zs=>cases z<;>first|rfl|simp[isMap]at hr
 refine ho.grow hl h7 h9 hb ?_ (fun c hc _=>ak (by rintro rfl;exact hc rfl)) hlen;rcases ho.out with⟨h1,-⟩|⟨b',n',cap',J',hv,h1,h2,h3,h4,h5⟩
 ·cases h1
 ·cases hv;rw[h6]at h3;have hJ:J=J':=by simpa using h3
  subst hJ;refine .inr ⟨b,vs.length+1,cap,J,rfl,h1,by simp,?_,by simpa using h4,h5⟩;rw[gM hj,hq];simp
end
variable {md':FuncId->Nat}{call:aF}{cfg:Cfg}
theorem tU:gn prog 330=some (.i64,.i64):=by kernel_rfl
theorem Gs{fr:List V}{h:Heap}:aB prog md' call cfg fr h (.makeMap 330 none)=some (.mref h.length,h++[some [.mp .i64 .i64 []]]):=by
 have h1:aB prog md' call cfg fr h (.makeMap 330 none)=dA prog h 330:=by
  simp only[aB,opV]
 rw[h1,dA,tU]
theorem Gt{fr:List V}{h:Heap}{a b c:Operand}{m x y:V}(ha:ev fr a=some m)(hb:ev fr b=some x)(hc:ev fr c=some y):aB prog md' call cfg fr h (.mapUpdate 330 a b c)=(cr prog cfg h 330 m x y).map fun h'=>(.no,h'):=by
 simp only[aB,opV,ha,hb,hc];cases cr prog cfg h 330 m x y<;>simp
theorem Gr{fr:List V}{h:Heap}{a b:Operand}{m x:V}{ok:Bool}(ha:ev fr a=some m)(hb:ev fr b=some x):aB prog md' call cfg fr h (.lookup 330 a b ok)=(fj prog h 330 m x ok).map fun v=>(v,h):=by
 simp only[aB,opV,ha,hb]
 try (cases fj prog h 330 m x ok<;>rfl)
theorem mapUp{h:Heap}{b:Nat}{l:List (Int×Int)}{x y:Int}(hb:mapOf h b=some (.i64,.i64,l))(hw:cfg.wr b=true):cr prog cfg h 330 (.mref b) (.int .i64 x) (.int .i64 y)=some (h.set b (some [.mp .i64 .i64 (lJ l x y)])):=by
 simp[cr,tU,hb,hw]
theorem mapLk{h:Heap}{b:Nat}{l:List (Int×Int)}{x:Int}(hb:mapOf h b=some (.i64,.i64,l)):fj prog h 330 (.mref b) (.int .i64 x) true=some (match oO l x with|some y=>.tup [.int .i64 y,.bool true]|none=>.tup [.int .i64 0,.bool false]):=by
 simp only[fj,tU,hb];cases oO l x<;>simp
theorem sO(x z y:Int):∀ l:List (Int×Int),oO (lJ l x y) z=if z=x then some y else oO l z
 | []=>by by_cases h:z=x<;>simp[lJ,oO,h]
 | (a,v)::r=>by
  unfold lJ;by_cases h1:x=a
  ·subst h1;simp only[beq_self_eq_true,if_true,oO];by_cases h:z=x<;>simp[h]
  ·have h0:(x==a)=false:=by simpa using h1
   rw[h0];simp only[Lv,if_false,oO,sO x z y r];by_cases h:z=a
   ·have:¬ z=x:=by omega
    simp[h];intro h2;omega
   ·simp[h]
end Bi
end Go.Ab
namespace Go.Ab.Bi
def con(F:Nat->Int)(i k:Nat):Bool:=(List.range i).any fun j=>F j==(k:Int)
theorem CP(F:Nat->Int)(k:Nat):con F 0 k=false:=rfl
theorem pY(F:Nat->Int)(i k:Nat):con F (i+1) k=(con F i k||F i==(k:Int)):=by
 simp[con,Oy]
structure Sq where
 l:List Int
 lev:Int
 sos:Int
 eos:Int
def Es(o:List Int)(F:Nat->Int)(rs:List (List Int))(lv kept:List Int)(e:Int)(k:Nat):Sq:=
 let l:=chn F rs rs.length k
 let E:=kG lv kept e (lvl lv (l.headD 0)) (kept.idxOf (l.headD 0)) (kept.idxOf (l.getLastD 0)) (ini (o.getD (l.getLastD 0).toNat 0))
 ⟨l,lvl lv (l.headD 0),E.1,E.2⟩
def jc(o:List Int)(F:Nat->Int)(rs:List (List Int))(lv kept:List Int)(e:Int):Nat->List Sq
 | 0=>[]
 | k+1=>if con F rs.length k then jc o F rs lv kept e k else jc o F rs lv kept e k++[Es o F rs lv kept e k]
theorem rC(o:List Int)(F:Nat->Int)(rs:List (List Int))(lv kept:List Int)(e:Int):∀ k,(jc o F rs lv kept e k).length<=k
 | 0=>by simp[jc]
 | k+1=>by
  have:=rC o F rs lv kept e k;unfold jc;split
  ·omega
  ·simp;omega
theorem Fs{F:Nat->Int}{rs:List (List Int)}{f:Nat}{j:Int}(hj:j<0):chn F rs f j=[]:=by
 cases f with
 | zero=>rfl
 | succ f=>unfold chn;rw[if_neg (by omega)]
theorem pV{F:Nat->Int}{rs:List (List Int)}{f j:Nat}{r:List Int}(hr:rs[j]?=some r):chn F rs (f+1) j=r++chn F rs f (F j):=by
 conv=>lhs;unfold chn
 rw[if_pos (by omega),Lr,K9,hr];rfl
def gT(F:Nat->Int)(N i:Nat):List Int:=(List.range N).map fun j=>if j<i then F j else 0
theorem lZ(F:Nat->Int)(N i:Nat):(gT F N i).length=N:=by simp[gT]
theorem Bb(F:Nat->Int)(N:Nat):gT F N 0=List.replicate N 0:=by
 apply LJ;intro j;by_cases h:j<N<;>simp[gT,h]
theorem vD{F:Nat->Int}{N i j:Nat}(hj:j<N)(hi:j<i):(gT F N i)[j]?=some (F j):=by simp[gT,hj,hi]
theorem vE(F:Nat->Int)(N i:Nat)(x:Int)(hx:x=F i):(gT F N i).set i x=gT F N (i+1):=by
 subst hx;apply LJ;intro j;by_cases hj:j<N
 ·by_cases h0:i=j
  ·subst h0;rw[Lm (by simpa[lZ]using hj),vD hj (by omega)]
  ·rw[Lb h0];simp only[gT,Lh,List.getElem?_range hj,LX];congr 1;by_cases h1:j<i
   ·rw[if_pos h1,if_pos (by omega)]
   ·rw[if_neg h1,if_neg (by omega)]
 ·rw[Lz (by simp[lZ];omega),Lz (by rw[lZ];omega)]
def gQ(F:Nat->Int)(N i:Nat):List Bool:=(List.range N).map fun k=>con F i k
theorem lX(F:Nat->Int)(N i:Nat):(gQ F N i).length=N:=by simp[gQ]
theorem A3(F:Nat->Int)(N:Nat):gQ F N 0=List.replicate N false:=by
 apply LJ;intro j;by_cases h:j<N<;>simp[gQ,CP,h]
theorem lW{F:Nat->Int}{N i k:Nat}(hk:k<N):(gQ F N i)[k]?=some (con F i k):=by simp[gQ,hk]
theorem CM{F:Nat->Int}{N i:Nat}(h:F i<0):gQ F N (i+1)=gQ F N i:=by
 unfold gQ;apply List.map_congr_left;intro k _;have:¬ F i=(k:Int):=by omega
 simp[pY,this]
theorem CO{F:Nat->Int}{N i k:Nat}(h:F i=k):(gQ F N i).set k true=gQ F N (i+1):=by
 apply LJ;intro j;by_cases hj:j<N
 ·by_cases h0:k=j
  ·subst h0;rw[Lm (by simpa[lX]using hj),lW hj,pY,h];simp
  ·rw[Lb h0,lW hj,lW hj,pY,h];have:¬ (k:Int)=(j:Int):=by omega
   simp[this]
 ·rw[Lz (by simp[lX];omega),Lz (by rw[lX];omega)]
theorem so{F:Nat->Int}{rs:List (List Int)}{kept:List Int}(hF:∀ j,j<rs.length->F j<0\/((j:Int)<F j/\F j<rs.length))(h3:rs.flatten=kept)(h0:∀ r∈rs,r≠[]){k:Nat}{r:List Int}(hr:rs[k]?=some r):
  (chn F rs rs.length k).Sublist kept/\(chn F rs rs.length k)≠[]/\(chn F rs rs.length k).head?=r.head?:=by
 have hk:=(K5.1 hr).1;obtain⟨f,hf⟩:∃ f,rs.length=f+1:=⟨rs.length-1,by omega⟩;have hs:=pV (F:=F) (f:=f) hr;rw[<- hf]at hs;have hne:=h0 r (K6 hr);refine⟨(zr F rs hF rs.length k hk).trans ?_,by rw[hs];simp[hne],?_⟩
 ·rw[<- h3]
  conv=>rhs;rw[<- List.take_append_drop k rs,List.flatten_append]
  exact N6 _ _
 ·rw[hs];cases r with
  | nil=>exact absurd rfl hne
  | cons a r=>rfl
theorem tR{l:List Int}{x:Int}(h:x∈l):l[l.idxOf x]?=some x:=by
 have hl:=List.idxOf_lt_length_of_mem h;rw[K4 hl,List.getElem_idxOf hl]
theorem vJ{l:List Int}(h:l≠[]):l[0]?=some (l.headD 0):=by
 cases l with
 | nil=>exact absurd rfl h
 | cons a l=>rfl
theorem Dz{l:List Int}(h:l≠[]):l[l.length-1]?=some (l.getLastD 0):=by
 rw[<- List.getLast?_eq_getElem?,List.getLast?_eq_some_getLast h];congr 1;cases l with
 | nil=>exact absurd rfl h
 | cons a l=>rfl
theorem CE{F:Nat->Int}{rs:List (List Int)}{k:Nat}{r:List Int}{x:Int}(hr:rs[k]?=some r)(hx:r[0]?=some x):(chn F rs rs.length k).headD 0=x:=by
 have hk:=(K5.1 hr).1;obtain⟨f,hf⟩:∃ f,rs.length=f+1:=⟨rs.length-1,by omega⟩;have hs:=pV (F:=F) (f:=f) hr;rw[<- hf]at hs;rw[hs];cases r with
 | nil=>simp at hx
 | cons a r=>simp at hx;simp[hx]
theorem IJ{o M:List Int}{rs:List (List Int)}{i:Nat}{r:List Int}{z:Int}(hr:rs[i]?=some r)(hz:r.getLast?=some z)(h:ini (o.getD z.toNat 0)=false\/M.getD z.toNat 0<0):fol o M rs i=-1:=by
 unfold fol;rw[K9,hr];simp only[MF,hz];rw[if_neg];rw[Ld,decide_eq_true_eq];rintro⟨h1,h2⟩;rcases h with h|h
 ·rw[h]at h1;cases h1
 ·omega
theorem C4{o M:List Int}{rs:List (List Int)}{i:Nat}{r:List Int}{z:Int}(hr:rs[i]?=some r)(hz:r.getLast?=some z)(h:bgn rs (M.getD z.toNat 0)=none):fol o M rs i=-1:=by
 unfold fol;rw[K9,hr];simp only[MF,hz,h];split<;>rfl
theorem C5{o M:List Int}{rs:List (List Int)}{i q:Nat}{r:List Int}{z:Int}(hr:rs[i]?=some r)(hz:r.getLast?=some z)(h1:ini (o.getD z.toNat 0)=true)(h2:¬ M.getD z.toNat 0<0)(h:bgn rs (M.getD z.toNat 0)=some q):fol o M rs i=q:=by
 unfold fol;rw[K9,hr];have:0<=M.getD z.toNat 0:=by omega
 simp only[MF,hz,h,h1,this,decide_true,Oo,if_true]
end Go.Ab.Bi
namespace Go.Ab.Bi
open Go.Proofs Go.Proofs.Tryz
def sqc(s:V×Sq):List V:=[s.1,.int .i64 s.2.lev,.int .i64 s.2.sos,.int .i64 s.2.eos]
def sqo(s:V×Sq):Own:=(1,s.1,s.2.l.map (V.int .i64))
def sqr(s:Sq):List V:=[il s.l,.int .i64 s.lev,.int .i64 s.sos,.int .i64 s.eos]
def sqv(ss:List Sq):V:=.lst (ss.map sqr)
theorem ky(ss:List (V×Sq)):(ss.flatMap sqc).length=ss.length*4:=by
 induction ss with
 | nil=>rfl
 | cons a l ih=>simp only[Mj,Ln,Lp,ih];simp[sqc];omega
theorem Et(ss:List (V×Sq))(s:V×Sq):(ss++[s]).flatMap sqc=ss.flatMap sqc++sqc s:=by simp
theorem tq:∀ ss:List (V×Sq),chunk 4 ss.length (ss.flatMap fun s=>sqr s.2)=(ss.map (·.2)).map sqr
 | []=>rfl
 | s::ss=>by
  have e:(s::ss).flatMap (fun s=>sqr s.2)=sqr s.2++ss.flatMap (fun s=>sqr s.2):=rfl;rw[e,Lp,chunk,show List.drop 4 (sqr s.2++ss.flatMap fun s=>sqr s.2)=ss.flatMap fun s=>sqr s.2 from rfl,tq ss];rfl
theorem Az{H:Heap}{n:Nat}:∀ (ss:List (V×Sq)),(∀ s∈ss,frz H n 5 s.1=some (il s.2.l))->(ss.flatMap sqc).mapM (frz H n 5)=some (ss.flatMap fun s=>sqr s.2)
 | [],_=>rfl
 | s::ss,h=>by
  have ih:=Az ss (fun x hx=>h x (Lc _ hx));have h0:=h s (Ll ..);have e:(s::ss).flatMap sqc=s.1::.int .i64 s.2.lev::.int .i64 s.2.sos::.int .i64 s.2.eos::ss.flatMap sqc:=rfl;have hi:∀ x,frz H n 5 (.int .i64 x)=some (.int .i64 x):=fun _=>rfl;rw[e];simp only[Mn,h0,hi,ih,NV,Nt,Md];rfl
theorem sq_rf(ss:List (V×Sq)):(ss.flatMap fun s=>sqr s.2).all V.rf=true:=by
 simp only[Nq];rw[Lk];intro s _;rfl
theorem FJ{H base:Heap}{ov:V}{ss:List (V×Sq)}{n:Nat}(h:Hp H base ((4,ov,ss.flatMap sqc)::ss.map sqo))(hn:n<=base.length):frz H n 6 ov=some (sqv (ss.map (·.2))):=by
 have hs:∀ s∈ss,frz H n 5 s.1=some (il s.2.l):=by
  intro s hs;have:=h.tail.own (sqo s) (MX hs);exact OwnC.frzI (d:=3) this hn
 rcases h.head with⟨rfl,hc⟩|⟨b,m,rfl,hm,h1,hb⟩
 ·have:ss=[]:=by
   have:=congrArg List.length hc;rw[ky]at this;exact LH.1 (by simp at this;omega)
  subst this;rfl
 ·have h0:m=ss.length:=by rw[ky]at hm;omega
  subst h0;rw[jA,if_neg (by omega),hb];have e:List.take (ss.length*4) (ss.flatMap sqc)=ss.flatMap sqc:=by rw[<- ky,LF]
  simp only[LU,Mo,ky,La,if_true,e,Az ss hs,sq_rf];rw[tq];rfl
theorem Dp{H base:Heap}{os:List Own}(h:Hp H base os):∃ Z,H=base++Z:=⟨H.drop base.length,by conv=>lhs;rw[<- List.take_append_drop base.length H,h.take]⟩
theorem pq1{α:Type}(a b c:α)(s:List α):(a::b::c::s).Perm (c::a::(s++[b])):=by
 refine (MJ _ (Nl ..)).trans ?_;refine (Nl ..).trans ?_;exact MJ _ (MJ _ (My ..).symm)
theorem pq2{α:Type}(a b c:α)(s:List α):(c::a::(s++[b])).Perm (c::(s++[a])++[b]):=by
 rw[LM,Ly];refine MJ _ ?_;simp only[LM,Mp];exact List.perm_middle.symm
end Go.Ab.Bi
