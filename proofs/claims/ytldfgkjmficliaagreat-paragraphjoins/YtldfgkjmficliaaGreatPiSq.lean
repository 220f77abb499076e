/- Several texts of this proof in one. -/
import Derived.Test.YtldfgkjmficliaaGreatPiSpec4
import Derived.Test.YtldfgkjmficliaaGreatPiL
import Derived.Test.YtldfgkjmficliaaGreatPaTq
import Derived.Test.YtldfgkjmficliaaGreatPiJ
import Derived.Test.YtldfgkjmficliaaGreatPiGen
set_option linter.unusedSimpArgs false
set_option linter.unusedVariables false
namespace Go.Ab
open Go.Proofs Go.Proofs.Tryz
namespace Bi
@[simp] theorem cv3_32{h:Heap}{k:IntKind}{n:Int}:fc prog h 3 168 (.int k n)=some (.int .u64 (IntKind.u64.wrap n),h):=by kernel_rfl
@[simp] theorem cv32_3{h:Heap}{k:IntKind}{n:Int}:fc prog h 168 3 (.int k n)=some (.int .i64 (IntKind.i64.wrap n),h):=by kernel_rfl
theorem zt{n:Int}(h1:0≤n)(h2:n≤9223372036854775807):IntKind.u64.wrap n=n:=by
 rw[IntKind.wrap_u64]
 omega
def Asc(l:List Int):Prop:=∀ (i j:Nat) (x y:Int),i<j→l[i]?=some x→l[j]?=some y→x<y
section
variable {prim:FuncId→Option Prim}(d:Nat) (cfg:Cfg) (h:Heap)
theorem Cw(hp:prim 151=none)(x:Int):af md (K prim (d+1)) cfg 151 [.int .i64 x] h=some (.bool false,h):=by
 refine bo rfl hp func151 rfl rfl rfl (by simp) ?_
 simp
theorem Fe(hp:prim 113=none)(hp2:prim 151=none)(x y:Int):af md (K prim (d+2)) cfg 113 [.int .i64 x,.int .i64 y] h=some (.bool (decide (x<y)),h):=by
 refine bo rfl hp func113 rfl rfl rfl (by simp) ?_
 have hN:=fun cfg h x=>Cw (prim:=prim) d cfg h hp2 x
 simp[hN]
set_option maxHeartbeats 2000000 in
theorem wi(hp:∀ f,Np2 f→prim f=none)(l:List Int)(hl:l.length≤2000)(ha:Asc l)(k:Nat)(x:Int)(hk:l[k]?=some x){args:List V}(hargs:args.mapM (frzA h)=some [il l,.int .i64 x]):
  af md (K prim (d+3)) cfg 70 args h=some (.tup [.int .i64 k,.bool true],h):=by
 refine call3 rfl (hp 70 (by decide)) func70 rfl rfl rfl (args':=[il l,.int .i64 x]) hargs ?_
 have hL:=fun cfg h x y=>Fe (prim:=prim) d cfg h (hp 113 (by decide)) (hp 151 (by decide)) x y
 have hkl:=(List.getElem?_eq_some_iff.1 hk).1
 simp
 refine aj (fun m fr H=>∃ lo hi:Nat,lo≤k∧k≤hi∧hi≤l.length∧m=hi-lo∧H=[]∧Slots 54 [(0,il l),(1,.int .i64 x),(6,.int .i64 l.length),(7,.int .i64 lo),(8,.int .i64 hi)] fr) (m:=l.length) (by omega) ⟨0,l.length,by omega,by omega,by omega,by omega,rfl,by simp⟩ ?_
 rintro m fr H ⟨lo,hi,h1,h2,h3,rfl,rfl,hs⟩
 obtain⟨j,rfl⟩:=hs.ex
 clear hs
 by_cases hlt:lo<hi
 ·obtain⟨y,hy⟩:∃ y,l[(lo+hi) / 2]?=some y:=⟨_,List.getElem?_eq_getElem (by omega)⟩
  have hf:((lo:Int)+hi).fdiv (2 ^ (min 1 IntKind.u64.bits))=((lo+hi) / 2:Nat):=by
   rw[show (2:Int) ^ (min 1 IntKind.u64.bits)=2 from rfl,Int.fdiv_eq_ediv_of_nonneg _ (by omega)]
   omega
  have hm2:(((lo:Int)+hi) / 2).toNat=(lo+hi) / 2:=by omega
  simp(disch:=omega)[hlt,wrap64,zt,hf,hm2,hy,hL,-getElem?_pos]
  by_cases hc:y<x
  ·simp(disch:=omega)[hc,wrap64,-getElem?_pos]
   refine ae (m':=hi-((lo+hi) / 2+1)) (by omega) ⟨(lo+hi) / 2+1,hi,?_,h2,h3,rfl,rfl,by simp(disch:=omega)⟩
   rcases Nat.lt_or_ge k ((lo+hi) / 2+1) with hlt2|hge
   ·exfalso
    rcases Nat.lt_or_ge k ((lo+hi) / 2) with h4|h4
    ·have:=ha _ _ _ _ h4 hk hy;omega
    ·obtain rfl:k=(lo+hi) / 2:=by omega
     rw[hk]at hy;cases hy;omega
   ·exact hge
  ·simp(disch:=omega)[hc,-getElem?_pos]
   refine ae (m':=(lo+hi) / 2-lo) (by omega) ⟨lo,(lo+hi) / 2,h1,?_,by omega,rfl,rfl,by simp(disch:=omega)⟩
   rcases Nat.lt_or_ge ((lo+hi) / 2) k with hlt2|hge
   ·have:=ha _ _ _ _ hlt2 hy hk;omega
   ·exact hge
 ·have:lo=k:=by omega
  subst this
  simp(disch:=omega)[hlt,hk,hkl,own,-getElem?_pos]
theorem qh(hp:prim 111=none)(t o M:List Int)(n:Nat)(e:Int)(y0 y1 y2:Option (List V))(T:Heap)(i:Nat)(x:Int)(hx:o[i]?=some x):
  af md (K prim (d+1)) cfg 111 [.ptr 3 0,.int .i64 i] (y0::y1::y2::some (pcs t o M n e)::T)=some (.bool (gone x),y0::y1::y2::some (pcs t o M n e)::T):=by
 refine wj rfl hp func111 rfl rfl rfl (by simp) ?_
 unfold gone
 by_cases h16:x=16
 ·simp(disch:=omega)[hx,h16,-getElem?_pos]
 ·by_cases h14:x=14
  ·simp(disch:=omega)[hx,h14,-getElem?_pos]
  ·by_cases h17:x=17
   ·simp(disch:=omega)[hx,h17,-getElem?_pos]
   ·by_cases h15:x=15
    ·simp(disch:=omega)[hx,h15,-getElem?_pos]
    ·by_cases h18:x=18
     ·simp(disch:=omega)[hx,h18,-getElem?_pos]
     ·by_cases h9:x=9
      ·simp(disch:=omega)[hx,h9,-getElem?_pos]
      ·simp(disch:=omega)[hx,h16,h14,h17,h15,h18,h9,-getElem?_pos]
end
end Bi
end Go.Ab
namespace Go.Ab
open Go.Proofs Go.Proofs.Tryz
namespace Bi
def jO(lv kept:List Int)(e lev:Int)(p q:Nat)(last:Bool):Int×Int:=
 (eS (max lev (if 0<p then lvl lv (kept.getD (p-1) 0) else e)),eS (max lev (if q+1<kept.length∧last=false then lvl lv (kept.getD (q+1) 0) else e)))
theorem zV{h:Heap}{n d b cap:Nat}{k:IntKind}{l:List Int}{J:List V}(hb:ab h b=some (l.map (V.int k)++J))(hn:n≤b):frz h n (d+2) (.sl b 0 l.length cap 1)=some (.lst (l.map fun x=>[.int k x])):=by
 have e:¬ b<n:=by omega
 have e3:chunk 1 l.length (l.map (V.int k))=l.map fun x=>[V.int k x]:=by
  have:=gE (l.map (V.int k))
  simp only[List.length_map,List.map_map]at this
  exact this
 have e4:(l.map (V.int k)).all V.rf=true:=by
  rw[List.all_eq_true]
  intro c hc
  obtain⟨x,_,rfl⟩:=List.mem_map.1 hc
  rfl
 have e5:(l.map (V.int k)++J).take l.length=l.map (V.int k):=List.take_left' (by simp)
 rw[iu]
 simp only[e,if_false,hb,Nat.mul_one,List.drop_zero,e5,eY,e3,e4,if_true]
 rw[if_pos (by simp)]
theorem wP{h:Heap}{b cap:Nat}{k:IntKind}{l:List Int}{J:List V}(hb:ab h b=some (l.map (V.int k)++J)):frzA h (.sl b 0 l.length cap 1)=some (.lst (l.map fun x=>[.int k x])):=by
 unfold frzA
 rw[zV (d:=4) hb (Nat.zero_le _)]
 rfl
theorem gb{k:IntKind}{l:List Int}{J:List V}{i:Nat}{x:Int}(hx:l[i]?=some x):slot (l.map (V.int k)++J) i=some (.int k x):=by
 rw[slot,List.getElem?_append_left (by simpa using (List.getElem?_eq_some_iff.1 hx).1),List.getElem?_map,hx]
 rfl
section
variable {prim:FuncId→Option Prim}(d:Nat) (cfg:Cfg)
set_option maxRecDepth 100000 in
set_option maxHeartbeats 4000000 in
theorem En(hp:∀ f,Np2 f→prim f=none)(t o M:List Int)(n:Nat)(e:Int)(he:0≤e)(hon:o.length=n)(lv kept l:List Int)(hlv:lv.length=n)(hkl:kept.length≤2000)(hll:l.length≤2000)(hk:Pl n kept)(ha:Asc kept)(y0 y1:Option (List V))(T:Heap)(lev:Int)(hlev:0≤lev)(kb lb kc lc p q:Nat)(f g og:Int)
  (JK JL:List V) (hkb:ab T kb=some (kept.map (V.int .i64)++JK)) (hlb:ab T lb=some (l.map (V.int .i64)++JL)) (hf:l[0]?=some f) (hg:l[l.length-1]?=some g) (hpf:kept[p]?=some f) (hqg:kept[q]?=some g) (hog:o[g.toNat]?=some og):
  af md (K prim (d+4)) cfg 145 [.ptr 3 0,.agg [.sl (lb+1+1+1+1) 0 l.length lc 1,.int .i64 lev,.int .i64 0,.int .i64 0],.sl (kb+1+1+1+1) 0 kept.length kc 1] (y0::y1::some (lv.map (V.int .i64))::some (pcs t o M n e)::T) =
   some (.agg [.sl (lb+1+1+1+1) 0 l.length lc 1,.int .i64 lev,.int .i64 (jO lv kept e lev p q (ini og)).1,.int .i64 (jO lv kept e lev p q (ini og)).2],y0::y1::some (lv.map (V.int .i64))::some (pcs t o M n e)::T):=by
 refine wj rfl (hp 145 (by decide)) func145 rfl rfl rfl (by simp) ?_
 have hkbl:=aw hkb
 have hKg:∀ (i:Nat) (x:Int),kept[i]?=some x→slot (kept.map (V.int .i64)++JK) i=some (.int .i64 x):=fun i x hx=>gb hx
 have hLg:∀ (i:Nat) (x:Int),l[i]?=some x→slot (l.map (V.int .i64)++JL) i=some (.int .i64 x):=fun i x hx=>gb hx
 have hKf:=hKg p f hpf
 have hlbl:=aw hlb
 have hkb':∀ T',ab (T++T') kb=some (kept.map (V.int .i64)++JK):=fun T'=>(al hkbl).trans hkb
 have hlb':∀ T',ab (T++T') lb=some (l.map (V.int .i64)++JL):=fun T'=>(al hlbl).trans hlb
 have hfz:∀ y0 y1 y2 y3 T',frzA (y0::y1::y2::y3::(T++T')) (.sl (kb+1+1+1+1) 0 kept.length kc 1)=some (il kept):=by
  intro y0 y1 y2 y3 T'
  have h1:ab (y0::y1::y2::y3::(T++T')) (kb+1+1+1+1)=some (kept.map (V.int .i64)++JK):=by simp[hkb']
  exact wP h1
 have hS:=fun cfg h x hx=>mN (prim:=prim) (d+2) cfg h (hp 147 (by decide)) x hx
 have hI:=fun cfg h x=>kD (prim:=prim) (d+2) cfg h (hp 142 (by decide)) x
 have hB:=fun cfg h k x hk args hargs=>wi (prim:=prim) d cfg h hp kept hkl ha k x hk (args:=args) hargs
 have hBp:∀ cfg y0 y1 y2 y3 T',af md (K prim (d+3)) cfg 70 [.sl (kb+1+1+1+1) 0 kept.length kc 1,.int .i64 f] (y0::y1::y2::y3::(T++T'))=some (.tup [.int .i64 p,.bool true],y0::y1::y2::y3::(T++T')):=fun cfg y0 y1 y2 y3 T'=>hB cfg _ p f hpf _ (by simp[List.mapM_cons,hfz])
 have hBq:∀ cfg y0 y1 y2 y3 T',af md (K prim (d+3)) cfg 70 [.sl (kb+1+1+1+1) 0 kept.length kc 1,.int .i64 g] (y0::y1::y2::y3::(T++T'))=some (.tup [.int .i64 q,.bool true],y0::y1::y2::y3::(T++T')):=fun cfg y0 y1 y2 y3 T'=>hB cfg _ q g hqg _ (by simp[List.mapM_cons,hfz])
 have b4:∀ x T',isMap x=false→ab (T++some x::T') T.length=some x:=fun x T' hx=>by
  have:=bD (h:=T) (r:=some x::T') (k:=0)
  simp[hx]
 have hm59:md 147=0:=rfl
 have hwl:∀ q,(Cfg.wr ⟨T.length+1+1+1+1,[],q⟩ (T.length+1+1+1+1))=true:=fun q=>by simp[Cfg.wr]
 have hfl:∀ h,frz h (T.length+1+1+1+1) 5 (.sl (lb+1+1+1+1) 0 l.length lc 1)=some (.sl (lb+1+1+1+1) 0 l.length lc 1):=fun h=>by rw[iu,if_pos (by omega)]
 have hwm:∀ q,(Cfg.wr ⟨T.length+1+1+1+1,[],q⟩ (T.length+1+1+1+1+1))=true:=fun q=>by simp[Cfg.wr]
 have hl0:0<l.length:=(List.getElem?_eq_some_iff.1 hf).1
 have hf':=hLg _ _ hf
 have hg':=hLg _ _ hg
 have hlen1:((l.length:Int)-1).toNat=l.length-1:=by omega
 have hgr:=hk.rng g (List.mem_of_getElem? hqg)
 have hpl:=(List.getElem?_eq_some_iff.1 hpf).1
 have hql:=(List.getElem?_eq_some_iff.1 hqg).1
 simp(disch:=omega)
 refine ai 9 (by kernel_rfl) ?_
 simp(disch:=omega)[hlb',hf',hBp,-getElem?_pos]
 by_cases h0:0<p
 ·obtain⟨u,hu⟩:∃ u,kept[p-1]?=some u:=⟨_,List.getElem?_eq_getElem (by omega)⟩
  have hur:=hk.rng u (List.mem_of_getElem? hu)
  have hlu:lv[u.toNat]?=some (lvl lv u):=by rw[lvl,List.getD_eq_getElem?_getD,List.getElem?_eq_getElem (by omega)];rfl
  have hpn:((p:Int)-1).toNat=p-1:=by omega
  have hbf:(if 0<p then lvl lv (kept.getD (p-1) 0) else e)=lvl lv u:=by rw[if_pos h0,List.getD_eq_getElem?_getD,hu];rfl
  simp(disch:=omega)[h0]
  refine ai 9 (by kernel_rfl) ?_
  simp(disch:=omega)[hpn,hkb',hKg _ _ hu,hlu,wrap64,-getElem?_pos]
  have hE1:∀ AF,0≤max lev AF:=fun AF=>by omega
  by_cases hq:q+1<kept.length
  ·have hqI:(q:Int)+1<kept.length:=by omega
   have hqn:((q:Int)+1).toNat=q+1:=by omega
   cases hio:ini og
   ·obtain⟨u2,hu2⟩:∃ u,kept[q+1]?=some u:=⟨_,List.getElem?_eq_getElem hq⟩
    have hur2:=hk.rng u2 (List.mem_of_getElem? hu2)
    have hlu2:lv[u2.toNat]?=some (lvl lv u2):=by rw[lvl,List.getD_eq_getElem?_getD,List.getElem?_eq_getElem (by omega)];rfl
    have e2:jO lv kept e lev p q false=(eS (max lev (lvl lv u)),eS (max lev (lvl lv u2))):=by unfold jO;rw[hbf,if_pos ⟨hq,rfl⟩,List.getD_eq_getElem?_getD,hu2];rfl
    rw[e2]
    simp(disch:=omega)[hlb,hg',hBq,hqI,hog,hI,hio,wrap64,-getElem?_pos]
    refine ai 9 (by kernel_rfl) ?_
    simp(disch:=omega)[hqn,hkb',hKg _ _ hu2,hlu2,wrap64,-getElem?_pos]
    refine ai 11 (by kernel_rfl) ?_
    simp(disch:=omega)[hS,hm59,hwl,hwm,hfl]
    skip
   ·have e2:jO lv kept e lev p q true=(eS (max lev (lvl lv u)),eS (max lev e)):=by unfold jO;rw[hbf,if_neg (by simp)]
    rw[e2]
    simp(disch:=omega)[hlb,hg',hBq,hqI,hog,hI,hio,wrap64,-getElem?_pos]
    refine ai 11 (by kernel_rfl) ?_
    simp(disch:=omega)[hS,hm59,hwl,hwm,hfl]
    skip
  ·have hqI:¬ (q:Int)+1<kept.length:=by omega
   have e2:jO lv kept e lev p q (ini og)=(eS (max lev (lvl lv u)),eS (max lev e)):=by unfold jO;rw[hbf,if_neg (fun h=>hq h.1)]
   rw[e2]
   simp(disch:=omega)[hlb,hg',hBq,hqI,wrap64,-getElem?_pos]
   refine ai 11 (by kernel_rfl) ?_
   simp(disch:=omega)[hS,hm59,hwl,hwm,hfl]
   skip
 ·have hbf:(if 0<p then lvl lv (kept.getD (p-1) 0) else e)=e:=by rw[if_neg h0]
  simp(disch:=omega)[h0]
  have hE1:∀ AF,0≤max lev AF:=fun AF=>by omega
  by_cases hq:q+1<kept.length
  ·have hqI:(q:Int)+1<kept.length:=by omega
   have hqn:((q:Int)+1).toNat=q+1:=by omega
   cases hio:ini og
   ·obtain⟨u2,hu2⟩:∃ u,kept[q+1]?=some u:=⟨_,List.getElem?_eq_getElem hq⟩
    have hur2:=hk.rng u2 (List.mem_of_getElem? hu2)
    have hlu2:lv[u2.toNat]?=some (lvl lv u2):=by rw[lvl,List.getD_eq_getElem?_getD,List.getElem?_eq_getElem (by omega)];rfl
    have e2:jO lv kept e lev p q false=(eS (max lev (e)),eS (max lev (lvl lv u2))):=by unfold jO;rw[hbf,if_pos ⟨hq,rfl⟩,List.getD_eq_getElem?_getD,hu2];rfl
    rw[e2]
    simp(disch:=omega)[hlb',hg',hlen1,hBq,hqI,hog,hI,hio,wrap64,-getElem?_pos]
    refine ai 9 (by kernel_rfl) ?_
    simp(disch:=omega)[hqn,hkb',hKg _ _ hu2,hlu2,wrap64,-getElem?_pos]
    refine ai 11 (by kernel_rfl) ?_
    simp(disch:=omega)[hS,hm59,hwl,hwm,hfl]
    skip
   ·have e2:jO lv kept e lev p q true=(eS (max lev (e)),eS (max lev e)):=by unfold jO;rw[hbf,if_neg (by simp)]
    rw[e2]
    simp(disch:=omega)[hlb',hg',hlen1,hBq,hqI,hog,hI,hio,wrap64,-getElem?_pos]
    refine ai 11 (by kernel_rfl) ?_
    simp(disch:=omega)[hS,hm59,hwl,hwm,hfl]
    skip
  ·have hqI:¬ (q:Int)+1<kept.length:=by omega
   have e2:jO lv kept e lev p q (ini og)=(eS (max lev (e)),eS (max lev e)):=by unfold jO;rw[hbf,if_neg (fun h=>hq h.1)]
   rw[e2]
   simp(disch:=omega)[hlb',hg',hlen1,hBq,hqI,wrap64,-getElem?_pos]
   refine ai 11 (by kernel_rfl) ?_
   simp(disch:=omega)[hS,hm59,hwl,hwm,hfl]
   skip
end
end Bi
end Go.Ab
namespace Go.Ab.Bi
open Go.Proofs Go.Proofs.Tryz
structure Nst(H:Heap)(lo:Nat)(v:V)(vs:List V)(rs:List (List Int)):Prop where
 out:Stk H lo 1 v vs
 len:vs.length=rs.length
 inn:∀ (i:Nat) (u:V) (r:List Int),vs[i]?=some u→rs[i]?=some r→Stk H lo 1 u (r.map (V.int .i64))∧Dj v u
 dj:∀ (i j:Nat) (u w:V),i<j→vs[i]?=some u→vs[j]?=some w→Dj u w
theorem Nst.zero{H:Heap}{lo:Nat}:Nst H lo .nils [] []:=⟨.inl ⟨rfl,rfl⟩,rfl,fun _ _ _ h=>by simp at h,fun _ _ _ _ _ h=>by simp at h⟩
theorem Nst.rs_at{H:Heap}{lo:Nat}{v:V}{vs:List V}{rs:List (List Int)}(h:Nst H lo v vs rs){i:Nat}{u:V}(hu:vs[i]?=some u):∃ r,rs[i]?=some r:=
 ⟨_,List.getElem?_eq_getElem (h.len ▸ (List.getElem?_eq_some_iff.1 hu).1)⟩
theorem Nst.blk{H:Heap}{lo:Nat}{v:V}{vs:List V}{rs:List (List Int)}(h:Nst H lo v vs rs){i:Nat}{u:V}(hu:vs[i]?=some u){b:Nat}(hb:cV u=some b):lo≤b∧b<H.length:=by
 obtain⟨r,hr⟩:=h.rs_at hu
 exact (h.inn i u r hu hr).1.blk hb
theorem Nst.frame{H H' : Heap}{lo : Nat}{v : V}{vs : List V}{rs : List (List Int)}(h : Nst H lo v vs rs)(hf : ∀ c, lo ≤ c → c < H.length → ab H' c = ab H c): Nst H' lo v vs rs :=
  ⟨h.out.of_blk fun b hb => hf b (h.out.blk hb).1 (h.out.blk hb).2, h.len,
   fun i u r hu hr => ⟨(h.inn i u r hu hr).1.of_blk fun b hb => hf b (h.blk hu hb).1 (h.blk hu hb).2, (h.inn i u r hu hr).2⟩, h.dj⟩
theorem Nst.more{H H':Heap}{lo:Nat}{v d:V}{vs:List V}{rs:List (List Int)}(h:Nst H lo v vs rs)(hs:Stk H' lo 1 d (vs++[.nils]))(hf:∀ c,cV v≠some c→c<H.length→ab H' c=ab H c)(hb:cV d=cV v∨cV d=some H.length):Nst H' lo d (vs++[.nils]) (rs++[[]]):=by
 refine⟨hs,by simp[h.len],fun i u r hu hr=>?_,fun i j u w hij hu hw=>?_⟩
 ·by_cases hi:i<vs.length
  ·rw[List.getElem?_append_left hi]at hu
   rw[List.getElem?_append_left (h.len ▸ hi)]at hr
   obtain⟨h1,h2⟩:=h.inn i u r hu hr
   refine⟨h1.of_blk fun b hbu=>hf b (fun hv=>h2 b hv hbu) (h1.blk hbu).2,fun b hd hbu=>?_⟩
   rcases hb with hb|hb
   ·exact h2 b (hb ▸ hd) hbu
   ·rw[hb]at hd
    cases hd
    exact absurd (h1.blk hbu).2 (by omega)
  ·have hl:=(List.getElem?_eq_some_iff.1 hu).1
   have hi':i=vs.length:=by simp at hl;omega
   subst hi'
   rw[List.getElem?_append_right (Nat.le_refl _)]at hu
   rw[List.getElem?_append_right (by rw[h.len];exact Nat.le_refl _)]at hr
   simp[h.len]at hu hr
   subst hu hr
   exact⟨.inl ⟨rfl,rfl⟩,Dj.nils⟩
 ·have hl:=(List.getElem?_eq_some_iff.1 hw).1
  have hi:i<vs.length:=by simp at hl;omega
  rw[List.getElem?_append_left hi]at hu
  by_cases hj:j<vs.length
  ·rw[List.getElem?_append_left hj]at hw
   exact h.dj i j u w hij hu hw
  ·have hj':j=vs.length:=by simp at hl;omega
   subst hj'
   rw[List.getElem?_append_right (Nat.le_refl _)]at hw
   simp at hw
   subst hw
   exact Dj.nils
theorem Nst.grow{H H1 H2:Heap}{lo:Nat}{v u d:V}{vs:List V}{rs:List (List Int)}{r r':List Int}(h:Nst H lo v (vs++[u]) (rs++[r]))(hl:vs.length=rs.length)(hs:Stk H1 lo 1 d (r'.map (V.int .i64)))
  (hf:∀ c,cV u≠some c→c<H.length→ab H1 c=ab H c) (hb:cV d=cV u∨cV d=some H.length)
  (hs2:Stk H2 lo 1 v (vs++[d])) (hf2:∀ c,cV v≠some c→c<H1.length→ab H2 c=ab H1 c) (hle:H.length≤H1.length):Nst H2 lo v (vs++[d]) (rs++[r']):=by
 have hu0:(vs++[u])[vs.length]?=some u:=by simp
 obtain⟨hu1,hu2⟩:=h.inn vs.length u r hu0 (by simp[hl])
 have hvd:Dj v d:=by
  intro b hv hd
  rcases hb with hb|hb
  ·exact hu2 b hv (hb ▸ hd)
  ·rw[hb]at hd
   cases hd
   exact absurd (h.out.blk hv).2 (by omega)
 refine⟨hs2,by simp[hl],fun i w q hw hq=>?_,fun i j w z hij hw hz=>?_⟩
 ·by_cases hi:i<vs.length
  ·rw[List.getElem?_append_left hi]at hw
   rw[List.getElem?_append_left (hl ▸ hi)]at hq
   have hw0:(vs++[u])[i]?=some w:=by rw[List.getElem?_append_left hi];exact hw
   obtain⟨h1,h2⟩:=h.inn i w q hw0 (by rw[List.getElem?_append_left (hl ▸ hi)];exact hq)
   have h3:=h.dj i vs.length w u hi hw0 hu0
   refine⟨h1.of_blk fun b hbw=>?_,h2⟩
   have hbl:=(h1.blk hbw).2
   rw[hf2 b (fun hv=>h2 b hv hbw) (by omega),hf b (fun hbu=>h3 b hbw hbu) hbl]
  ·have hl1:=(List.getElem?_eq_some_iff.1 hw).1
   have hi':i=vs.length:=by simp at hl1;omega
   subst hi'
   rw[List.getElem?_append_right (Nat.le_refl _)]at hw
   rw[List.getElem?_append_right (by rw[hl];exact Nat.le_refl _)]at hq
   simp[hl]at hw hq
   subst hw hq
   exact⟨hs.of_blk fun b hbd=>hf2 b (fun hv=>hvd b hv hbd) (hs.blk hbd).2,hvd⟩
 ·have hl1:=(List.getElem?_eq_some_iff.1 hz).1
  have hi:i<vs.length:=by simp at hl1;omega
  rw[List.getElem?_append_left hi]at hw
  have hw0:(vs++[u])[i]?=some w:=by rw[List.getElem?_append_left hi];exact hw
  by_cases hj:j<vs.length
  ·rw[List.getElem?_append_left hj]at hz
   exact h.dj i j w z hij hw0 (by rw[List.getElem?_append_left hj];exact hz)
  ·have hj':j=vs.length:=by simp at hl1;omega
   subst hj'
   rw[List.getElem?_append_right (Nat.le_refl _)]at hz
   simp at hz
   subst hz
   have h3:=h.dj i vs.length w u hi hw0 hu0
   intro b hbw hbd
   rcases hb with hb|hb
   ·exact h3 b hbw (hb ▸ hbd)
   ·rw[hb]at hbd
    cases hbd
    exact absurd (h.blk hw0 hbw).2 (by omega)
end Go.Ab.Bi
namespace Go.Ab.Bi
def aX(o:List Int):Nat→List Int
 | 0=>[]
 | k+1=>if gone (o.getD k 0) then aX o k else aX o k++[(k:Int)]
def nr(rs:List (List Int))(x:Int):List (List Int):=rs.dropLast++[rs.getLastD []++[x]]
def grp(lv kept:List Int):Nat→List (List Int)
 | 0=>[]
 | k+1=>if k=0∨lvl lv (kept.getD k 0)≠lvl lv (kept.getD (k-1) 0) then grp lv kept k++[[kept.getD k 0]] else nr (grp lv kept k) (kept.getD k 0)
def bgn(rs:List (List Int))(x:Int):Option Nat:=rs.findIdx? fun r=>r.head?==some x
def fol(o M:List Int)(rs:List (List Int))(i:Nat):Int:=
 match (rs.getD i []).getLast? with
 | none=>-1
 | some z=>if ini (o.getD z.toNat 0)&&decide (0≤M.getD z.toNat 0) then match bgn rs (M.getD z.toNat 0) with|some k=>(k:Int)|none=>-1 else -1
def chn(F:Nat→Int)(rs:List (List Int)):Nat→Int→List Int
 | 0,_=>[]
 | f+1,j=>if 0≤j then rs.getD j.toNat []++chn F rs f (F j.toNat) else []
theorem eK(o:List Int):∀ (k:Nat) (x:Int),x∈aX o k→0≤x∧x<k
 | 0,x,h=>by simp[aX]at h
 | k+1,x,h=>by
  unfold aX at h
  split at h
  ·have:=eK o k x h
   omega
  ·rcases List.mem_append.1 h with h|h
   ·have:=eK o k x h
    omega
   ·simp at h
    omega
theorem gM(o:List Int):∀ k,(aX o k).length≤k
 | 0=>by simp[aX]
 | k+1=>by
  have:=gM o k
  unfold aX
  split
  ·omega
  ·simp;omega
theorem fF(o:List Int):∀ k,(aX o k).Pairwise (·<·)
 | 0=>by simp[aX]
 | k+1=>by
  unfold aX
  split
  ·exact fF o k
  ·refine List.pairwise_append.2 ⟨fF o k,by simp,?_⟩
   intro a ha b hb
   simp at hb
   have:=eK o k a ha
   omega
theorem GR{l:List Int}(h:l.Pairwise (·<·)):Asc l:=by
 intro i j x y hij hx hy
 obtain⟨hi,rfl⟩:=List.getElem?_eq_some_iff.1 hx
 obtain⟨hj,rfl⟩:=List.getElem?_eq_some_iff.1 hy
 exact List.pairwise_iff_getElem.1 h i j hi hj hij
theorem xI{rs:List (List Int)}(h:rs≠[])(x:Int):(nr rs x).flatten=rs.flatten++[x]:=by
 obtain⟨a,b,rfl⟩:∃ a b,rs=a++[b]:=⟨rs.dropLast,rs.getLast h,(List.dropLast_concat_getLast h).symm⟩
 simp[nr]
theorem sH(lv kept:List Int):∀ k,0<k→grp lv kept k≠[]
 | 0,h=>by omega
 | k+1,_=>by
  unfold grp nr
  split<;>simp
theorem lk(lv kept:List Int):∀ k,k≤kept.length→(grp lv kept k).flatten=kept.take k
 | 0,_=>by simp[grp]
 | k+1,h=>by
  have ih:=lk lv kept k (by omega)
  have hg:kept[k]?=some (kept.getD k 0):=by rw[List.getD_eq_getElem?_getD,List.getElem?_eq_getElem (by omega)];rfl
  have ht:kept.take (k+1)=kept.take k++[kept.getD k 0]:=by rw[List.take_add_one,hg];rfl
  rw[ht,← ih]
  rw[show grp lv kept (k+1)=if k=0∨lvl lv (kept.getD k 0)≠lvl lv (kept.getD (k-1) 0) then grp lv kept k++[[kept.getD k 0]] else nr (grp lv kept k) (kept.getD k 0) from rfl]
  split
  ·simp
  ·rename_i hn
   exact xI (sH lv kept k (by omega)) _
theorem nU(lv kept:List Int):∀ k,∀ r∈grp lv kept k,r≠[]
 | 0,r,h=>by simp[grp]at h
 | k+1,r,h=>by
  unfold grp at h
  split at h
  ·rcases List.mem_append.1 h with h|h
   ·exact nU lv kept k r h
   ·simp at h;simp[h]
  ·rcases List.mem_append.1 h with h|h
   ·exact nU lv kept k r (List.dropLast_subset _ h)
   ·simp at h;simp[h]
theorem nV(lv kept:List Int):∀ k,(grp lv kept k).length≤k
 | 0=>by simp[grp]
 | k+1=>by
  have:=nV lv kept k
  unfold grp
  split
  ·simp;omega
  ·rename_i hn
   have:=sH lv kept k (by omega)
   have:=List.length_pos_iff.2 this
   simp[nr];omega
theorem yd(F:Nat→Int)(rs:List (List Int))(hF:∀ j,j<rs.length→F j<0∨((j:Int)<F j∧F j<rs.length)):∀ (f j:Nat),j<rs.length→(chn F rs f j).Sublist (rs.drop j).flatten
 | 0,j,_=>by simp[chn]
 | f+1,j,hj=>by
  unfold chn
  rw[if_pos (by omega),List.drop_eq_getElem_cons hj,List.flatten_cons]
  have hd:rs.getD ((j:Int)).toNat []=rs[j]:=by rw[Int.toNat_natCast,List.getD_eq_getElem?_getD,List.getElem?_eq_getElem hj];rfl
  rw[hd]
  refine List.Sublist.append (List.Sublist.refl _) ?_
  rcases hF j hj with h|⟨h1,h2⟩
  ·cases f with
   | zero=>simp[chn]
   | succ f=>simp[chn,Int.not_le.2 (by simpa using h)]
  ·obtain⟨k,hk⟩:∃ k:Nat,F j=k:=⟨(F j).toNat,by omega⟩
   rw[Int.toNat_natCast,hk]
   refine (yd F rs hF f k (by omega)).trans ?_
   obtain⟨r,hr⟩:∃ r,k=(j+1)+r:=⟨k-(j+1),by omega⟩
   rw[hr,← List.drop_drop]
   generalize rs.drop (j+1)=l
   have:l=l.take r++l.drop r:=(List.take_append_drop r l).symm
   conv=>rhs;rw[this]
   rw[List.flatten_append]
   exact List.sublist_append_right _ _
theorem oI{rs:List (List Int)}{x:Int}{k:Nat}(h:bgn rs x=some k):∃ r,rs[k]?=some r∧r.head?=some x:=by
 unfold bgn at h
 obtain⟨hk,h1,_⟩:=List.findIdx?_eq_some_iff_getElem.1 h
 exact⟨rs[k],List.getElem?_eq_getElem hk,by simpa using h1⟩
theorem wN{o M:List Int}{rs:List (List Int)}(hM:MOK o M)(hp:rs.flatten.Pairwise (·<·))(hn:∀ x∈rs.flatten,0≤x∧x<o.length)(j:Nat)(hj:j<rs.length):fol o M rs j<0∨((j:Int)<fol o M rs j∧fol o M rs j<rs.length):=by
 unfold fol
 have hd:rs.getD j []=rs[j]:=by rw[List.getD_eq_getElem?_getD,List.getElem?_eq_getElem hj];rfl
 rw[hd]
 cases hz:rs[j].getLast? with
 | none=>simp
 | some z =>
  have hzm:z∈rs[j]:=List.mem_of_getLast? hz
  have hzf:z∈rs.flatten:=List.mem_flatten.2 ⟨_,List.getElem_mem hj,hzm⟩
  have hzr:=hn z hzf
  simp only
  split
  ·rename_i hc
   rw[Bool.and_eq_true,decide_eq_true_eq]at hc
   have ho:o[z.toNat]?=some (o.getD z.toNat 0):=by rw[List.getD_eq_getElem?_getD,List.getElem?_eq_getElem (by omega)];rfl
   have hm:=hM.at_ z.toNat _ ho hc.1
   have hmg:M.getD z.toNat 0=mt o z.toNat:=by rw[List.getD_eq_getElem?_getD,hm];rfl
   rw[hmg]at hc ⊢
   rcases GB (c:=o) (i:=z.toNat) (by omega) with h|⟨m,h1,h2,h3,-⟩
   ·omega
   ·rw[h1]
    cases hb:bgn rs (m:Int) with
    | none=>simp
    | some k =>
     right
     obtain⟨r,hr,hh⟩:=oI hb
     obtain⟨hk,rfl⟩:=List.getElem?_eq_some_iff.1 hr
     have hym:(m:Int)∈rs[k]:=List.mem_of_head? hh
     refine⟨?_,by simp only;omega⟩
     simp only
     obtain⟨p1,p2⟩:=List.pairwise_flatten.1 hp
     rcases Nat.lt_trichotomy j k with h|h|h
     ·omega
     ·subst h
      have p3:=p1 _ (List.getElem_mem hj)
      cases he:rs[j]with
      | nil=>rw[he]at hh;simp at hh
      | cons a r =>
       rw[he]at hh hz p3 hzm
       simp at hh
       subst hh
       rcases List.mem_cons.1 hzm with h4|h4
       ·omega
       ·have:=(List.pairwise_cons.1 p3).1 z h4
        omega
     ·have:=List.pairwise_iff_getElem.1 p2 k j hk hj h _ hym _ hzm
      omega
  ·simp
theorem Bh{rs:List (List Int)}{i:Nat}{r:List Int}{x:Int}(hr:rs[i]?=some r)(hx:r.head?=some x)(hd:∀ (j:Nat) (q:List Int),j<i→rs[j]?=some q→q.head?≠some x)(z:Int):bgn (rs.take (i+1)) z=if z=x then some i else bgn (rs.take i) z:=by
 have hil:=(List.getElem?_eq_some_iff.1 hr).1
 have hln:(rs.take i).length=i:=by simp;omega
 have e:rs.take (i+1)=rs.take i++[r]:=by rw[List.take_add_one,hr];rfl
 rw[e]
 unfold bgn
 rw[List.findIdx?_append]
 by_cases hz:z=x
 ·subst hz
  have hn:(rs.take i).findIdx? (fun r=>r.head?==some z)=none:=by
   rw[List.findIdx?_eq_none_iff]
   intro q hq
   obtain⟨j,hj⟩:=List.mem_iff_getElem?.1 hq
   have hj1:=(List.getElem?_eq_some_iff.1 hj).1
   rw[hln]at hj1
   rw[List.getElem?_take_of_lt hj1]at hj
   have:=hd j q hj1 hj
   simpa using this
  simp[hn,hx,hln]
 ·have:¬ x=z:=fun h=>hz h.symm
  simp[hx,hz,this]
theorem B9{rs:List (List Int)}(hp:rs.flatten.Pairwise (·<·)){i j:Nat}{r q:List Int}{x:Int}(hr:rs[i]?=some r)(hx:r.head?=some x)(hj:j<i)(hq:rs[j]?=some q):q.head?≠some x:=by
 intro h
 obtain⟨hi,rfl⟩:=List.getElem?_eq_some_iff.1 hr
 obtain⟨hjl,rfl⟩:=List.getElem?_eq_some_iff.1 hq
 have:=List.pairwise_iff_getElem.1 (List.pairwise_flatten.1 hp).2 j i hjl hi hj x (List.mem_of_head? h) x (List.mem_of_head? hx)
 omega
end Go.Ab.Bi
namespace Go.Ab
open Go.Proofs Go.Proofs.Tryz
namespace Bi
theorem rm(l:List Int)(x:Int):l.map (V.int .i64)++[.int .i64 x]=(l++[x]).map (V.int .i64):=by simp
theorem Nst.push{H:Heap}{lo:Nat}{v:V}{vs:List V}{rs:List (List Int)}(h:Nst H lo v vs rs)(X:Heap):Nst (H++X) lo v vs rs:=h.frame fun _ _ hc=>al hc
theorem Nst.push4{a0 a1 a2 a3:Option (List V)}{U X:Heap}{lo:Nat}{v:V}{vs:List V}{rs:List (List Int)}(h:Nst (a0::a1::a2::a3::(U++X)) lo v vs rs)(Y:Heap):Nst (a0::a1::a2::a3::(U++(X++Y))) lo v vs rs:=by simpa using h.push Y
theorem Nst.top{H:Heap}{lo:Nat}{v u:V}{vs:List V}{rs:List (List Int)}(h:Nst H lo v (vs++[u]) rs):∃ b cap J,v=.sl b 0 (vs.length+1) cap 1∧b<H.length∧lo≤b∧ab H b=some (vs++u::J):=by
 obtain⟨b,nn,cap,J,rfl,h1,h2,h3,h4,-⟩:=h.out.pos (by simp)
 simp at h3
 exact⟨b,cap,J,by rw[← h3],h2,h1,by simpa using h4⟩
theorem qn(vs J:List V)(u:V):slot (vs++u::J) vs.length=some u:=by simp[slot]
theorem tc{h:Heap}{a0 a1 a2 a3:Option (List V)}{T:Heap}(ht:h.take (T.length+4)=a0::a1::a2::a3::T):∃ T',h=a0::a1::a2::a3::(T++T'):=by
 refine⟨h.drop (T.length+4),?_⟩
 conv=>lhs;rw[← List.take_append_drop (T.length+4) h,ht]
 simp
section
variable {P:Program}{md':FuncId→Nat}{call:aR}{cfg:Cfg}
theorem Jb{dst:Option Tmp}{fr:List V}{ops:Array Oper}{rest:List Oper}{Q:ck}{a0 a1 a2 a3:Option (List V)}{T T':Heap}{dv x:V}{cs:List V}{y:Nat}
  (ho:Stk (a0::a1::a2::a3::(T++T')) (T.length+4) 1 dv cs) (hlo:cfg.lo≤T.length+4) (hth:cfg.thr≤T.length+4)
  (hmn:isMap [x]=false) (hsz:cs.length≤4000) (hy:y≤100)
  (H:∀ d' T'',Stk (a0::a1::a2::a3::(T++T'')) (T.length+4) 1 d' (cs++[x])→@wO P md' call cfg ⟨ops⟩ ⟨rest⟩ (put fr dst d') (a0::a1::a2::a3::(T++T'')) ⟨Q⟩):
  @wS P md' call cfg ⟨dst⟩ ⟨fr⟩ (gj cfg (a0::a1::a2::a3::(T++T')) 1 y dv 1 [x]) ⟨ops⟩ ⟨rest⟩ ⟨Q⟩:=by
 have hs:(cs.length / 1+1)*y≤1099511627776:=by
  have:(cs.length / 1+1)*y≤4001*100:=Nat.mul_le_mul (by omega) hy
  omega
 refine jL (lo:=T.length+4) ho hlo hth (by simp) rfl hmn (by omega) hs (by omega) ?_
 intro d' h' hst _ htk hlen hot hb
 have ht:h'.take (T.length+4)=a0::a1::a2::a3::T:=by
  rw[htk]
  simp
 obtain⟨T'',rfl⟩:=tc ht
 exact H d' T'' hst
theorem vT{dst:Option Tmp}{fr:List V}{ops:Array Oper}{rest:List Oper}{Q:ck}{a0 a1 a2 a3:Option (List V)}{U X:Heap}{w:V}{vs:List V}{rs:List (List Int)}{y:Nat}
  (ho:Nst (a0::a1::a2::a3::(U++X)) (U.length+4) w vs rs) (hlo:cfg.lo≤U.length+4) (hth:cfg.thr≤U.length+4) (hsz:vs.length≤4000) (hy:y≤100)
  (H:∀ d' X',Nst (a0::a1::a2::a3::(U++X')) (U.length+4) d' (vs++[.nils]) (rs++[[]])→@wO P md' call cfg ⟨ops⟩ ⟨rest⟩ (put fr dst d') (a0::a1::a2::a3::(U++X')) ⟨Q⟩):
  @wS P md' call cfg ⟨dst⟩ ⟨fr⟩ (gj cfg (a0::a1::a2::a3::(U++X)) 1 y w 1 [.nils]) ⟨ops⟩ ⟨rest⟩ ⟨Q⟩:=by
 have hs:(vs.length / 1+1)*y≤1099511627776:=by
  have:(vs.length / 1+1)*y≤4001*100:=Nat.mul_le_mul (by omega) hy
  omega
 refine jL (lo:=U.length+4) ho.out hlo hth (by simp) rfl rfl (by omega) hs (by omega) ?_
 intro d' h' hst _ htk hlen hot hb
 have ht:h'.take (U.length+4)=a0::a1::a2::a3::U:=by
  rw[htk]
  simp
 obtain⟨X',rfl⟩:=tc ht
 exact H d' X' (ho.more hst hot hb)
theorem qt{dst:Option Tmp}{fr:List V}{ops:Array Oper}{rest:List Oper}{Q:ck}{a0 a1 a2 a3:Option (List V)}{U X:Heap}{b cap:Nat}{u:V}{vs J:List V}{rs:List (List Int)}{r:List Int}{x:Int}{y:Nat}
  (ho:Nst (a0::a1::a2::a3::(U++X)) (U.length+4) (.sl b 0 (vs.length+1) cap 1) (vs++[u]) (rs++[r])) (hbk:ab (a0::a1::a2::a3::(U++X)) b=some (vs++u::J)) (hl:vs.length=rs.length) (hlo:cfg.lo≤U.length+4) (hth:cfg.thr≤U.length+4) (hsz:r.length≤4000) (hy:y≤100)
  (H:∀ d' X' X'',stv cfg (a0::a1::a2::a3::(U++X')) b vs.length 1 (cellsOf d')=some (a0::a1::a2::a3::(U++X''))→Nst (a0::a1::a2::a3::(U++X'')) (U.length+4) (.sl b 0 (vs.length+1) cap 1) (vs++[d']) (rs++[r++[x]]) →
   @wO P md' call cfg ⟨ops⟩ ⟨rest⟩ (put fr dst d') (a0::a1::a2::a3::(U++X')) ⟨Q⟩):
  @wS P md' call cfg ⟨dst⟩ ⟨fr⟩ (gj cfg (a0::a1::a2::a3::(U++X)) 1 y u 1 [.int .i64 x]) ⟨ops⟩ ⟨rest⟩ ⟨Q⟩:=by
 obtain⟨hu1,hu2⟩:=ho.inn vs.length u r (by simp) (by simp[hl])
 have hb5:=ho.out.blk (b:=b) rfl
 have hs:((r.map (V.int .i64)).length / 1+1)*y≤1099511627776:=by
  have:((r.map (V.int .i64)).length / 1+1)*y≤4001*100:=Nat.mul_le_mul (by simp;omega) hy
  omega
 refine jL (lo:=U.length+4) hu1 hlo hth (by simp) rfl rfl (by omega) hs (by simp;omega) ?_
 intro d' h' hst hlf htk hlen hot hb
 have ht:h'.take (U.length+4)=a0::a1::a2::a3::U:=by
  rw[htk]
  simp
 obtain⟨X',rfl⟩:=tc ht
 have hbk':=(hot b (fun e=>hu2 b rfl e) hb5.2).trans hbk
 have hbl:=aw hbk'
 have ht2:((a0::a1::a2::a3::(U++X')).set b (some (vs++d'::J))).take (U.length+4)=a0::a1::a2::a3::U:=by
  rw[List.take_set_of_le hb5.1]
  simp
 obtain⟨X'',hX⟩:=tc ht2
 have hw:cfg.wr b=true:=by simp only[Cfg.wr,Bool.or_eq_true,decide_eq_true_eq];left;omega
 have hse:stv cfg (a0::a1::a2::a3::(U++X')) b vs.length 1 (cellsOf d')=some (a0::a1::a2::a3::(U++X'')):=by
  rw[← hX,hst.cells,Dw,if_pos (show [d'].length=1 from rfl),gB,hbk']
  simp only[Option.bind_some]
  rw[if_pos,show vs++u::J=vs++(u::J) from rfl,gV [d'] vs (u::J) (by simp)]
  ·simp
  ·simp only[hw,Bool.and_true,Bool.and_eq_true,decide_eq_true_eq,Bool.or_eq_true,List.length_append]
   simp
   left
   omega
 refine H d' X' X'' hse ?_
 rw[← hX]
 rw[rm]at hst
 have hnm:isMap (vs++d'::J)=false:=by
  have hm0:=dA hbk
  cases vs with
  | nil=>cases d'<;>first|rfl|simp[V.leaf]at hlf
  | cons z zs=>cases z<;>first|rfl|simp[isMap]at hm0
 refine ho.grow hl hst hot hb ?_ (fun c hc _=>ar (by rintro rfl;exact hc rfl)) hlen
 rcases ho.out with⟨h1,-⟩|⟨b',n',cap',J',hv,h1,h2,h3,h4,h5⟩
 ·cases h1
 ·cases hv
  rw[hbk]at h3
  have hJ:J=J':=by simpa using h3
  subst hJ
  refine .inr ⟨b,vs.length+1,cap,J,rfl,h1,by simp,?_,by simpa using h4,h5⟩
  rw[eC hbl,hnm]
  simp
end
end Bi
end Go.Ab
namespace Go.Ab
open Go.Proofs Go.Proofs.Tryz
namespace Bi
variable {md':FuncId→Nat}{call:aR}{cfg:Cfg}
theorem sM:fU prog 192=some (.i64,.i64):=by kernel_rfl
theorem Fp{fr:List V}{h:Heap}:aF prog md' call cfg fr h (.makeMap 192 none)=some (.mref h.length,h++[some [.mp .i64 .i64 []]]):=by
 have h1:aF prog md' call cfg fr h (.makeMap 192 none)=dB prog h 192:=by
  simp only[aF,opV]
 rw[h1,dB,sM]
theorem Fq{fr:List V}{h:Heap}{a b c:Operand}{m x y:V}(ha:ev fr a=some m)(hb:ev fr b=some x)(hc:ev fr c=some y):aF prog md' call cfg fr h (.mapUpdate 192 a b c)=(cu prog cfg h 192 m x y).map fun h'=>(.no,h'):=by
 simp only[aF,opV,ha,hb,hc]
 cases cu prog cfg h 192 m x y<;>simp
theorem Fo{fr:List V}{h:Heap}{a b:Operand}{m x:V}{ok:Bool}(ha:ev fr a=some m)(hb:ev fr b=some x):aF prog md' call cfg fr h (.lookup 192 a b ok)=(eX prog h 192 m x ok).map fun v=>(v,h):=by
 simp only[aF,opV,ha,hb]
 try (cases eX prog h 192 m x ok<;>rfl)
theorem mapUp{h:Heap}{b:Nat}{l:List (Int×Int)}{x y:Int}(hb:mapOf h b=some (.i64,.i64,l))(hw:cfg.wr b=true):cu prog cfg h 192 (.mref b) (.int .i64 x) (.int .i64 y)=some (h.set b (some [.mp .i64 .i64 (kI l x y)])):=by
 simp[cu,sM,hb,hw]
theorem mapLk{h:Heap}{b:Nat}{l:List (Int×Int)}{x:Int}(hb:mapOf h b=some (.i64,.i64,l)):eX prog h 192 (.mref b) (.int .i64 x) true=some (match nC l x with|some y=>.tup [.int .i64 y,.bool true]|none=>.tup [.int .i64 0,.bool false]):=by
 simp only[eX,sM,hb]
 cases nC l x<;>simp
theorem rF(x z y:Int):∀ l:List (Int×Int),nC (kI l x y) z=if z=x then some y else nC l z
 | []=>by by_cases h:z=x<;>simp[kI,nC,h]
 | (a,v)::r=>by
  unfold kI
  by_cases h1:x=a
  ·subst h1
   simp only[beq_self_eq_true,if_true,nC]
   by_cases h:z=x<;>simp[h]
  ·have h1':(x==a)=false:=by simpa using h1
   rw[h1']
   simp only[Bool.false_eq_true,if_false,nC,rF x z y r]
   by_cases h:z=a
   ·have:¬ z=x:=by omega
    simp[h]
    intro h2
    omega
   ·simp[h]
end Bi
end Go.Ab
namespace Go.Ab.Bi
def con(F:Nat→Int)(i k:Nat):Bool:=(List.range i).any fun j=>F j==(k:Int)
theorem BC(F:Nat→Int)(k:Nat):con F 0 k=false:=rfl
theorem oV(F:Nat→Int)(i k:Nat):con F (i+1) k=(con F i k||F i==(k:Int)):=by
 simp[con,List.range_succ]
structure Sq where
 l:List Int
 lev:Int
 sos:Int
 eos:Int
def Ds(o:List Int)(F:Nat→Int)(rs:List (List Int))(lv kept:List Int)(e:Int)(k:Nat):Sq:=
 let l:=chn F rs rs.length k
 let E:=jO lv kept e (lvl lv (l.headD 0)) (kept.idxOf (l.headD 0)) (kept.idxOf (l.getLastD 0)) (ini (o.getD (l.getLastD 0).toNat 0))
 ⟨l,lvl lv (l.headD 0),E.1,E.2⟩
def iK(o:List Int)(F:Nat→Int)(rs:List (List Int))(lv kept:List Int)(e:Int):Nat→List Sq
 | 0=>[]
 | k+1=>if con F rs.length k then iK o F rs lv kept e k else iK o F rs lv kept e k++[Ds o F rs lv kept e k]
theorem qo(o:List Int)(F:Nat→Int)(rs:List (List Int))(lv kept:List Int)(e:Int):∀ k,(iK o F rs lv kept e k).length≤k
 | 0=>by simp[iK]
 | k+1=>by
  have:=qo o F rs lv kept e k
  unfold iK
  split
  ·omega
  ·simp;omega
theorem Ei{F:Nat→Int}{rs:List (List Int)}{f:Nat}{j:Int}(hj:j<0):chn F rs f j=[]:=by
 cases f with
 | zero=>rfl
 | succ f=>unfold chn;rw[if_neg (by omega)]
theorem oO{F:Nat→Int}{rs:List (List Int)}{f j:Nat}{r:List Int}(hr:rs[j]?=some r):chn F rs (f+1) j=r++chn F rs f (F j):=by
 conv=>lhs;unfold chn
 rw[if_pos (by omega),Int.toNat_natCast,List.getD_eq_getElem?_getD,hr]
 rfl
def gK(F:Nat→Int)(N i:Nat):List Int:=(List.range N).map fun j=>if j<i then F j else 0
theorem lg(F:Nat→Int)(N i:Nat):(gK F N i).length=N:=by simp[gK]
theorem zR(F:Nat→Int)(N:Nat):gK F N 0=List.replicate N 0:=by
 apply List.ext_getElem?
 intro j
 by_cases h:j<N<;>simp[gK,h]
theorem ux{F:Nat→Int}{N i j:Nat}(hj:j<N)(hi:j<i):(gK F N i)[j]?=some (F j):=by simp[gK,hj,hi]
theorem uy(F:Nat→Int)(N i:Nat)(x:Int)(hx:x=F i):(gK F N i).set i x=gK F N (i+1):=by
 subst hx
 apply List.ext_getElem?
 intro j
 by_cases hj:j<N
 ·by_cases hij:i=j
  ·subst hij
   rw[List.getElem?_set_self (by simpa[lg]using hj),ux hj (by omega)]
  ·rw[List.getElem?_set_ne hij]
   simp only[gK,List.getElem?_map,List.getElem?_range hj,Option.map_some]
   congr 1
   by_cases h1:j<i
   ·rw[if_pos h1,if_pos (by omega)]
   ·rw[if_neg h1,if_neg (by omega)]
 ·rw[List.getElem?_eq_none (by simp[lg];omega),List.getElem?_eq_none (by rw[lg];omega)]
def gF(F:Nat→Int)(N i:Nat):List Bool:=(List.range N).map fun k=>con F i k
theorem kZ(F:Nat→Int)(N i:Nat):(gF F N i).length=N:=by simp[gF]
theorem zJ(F:Nat→Int)(N:Nat):gF F N 0=List.replicate N false:=by
 apply List.ext_getElem?
 intro j
 by_cases h:j<N<;>simp[gF,BC,h]
theorem kY{F:Nat→Int}{N i k:Nat}(hk:k<N):(gF F N i)[k]?=some (con F i k):=by simp[gF,hk]
theorem BA{F:Nat→Int}{N i:Nat}(h:F i<0):gF F N (i+1)=gF F N i:=by
 unfold gF
 apply List.map_congr_left
 intro k _
 have:¬ F i=(k:Int):=by omega
 simp[oV,this]
theorem BB{F:Nat→Int}{N i k:Nat}(h:F i=k):(gF F N i).set k true=gF F N (i+1):=by
 apply List.ext_getElem?
 intro j
 by_cases hj:j<N
 ·by_cases hij:k=j
  ·subst hij
   rw[List.getElem?_set_self (by simpa[kZ]using hj),kY hj,oV,h]
   simp
  ·rw[List.getElem?_set_ne hij,kY hj,kY hj,oV,h]
   have:¬ (k:Int)=(j:Int):=by omega
   simp[this]
 ·rw[List.getElem?_eq_none (by simp[kZ];omega),List.getElem?_eq_none (by rw[kZ];omega)]
theorem ra{F:Nat→Int}{rs:List (List Int)}{kept:List Int}(hF:∀ j,j<rs.length→F j<0∨((j:Int)<F j∧F j<rs.length))(hfl:rs.flatten=kept)(hall:∀ r∈rs,r≠[]){k:Nat}{r:List Int}(hr:rs[k]?=some r):
  (chn F rs rs.length k).Sublist kept∧(chn F rs rs.length k)≠[]∧(chn F rs rs.length k).head?=r.head?:=by
 have hk:=(List.getElem?_eq_some_iff.1 hr).1
 obtain⟨f,hf⟩:∃ f,rs.length=f+1:=⟨rs.length-1,by omega⟩
 have hs:=oO (F:=F) (f:=f) hr
 rw[← hf]at hs
 have hne:=hall r (List.mem_of_getElem? hr)
 refine⟨(yd F rs hF rs.length k hk).trans ?_,by rw[hs];simp[hne],?_⟩
 ·rw[← hfl]
  conv=>rhs;rw[← List.take_append_drop k rs,List.flatten_append]
  exact List.sublist_append_right _ _
 ·rw[hs]
  cases r with
  | nil=>exact absurd rfl hne
  | cons a r=>rfl
theorem sJ{l:List Int}{x:Int}(h:x∈l):l[l.idxOf x]?=some x:=by
 have hl:=List.idxOf_lt_length_of_mem h
 rw[List.getElem?_eq_getElem hl,List.getElem_idxOf hl]
theorem uD{l:List Int}(h:l≠[]):l[0]?=some (l.headD 0):=by
 cases l with
 | nil=>exact absurd rfl h
 | cons a l=>rfl
theorem Cm{l:List Int}(h:l≠[]):l[l.length-1]?=some (l.getLastD 0):=by
 rw[← List.getLast?_eq_getElem?,List.getLast?_eq_some_getLast h]
 congr 1
 cases l with
 | nil=>exact absurd rfl h
 | cons a l=>rfl
theorem Br{F:Nat→Int}{rs:List (List Int)}{k:Nat}{r:List Int}{x:Int}(hr:rs[k]?=some r)(hx:r[0]?=some x):(chn F rs rs.length k).headD 0=x:=by
 have hk:=(List.getElem?_eq_some_iff.1 hr).1
 obtain⟨f,hf⟩:∃ f,rs.length=f+1:=⟨rs.length-1,by omega⟩
 have hs:=oO (F:=F) (f:=f) hr
 rw[← hf]at hs
 rw[hs]
 cases r with
 | nil=>simp at hx
 | cons a r=>simp at hx;simp[hx]
theorem Hl{o M:List Int}{rs:List (List Int)}{i:Nat}{r:List Int}{z:Int}(hr:rs[i]?=some r)(hz:r.getLast?=some z)(h:ini (o.getD z.toNat 0)=false∨M.getD z.toNat 0<0):fol o M rs i=-1:=by
 unfold fol
 rw[List.getD_eq_getElem?_getD,hr]
 simp only[Option.getD_some,hz]
 rw[if_neg]
 rw[Bool.and_eq_true,decide_eq_true_eq]
 rintro⟨h1,h2⟩
 rcases h with h|h
 ·rw[h]at h1;cases h1
 ·omega
theorem BQ{o M:List Int}{rs:List (List Int)}{i:Nat}{r:List Int}{z:Int}(hr:rs[i]?=some r)(hz:r.getLast?=some z)(h:bgn rs (M.getD z.toNat 0)=none):fol o M rs i=-1:=by
 unfold fol
 rw[List.getD_eq_getElem?_getD,hr]
 simp only[Option.getD_some,hz,h]
 split<;>rfl
theorem BS{o M:List Int}{rs:List (List Int)}{i q:Nat}{r:List Int}{z:Int}(hr:rs[i]?=some r)(hz:r.getLast?=some z)(h1:ini (o.getD z.toNat 0)=true)(h2:¬ M.getD z.toNat 0<0)(h:bgn rs (M.getD z.toNat 0)=some q):fol o M rs i=q:=by
 unfold fol
 rw[List.getD_eq_getElem?_getD,hr]
 have:0≤M.getD z.toNat 0:=by omega
 simp only[Option.getD_some,hz,h,h1,this,decide_true,Bool.and_self,if_true]
end Go.Ab.Bi
namespace Go.Ab.Bi
open Go.Proofs Go.Proofs.Tryz
def sqc(s:V×Sq):List V:=[s.1,.int .i64 s.2.lev,.int .i64 s.2.sos,.int .i64 s.2.eos]
def sqo(s:V×Sq):Own:=(1,s.1,s.2.l.map (V.int .i64))
def sqr(s:Sq):List V:=[il s.l,.int .i64 s.lev,.int .i64 s.sos,.int .i64 s.eos]
def sqv(ss:List Sq):V:=.lst (ss.map sqr)
theorem jJ(ss:List (V×Sq)):(ss.flatMap sqc).length=ss.length*4:=by
 induction ss with
 | nil=>rfl
 | cons a l ih=>simp only[List.flatMap_cons,List.length_append,List.length_cons,ih];simp[sqc];omega
theorem Dt(ss:List (V×Sq))(s:V×Sq):(ss++[s]).flatMap sqc=ss.flatMap sqc++sqc s:=by simp
theorem rV:∀ ss:List (V×Sq),chunk 4 ss.length (ss.flatMap fun s=>sqr s.2)=(ss.map (·.2)).map sqr
 | []=>rfl
 | s::ss=>by
  have e:(s::ss).flatMap (fun s=>sqr s.2)=sqr s.2++ss.flatMap (fun s=>sqr s.2):=rfl
  rw[e,List.length_cons,chunk,show List.drop 4 (sqr s.2++ss.flatMap fun s=>sqr s.2)=ss.flatMap fun s=>sqr s.2 from rfl,rV ss]
  rfl
theorem zg{H:Heap}{n:Nat}:∀ (ss:List (V×Sq)),(∀ s∈ss,frz H n 5 s.1=some (il s.2.l))→(ss.flatMap sqc).mapM (frz H n 5)=some (ss.flatMap fun s=>sqr s.2)
 | [],_=>rfl
 | s::ss,h=>by
  have ih:=zg ss (fun x hx=>h x (List.mem_cons_of_mem _ hx))
  have h0:=h s (List.mem_cons_self ..)
  have e:(s::ss).flatMap sqc=s.1::.int .i64 s.2.lev::.int .i64 s.2.sos::.int .i64 s.2.eos::ss.flatMap sqc:=rfl
  have hi:∀ x,frz H n 5 (.int .i64 x)=some (.int .i64 x):=fun _=>rfl
  rw[e]
  simp only[List.mapM_cons,h0,hi,ih,Option.pure_def,Option.bind_eq_bind,Option.bind_some]
  rfl
theorem sq_rf(ss:List (V×Sq)):(ss.flatMap fun s=>sqr s.2).all V.rf=true:=by
 simp only[List.all_flatMap]
 rw[List.all_eq_true]
 intro s _
 rfl
theorem EB{H base:Heap}{ov:V}{ss:List (V×Sq)}{n:Nat}(h:Hp H base ((4,ov,ss.flatMap sqc)::ss.map sqo))(hn:n≤base.length):frz H n 6 ov=some (sqv (ss.map (·.2))):=by
 have hs:∀ s∈ss,frz H n 5 s.1=some (il s.2.l):=by
  intro s hs
  have:=h.tail.own (sqo s) (List.mem_map_of_mem hs)
  exact OwnC.frzI (d:=3) this hn
 rcases h.head with⟨rfl,hc⟩|⟨b,m,rfl,hm,h1,hb⟩
 ·have:ss=[]:=by
   have:=congrArg List.length hc
   rw[jJ]at this
   exact List.length_eq_zero_iff.1 (by simp at this;omega)
  subst this
  rfl
 ·have hml:m=ss.length:=by rw[jJ]at hm;omega
  subst hml
  rw[iu,if_neg (by omega),hb]
  have e:List.take (ss.length*4) (ss.flatMap sqc)=ss.flatMap sqc:=by rw[← jJ,List.take_length]
  simp only[Nat.zero_add,List.drop_zero,jJ,Nat.le_refl,if_true,e,zg ss hs,sq_rf]
  rw[rV]
  rfl
theorem Cb{H base:Heap}{os:List Own}(h:Hp H base os):∃ Z,H=base++Z:=⟨H.drop base.length,by conv=>lhs;rw[← List.take_append_drop base.length H,h.take]⟩
theorem pq1{α:Type}(a b c:α)(s:List α):(a::b::c::s).Perm (c::a::(s++[b])):=by
 refine (List.Perm.cons _ (List.Perm.swap ..)).trans ?_
 refine (List.Perm.swap ..).trans ?_
 exact List.Perm.cons _ (List.Perm.cons _ (List.perm_append_singleton ..).symm)
theorem pq2{α:Type}(a b c:α)(s:List α):(c::a::(s++[b])).Perm (c::(s++[a])++[b]):=by
 rw[List.cons_append,List.append_assoc]
 refine List.Perm.cons _ ?_
 simp only[List.cons_append,List.nil_append]
 exact List.perm_middle.symm
end Go.Ab.Bi
