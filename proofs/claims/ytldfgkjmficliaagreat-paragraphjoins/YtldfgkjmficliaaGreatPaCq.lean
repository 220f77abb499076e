/- Several texts of this proof in one. -/
import Derived.Test.YtldfgkjmficliaaGreatPaPm
import Derived.Test.YtldfgkjmficliaaGreatPaHt
import Derived.Test.YtldfgkjmficliaaGreatAbW2
import Derived.Test.YtldfgkjmficliaaGreatAbW7
import Derived.Test.YtldfgkjmficliaaGreatPiGen
import Derived.Below
set_option linter.unusedSimpArgs false
set_option linter.unusedVariables false
namespace Go.Ab
open Go.Proofs Go.Proofs.Tryz
namespace Bi
theorem xz{α:Type}{r:α→α→Prop}{l:List α}(h:l.Pairwise r){i j:Nat}{x y:α}(hij:i<j)(hx:l[i]?=some x)(hy:l[j]?=some y):r x y:=by
 obtain⟨h1,rfl⟩:=List.getElem?_eq_some_iff.1 hx
 obtain⟨h2,rfl⟩:=List.getElem?_eq_some_iff.1 hy
 exact (List.pairwise_iff_getElem.1 h) i j h1 h2 hij
theorem yo{f:Fnt}(h:A4 f):bJ f=0:=by
 have h1:=h.u
 have h2:=h.a
 have h3:=h.d
 have h4:=h.g
 have h5:=h.df
 have h6:=h.advL
 have h7:=h.kerL
 have h8:=h.ligL
 refine zk (by omega) ⟨⟨by omega,by omega,by omega,by omega,by omega,by omega,by omega,by omega,by rw[wrap64 (by omega) (by omega)];omega,by omega,by omega⟩,fun x hx=>?_,fun x hx=>?_,fun x hx=>?_⟩ ⟨fun i x hx=>?_,fun i x y hx hy=>?_,fun i x y hx hy=>?_⟩
 ·have:=h.adv x hx
  exact⟨by omega,by omega,by omega,by omega,by omega,by omega⟩
 ·have:=h.ker x hx
  exact⟨by omega,by omega,by omega,by omega,by omega,by omega⟩
 ·have:=h.lig x hx
  exact⟨by omega,by omega,by omega,by omega,by omega,by omega,by omega,by omega⟩
 ·have h9:=h.adv x (List.mem_of_getElem? hx)
  refine⟨by omega,fun y hi hy=>xz h.advA (show i-1<i by omega) hy hx⟩
 ·rw[List.getElem?_map]at hx hy
  obtain⟨x',hx',rfl⟩:=Option.map_eq_some_iff.1 hx
  obtain⟨y',hy',rfl⟩:=Option.map_eq_some_iff.1 hy
  exact xz h.kerA (Nat.lt_succ_self i) hx' hy'
 ·rw[List.getElem?_map]at hx hy
  obtain⟨x',hx',rfl⟩:=Option.map_eq_some_iff.1 hx
  obtain⟨y',hy',rfl⟩:=Option.map_eq_some_iff.1 hy
  exact xz h.ligA (Nat.lt_succ_self i) hx' hy'
theorem sx:∀ {l:List Spn}{a b:Int},Cov a b l→a≤b∧∀ s∈l,a≤s.f∧s.f<s.t∧s.t≤b
 | [],a,b,h=>⟨by have h:a=b:=h;omega,fun _ h=>by cases h⟩
 | s::l,a,b,⟨h1,h2,h3⟩=>by
  have ih:=sx h3
  refine⟨by omega,fun x hx=>?_⟩
  rcases List.mem_cons.1 hx with rfl|hx
  ·omega
  ·have:=ih.2 x hx
   omega
theorem yh:∀ {l:List Spn}{a b:Int}(i:Nat),Cov a b l→(spI i l).length=(b-a).toNat
 | [],a,b,_,h=>by have h:a=b:=h;simp[spI,h]
 | s::l,a,b,i,⟨h1,h2,h3⟩=>by
  have ih:=yh (i+1) h3
  have:=(sx h3).1
  rw[spI,List.length_append,List.length_replicate,ih]
  omega
theorem yj:∀ {fs:List Fnt},(∀ f∈fs,bJ f=0)→kz fs=0
 | [],_=>rfl
 | f::r,h=>by rw[rh,if_pos (h f (by simp)),yj fun x hx=>h x (by simp[hx])]
open Classical in
noncomputable def lvZ(t:List Int)(b:Int):List Int:=if h:t.length≤2000∧(-1≤b∧b≤1) then Classical.choose (yF t h.1 b h.2) else []
theorem Cq{t:List Int}{b:Int}(ht:t.length≤2000)(hb:-1≤b∧b≤1):(∀ (d:Nat) (cfg:Cfg) (h:Heap),af md (K pZ (d+1)) cfg 68 [rl t,.int .i64 b] h=some (il (lvZ t b),h))∧(lvZ t b).length=t.length:=by
 unfold lvZ
 rw[dif_pos ⟨ht,hb⟩]
 exact Classical.choose_spec (yF t ht b hb)
theorem Ek(t:List Int)(ht:t.length≤2000):∃ C:List Int,(∀ (d:Nat) (cfg:Cfg) (h:Heap),af md (K pZ (d+4)) cfg 51 [rl t] h=some (il C,h))∧C.length≤t.length+1∧∀ x∈C,0≤x∧x≤t.length:=by
 obtain⟨_,⟨C,rfl,h1,h2⟩,h3⟩:=Bz (prim:=pZ) 0 lI t ht
 refine⟨C,fun d cfg h=>?_,h1,h2⟩
 have:=wo (0+4) d (h3 cfg h)
 rw[show 0+4+d=d+4 by omega]at this
 exact this
theorem Em{p:Par}{fs:List Fnt}{n:Nat}(hP:F5 p n fs.length)(hn:n≤60)(hf1:1≤fs.length)(hf3:fs.length≤3)(hF:∀ f∈fs,A4 f){C:List Int}(hC:∀ (d:Nat) (cfg:Cfg) (h:Heap),af md (K pZ (d+4)) cfg 51 [rl p.t] h=some (il C,h))(hC1:C.length≤p.t.length+1)(hC2:∀ x∈C,0≤x∧x≤p.t.length):CtxA pZ ⟨p,fs,dI p.t C,C,lvZ,kL⟩:=by
 have htn:=hP.len
 have hsl:=hP.sl
 have hb:=hP.b
 have ha:=hP.a
 have hw:=hP.w
 have hsp:∀ s∈p.s,0≤s.n∧s.n<fs.length∧1≤s.z∧s.z≤1000:=fun s hs=>by have:=hP.sp s hs;omega
 have hfv:∀ f∈fs,bJ f=0:=fun f hf=>yo (hF f hf)
 have hcv:oX p.s p.t.length:=by
  unfold oX
  rcases hP.cov with⟨h1,h2⟩|⟨h1,h2⟩
  ·rw[if_pos (by rw[h1];rfl)]
   exact h2
  ·rw[if_neg (by intro e;exact h1 (List.length_eq_zero_iff.1 (by omega)))]
   exact h2
 have hs1:0<p.s.length∧(spI 0 p.s).length=p.t.length∧∀ s∈p.s,0≤s.f∧s.f≤2000∧0≤s.t∧s.t≤2000:=by
  rcases hP.cov with⟨h1,s,h2,h3,h4⟩|⟨h1,h2⟩
  ·rw[h1,h2]
   refine⟨by simp,by simp[spI,h3,h4],fun x hx=>?_⟩
   simp at hx
   subst hx
   omega
  ·have h3:=yh 0 h2
   have h4:=sx h2
   refine⟨?_,by rw[h3];omega,fun x hx=>?_⟩
   ·rcases hs:p.s with _|⟨s,ss⟩
    ·rw[hs]at h2
     have h5:(0:Int)=p.t.length:=h2
     exact absurd (List.length_eq_zero_iff.1 (by omega)) h1
    ·simp
   ·have:=h4.2 x hx
    omega
 refine { hp:=lI,hG:=Fu,hV:=?_,hXr:=rfl,hpR:=Iq,hCl:=fun d cfg H l=>G8 d cfg H l,hCn:=Ej,h5:=by show p.t.length≤90;omega,hB:=rfl,hC:=hC,hLv:=fun d cfg h t ht=>(Cq ht hb).1 d cfg h,hsb:=hs1.2.2,hVl:=fun d cfg h=>?_ }
 ·exact { n:=by show p.t.length≤2000;omega,sp:=hs1.2.1,sn:=⟨hs1.1,by show p.s.length≤2000;omega⟩,fn:=by show fs.length≤2000;omega,sf:=hsp,fv:=hfv,w:=⟨hw.1,by show p.w≤100000000;omega⟩,bl:=iV,b2:=fun h=>mc h,cl:=⟨by show C.length≤4000;omega,hC2⟩,lv:=fun t ht=>(Cq ht hb).2,rs:=fun t lv e a b h1 h2 h3=>vF h1 h2 h3 }
 ·obtain⟨_,rfl,h1,_⟩:=AY (prim:=pZ) d lI p (by omega) (by omega) fs (by omega) fun f hf=>by have h1:=hF f hf;exact⟨by have:=h1.advL;omega,by have:=h1.kerL;omega,by have:=h1.ligL;omega⟩
  have hv:nH p fs=0:=by
   refine zn (by omega) ?_ (yj hfv) hcv
   rintro (h|⟨s,hs,h⟩)
   ·unfold qA at h;omega
   ·have:=hsp s hs
    unfold oG at h
    omega
  have:=h1 rfl cfg h
  rw[hv]at this
  exact this
end Bi
end Go.Ab
namespace Go.Ab
open Go.Proofs Go.RowKit Go.Proofs.Tryz
theorem CJ{m:Mu}{h:Heap}{w w':World}{x:V}{v:Value}(r:Rel m h w)(hb:Below w.heap.size w w')(hx:R m h w x v):Out m h w x h v w':=by
 have e:Evo m h w m h w':={
  zeq:=rfl
  len:=Nat.le_refl _
  keep:=fun _ _ hl=>⟨hl,rfl⟩
  own:=fun y c hl hc=>.inl ⟨y,hl,hc⟩
  frame:=fun b hb' _=>hb.block b hb'
  size:=hb.size
  rs:=fun c hc=>by rw[cI (hb.block c hc)];exact Nat.le_refl _
  os:=hb.os
  tape:=hb.tape
  output:=hb.output }
 refine⟨m,e,⟨r.zo,fun c hc=>Nat.lt_of_lt_of_le (r.zl c hc) hb.size,r.inj,fun y cs c hy hc=>?_⟩,hx.evo e r.lt⟩
 exact (r.blk y cs c hy hc).carry (hb.block c (r.lt y c ⟨cs,hy⟩ hc)) fun d v _ hrv=>hrv.evo e r.lt
namespace Bi
def htS(l:List Int):Int:=l.foldl (fun s x=>IntKind.i64.wrap (s+x)) 0
theorem yx:∀ (l:List Int) (a:Int),0≤a→a+l.length*15000000≤9000000000000→(∀ x∈l,0≤x∧x≤15000000)→l.foldl (fun s x=>IntKind.i64.wrap (s+x)) a=a+l.sum
 | [],a,_,_,_=>by simp
 | x::l,a,h1,h2,h4=>by
  have h5:=h4 x (by simp)
  rw[List.length_cons]at h2
  have hw:IntKind.i64.wrap (a+x)=a+x:=wrap64 (by omega) (by omega)
  rw[List.foldl_cons,hw,yx l (a+x) (by omega) (by omega) fun y hy=>h4 y (by simp[hy]),List.sum_cons]
  omega
theorem EY{m:Mu}{h:Heap}{w:World}{Ls:List cQ}(hL:0<Ls.length){v:Value}(r0:R m h w (.lst (Ls.map bQ)) v):
  ∃ s cap zs,v=.slice s Ls.length cap∧Ht.Lns w.heap.size w (.slice s Ls.length cap) zs Ls.length∧∀ j y,Ls[j]?=some y→(zs j).h=y.l.h:=by
 generalize hX:Ls.map bQ=X at r0
 have hXl:X.length=Ls.length:=by rw[← hX];simp
 cases r0 with
 | lst0 a rc ha=>simp at hXl;omega
 | lst rv hi hrc hk hc hf hr' =>
  rename_i b o k rc
  have hz:∀ j,∃ x:Ht.L10,∀ y,Ls[j]?=some y→Ht.Lie w b (o+j*10) x∧x.h=y.l.h:=fun j=>by
   cases hj:Ls[j]? with
   | none=>exact⟨⟨0,0,0,0,0,0,0,0,0,none,0,0⟩,fun y hy=>by cases hy⟩
   | some y =>
    have he:X[j]?=some (bQ y):=by rw[← hX,List.getElem?_map,hj];rfl
    have hk10:k=10:=(hk j _ he).symm
    subst hk10
    have q:∀ i c,(bQ y)[i]?=some c→w.cell? ⟨b,o+j*10+i,none⟩=some (rv j i)∧R m h w c (rv j i):=fun i c hi=>⟨hc j _ i c he hi,hr' j _ i c he hi⟩
    have qi:∀ i n,(bQ y)[i]?=some (.int .i64 n)→w.cell? ⟨b,o+j*10+i,none⟩=some (.int .i64 n):=fun i n hi=>by
     obtain⟨h1,h2⟩:=q i _ hi
     generalize rv j i=u at h1 h2
     cases h2
     exact h1
    obtain⟨g,gl,gc,h9⟩:∃ g gl gc,w.cell? ⟨b,o+j*10+9,none⟩=some (.slice g gl gc):=by
     obtain⟨h1,h2⟩:=q 9 (.lst (y.gs.map au)) rfl
     generalize rv j 9=u at h1 h2
     generalize y.gs.map au=G at h2
     cases h2 with
     | lst0 a rc _=>exact⟨_,_,_,h1⟩
     | lst=>exact⟨_,_,_,h1⟩
    refine⟨⟨y.l.f,y.l.t,y.l.lv,y.l.x,y.l.y,y.l.w,y.l.a,y.l.d,y.l.h,g,gl,gc⟩,fun y' hy'=>?_⟩
    cases hy'
    exact⟨⟨⟨qi 0 _ rfl,qi 1 _ rfl,qi 2 _ rfl,qi 3 _ rfl,qi 4 _ rfl⟩,qi 5 _ rfl,qi 6 _ rfl,qi 7 _ rfl,qi 8 _ rfl,h9⟩,rfl⟩
  obtain⟨zs,hzs⟩:=Classical.axiomOfChoice hz
  exact⟨_,_,zs,by rw[hXl],.inr ⟨b,o,rc,rfl,hi.1,fun j hj=>(hzs j _ (List.getElem?_eq_getElem hj)).1⟩,fun j y hy=>(hzs j y hy).2⟩
open Classical in
noncomputable def uF:Prim:=fun _ args h=>match args with
 | [.lst xs]=>if hx:∃ Ls:List cQ,xs=Ls.map bQ∧0<Ls.length∧Ls.length≤1000000 then some (.int .i64 (htS ((Classical.choose hx).map (·.l.h))),h) else none
 | _=>none
theorem HU{a b:List cQ}(h:a.map bQ=b.map bQ):a.map (·.l.h)=b.map (·.l.h):=by
 have h1:=congrArg (List.map fun e:List V=>match e[8]? with|some (.int _ n)=>n|_=>0) h
 simpa[bQ,bH,Function.comp_def]using h1
theorem EU{Ls:List cQ}(h1:0<Ls.length)(h2:Ls.length≤1000000)(cfg:Cfg)(h:Heap):uF cfg [.lst (Ls.map bQ)] h=some (.int .i64 (htS (Ls.map (·.l.h))),h):=by
 have hx:∃ Ls':List cQ,Ls.map bQ=Ls'.map bQ∧0<Ls'.length∧Ls'.length≤1000000:=⟨Ls,rfl,h1,h2⟩
 simp only[uF]
 rw[dif_pos hx,← HU (Classical.choose_spec hx).1]
theorem EV:cj prog 9 uF:=by
 intro cfg args h r h' hx
 unfold uF at hx
 split at hx
 ·rename_i xs
  split at hx
  ·rename_i hex
   obtain⟨h1,h2,h3⟩:=Classical.choose_spec hex
   generalize Classical.choose hex=Ls at *
   subst h1
   cases hx
   refine⟨HS.refl _ _,⟨_,func9,rfl⟩,fun m w vs hr hp=>?_⟩
   obtain⟨hsz,hp2⟩:=hp
   simp only[List.length_cons,List.length_nil]at hsz
   obtain⟨v0,rfl⟩:∃ v0,vs=#[v0]:=⟨vs[0],Array.ext (by simpa using hsz) fun i h1 h2=>by
    rcases i with _|i
    ·rfl
    ·simp only[List.size_toArray,List.length_cons,List.length_nil]at h2
     omega⟩
   have r0:=hp2 0 _ v0 rfl rfl
   obtain⟨s,cap,zs,rfl,hI,hz⟩:=EY h2 r0
   have hh:=Ht.height_in Fence.wide 3 trivial trivial trivial rfl (Nat.le_refl _) s Ls.length cap zs h3 w hI
   refine (callsIn_wide.1 hh).mono fun e w' ⟨he,hb⟩=>?_
   subst he
   refine⟨_,rfl,CJ hr hb ?_⟩
   have e1:Ht.run (Ht.upto (fun j=>(j,zs j)) Ls.length)=htS (Ls.map (·.l.h)):=by
    have e2:(Ht.upto (fun j=>(j,zs j)) Ls.length).map (·.2.h)=Ls.map (·.l.h):=by
     refine List.ext_getElem (by simp[Ht.upto]) fun j g1 g2=>?_
     simp only[Ht.upto,List.getElem_map,List.getElem_range]
     exact hz j _ (List.getElem?_eq_getElem (by simpa using g2))
    rw[← e2]
    unfold Ht.run htS
    rw[List.foldl_map]
   rw[e1]
   exact .int _ _
  ·cases hx
 ·cases hx
section
variable {P:Program}{md:FuncId→Nat}{call:aR}{prim:FuncId→Option Prim}{cfg:Cfg}{n d:Nat}
end
noncomputable def pH(f:FuncId):Option Prim:=if f=9 then some uF else pZ f
theorem Ad(d:Nat)(cfg:Cfg)(h:Heap){Ls:List cQ}(h1:0<Ls.length)(h2:Ls.length≤100000)(h3:∀ x∈Ls,0≤x.l.h∧x.l.h≤15000000):
  af md (K pH (d+1)) cfg 9 [.lst (Ls.map bQ)] h=some (.int .i64 (Txt.hgt Ls),h):=by
 have hm:md 9=0:=rfl
 have hK:aI prog md pH 10000 (d+1) ⟨0,[],0⟩ 9 [.lst (Ls.map bQ)] []=some (.int .i64 (Txt.hgt Ls),[]):=by
  have e:pH 9=some uF:=if_pos rfl
  simp only[aI,e]
  rw[EU h1 (by omega)]
  have:=yx (Ls.map (·.l.h)) 0 (Int.le_refl _) (by simp;omega) fun x hx=>by
   obtain⟨y,hy,rfl⟩:=List.mem_map.1 hx
   have:=h3 y hy
   omega
  unfold htS Txt.hgt
  rw[this,Int.zero_add]
 have hr:([.lst (Ls.map bQ)]:List V).all V.noref=true:=by simp
 simp only[af,hm,hr,if_true,hK]
 simp
end Bi
end Go.Ab
namespace Go.Ab
open Go.RowKit
theorem bT{h:Heap}{b x:Nat}(hl:live (h.set b none) x):live h x∧x≠b:=by
 obtain⟨cs,hc⟩:=hl
 by_cases e:x=b
 ·subst e
  simp only[List.getElem?_set]at hc
  simp at hc
 ·rw[List.getElem?_set_ne (Ne.symm e)]at hc
  exact⟨⟨cs,hc⟩,e⟩
theorem ff{m:Mu}{h:Heap}{w:World}(b:Nat):Evo m h w m (h.set b none) w:={
 zeq:=rfl
 len:=by simp
 keep:=fun x _ hl=>⟨(bT hl).1,rfl⟩
 own:=fun x c hl hc=>.inl ⟨x,(bT hl).1,hc⟩
 frame:=fun _ _ _=>rfl
 size:=Nat.le_refl _
 rs:=fun _ _=>Nat.le_refl _
 os:=rfl
 tape:=rfl
 output:=rfl }
theorem qf{m:Mu}{h:Heap}{w:World}(r:Rel m h w)(b:Nat):Rel m (h.set b none) w:=by
 refine⟨fun x c hl=>r.zo x c (bT hl).1,r.zl,fun x y c hx hy=>r.inj x y c (bT hx).1 (bT hy).1,fun x cs c hx hc=>?_⟩
 have hl:=bT ⟨cs,hx⟩
 have hx':h[x]?=some (some cs):=by
  rw[List.getElem?_set_ne (Ne.symm hl.2)]at hx
  exact hx
 exact (r.blk x cs c hx' hc).carry rfl fun d v _ hrv=>hrv.evo (ff b) r.lt
theorem se{cfg:Cfg}{h:Heap}{b:Nat}(hw:cfg.wr b=true):HS cfg h (h.set b none):=by
 refine⟨by simp,fun x _ hx=>?_,fun D t _ _ hi x cs hx hD hc c hcc=>?_⟩
 ·have:b≠x:=by intro e;subst e;rw[hw]at hx;cases hx
  rw[List.getElem?_set_ne this]
 ·have hl:=bT ⟨cs,hc⟩
  rw[List.getElem?_set_ne (Ne.symm hl.2)]at hc
  exact hi x cs hx hD hc c hcc
theorem A8{m:Mu}{h:Heap}{w:World}{b off len cap:Nat}{v:Value}{k:IntKind}{zs:List Int}{cs:List V}(r:Rel m h w)(hb:ab h b=some cs)(hol:off+len≤cs.length)(hz:(cs.drop off).take len=zs.map (V.int k))
  (hv:R m h w (.sl b off len cap 1) v):R m (h.set b none) w (.lst (zs.map fun n=>[.int k n])) v:=by
 have hll:zs.length=len:=by
  have:=congrArg List.length hz
  simp at this
  omega
 have hlive:=aA hb
 cases hv with
 | sl hlt hcap hlen' hv =>
  rename_i rc ad
  obtain⟨b',hmb,rfl,hrs⟩:=hv ⟨cs,hlive⟩
  obtain⟨arr,T,ha,hal,hac⟩:=(r.blk b cs b' hlive hmb).cells (cB hb)
  have hbl:b'<w.heap.size:=(Array.getElem?_eq_some_iff.1 ha).1
  have hxl:(zs.map fun n=>[V.int k n]).length=len:=by simp[hll]
  have hat:∀ (i:Nat) (e:List V),(zs.map fun n=>[V.int k n])[i]?=some e→∃ n,e=[.int k n]∧zs[i]?=some n∧w.cell? ⟨b',off+i,none⟩=some (.int k n):=fun i e he=>by
   rw[List.getElem?_map]at he
   obtain⟨n,hn,rfl⟩:=Option.map_eq_some_iff.1 he
   have hi:i<len:=by have:=(List.getElem?_eq_some_iff.1 hn).1;omega
   refine⟨n,rfl,hn,?_⟩
   have hc1:cs[off+i]?=some (.int k n):=by
    have:((cs.drop off).take len)[i]?=some (.int k n):=by rw[hz,List.getElem?_map,hn];rfl
    rw[List.getElem?_take_of_lt hi,List.getElem?_drop]at this
    exact this
   obtain⟨u,hu1,hu2⟩:=hac _ _ hc1
   simp only[World.cell?,ha]
   rw[hu1]
   cases hu2
   rfl
  have:=R.lst (m:=m) (h:=h.set b none) (w:=w) (xs:=zs.map fun n=>[V.int k n]) (b:=b') (o:=off) (k:=1) (rc:=rc) (fun i _=>.int k (zs[i]?.getD 0))
   ⟨hbl,r.zo b b' ⟨cs,hlive⟩ hmb,fun x hx hmx=>(bT hx).2 (r.inj x b b' (bT hx).1 ⟨cs,hlive⟩ hmx hmb)⟩ (by omega)
   (fun i e he=>by obtain⟨n,rfl,_⟩:=hat i e he;rfl)
   (fun i e j c he hc=>by
    obtain⟨n,rfl,h1,h2⟩:=hat i e he
    rcases j with _|j
    ·rw[Nat.mul_one,Nat.add_zero,h2,h1];rfl
    ·simp at hc)
   (fun i e j c he hc=>by
    obtain⟨n,rfl,h1,h2⟩:=hat i e he
    rcases j with _|j
    ·cases hc;rfl
    ·simp at hc)
   (fun i e j c he hc=>by
    obtain⟨n,rfl,h1,h2⟩:=hat i e he
    rcases j with _|j
    ·cases hc;rw[h1];exact .int _ _
    ·simp at hc)
  rw[hxl]at this
  exact this
theorem D7{m:Mu}{h:Heap}{w:World}{b cap k:Nat}{v:Value}{cs cs':List V}(r:Rel m h w)(hb:ab h b=some cs)(hl:cs.length=k)(hl':cs'.length=k)
  (hz:∀ (j:Nat) (c:V),cs'[j]?=some c→(∃ q n,c=.int q n∧cs[j]?=some (.int q n))∨(c=.lst []∧cs[j]?=some .nils)) (hv:R m h w (.sl b 0 1 cap k) v):R m (h.set b none) w (.lst [cs']) v:=by
 have hlive:=aA hb
 cases hv with
 | sl hlt hcap hlen' hv =>
  rename_i rc ad
  obtain⟨b',hmb,rfl,hrs⟩:=hv ⟨cs,hlive⟩
  obtain⟨arr,T,ha,hal,hac⟩:=(r.blk b cs b' hlive hmb).cells (cB hb)
  have hbl:b'<w.heap.size:=(Array.getElem?_eq_some_iff.1 ha).1
  have hat:∀ (j:Nat) (c:V),cs'[j]?=some c→∃ u,arr[j]?=some u∧R m (h.set b none) w c u∧c.rf=true:=fun j c hc=>by
   rcases hz j c hc with⟨q,n,rfl,h2⟩|⟨rfl,h2⟩
   ·obtain⟨u,h3,h4⟩:=hac j _ h2
    cases h4
    exact⟨_,h3,.int _ _,rfl⟩
   ·obtain⟨u,h3,h4⟩:=hac j _ h2
    cases h4
    exact⟨_,h3,.lst0 _ _ fun _=>rfl,rfl⟩
  have hone:∀ (i:Nat) (e:List V),[cs'][i]?=some e→i=0∧e=cs':=fun i e he=>by
   rcases i with _|i
   ·exact⟨rfl,(Option.some.inj he).symm⟩
   ·simp at he
  have:=R.lst (m:=m) (h:=h.set b none) (w:=w) (xs:=[cs']) (b:=b') (o:=0) (k:=k) (rc:=rc) (fun _ j=>arr.getD j undef)
   ⟨hbl,r.zo b b' ⟨cs,hlive⟩ hmb,fun x hx hmx=>(bT hx).2 (r.inj x b b' (bT hx).1 ⟨cs,hlive⟩ hmx hmb)⟩ (by simpa using hlen')
   (fun i e he=>by rw[(hone i e he).2];exact hl')
   (fun i e j c he hc=>by
    obtain⟨rfl,rfl⟩:=hone i e he
    obtain⟨u,h3,_,_⟩:=hat j c hc
    simp only[World.cell?,ha,Nat.zero_mul,Nat.zero_add]
    rw[h3,Array.getD_eq_getD_getElem?,h3]
    rfl)
   (fun i e j c he hc=>by
    obtain⟨rfl,rfl⟩:=hone i e he
    exact (hat j c hc).choose_spec.2.2)
   (fun i e j c he hc=>by
    obtain⟨rfl,rfl⟩:=hone i e he
    obtain⟨u,h3,h4,_⟩:=hat j c hc
    rw[Array.getD_eq_getD_getElem?,h3]
    exact h4)
  exact this
section
variable {P:Program}{md:FuncId→Nat}{call:aR}{cfg:Cfg}{n:Nat}{prim:FuncId→Option Prim}
def Frz(cfg:Cfg)(h1:Heap)(fr1:List V)(h2:Heap)(fr2:List V):Prop:=HS cfg h1 h2∧∀ m w a,Rel m h1 w→FR m h1 w fr1 a→Evo m h1 w m h2 w∧Rel m h2 w∧FR m h2 w fr2 a
theorem Frz.refl(h:Heap)(fr:List V):Frz cfg h fr h fr:=⟨.refl _ _,fun _ _ _ r f=>⟨.refl _ _ _,r,f⟩⟩
theorem Frz.one{h:Heap}{fr:List V}{b cap k i:Nat}{cs cs':List V}(hw:cfg.wr b=true)(hb:ab h b=some cs)(hl:cs.length=k)(hl':cs'.length=k)
  (hz:∀ (j:Nat) (c:V),cs'[j]?=some c→(∃ q n,c=.int q n∧cs[j]?=some (.int q n))∨(c=.lst []∧cs[j]?=some .nils)) (hi:fr[i]?=some (.sl b 0 1 cap k)):Frz cfg h fr (h.set b none) (fr.set i (.lst [cs'])):=by
 refine⟨se hw,fun m w a r f=>⟨ff b,qf r b,by rw[List.length_set];exact f.len,fun j x v hx hv=>?_,f.defers⟩⟩
 by_cases e:i=j
 ·subst e
  have hlt:=(List.getElem?_eq_some_iff.1 hi).1
  rw[List.getElem?_set_self hlt]at hx
  cases hx
  exact D7 r hb hl hl' hz (f.slot _ _ _ hi hv)
 ·rw[List.getElem?_set_ne e]at hx
  exact (f.slot j x v hx hv).evo (ff b) r.lt
theorem Frz.ints{h:Heap}{fr:List V}{b cap i:Nat}{q:IntKind}{l:List Int}(hw:cfg.wr b=true)(hb:ab h b=some (l.map (V.int q)))(hi:fr[i]?=some (.sl b 0 l.length cap 1)):Frz cfg h fr (h.set b none) (fr.set i (.lst (l.map fun n=>[.int q n]))):=by
 refine⟨se hw,fun m w a r f=>⟨ff b,qf r b,by rw[List.length_set];exact f.len,fun j x v hx hv=>?_,f.defers⟩⟩
 by_cases e:i=j
 ·subst e
  have hlt:=(List.getElem?_eq_some_iff.1 hi).1
  rw[List.getElem?_set_self hlt]at hx
  cases hx
  exact A8 r hb (by simp) (by rw[List.drop_zero,List.take_of_length_le (by simp)]) (f.slot _ _ _ hi hv)
 ·rw[List.getElem?_set_ne e]at hx
  exact (f.slot j x v hx hv).evo (ff b) r.lt
def wX(P:Program)(cfg:Cfg)(c:Code)(fr:List V)(h:Heap)(K:Ex→List V→Heap→Prop):Prop:=∃ s:St,wa P cfg c fr h s∧K s.1 s.2.1 s.2.2
theorem GQ(hm:P.follows .mixedOrders=true)(hN:di P)(hp:∀ f p,prim f=some p→cj P f p){d:Nat}{c:Code}{fr:List V}{h:Heap}{K:Ex→List V→Heap→Prop}
  (hw:@wC P md (aI P md prim n d) cfg n ⟨c⟩ fr h ⟨K⟩):wX P cfg c fr h K:=by
 obtain⟨s,h1,h2⟩:=hw
 exact⟨s,ye hN (dz hm hN hp d) (tQ hm hN (dz hm hN hp d)) _ _ _ _ h1,h2⟩
theorem Jc{a b:Code}{fr:List V}{h:Heap}{K:Ex→List V→Heap→Prop}(h1:wX P cfg a fr h fun e fr1 g1=>e=.normal∧∃ g2 fr2,Frz cfg g1 fr1 g2 fr2∧wX P cfg b fr2 g2 K):wX P cfg (.seq a b) fr h K:=by
 obtain⟨⟨e1,fr1,g1⟩,⟨hs1,hw1⟩,he,g2,fr2,⟨hsf,hf⟩,s2,⟨hs2,hw2⟩,hK⟩:=h1
 simp only at he hsf hf
 subst he
 refine⟨s2,⟨(hs1.trans hsf).trans hs2,fun m w a r fR Q hQ=>wp_seq (hw1 m w a r fR _ fun a' w' ⟨m',e,r',f'⟩=>?_)⟩,hK⟩
 obtain⟨e2,r2,f2⟩:=hf m' w' a' r' f'
 exact hw2 m' w' a' r2 f2 Q fun a2 w2 k=>hQ a2 w2 ((k.trans e2).trans e)
theorem DV{c:Code}{fr1 fr2:List V}{h1 h2:Heap}{K:Ex→List V→Heap→Prop}(hf:Frz cfg h1 fr1 h2 fr2)(hx:wX P cfg c fr2 h2 K):wX P cfg c fr1 h1 K:=by
 obtain⟨s,⟨hs,hw⟩,hK⟩:=hx
 refine⟨s,⟨hf.1.trans hs,fun m w a r fR Q hQ=>?_⟩,hK⟩
 obtain⟨e2,r2,f2⟩:=hf.2 m w a r fR
 exact hw m w a r2 f2 Q fun a2 w2 k=>hQ a2 w2 (k.trans e2)
theorem qu(hm:P.follows .mixedOrders=true)(hN:di P)(hp:∀ f p,prim f=some p→cj P f p){d:Nat}{a b:Code}{fr:List V}{h:Heap}{K:Ex→List V→Heap→Prop}(I:List V→Heap→Prop)
  (h1:@wC P md (aI P md prim n d) cfg n ⟨a⟩ fr h ⟨@kMid ⟨I⟩⟩) (h2:∀ fr h,I fr h→wX P cfg b fr h K):wX P cfg (.seq a b) fr h K:=by
 refine Jc ?_
 obtain⟨s,g1,g2⟩:=GQ hm hN hp h1
 obtain⟨e,f,g⟩:=s
 cases e with
 | normal=>exact⟨_,g1,rfl,g,f,.refl _ _,h2 f g g2⟩
 | exit i=>exact g2.elim
 | ret=>exact g2.elim
theorem wX_fn(hm:P.follows .mixedOrders=true)(hN:di P)(hp:∀ f p,prim f=some p→cj P f p){d:Nat}{c:Code}{fr:List V}{h:Heap}{rs:List ResultVar}
  (hw:@wC P md (aI P md prim n d) cfg n ⟨c⟩ fr h ⟨@kFn P ⟨rs⟩ ⟨fun r _=>r=.bool true⟩⟩):wX P cfg c fr h fun e fr h=>(∀ i,e≠.exit i)∧fZ P fr h rs=some [.bool true]:=by
 obtain⟨s,g1,g2⟩:=GQ hm hN hp hw
 have hk:∀ (fr:List V) (h:Heap),@Af (fZ P fr h rs) h ⟨fun r _=>r=.bool true⟩→fZ P fr h rs=some [.bool true]:=fun fr h hk=>by
  obtain⟨xs,h1,h2⟩:=hk
  rw[h1]
  match xs,h2 with
  | [],h2=>cases h2
  | [x],h2=>have h2:x=.bool true:=h2;rw[h2]
  | _::_::_,h2=>cases h2
 obtain⟨e,fr',h'⟩:=s
 refine⟨(e,fr',h'),g1,?_⟩
 cases e with
 | normal=>exact⟨fun _ he=>(by cases he),hk _ _ g2⟩
 | exit i=>exact g2.elim
 | ret=>exact⟨fun _ he=>(by cases he),hk _ _ g2⟩
theorem wZ{f:FuncId}{fn:Func}{c:Code}{k:Nat}{rs:List ResultVar}{args:List V}(hf:P.funcs[f]?=some fn)(hb:fn.body=some c)(hk:fn.ntmps=k)(hr:fn.results.toList=rs)
  (hw:wX P ⟨0,[],0⟩ c (args++List.replicate (k-args.length) .no) [] fun e fr h=>(∀ i,e≠.exit i)∧fZ P fr h rs=some [.bool true]) {w:World} {vs:Array Value} (hp:PW uV [] w args vs):
  Calls P f vs w fun e w'=>e=.returned (.bool true)∧Below w.heap.size w w':=by
 subst hk
 subst hr
 obtain⟨⟨e,fr,h2⟩,⟨_,hwp⟩,hne,hxs⟩:=hw
 simp only at hne hxs hwp
 refine calls_of_wp hf hb (hwp uV w _ (C6 w) ?_ _ ?_)
 ·refine⟨by simp[hp.1],fun i y v hy hv=>?_,rfl⟩
  by_cases hi:i<args.length
  ·rw[List.getElem?_append_left hi]at hy
   rw[Array.getElem?_append_left (by rw[hp.1];exact hi)]at hv
   exact hp.2 i y v hy hv
  ·rw[List.getElem?_append_right (by omega)]at hy
   rw[Array.getElem?_append_right (by rw[hp.1];omega)]at hv
   simp only[List.getElem?_replicate,Array.getElem?_replicate]at hy hv
   split at hy
   ·split at hv
    ·cases hy;cases hv;exact .no
    ·cases hv
   ·cases hy
 ·rintro a' w' ⟨m',ev,r',f'⟩
  have hres:a'.defers=[]∧∃ v,(results fn a'.tmps).run P w'=.ok v w'∧(Ending.returned v=.returned (.bool true)∧Below w.heap.size w w'):=by
   refine⟨f'.defers,?_⟩
   obtain⟨us,h1,h2',h3⟩:=ob (P:=P) r' f' _ _ hxs
   have hrun:(results fn a'.tmps).run P w'=.ok (if h:us.toArray.size=1 then us.toArray[0] else .tuple us.toArray) w':=by
    unfold results
    have:fn.results=fn.results.toList.toArray:=by simp
    rw[this,List.mapM_toArray,Sem.run_bind,Sem.run_map]
    have hfun:∀ l:List ResultVar,(l.mapM fun
      | .tmp t=>pure (a'.tmps.getD t undef)
      | .cell a t=>do loadVar t (← asAddr (a'.tmps.getD a undef)):Sem (List Value))=l.mapM (qj a'.tmps):=fun l=>by
     congr 1
    erw [hfun,h1]
    rfl
   refine⟨_,hrun,?_,ev.os,ev.tape,ev.output,ev.size,fun b hb=>ev.frame b hb fun x hx=>by obtain⟨cs,hc⟩:=hx;simp at hc⟩
   match us,h2',h3 with
   | [u],_,h3 =>
    have h9:=h3 0 _ _ rfl rfl
    cases h9
    rfl
  cases e with
  | normal=>exact hres
  | exit id=>exact absurd rfl (hne id)
  | ret=>exact hres
end
end Go.Ab
namespace Go.Ab
open Go.Proofs Go.Proofs.Tryz
namespace Bi
def xD:List V→Option (List Int)
 | []=>some []
 | .int .i32 n::r=>(xD r).map (n::·)
 | _=>none
theorem vD:∀ l:List Int,xD (l.map (V.int .i32))=some l
 | []=>rfl
 | x::l=>by
  show (xD (l.map (V.int .i32))).map (x::·)=_
  rw[vD l]
  rfl
theorem rQ:∀ {xs:List V}{l:List Int},xD xs=some l→xs=l.map (V.int .i32)
 | [],l,h=>by cases h;rfl
 | x::r,l,h=>by
  unfold xD at h
  split at h
  ·rename_i he;cases he
  ·rename_i n r' he
   cases he
   cases hz:xD r with
   | none=>rw[hz]at h;cases h
   | some l' =>
    rw[hz]at h
    cases h
    rw[rQ hz]
    rfl
  ·cases h
noncomputable abbrev ofC(cfg:Cfg)(args:List V)(h:Heap):Option (V×Heap):=af (fun _=>0) (aI prog md (fun _=>none) 10000 5) cfg 8 args h
noncomputable def ofP:Prim:=fun cfg args h=>match args with
 | [.sl b off len _ 1,.int .i64 x,.int .i64 y]=>match ab h b with
  | some cs=>if cfg.wr b=true∧off+len≤cs.length then match xD ((cs.drop off).take len) with
    | some l=>ofC cfg [rl l,.int .i64 x,.int .i64 y] (h.set b none)
    | none=>none
   else none
  | none=>none
 | _=>ofC cfg args h
theorem CD{cfg:Cfg}{args:List V}{h:Heap}{r:V}{h':Heap}(hx:ofC cfg args h=some (r,h')):
  HS cfg h h'∧(∃ fn,prog.funcs[8]?=some fn∧fn.body.isNone=false)∧∀ m w vs,Rel m h w→PW m h w args vs→Calls prog 8 vs w fun e w'=>∃ v,e=.returned v∧Out m h w r h' v w':=fN (P:=prog) (dz cG cH (fun _ _ h=>by cases h) 5) hx
theorem H8:cj prog 8 ofP:=by
 intro cfg args h r h' hx
 unfold ofP at hx
 split at hx
 ·rename_i b off len cap x y
  split at hx
  ·rename_i cs hcs
   split at hx
   ·rename_i hc
    obtain⟨hwr,hol⟩:=hc
    split at hx
    ·rename_i l hl
     have hz:=rQ hl
     obtain⟨g1,g2,g3⟩:=CD hx
     refine⟨(se hwr).trans g1,g2,fun m w vs hr hp=>?_⟩
     have hp2:=hp
     obtain⟨hsz,hp3⟩:=hp2
     simp only[List.length_cons,List.length_nil]at hsz
     obtain⟨v0,v1,v2,rfl⟩:∃ v0 v1 v2,vs=#[v0,v1,v2]:=by
      refine⟨vs[0],vs[1],vs[2],Array.ext (by simpa using hsz) fun i h1 h2=>?_⟩
      rcases i with _|_|_|i
      ·rfl
      ·rfl
      ·rfl
      ·simp only[List.size_toArray,List.length_cons,List.length_nil]at h2
       omega
     have r0:=hp3 0 _ v0 rfl rfl
     have r1:=hp3 1 _ v1 rfl rfl
     have r2:=hp3 2 _ v2 rfl rfl
     have hq:=g3 m w #[v0,v1,v2] (qf hr b) (gu (A8 hr hcs hol hz r0) (gu (r1.evo (ff b) hr.lt) (gu (r2.evo (ff b) hr.lt) xA)))
     refine hq.mono fun e w' ⟨v,he,m',ev,re,rr⟩=>⟨v,he,m',(ff b).trans ev,re,rr⟩
    ·cases hx
   ·cases hx
  ·cases hx
 ·exact CD hx
end Bi
end Go.Ab
namespace Go.Ab
open Go.Proofs Go.Proofs.Tryz
namespace Bi
attribute [local congr] az
theorem TxV.lwd{X:Txt}(hV:TxV X)(hn:X.p.t.length≤90){k:Nat×Nat}(hk:qz X k){s:Nat}(h1:k.1≤s)(h2:s≤k.2):0≤X.lwd k s (X.fin k s)∧X.lwd k s (X.fin k s)≤81000000000:=by
 have hf:=fy (X:=X) hk h2
 obtain⟨h8,h9⟩:=hV.gls h1 hf.1 hf.2.1 hk.2.1 hn
 have hlg:(X.lgl k s (X.fin k s)).length≤8100∧∀ g∈X.lgl k s (X.fin k s),0≤g.a∧g.a≤10000000:=by
  unfold Txt.lgl
  split
  ·refine⟨by simpa using h8,fun g hg=>?_⟩
   obtain⟨g',hg',rfl⟩:=List.mem_map.1 hg
   have:=h9 g' hg'
   split
   ·simp
   ·exact this
  ·exact⟨h8,h9⟩
 have h:=gh hlg.2 _ (Nat.le_refl _)
 rw[List.take_length]at h
 unfold Txt.lwd
 omega
theorem uS{X:Txt}{k:Nat×Nat}:∀ (m s:Nat) (y:Int),(X.linK k m s y).length≤m+1
 | 0,s,y=>by rw[Txt.linK];simp
 | m+1,s,y=>by
  rw[Txt.linK]
  split
  ·have:=uS (X:=X) (k:=k) m (X.fin k s) (y+(X.lin k s (X.fin k s) y).l.h)
   simp only[List.length_cons];omega
  ·simp
theorem uR{X:Txt}{M:Nat}:∀ (l:List (Nat×Nat)) (y:Int),(∀ k∈l,k.2-k.1≤M)→(X.linA l y).length≤l.length*(M+1)
 | [],_,_=>by simp[Txt.linA]
 | k::l,y,h=>by
  rw[Txt.linA,List.length_append,List.length_cons,Nat.succ_mul]
  have h1:=uS (X:=X) (k:=k) (k.2-k.1) k.1 y
  have h2:=h k (by simp)
  have h3:=uR (X:=X) l (y+Txt.hgt (X.linK k (k.2-k.1) k.1 y)) fun x hx=>h x (by simp[hx])
  omega
theorem TxV.linL{X:Txt}(hV:TxV X)(hn:X.p.t.length≤90):(X.linA X.secs 0).length≤8281:=by
 have h1:=hV.secsL
 have h2:=uR (X:=X) (M:=X.p.t.length) X.secs 0 fun k hk=>by have:=(hV.secs k hk).2.1;omega
 have h3:X.secs.length*(X.p.t.length+1)≤91*91:=Nat.mul_le_mul (by omega) (by omega)
 omega
end Bi
end Go.Ab
namespace Go.Ab
open Go.Proofs Go.Proofs.Tryz
namespace Bi
theorem yO{f:Int→Int}{l:List Int}:0≤mx f l∧∀ x∈l,f x≤mx f l:=by
 unfold mx
 have:∀ (l:List Int) (a:Int),a≤l.foldl (fun a i=>max a (f i)) a∧∀ x∈l,f x≤l.foldl (fun a i=>max a (f i)) a:=by
  intro l
  induction l with
  | nil=>intro a;exact⟨Int.le_refl _,fun _ h=>by cases h⟩
  | cons x l ih =>
   intro a
   have h1:=ih (max a (f x))
   rw[List.foldl_cons]
   refine⟨by omega,fun y hy=>?_⟩
   rcases List.mem_cons.1 hy with rfl|hy
   ·omega
   ·exact h1.2 y hy
 exact this l 0
theorem mx_le{f:Int→Int}{l:List Int}{M:Int}(hM:0≤M)(h:∀ x∈l,f x≤M):mx f l≤M:=(gy hM h).2
end Bi
end Go.Ab
namespace Go.Ab
open Go.Proofs Go.Proofs.Tryz
namespace Bi
attribute [local congr] az
section
variable {prim:FuncId→Option Prim}(d:Nat)
end
end Bi
end Go.Ab
