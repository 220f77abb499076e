/- The sequences: the program. -/
import Derived.Test.YtoappddifbgegaaGreatPiSq
set_option linter.all false
set_option maxHeartbeats 8000000
set_option maxRecDepth 100000
namespace Go.Ab
open Go.Proofs
namespace Bi
def lh(o M lv:List Int)(n:Nat)(e:Int):List Sq:=
 jc o (fol o M (grp lv (aZ o n) (aZ o n).length)) (grp lv (aZ o n) (aZ o n).length) lv (aZ o n) e (grp lv (aZ o n) (aZ o n).length).length
section
variable {prim:FuncId->Option Prim}(d:Nat)
theorem ur(hp:∀ f,Np2 f->prim f=none)(t o M:List Int)(n:Nat)(e:Int)(he:0<=e)(hn:n<=2000)(htn:t.length=n)(hon:o.length=n)(hM:MOK o M)(lv:List Int)(hlv:lv.length=n)(hl0:∀ x∈lv,0<=x)(y0 y1:Option (List V))(T:Heap):
  ∃ r h2,(∀ cfg,af md (K prim (d+5)) cfg 281 [.ptr 3 0] (y0::y1::some (lv.map (V.int .i64))::some (pcs t o M n e)::T)=some (r,h2))/\r=sqv (lh o M lv n e)/\h2=(y0::y1::some (lv.map (V.int .i64))::some (pcs t o M n e)::T):=by
 refine gB rfl (hp 281 (by decide)) Tryz.func281 rfl rfl rfl (by simp) ?_;have hR:=fun cfg y0 y1 y2 T=>rk (prim:=prim) (d+3) cfg (hp 286 (by decide)) t o M n e y0 y1 y2 T;simp(disch:=omega);refine ah (fun m fr H=>∃ (k:Nat) (v:V) (T':Heap),k<=n/\m=n-k/\H=y0::y1::some (lv.map (V.int .i64))::some (pcs t o M n e)::(T++T')/\Stk H (T.length+4) 1 v ((aZ o k).map (V.int .i64)) /\
  Slots 209 [(0,.ptr 3 0),(3,v),(26,.int .i64 n),(27,.int .i64 k)] fr) (m:=n) (by omega) ⟨0,.nils,[],by omega,by omega,by simp,.inl ⟨rfl,rfl⟩,by simp[htn]⟩ ?_
 rintro m fr H ⟨k,v,T',hk,rfl,rfl,hO,hs⟩;obtain⟨j,rfl⟩:=hs.ex;clear hs;by_cases h0:k<n
 ·obtain⟨x,ho⟩:∃ x,o[k]?=some x:=⟨_,K4 (by omega)⟩;have k7:o.getD k 0=x:=by rw[K9,ho];rfl
  have hP:aZ o (k+1)=if gone (o.getD k 0) then aZ o k else aZ o k++[(k:Int)]:=rfl;rw[k7]at hP;have hkl:=gV o k;cases hg:gone x
  ·rw[hg]at hP;simp(disch:=omega)[h0,hR _ _ _ _ _ k _ ho,hg,-getElem?_pos];refine J5 (by simpa using hO.push [some [.int .i64 (k:Int)]]) (by simp) (by simp) rfl (by simp;omega) (by omega) ?_;intro d' T'' hQ;rw[sB]at hQ;simp(disch:=omega)[wrap64];exact ae (m':=n-(k+1)) (by omega) ⟨k+1,d',T'',by omega,rfl,rfl,by rw[hP];exact hQ,by simp(disch:=omega)⟩
  ·rw[hg]at hP;simp(disch:=omega)[h0,hR _ _ _ _ _ k _ ho,hg,wrap64,-getElem?_pos];exact ae (m':=n-(k+1)) (by omega) ⟨k+1,v,T',by omega,rfl,rfl,by rw[hP];exact hO,by simp(disch:=omega)⟩
 ·obtain rfl:k=n:=by omega
  clear h0 hk;have hkn:=gV o k;have hS:=eR o k;have z4:=fO o k;generalize hkp:aZ o k=kept at *;have hvl:=hO.len (show Tryz.prog.underlying 52=some (.slice 3) by kernel_rfl) (by omega);rw[ML,Oc]at hvl;simp(disch:=omega)[hvl];obtain⟨U,hU⟩:∃ U,U=T++T':=⟨_,rfl⟩;have hUl:T.length<=U.length:=by rw[hU];simp
  rw[<- hU]at hO ⊢;have z5:∀ (i:Nat) (x:Int),kept[i]?=some x->∃ b cap J,v=.sl (b+1+1+1+1) 0 kept.length cap 1/\b<U.length/\(∀ X,ab (U++X) b=some (kept.map (V.int .i64)++J)):=by
   intro i x hx;obtain⟨b,nn,cap,J,rfl,h1,h2,h3,h4,-⟩:=hO.pos (by rintro h;rw[List.map_eq_nil_iff]at h;rw[h]at hx;simp at hx);obtain⟨b',rfl⟩:∃ b',b=b'+1+1+1+1:=⟨b-4,by omega⟩;have hT:nn=kept.length:=by simp at h3;omega
   subst hT;simp at h2 h4;exact⟨b',cap,J,rfl,by omega,fun X=>(aj (by omega)).trans (by simpa using h4)⟩
  refine ah (fun m fr H=>∃ (i:Nat) (w:V) (vs:List V) (X:Heap),i<=kept.length/\m=kept.length-i/\H=y0::y1::some (lv.map (V.int .i64))::some (pcs t o M k e)::(U++X)/\Nst H (U.length+4) w vs (grp lv kept i) /\
   Slots 209 [(0,.ptr 3 0),(3,v),(5,w),(39,v),(40,.int .i64 kept.length),(41,.int .i64 i)] fr) (m:=kept.length) (by omega) ⟨0,.nils,[],[],by omega,by omega,by simp,Nst.zero,by simp⟩ ?_
  rintro m fr H ⟨i,w,vs,X,hi,rfl,rfl,hm,hs⟩;obtain⟨j2,rfl⟩:=hs.ex;clear hs;by_cases h0:i<kept.length
  ·obtain⟨x,hx⟩:∃ x,kept[i]?=some x:=⟨_,K4 h0⟩;have hxr:=hS x (K6 hx);have k8:lv[x.toNat]?=some (lvl lv x):=by rw[lvl,K9,K4 (by omega)];rfl
   have hkx:kept.getD i 0=x:=by rw[K9,hx];rfl
   have hy:grp lv kept (i+1)=if i=0\/lvl lv x≠lvl lv (kept.getD (i-1) 0) then grp lv kept i++[[x]] else oG (grp lv kept i) x:=by rw[<- hkx];rfl
   obtain⟨b,cap,J,rfl,hbl,hv⟩:=z5 i x hx;have hvs:∀ (i:Nat) (x:Int),kept[i]?=some x->slot (kept.map (V.int .i64)++J) i=some (.int .i64 x):=by
    intro i x hx;rw[slot,K8 (by simpa using (K5.1 hx).1),Lh,hx];rfl
   have hxv:=hvs i x hx;simp(disch:=omega)[h0,hv,hxv,-getElem?_pos];refine ai 21 (by kernel_rfl) ?_;simp(disch:=omega)[-getElem?_pos];have z6:=ph lv kept i;have h9:=hm.len;by_cases z7:i=0
   ·subst z7;rw[if_pos (.inl rfl)]at hy;simp(disch:=omega);refine xo (hm.push4 _) (by simp;omega) (by simp;omega) (by omega) (by omega) ?_;intro d' X' ha;obtain⟨b',cap',J',rfl,k9,hb2,hX⟩:=ha.top;have hY:=rA vs J' .nils;obtain⟨b',rfl⟩:∃ b'',b'=b''+1+1+1+1:=⟨b'-4,by omega⟩;have h6:=hX;simp only[de]at h6;have hZ:∀ Y,ab (U++(X'++Y)) b'=some (vs++.nils::J'):=fun Y=>by rw[<- List.append_assoc];exact (aj (ao h6)).trans h6
    have hvn:((vs.length:Int)+1-1).toNat=vs.length:=by omega
    simp(disch:=omega)[h6,hY,wrap64];refine rG (ha.push4 _) (by simpa using hZ _) h9 (by simp;omega) (by simp;omega) (by simp) (by omega) ?_;intro d' X2 X3 hD hd;simp(disch:=omega)[wrap64,hD];exact ae (m':=kept.length-(0+1)) (by omega) ⟨0+1,_,_,X3,by omega,rfl,rfl,by rw[hy];exact hd,by simp(disch:=omega)⟩
   ·obtain⟨u,hu⟩:∃ u,kept[i-1]?=some u:=⟨_,K4 (by omega)⟩;have hur:=hS u (K6 hu);have hlu:lv[u.toNat]?=some (lvl lv u):=by rw[lvl,K9,K4 (by omega)];rfl
    have hku:kept.getD (i-1) 0=u:=by rw[K9,hu];rfl
    have hin:((i:Int)-1).toNat=i-1:=by omega
    have hiI:¬ (i:Int)=0:=by omega
    have hvu:=hvs (i-1) u hu;rw[hku]at hy;simp(disch:=omega)[z7,hv,k8,hvu,hin,hlu,wrap64,-getElem?_pos];by_cases hle:lvl lv x=lvl lv u
    ·rw[if_neg (by rintro (h|h);exact z7 h;exact h hle)]at hy;obtain⟨vs0,u0,rfl⟩:∃ vs0 u0,vs=vs0++[u0]:=by
      have hne:vs≠[]:=by
       intro h;have:=tP lv kept i (by omega);rw[h]at h9;exact this (LH.1 h9.symm)
      exact⟨_,_,(ME hne).symm⟩
     obtain⟨rs0,r0,g0⟩:∃ rs0 r0,grp lv kept i=rs0++[r0]:=⟨_,_,(ME (tP lv kept i (by omega))).symm⟩;have hg2:grp lv kept (i+1)=rs0++[r0++[x]]:=by rw[hy,g0];simp[oG]
     rw[g0]at hm h9 z6;simp at h9 z6;have hr0:r0.length<=kept.length:=by
      have h1:=mb lv kept i hi;rw[g0]at h1;have h2:=congrArg List.length h1;simp at h2;omega
     obtain⟨b',cap',J',rfl,k9,hb2,hX⟩:=hm.top;have hY:=rA vs0 J' u0;obtain⟨b',rfl⟩:∃ b'',b'=b''+1+1+1+1:=⟨b'-4,by omega⟩;have h6:=hX;simp only[de]at h6;have hZ:∀ Y,ab (U++(X++Y)) b'=some (vs0++u0::J'):=fun Y=>by rw[<- List.append_assoc];exact (aj (ao h6)).trans h6
     have hvn:((vs0.length:Int)+1-1).toNat=vs0.length:=by omega
     simp(disch:=omega)[hle,h6,hY,wrap64];refine rG (hm.push4 _) (by simpa using hZ _) h9 (by simp;omega) (by simp;omega) (by omega) (by omega) ?_;intro d' X2 X3 hD hd;simp(disch:=omega)[wrap64,hD];exact ae (m':=kept.length-(i+1)) (by omega) ⟨i+1,_,_,X3,by omega,rfl,rfl,by rw[hg2];exact hd,by simp(disch:=omega)⟩
    ·rw[if_pos (.inr hle)]at hy;simp(disch:=omega)[hle];refine xo (hm.push4 _) (by simp;omega) (by simp;omega) (by omega) (by omega) ?_;intro d' X' ha;obtain⟨b',cap',J',rfl,k9,hb2,hX⟩:=ha.top;have hY:=rA vs J' .nils;obtain⟨b',rfl⟩:∃ b'',b'=b''+1+1+1+1:=⟨b'-4,by omega⟩;have h6:=hX;simp only[de]at h6;have hZ:∀ Y,ab (U++(X'++Y)) b'=some (vs++.nils::J'):=fun Y=>by rw[<- List.append_assoc];exact (aj (ao h6)).trans h6
     have hvn:((vs.length:Int)+1-1).toNat=vs.length:=by omega
     simp(disch:=omega)[h6,hY,wrap64];refine rG (ha.push4 _) (by simpa using hZ _) h9 (by simp;omega) (by simp;omega) (by simp) (by omega) ?_;intro d' X2 X3 hD hd;simp(disch:=omega)[wrap64,hD];exact ae (m':=kept.length-(i+1)) (by omega) ⟨i+1,_,_,X3,by omega,rfl,rfl,by rw[hy];exact hd,by simp(disch:=omega)⟩
  ·obtain rfl:i=kept.length:=by omega
   have g1:=mb lv kept kept.length (La _);rw[LF]at g1;have g2:=pf lv kept kept.length;have z6:=ph lv kept kept.length;have h9:=hm.len;generalize g0:grp lv kept kept.length=rs at *;have w7:=hm.out.len (show Tryz.prog.underlying 329=some (.slice 52) by kernel_rfl) (by omega);rw[Oc,h9]at w7;have hpw:rs.flatten.Pairwise (·<·):=by rw[g1];exact z4
   have z8:∀ (i:Nat) (r:List Int),rs[i]?=some r->∃ b cap J,vs[i]?=some (.sl (b+1+1+1+1) 0 r.length cap 1)/\r≠[]/\(∀ Y,ab (U++(X++Y)) b=some (r.map (V.int .i64)++J)):=by
    intro i r hr;have hi:=(K5.1 hr).1;obtain⟨u,hu⟩:∃ u,vs[i]?=some u:=⟨_,K4 (by omega)⟩;have hne:=g2 r (K6 hr);obtain⟨b,nn,cap,J,rfl,h1,h2,h3,h4,-⟩:=(hm.inn i u r hu hr).1.pos (by simpa using hne);obtain⟨b',rfl⟩:∃ b',b=b'+1+1+1+1:=⟨b-4,by omega⟩;have hT:nn=r.length:=by simp at h3;omega
    subst hT;simp at h2 h4;exact⟨b',cap,J,hu,hne,fun Y=>by rw[<- List.append_assoc];exact (aj (ao h4)).trans h4⟩
   have z9:∀ (i:Nat) (r:List Int),rs[i]?=some r->∃ b cap J,w=.sl (b+1+1+1+1) 0 rs.length cap 1/\(∀ Y,ab (U++(X++Y)) b=some (vs++J)):=by
    intro i r hr;have hi:=(K5.1 hr).1;obtain⟨b,nn,cap,J,rfl,h1,h2,h3,h4,-⟩:=hm.out.pos (by intro h;rw[h]at h9;simp at h9;omega);obtain⟨b',rfl⟩:∃ b',b=b'+1+1+1+1:=⟨b-4,by omega⟩;have hT:nn=rs.length:=by simp at h3;omega
    subst hT;simp at h2 h4;exact⟨b',cap,J,rfl,fun Y=>by rw[<- List.append_assoc];exact (aj (ao h4)).trans h4⟩
   simp(disch:=omega)[Gs,w7];refine ah (fun m fr H=>∃ (i:Nat) (mp:List (Int×Int)),i<=rs.length/\m=rs.length-i/\H=y0::y1::some (lv.map (V.int .i64))::some (pcs t o M k e)::(U++(X++[some [.mp .i64 .i64 mp]]))/\(∀ z,oO mp z=(bgn (rs.take i) z).map Int.ofNat) /\
    Slots 209 [(0,.ptr 3 0),(3,v),(5,w),(8,.mref (U.length+X.length+1+1+1+1)),(88,w),(89,.int .i64 rs.length),(90,.int .i64 i)] fr) (m:=rs.length) (by omega) ⟨0,[],by omega,by omega,rfl,fun z=>rfl,by simp⟩ ?_
   rintro m fr H ⟨i,mp,hi,rfl,rfl,hmp,hs⟩;obtain⟨j3,rfl⟩:=hs.ex;clear hs;by_cases h0:i<rs.length
   ·obtain⟨r,hr⟩:∃ r,rs[i]?=some r:=⟨_,K4 h0⟩;obtain⟨b,cap,J,hf,h7,hv⟩:=z8 i r hr;obtain⟨b2,cap2,J2,rfl,h8⟩:=z9 i r hr;obtain⟨x,hx⟩:∃ x,r.head?=some x:=by cases r with|nil=>exact absurd rfl h7|cons a q=>exact⟨a,rfl⟩
    have k7:r[0]?=some x:=by rw[<- List.head?_eq_getElem?];exact hx
    have hsx:=gx (k:=.i64) (J:=J) k7;have g3:slot (vs++J2) i=some (.sl (b+1+1+1+1) 0 r.length cap 1):=by rw[slot,K8 (by omega),hf]
    have hrl:0<r.length:=LW.2 h7;simp(disch:=omega)[h0,hv,h8,hsx,g3];have w8:mapOf (y0::y1::some (lv.map (V.int .i64))::some (pcs t o M k e)::(U++(X++[some [.mp .i64 .i64 mp]]))) (U.length+X.length+1+1+1+1)=some (.i64,.i64,mp):=by
     simp[mapOf,<- List.append_assoc]
    have hD:(y0::y1::some (lv.map (V.int .i64))::some (pcs t o M k e)::(U++(X++[some [.mp .i64 .i64 mp]]))).set (U.length+X.length+1+1+1+1) (some [.mp .i64 .i64 (lJ mp x i)])=y0::y1::some (lv.map (V.int .i64))::some (pcs t o M k e)::(U++(X++[some [.mp .i64 .i64 (lJ mp x i)]])):=by
     simp[<- List.append_assoc]
    rw[Gt (m:=.mref (U.length+X.length+1+1+1+1)) (x:=.int .i64 x) (y:=.int .i64 i) rfl rfl rfl,mapUp w8 (bH (by omega)),hD];simp(disch:=omega)[wrap64];exact ae (m':=rs.length-(i+1)) (by omega) ⟨i+1,_,by omega,rfl,rfl,fun z=>by
     rw[sO,Ct hr hx (fun j q hj hq=>Di hpw hr hx hj hq),hmp z];by_cases hz:z=x<;>simp[hz],by simp(disch:=omega)⟩
   ·obtain rfl:i=rs.length:=by omega
    simp(disch:=omega);refine ai 7 (by kernel_rfl) ?_;simp(disch:=omega)[w7];obtain⟨W,hW⟩:∃ W:Heap,W=U++(X++[some [V.mp .i64 .i64 mp]]):=⟨_,rfl⟩;have hWl:W.length=U.length+(X.length+1):=by rw[hW];simp
    have hWT:T.length<=W.length:=by omega
    have hH:∀ (i:Nat) (r:List Int),rs[i]?=some r->∃ b cap J,vs[i]?=some (.sl (b+1+1+1+1) 0 r.length cap 1)/\r≠[]/\(∀ Y,ab (W++Y) b=some (r.map (V.int .i64)++J)):=by
     intro i r hr;obtain⟨b,cap,J,h1,h2,h3⟩:=z8 i r hr;exact⟨b,cap,J,h1,h2,fun Y=>by rw[hW];simpa using h3 ([some [V.mp .i64 .i64 mp]]++Y)⟩
    have hJ:∀ (i:Nat) (r:List Int),rs[i]?=some r->∃ b cap J,w=.sl (b+1+1+1+1) 0 rs.length cap 1/\(∀ Y,ab (W++Y) b=some (vs++J)):=by
     intro i r hr;obtain⟨b,cap,J,h1,h2⟩:=z9 i r hr;exact⟨b,cap,J,h1,fun Y=>by rw[hW];simpa using h2 ([some [V.mp .i64 .i64 mp]]++Y)⟩
    have g4:∀ (i:Nat) (x:Int),kept[i]?=some x->∃ b cap J,v=.sl (b+1+1+1+1) 0 kept.length cap 1/\(∀ Y,ab (W++Y) b=some (kept.map (V.int .i64)++J)):=by
     intro i x hx;obtain⟨b,cap,J,h1,_,h2⟩:=z5 i x hx;exact⟨b,cap,J,h1,fun Y=>by rw[hW];simpa using h2 (X++([some [V.mp .i64 .i64 mp]]++Y))⟩
    have w8:∀ Y,mapOf (y0::y1::some (lv.map (V.int .i64))::some (pcs t o M k e)::(W++Y)) (U.length+X.length+1+1+1+1)=some (.i64,.i64,mp):=by
     intro Y;have hg:(W++Y)[U.length+X.length]?=some (some [V.mp .i64 .i64 mp]):=by
      rw[K8 (by omega),hW,<- List.append_assoc,Lg (by simp)];simp
     simp[mapOf,hg]
    rw[LF]at hmp;have hfr:∀ x∈rs.flatten,0<=x/\x<o.length:=by
     intro x hx;rw[g1]at hx;have:=hS x hx;omega
    have hF:=fun j hj=>ya hM hpw hfr j hj;have hb0:∀ (cs:List V) (r:Heap),isMap cs=false->ab (W++some cs::r) W.length=some cs:=fun cs r h=>by simp[h]
    have k9:∀ (x:Option (List V)) (cs:List V) (r:Heap),isMap cs=false->ab (W++x::some cs::r) (W.length+1)=some cs:=fun x cs r h=>by simp[h]
    have hrb:∀ r∈rs,r.length<=kept.length:=fun r h=>by rw[<- g1];exact (List.sublist_flatten_of_mem h).length_le
    have hs0:∀ (x z:Option (List V)) (r:Heap),(W++x::r).set W.length z=W++z::r:=fun x z r=>by simp
    have hs1:∀ (x y z:Option (List V)) (r:Heap),(W++x::y::r).set (W.length+1) z=W++x::z::r:=fun x y z r=>by
     rw[LO _ _ (by omega)];simp
    have hK:(Cfg.wr ⟨T.length+1+1+1+1,[],T.length+1+1+1+1⟩ (W.length+1+1+1+1))=true:=by simp[Cfg.wr];omega
    have g5:(Cfg.wr ⟨T.length+1+1+1+1,[],T.length+1+1+1+1⟩ (W.length+1+1+1+1+1))=true:=by simp[Cfg.wr];omega
    have hbs:∀ (l:List Bool) (i:Nat) (b:Bool),(l.map V.bool).set i (.bool b)=(l.set i b).map V.bool:=fun l i b=>by rw[MZ]
    have hbg:∀ (l:List Bool) (i:Nat) (b:Bool),l[i]?=some b->slot (l.map V.bool) i=some (.bool b):=fun l i b h=>by rw[slot,Lh,h];rfl
    have hz1:bj [V.int .i64 0] rs.length=(gT (fol o M rs) rs.length 0).map (V.int .i64):=by rw[di,Bb]
    have hz2:bj [V.bool false] rs.length=(gQ (fol o M rs) rs.length 0).map V.bool:=by
     rw[A3];generalize rs.length=N
     induction N with
     | zero=>rfl
     | succ N ih=>simp[bj,ih,MK]
    have hH0:(U++(X++[some [V.mp IntKind.i64 IntKind.i64 mp],some (bj [V.int IntKind.i64 0] rs.length),some (bj [V.bool false] rs.length)]))=W++[some ((gT (fol o M rs) rs.length 0).map (V.int .i64)),some ((gQ (fol o M rs) rs.length 0).map V.bool)]:=by
     rw[hz1,hz2,hW];simp
    rw[hH0];have hFl:∀ i,(gT (fol o M rs) rs.length i).length=rs.length:=lZ _ _;have hCl:∀ i,(gQ (fol o M rs) rs.length i).length=rs.length:=lX _ _;have hI:=fun cfg h x=>lD (prim:=prim) (d+3) cfg h (hp 304 (by decide)) x;have hMl:=hM.len;refine ah (fun m fr H=>∃ (i:Nat),i<=rs.length/\m=rs.length-i/\H=y0::y1::some (lv.map (V.int .i64))::some (pcs t o M k e)::(W++[some ((gT (fol o M rs) rs.length i).map (V.int .i64)),some ((gQ (fol o M rs) rs.length i).map V.bool)]) /\
     Slots 209 [(0,.ptr 3 0),(3,v),(5,w),(8,.mref (U.length+X.length+1+1+1+1)),(11,.sl (W.length+1+1+1+1) 0 rs.length rs.length 1),(12,.sl (W.length+1+1+1+1+1) 0 rs.length rs.length 1),(107,w),(108,.int .i64 rs.length),(109,.int .i64 i)] fr) (m:=rs.length) (by omega) ⟨0,by omega,by omega,rfl,by simp[hWl];omega⟩ ?_
    rintro m fr H ⟨i,hi,rfl,rfl,hs⟩;obtain⟨j4,rfl⟩:=hs.ex;clear hs;by_cases h0:i<rs.length
    ·obtain⟨r,hr⟩:∃ r,rs[i]?=some r:=⟨_,K4 h0⟩;obtain⟨b,cap,J,hf,h7,hv⟩:=hH i r hr;obtain⟨b2,cap2,J2,rfl,h8⟩:=hJ i r hr;have hrl:0<r.length:=LW.2 h7;obtain⟨z,hz⟩:∃ z,r[r.length-1]?=some z:=⟨_,K4 (by omega)⟩;have hzl:r.getLast?=some z:=by rw[N7];exact hz
     have hsz:=gx (k:=.i64) (J:=J) hz;have g3:slot (vs++J2) i=some (.sl (b+1+1+1+1) 0 r.length cap 1):=by rw[slot,K8 (by omega),hf]
     have hzr:=hfr z (NP.2 ⟨r,K6 hr,K6 hz⟩);have hrn:((r.length:Int)-1).toNat=r.length-1:=by omega
     have ho:o[z.toNat]?=some (o.getD z.toNat 0):=by rw[K9,K4 (by omega)];rfl
     have hMz:M[z.toNat]?=some (M.getD z.toNat 0):=by rw[K9,K4 (by omega)];rfl
     have w9:=fun h=>IJ (o:=o) (M:=M) hr hzl h;have hf2:=fun h=>C4 (o:=o) (M:=M) hr hzl h;have hf3:=fun q h1 h2 h=>C5 (o:=o) (M:=M) (q:=q) hr hzl h1 h2 h;generalize o.getD z.toNat 0=oz at ho w9 hf3;generalize M.getD z.toNat 0=mz at hMz w9 hf2 hf3;have hi1:i+1<=rs.length:=h0;have hiI:(i:Int)<rs.length:=by omega
     have hS1:∀ x y,((gT (fol o M rs) rs.length i).set i x).set i y=(gT (fol o M rs) rs.length i).set i y:=fun x y=>M0 ..;have hz0:0<=z:=hzr.1;have hrb1:=hrb r (K6 hr);simp(disch:=omega)[h0,h8,g3,hs0,hFl,hK,hi1,-getElem?_pos];simp(disch:=omega)[hv,hsz,hrn,ho,hI,wrap64,-getElem?_pos];have hh:fol o M rs i=-1->((gT (fol o M rs) rs.length i).map (V.int .i64)).set i (.int .i64 (-1))=(gT (fol o M rs) rs.length (i+1)).map (V.int .i64)/\gQ (fol o M rs) rs.length (i+1)=gQ (fol o M rs) rs.length i:=fun h=>by
      refine⟨?_,CM (by omega)⟩;rw[ints_set,vE _ _ _ _ h.symm]
     by_cases hio:ini oz=true
     ·simp(disch:=omega)[hio,hMz,-getElem?_pos];by_cases z0:mz<0
      ·obtain⟨g6,g7⟩:=hh (w9 (.inr z0));simp(disch:=omega)[z0,wrap64];exact ae (m':=rs.length-(i+1)) (by omega) ⟨i+1,by omega,rfl,by rw[<- g6,g7],by simp(disch:=omega)⟩
      ·simp(disch:=omega)[z0,hMz,-getElem?_pos];have hop:∀ fr Y,fr[143]?=some (V.mref (U.length+X.length+1+1+1+1))->fr[150]?=some (.int .i64 mz)->aB Tryz.prog md (aH Tryz.prog md prim 10000 (d+4)) ⟨T.length+1+1+1+1,[],T.length+1+1+1+1⟩ fr (y0::y1::some (lv.map (V.int .i64))::some (pcs t o M k e)::(W++Y)) (.lookup 330 (.tmp 143) (.tmp 150) true) =
         some (match bgn rs mz with|some q=>.tup [.int .i64 (q:Int),.bool true]|none=>.tup [.int .i64 0,.bool false],y0::y1::some (lv.map (V.int .i64))::some (pcs t o M k e)::(W++Y)):=by
        intro fr Y h1 h2;rw[Gr (m:=V.mref (U.length+X.length+1+1+1+1)) (x:=.int .i64 mz) (by simpa[ev]using h1) (by simpa[ev]using h2),mapLk (w8 Y),hmp mz];cases bgn rs mz<;>rfl
       rw[hop _ _ rfl rfl];cases hN:bgn rs mz with
       | none =>
        obtain⟨g6,g7⟩:=hh (hf2 hN);simp(disch:=omega)[wrap64];exact ae (m':=rs.length-(i+1)) (by omega) ⟨i+1,by omega,rfl,by rw[<- g6,g7],by simp(disch:=omega)⟩
       | some q =>
        have z1:=hf3 q hio z0 hN;obtain⟨rq,hrq,_⟩:=pO hN;have hql:=(K5.1 hrq).1;have hq1:q+1<=rs.length:=hql;have hqI:(q:Int)<rs.length:=by omega
        have hx2:∀ x,isMap ((List.map V.bool (gQ (fol o M rs) rs.length i)).set q (V.bool x))=false:=fun x=>by rw[hbs];exact vQ
        simp(disch:=omega)[hs0,hs1,hFl,hCl,hK,g5,hi1,hq1,wrap64,-getElem?_pos];refine ae (m':=rs.length-(i+1)) (by omega) ⟨i+1,by omega,rfl,?_,by simp(disch:=omega)⟩;simp only[bR,ints_set,hbs,M0];rw[vE _ _ _ _ z1.symm,CO z1]
     ·have g8:ini oz=false:=by simpa using hio
      obtain⟨g6,g7⟩:=hh (w9 (.inl g8));simp(disch:=omega)[g8,wrap64];exact ae (m':=rs.length-(i+1)) (by omega) ⟨i+1,by omega,rfl,by rw[<- g6,g7],by simp(disch:=omega)⟩
    ·obtain rfl:i=rs.length:=by omega
     obtain⟨W2,hw⟩:∃ W2:Heap,W2=W++[some ((gT (fol o M rs) rs.length rs.length).map (V.int .i64)),some ((gQ (fol o M rs) rs.length rs.length).map V.bool)]:=⟨_,rfl⟩;rw[<- hw];have hW2T:T.length<=W2.length:=by rw[hw];simp;omega
     have g9:∀ (i:Nat) (r:List Int),rs[i]?=some r->∃ b cap J,vs[i]?=some (.sl (b+1+1+1+1) 0 r.length cap 1)/\r≠[]/\(∀ Y,ab (W2++Y) b=some (r.map (V.int .i64)++J)):=by
      intro i r hr;obtain⟨b,cap,J,h1,h2,h3⟩:=hH i r hr;exact⟨b,cap,J,h1,h2,fun Y=>by rw[hw,Ly];exact h3 _⟩
     have hwr3:∀ (i:Nat) (r:List Int),rs[i]?=some r->∃ b cap J,w=.sl (b+1+1+1+1) 0 rs.length cap 1/\(∀ Y,ab (W2++Y) b=some (vs++J)):=by
      intro i r hr;obtain⟨b,cap,J,h1,h2⟩:=hJ i r hr;exact⟨b,cap,J,h1,fun Y=>by rw[hw,Ly];exact h2 _⟩
     have hvi3:∀ (i:Nat) (x:Int),kept[i]?=some x->∃ b cap J,v=.sl (b+1+1+1+1) 0 kept.length cap 1/\(∀ Y,ab (W2++Y) b=some (kept.map (V.int .i64)++J)):=by
      intro i x hx;obtain⟨b,cap,J,h1,h2⟩:=g4 i x hx;exact⟨b,cap,J,h1,fun Y=>by rw[hw,Ly];exact h2 _⟩
     have hfb:∀ Y,ab (W2++Y) W.length=some ((gT (fol o M rs) rs.length rs.length).map (V.int .i64)):=fun Y=>by rw[hw];simp
     have hcb:∀ Y,ab (W2++Y) (W.length+1)=some ((gQ (fol o M rs) rs.length rs.length).map V.bool):=fun Y=>by rw[hw];simp
     clear hb0 k9 hs0 hs1 hH hJ g4 w8 z8 z9 z5 hH0 hK g5 hz1 hz2;have hhp0:Hp (y0::y1::some (lv.map (V.int .i64))::some (pcs t o M k e)::W2) (y0::y1::some (lv.map (V.int .i64))::some (pcs t o M k e)::W2) ((4,.nils,([]:List (V×Sq)).flatMap sqc)::([]:List (V×Sq)).map sqo):=Hp.start.nil 4;simp(disch:=omega)[w7];refine ah (fun m fr H=>∃ (i:Nat) (ov:V) (ss:List (V×Sq)) (Z:Heap),i<=rs.length/\m=rs.length-i/\H=y0::y1::some (lv.map (V.int .i64))::some (pcs t o M k e)::(W2++Z)/\ss.map (·.2)=jc o (fol o M rs) rs lv kept e i /\
      Hp H (y0::y1::some (lv.map (V.int .i64))::some (pcs t o M k e)::W2) ((4,ov,ss.flatMap sqc)::ss.map sqo) /\
      Slots 209 [(0,.ptr 3 0),(3,v),(5,w),(11,.sl (W.length+1+1+1+1) 0 rs.length rs.length 1),(12,.sl (W.length+1+1+1+1+1) 0 rs.length rs.length 1),(18,ov),(163,w),(164,.int .i64 rs.length),(165,.int .i64 i)] fr) (m:=rs.length) (by omega) ⟨0,.nils,[],[],by omega,by omega,by simp,rfl,hhp0,by simp⟩ ?_
     rintro m fr H ⟨i,ov,ss,Z,hi,rfl,rfl,z2,hhp,hs⟩;obtain⟨j5,rfl⟩:=hs.ex;clear hs;by_cases h0:i<rs.length
     ·obtain⟨r,hr⟩:∃ r,rs[i]?=some r:=⟨_,K4 h0⟩;obtain⟨b,cap,J,hf,h7,hv⟩:=g9 i r hr;obtain⟨b2,cap2,J2,rfl,h8⟩:=hwr3 i r hr;have hrl:0<r.length:=LW.2 h7;obtain⟨x,hx⟩:∃ x,r[0]?=some x:=⟨_,K4 hrl⟩;have hsx:=gx (k:=.i64) (J:=J) hx;have g3:slot (vs++J2) i=some (.sl (b+1+1+1+1) 0 r.length cap 1):=by rw[slot,K8 (by omega),hf]
      have hxr:=hfr x (NP.2 ⟨r,K6 hr,K6 hx⟩);have k7:0<=x:=hxr.1;have k8:lv[x.toNat]?=some (lvl lv x):=by rw[lvl,K9,K4 (by omega)];rfl
      have hiI:(i:Int)<rs.length:=by omega
      have hcg:=hbg _ _ _ (lW (F:=fol o M rs) (i:=rs.length) h0);simp(disch:=omega)[h0,hcb,hcg,-getElem?_pos];cases hco:con (fol o M rs) rs.length i
      ·have hsu:jc o (fol o M rs) rs lv kept e (i+1)=jc o (fol o M rs) rs lv kept e i++[Es o (fol o M rs) rs lv kept e i]:=by rw[jc,hco];rfl
       simp(disch:=omega);refine ai 14 (by kernel_rfl) ?_;simp(disch:=omega)[hv,h8,g3,hsx,k8,-getElem?_pos];have hwz:∀ c,W2.length+Z.length+1+1+1+1<=c->(Cfg.wr ⟨T.length+1+1+1+1,[],T.length+1+1+1+1⟩ c)=true:=fun c hc=>by simp[Cfg.wr];omega
       obtain⟨cf1,cf2,cf3⟩:=so hF g1 g2 hr;have hch:=CE (F:=fol o M rs) hr hx;generalize hL:chn (fol o M rs) rs rs.length i=L at cf1 cf2 cf3 hch;have hLl:=cf1.length_le;simp(disch:=omega)[hwz];have hp1:=hhp.new (n:=1) (k:=4) (cs:=[V.nils,.int .i64 (lvl lv x),.int .i64 0,.int .i64 0]) rfl rfl [];have hp2:=hp1.nil 1;obtain⟨A,hA⟩:∃ A,A=W2.length+Z.length:=⟨_,rfl⟩;have hAl:(y0::y1::some (lv.map (V.int .i64))::some (pcs t o M k e)::(W2++Z)).length=A+1+1+1+1:=by simp[hA]
       rw[hAl]at hp2;rw[<- hA];refine ah (fun m fr H=>∃ (f:Nat) (jj:Int) (u:V) (l:List Int) (Z':Heap),m=(if 0<=jj then ((rs.length:Int)-jj).toNat else 0)/\jj<rs.length/\(0<=jj->(rs.length:Int)-jj<=f)/\l++chn (fol o M rs) rs f jj=L/\H=y0::y1::some (lv.map (V.int .i64))::some (pcs t o M k e)::(W2++Z') /\
        Hp H (y0::y1::some (lv.map (V.int .i64))::some (pcs t o M k e)::W2) ((1,u,l.map (V.int .i64))::(4,.sl (A+1+1+1+1) 0 1 1 4,[u,.int .i64 (lvl lv x),.int .i64 0,.int .i64 0])::(4,ov,ss.flatMap sqc)::ss.map sqo) /\
        Slots 209 [(0,.ptr 3 0),(3,v),(5,.sl (b2+1+1+1+1) 0 rs.length cap2 1),(11,.sl (W.length+1+1+1+1) 0 rs.length rs.length 1),(12,.sl (W.length+1+1+1+1+1) 0 rs.length rs.length 1),(18,ov),(19,.int .i64 i),(20,.ptr (A+1+1+1+1) 0),(21,.int .i64 jj),(163,.sl (b2+1+1+1+1) 0 rs.length cap2 1),(164,.int .i64 rs.length),(165,.int .i64 i)] fr) (m:=rs.length-i) (by omega) ⟨rs.length,i,.nils,[],_,by rw[if_pos (by omega)];omega,by omega,fun _=>by omega,by simpa using hL,rfl,by simpa using hp2,by simp⟩ ?_
       rintro m fr H ⟨f,jj,u,l,Z',rfl,hj1,hj2,k0,rfl,ht,hs⟩;obtain⟨j6,rfl⟩:=hs.ex;clear hs hp1 hp2;have hsA:=ht.snd;have hbA:ab (y0::y1::some (lv.map (V.int .i64))::some (pcs t o M k e)::(W2++Z')) (A+1+1+1+1)=some [u,.int .i64 (lvl lv x),.int .i64 0,.int .i64 0]:=by
        rcases hsA with⟨h,_⟩|⟨b',n',h1,_,_,h2⟩
        ·cases h
        ·cases h1;exact h2
       have k1:ab (W2++Z') A=some [u,.int .i64 (lvl lv x),.int .i64 0,.int .i64 0]:=by simpa using hbA
       by_cases z3:0<=jj
       ·obtain⟨q,rfl⟩:∃ q:Nat,jj=q:=⟨jj.toNat,by omega⟩;have hq:q<rs.length:=by omega
        have hj2':=hj2 z3;obtain⟨f,rfl⟩:∃ f',f=f'+1:=⟨f-1,by omega⟩;obtain⟨r2,hr2⟩:∃ r,rs[q]?=some r:=⟨_,K4 hq⟩;rw[pV hr2]at k0;obtain⟨b3,cap3,J3,hv3,k2,hbk3⟩:=g9 q r2 hr2;have hsv3:slot (vs++J2) q=some (.sl (b3+1+1+1+1) 0 r2.length cap3 1):=by rw[slot,K8 (by omega),hv3]
        have hrl3:0<r2.length:=LW.2 k2;have z1:((gT (fol o M rs) rs.length rs.length))[q]?=some (fol o M rs q):=vD hq hq;simp(disch:=omega)[z3];refine ai 6 (by kernel_rfl) ?_;simp(disch:=omega)[k1,h8,hbk3,hsv3,-getElem?_pos];have htk:List.take r2.length (r2.map (V.int .i64)++J3)=r2.map (V.int .i64):=Mz (by simp);have hlfm:(∀ x∈r2.map (V.int .i64),x.leaf=true):=by
         intro x hx;obtain⟨y,_,rfl⟩:=Me.1 hx;rfl
        rw[htk,if_pos hlfm];have hll:l.length+r2.length<=2000:=by
         have:=congrArg List.length k0;simp at this;omega
        refine cg ht (by simp;omega) (by simp) (by simp) (by omega) (by omega) (by simp;omega) (by simp;omega) ?_;intro u' H' hl;obtain⟨Z2,hZ2⟩:=Dp hl;simp only[LM]at hZ2;subst hZ2;have hsA3:=hl.snd;have hbA3:ab (y0::y1::some (lv.map (V.int .i64))::some (pcs t o M k e)::(W2++Z2)) (A+1+1+1+1)=some [u,.int .i64 (lvl lv x),.int .i64 0,.int .i64 0]:=by
         rcases hsA3 with⟨h,_⟩|⟨b',n',h1,_,_,h2⟩
         ·cases h
         ·cases h1;exact h2
        have k3:ab (W2++Z2) A=some [u,.int .i64 (lvl lv x),.int .i64 0,.int .i64 0]:=by simpa using hbA3
        have hcu:=hl.head.cells;have k4:=hl.swap.setO (cs':=[u',.int .i64 (lvl lv x),.int .i64 0,.int .i64 0]) (by rcases hl.head with⟨h,_⟩|⟨_,_,h,_⟩<;>rw[h]<;>rfl) rfl;have hAT:T.length<=A:=by omega
        have k5:∀ z:Option (List V),(W2++Z2).set A z=W2++Z2.set (A-W2.length) z:=fun z=>by rw[LO _ _ (by omega)]
        simp only[List.set_cons_succ,k5]at k4;have hhp5:=k4.swap;have hwA:(Cfg.wr ⟨T.length+1+1+1+1,[],T.length+1+1+1+1⟩ (A+1+1+1+1))=true:=by simp[Cfg.wr];omega
        simp(disch:=omega)[k3,hcu,k5,hwA,hAT];simp(disch:=omega)[hfb,z1,-getElem?_pos];have hFq:=hF q hq;refine ae (m':=if 0<=fol o M rs q then ((rs.length:Int)-fol o M rs q).toNat else 0) ?_ ⟨f,fol o M rs q,u',l++r2,_,rfl,by omega,fun _=>by omega,by rw[Ly];exact k0,rfl,by simpa using hhp5,by simp⟩;rw[if_pos z3];split<;>omega
       ·have hjn:jj<0:=by omega
        rw[Fs hjn,Mg]at k0;subst k0;have hl0':0<l.length:=LW.2 cf2;obtain⟨lb,rfl,hlb1,hlb2,hlb3⟩:=ht.head.ints hl0';obtain⟨lb,rfl⟩:∃ lb',lb=lb'+1+1+1+1:=⟨lb-4,by simp at hlb1;omega⟩;have hlb4:ab (W2++Z') lb=some (l.map (V.int .i64)++[]):=by simpa using hlb3
        have hf0:l[0]?=some x:=by rw[vJ cf2,hch]
        have hg0:=Dz cf2;have hxk:x∈kept:=cf1.subset (K6 hf0);have hgk:l.getLastD 0∈kept:=cf1.subset (K6 hg0);have hgr:=hS _ hgk;have hog:o[(l.getLastD 0).toNat]?=some (o.getD (l.getLastD 0).toNat 0):=by rw[K9,K4 (by omega)];rfl
        have hpk:Pl k kept:=⟨hS,z4.imp (fun h=>by omega)⟩;obtain⟨kb,kc,JK,rfl,hkb⟩:=hvi3 _ _ (tR hxk);have hlev:0<=lvl lv x:=hl0 _ (K6 k8);have hE:=fun cfg=>Fx (prim:=prim) d cfg hp t o M k e he hon lv kept l hlv (by omega) (by omega) hpk (Ig z4) y0 y1 (W2++Z') (lvl lv x) hlev kb lb kc l.length (kept.idxOf x) (kept.idxOf (l.getLastD 0)) x (l.getLastD 0) (o.getD (l.getLastD 0).toNat 0) JK [] (hkb Z') hlb4 hf0 hg0 (tR hxk) (tR hgk) hog;obtain⟨E,hEd⟩:∃ E,E=kG lv kept e (lvl lv x) (kept.idxOf x) (kept.idxOf (l.getLastD 0)) (ini (o.getD (l.getLastD 0).toNat 0)):=⟨_,rfl⟩;rw[<- hEd]at hE;have hsq:Es o (fol o M rs) rs lv kept e i=⟨l,lvl lv x,E.1,E.2⟩:=by
         unfold Es;simp only[hL,hch,hEd]
        simp(disch:=omega)[z3,k1,hE];have hssl:ss.length<=i:=by
         have h1:=congrArg List.length z2;have h2:=rC o (fol o M rs) rs lv kept e i;rw[ML]at h1;omega
        have hp3:=(ht.push [some [V.sl (lb+1+1+1+1) 0 l.length l.length 1,.int .i64 (lvl lv x),.int .i64 E.1,.int .i64 E.2]]).perm (pq1 _ _ _ _);simp only[LM,Ly]at hp3;refine cg (m:=1) hp3 (by simp;omega) rfl rfl (by omega) (by omega) (by rw[ky];omega) (by rw[ky];omega) ?_;intro ov' H' k6;obtain⟨Z3,hZ3⟩:=Dp k6;simp only[LM]at hZ3;subst hZ3;simp(disch:=omega)[wrap64];refine ae (m':=rs.length-(i+1)) (by omega) ⟨i+1,ov',ss++[(V.sl (lb+1+1+1+1) 0 l.length l.length 1,⟨l,lvl lv x,E.1,E.2⟩)],Z3,by omega,rfl,rfl,by rw[hsu,LR,z2,hsq];rfl,?_,by simp(disch:=omega)⟩;rw[Et,LR];exact (k6.perm (pq2 _ _ _ _)).drop (List.sublist_append_left ..)
      ·have hsu:jc o (fol o M rs) rs lv kept e (i+1)=jc o (fol o M rs) rs lv kept e i:=by rw[jc,hco];rfl
       simp(disch:=omega)[wrap64];exact ae (m':=rs.length-(i+1)) (by omega) ⟨i+1,ov,ss,Z,by omega,rfl,rfl,by rw[hsu];exact z2,hhp,by simp(disch:=omega)⟩
     ·obtain rfl:i=rs.length:=by omega
      simp(disch:=omega);refine⟨_,FJ hhp (by simp;omega),?_,?_⟩
      ·rw[z2];unfold lh;rw[hkp,g0]
      ·rw[hw,hW,hU];simp
end
end Bi
end Go.Ab
