/- The sequences: the program. -/
import Derived.Test.YtldfgkjmficliaaGreatPiSq
set_option linter.unusedSimpArgs false
set_option linter.unusedVariables false
namespace Go.Ab
open Go.Proofs
namespace Bi
def ke(o M lv:List Int)(n:Nat)(e:Int):List Sq:=
 iK o (fol o M (grp lv (aX o n) (aX o n).length)) (grp lv (aX o n) (aX o n).length) lv (aX o n) e (grp lv (aX o n) (aX o n).length).length
section
variable {prim:FuncId→Option Prim}(d:Nat)
set_option maxRecDepth 100000 in
set_option maxHeartbeats 8000000 in
theorem th(hp:∀ f,Np2 f→prim f=none)(t o M:List Int)(n:Nat)(e:Int)(he:0≤e)(hn:n≤2000)(htn:t.length=n)(hon:o.length=n)(hM:MOK o M)(lv:List Int)(hlv:lv.length=n)(hl0:∀ x∈lv,0≤x)(y0 y1:Option (List V))(T:Heap):
  ∃ r h2,(∀ cfg,af md (K prim (d+5)) cfg 106 [.ptr 3 0] (y0::y1::some (lv.map (V.int .i64))::some (pcs t o M n e)::T)=some (r,h2))∧r=sqv (ke o M lv n e)∧h2=(y0::y1::some (lv.map (V.int .i64))::some (pcs t o M n e)::T):=by
 refine eU rfl (hp 106 (by decide)) Tryz.func106 rfl rfl rfl (by simp) ?_
 have hR:=fun cfg y0 y1 y2 T=>qh (prim:=prim) (d+3) cfg (hp 111 (by decide)) t o M n e y0 y1 y2 T
 simp(disch:=omega)
 refine aj (fun m fr H=>∃ (k:Nat) (v:V) (T':Heap),k≤n∧m=n-k∧H=y0::y1::some (lv.map (V.int .i64))::some (pcs t o M n e)::(T++T')∧Stk H (T.length+4) 1 v ((aX o k).map (V.int .i64)) ∧
  Slots 209 [(0,.ptr 3 0),(3,v),(26,.int .i64 n),(27,.int .i64 k)] fr) (m:=n) (by omega) ⟨0,.nils,[],by omega,by omega,by simp,.inl ⟨rfl,rfl⟩,by simp[htn]⟩ ?_
 rintro m fr H ⟨k,v,T',hk,rfl,rfl,hst,hs⟩
 obtain⟨j,rfl⟩:=hs.ex
 clear hs
 by_cases hlt:k<n
 ·obtain⟨x,ho⟩:∃ x,o[k]?=some x:=⟨_,List.getElem?_eq_getElem (by omega)⟩
  have hx0:o.getD k 0=x:=by rw[List.getD_eq_getElem?_getD,ho];rfl
  have hk1:aX o (k+1)=if gone (o.getD k 0) then aX o k else aX o k++[(k:Int)]:=rfl
  rw[hx0]at hk1
  have hkl:=gM o k
  cases hg:gone x
  ·rw[hg]at hk1
   simp(disch:=omega)[hlt,hR _ _ _ _ _ k _ ho,hg,-getElem?_pos]
   refine Jb (by simpa using hst.push [some [.int .i64 (k:Int)]]) (by simp) (by simp) rfl (by simp;omega) (by omega) ?_
   intro d' T'' hst'
   rw[rm]at hst'
   simp(disch:=omega)[wrap64]
   exact ae (m':=n-(k+1)) (by omega) ⟨k+1,d',T'',by omega,rfl,rfl,by rw[hk1];exact hst',by simp(disch:=omega)⟩
  ·rw[hg]at hk1
   simp(disch:=omega)[hlt,hR _ _ _ _ _ k _ ho,hg,wrap64,-getElem?_pos]
   exact ae (m':=n-(k+1)) (by omega) ⟨k+1,v,T',by omega,rfl,rfl,by rw[hk1];exact hst,by simp(disch:=omega)⟩
 ·obtain rfl:k=n:=by omega
  clear hlt hk
  have hkn:=gM o k
  have hKp:=eK o k
  have hKa:=fF o k
  generalize hkp:aX o k=kept at *
  have hvl:=hst.len (show Tryz.prog.underlying 22=some (.slice 3) by kernel_rfl) (by omega)
  rw[List.length_map,Nat.div_one]at hvl
  simp(disch:=omega)[hvl]
  obtain⟨U,hU⟩:∃ U,U=T++T':=⟨_,rfl⟩
  have hUl:T.length≤U.length:=by rw[hU];simp
  rw[← hU]at hst ⊢
  have hvi:∀ (i:Nat) (x:Int),kept[i]?=some x→∃ b cap J,v=.sl (b+1+1+1+1) 0 kept.length cap 1∧b<U.length∧(∀ X,ab (U++X) b=some (kept.map (V.int .i64)++J)):=by
   intro i x hx
   obtain⟨b,nn,cap,J,rfl,h1,h2,h3,h4,-⟩:=hst.pos (by rintro h;rw[List.map_eq_nil_iff]at h;rw[h]at hx;simp at hx)
   obtain⟨b',rfl⟩:∃ b',b=b'+1+1+1+1:=⟨b-4,by omega⟩
   have hn':nn=kept.length:=by simp at h3;omega
   subst hn'
   simp at h2 h4
   exact⟨b',cap,J,rfl,by omega,fun X=>(al (by omega)).trans (by simpa using h4)⟩
  refine aj (fun m fr H=>∃ (i:Nat) (w:V) (vs:List V) (X:Heap),i≤kept.length∧m=kept.length-i∧H=y0::y1::some (lv.map (V.int .i64))::some (pcs t o M k e)::(U++X)∧Nst H (U.length+4) w vs (grp lv kept i) ∧
   Slots 209 [(0,.ptr 3 0),(3,v),(5,w),(39,v),(40,.int .i64 kept.length),(41,.int .i64 i)] fr) (m:=kept.length) (by omega) ⟨0,.nils,[],[],by omega,by omega,by simp,Nst.zero,by simp⟩ ?_
  rintro m fr H ⟨i,w,vs,X,hi,rfl,rfl,hns,hs⟩
  obtain⟨j2,rfl⟩:=hs.ex
  clear hs
  by_cases hlt:i<kept.length
  ·obtain⟨x,hx⟩:∃ x,kept[i]?=some x:=⟨_,List.getElem?_eq_getElem hlt⟩
   have hxr:=hKp x (List.mem_of_getElem? hx)
   have hlx:lv[x.toNat]?=some (lvl lv x):=by rw[lvl,List.getD_eq_getElem?_getD,List.getElem?_eq_getElem (by omega)];rfl
   have hkx:kept.getD i 0=x:=by rw[List.getD_eq_getElem?_getD,hx];rfl
   have hg1:grp lv kept (i+1)=if i=0∨lvl lv x≠lvl lv (kept.getD (i-1) 0) then grp lv kept i++[[x]] else nr (grp lv kept i) x:=by rw[← hkx];rfl
   obtain⟨b,cap,J,rfl,hbl,hbk⟩:=hvi i x hx
   have hvs:∀ (i:Nat) (x:Int),kept[i]?=some x→slot (kept.map (V.int .i64)++J) i=some (.int .i64 x):=by
    intro i x hx
    rw[slot,List.getElem?_append_left (by simpa using (List.getElem?_eq_some_iff.1 hx).1),List.getElem?_map,hx]
    rfl
   have hxv:=hvs i x hx
   simp(disch:=omega)[hlt,hbk,hxv,-getElem?_pos]
   refine ai 21 (by kernel_rfl) ?_
   simp(disch:=omega)[-getElem?_pos]
   have hgl:=nV lv kept i
   have hnl:=hns.len
   by_cases hi0:i=0
   ·subst hi0
    rw[if_pos (.inl rfl)]at hg1
    simp(disch:=omega)
    refine vT (hns.push4 _) (by simp;omega) (by simp;omega) (by omega) (by omega) ?_
    intro d' X' hns'
    obtain⟨b',cap',J',rfl,hb1,hb2,hb3⟩:=hns'.top
    have hsm:=qn vs J' .nils
    obtain⟨b',rfl⟩:∃ b'',b'=b''+1+1+1+1:=⟨b'-4,by omega⟩
    have hb4:=hb3
    simp only[dH]at hb4
    have hb5:∀ Y,ab (U++(X'++Y)) b'=some (vs++.nils::J'):=fun Y=>by rw[← List.append_assoc];exact (al (aw hb4)).trans hb4
    have hvn:((vs.length:Int)+1-1).toNat=vs.length:=by omega
    simp(disch:=omega)[hb4,hsm,wrap64]
    refine qt (hns'.push4 _) (by simpa using hb5 _) hnl (by simp;omega) (by simp;omega) (by simp) (by omega) ?_
    intro d' X2 X3 hse hns3
    simp(disch:=omega)[wrap64,hse]
    exact ae (m':=kept.length-(0+1)) (by omega) ⟨0+1,_,_,X3,by omega,rfl,rfl,by rw[hg1];exact hns3,by simp(disch:=omega)⟩
   ·obtain⟨u,hu⟩:∃ u,kept[i-1]?=some u:=⟨_,List.getElem?_eq_getElem (by omega)⟩
    have hur:=hKp u (List.mem_of_getElem? hu)
    have hlu:lv[u.toNat]?=some (lvl lv u):=by rw[lvl,List.getD_eq_getElem?_getD,List.getElem?_eq_getElem (by omega)];rfl
    have hku:kept.getD (i-1) 0=u:=by rw[List.getD_eq_getElem?_getD,hu];rfl
    have hin:((i:Int)-1).toNat=i-1:=by omega
    have hiI:¬ (i:Int)=0:=by omega
    have hvu:=hvs (i-1) u hu
    rw[hku]at hg1
    simp(disch:=omega)[hi0,hbk,hlx,hvu,hin,hlu,wrap64,-getElem?_pos]
    by_cases hle:lvl lv x=lvl lv u
    ·rw[if_neg (by rintro (h|h);exact hi0 h;exact h hle)]at hg1
     obtain⟨vs0,u0,rfl⟩:∃ vs0 u0,vs=vs0++[u0]:=by
      have hne:vs≠[]:=by
       intro h
       have:=sH lv kept i (by omega)
       rw[h]at hnl
       exact this (List.length_eq_zero_iff.1 hnl.symm)
      exact⟨_,_,(List.dropLast_concat_getLast hne).symm⟩
     obtain⟨rs0,r0,hrs⟩:∃ rs0 r0,grp lv kept i=rs0++[r0]:=⟨_,_,(List.dropLast_concat_getLast (sH lv kept i (by omega))).symm⟩
     have hg2:grp lv kept (i+1)=rs0++[r0++[x]]:=by rw[hg1,hrs];simp[nr]
     rw[hrs]at hns hnl hgl
     simp at hnl hgl
     have hr0:r0.length≤kept.length:=by
      have h1:=lk lv kept i hi
      rw[hrs]at h1
      have h2:=congrArg List.length h1
      simp at h2
      omega
     obtain⟨b',cap',J',rfl,hb1,hb2,hb3⟩:=hns.top
     have hsm:=qn vs0 J' u0
     obtain⟨b',rfl⟩:∃ b'',b'=b''+1+1+1+1:=⟨b'-4,by omega⟩
     have hb4:=hb3
     simp only[dH]at hb4
     have hb5:∀ Y,ab (U++(X++Y)) b'=some (vs0++u0::J'):=fun Y=>by rw[← List.append_assoc];exact (al (aw hb4)).trans hb4
     have hvn:((vs0.length:Int)+1-1).toNat=vs0.length:=by omega
     simp(disch:=omega)[hle,hb4,hsm,wrap64]
     refine qt (hns.push4 _) (by simpa using hb5 _) hnl (by simp;omega) (by simp;omega) (by omega) (by omega) ?_
     intro d' X2 X3 hse hns3
     simp(disch:=omega)[wrap64,hse]
     exact ae (m':=kept.length-(i+1)) (by omega) ⟨i+1,_,_,X3,by omega,rfl,rfl,by rw[hg2];exact hns3,by simp(disch:=omega)⟩
    ·rw[if_pos (.inr hle)]at hg1
     simp(disch:=omega)[hle]
     refine vT (hns.push4 _) (by simp;omega) (by simp;omega) (by omega) (by omega) ?_
     intro d' X' hns'
     obtain⟨b',cap',J',rfl,hb1,hb2,hb3⟩:=hns'.top
     have hsm:=qn vs J' .nils
     obtain⟨b',rfl⟩:∃ b'',b'=b''+1+1+1+1:=⟨b'-4,by omega⟩
     have hb4:=hb3
     simp only[dH]at hb4
     have hb5:∀ Y,ab (U++(X'++Y)) b'=some (vs++.nils::J'):=fun Y=>by rw[← List.append_assoc];exact (al (aw hb4)).trans hb4
     have hvn:((vs.length:Int)+1-1).toNat=vs.length:=by omega
     simp(disch:=omega)[hb4,hsm,wrap64]
     refine qt (hns'.push4 _) (by simpa using hb5 _) hnl (by simp;omega) (by simp;omega) (by simp) (by omega) ?_
     intro d' X2 X3 hse hns3
     simp(disch:=omega)[wrap64,hse]
     exact ae (m':=kept.length-(i+1)) (by omega) ⟨i+1,_,_,X3,by omega,rfl,rfl,by rw[hg1];exact hns3,by simp(disch:=omega)⟩
  ·obtain rfl:i=kept.length:=by omega
   have hfl:=lk lv kept kept.length (Nat.le_refl _)
   rw[List.take_length]at hfl
   have hall:=nU lv kept kept.length
   have hgl:=nV lv kept kept.length
   have hnl:=hns.len
   generalize hrs:grp lv kept kept.length=rs at *
   have hwl:=hns.out.len (show Tryz.prog.underlying 191=some (.slice 22) by kernel_rfl) (by omega)
   rw[Nat.div_one,hnl]at hwl
   have hpw:rs.flatten.Pairwise (·<·):=by rw[hfl];exact hKa
   have hrd:∀ (i:Nat) (r:List Int),rs[i]?=some r→∃ b cap J,vs[i]?=some (.sl (b+1+1+1+1) 0 r.length cap 1)∧r≠[]∧(∀ Y,ab (U++(X++Y)) b=some (r.map (V.int .i64)++J)):=by
    intro i r hr
    have hi:=(List.getElem?_eq_some_iff.1 hr).1
    obtain⟨u,hu⟩:∃ u,vs[i]?=some u:=⟨_,List.getElem?_eq_getElem (by omega)⟩
    have hne:=hall r (List.mem_of_getElem? hr)
    obtain⟨b,nn,cap,J,rfl,h1,h2,h3,h4,-⟩:=(hns.inn i u r hu hr).1.pos (by simpa using hne)
    obtain⟨b',rfl⟩:∃ b',b=b'+1+1+1+1:=⟨b-4,by omega⟩
    have hn':nn=r.length:=by simp at h3;omega
    subst hn'
    simp at h2 h4
    exact⟨b',cap,J,hu,hne,fun Y=>by rw[← List.append_assoc];exact (al (aw h4)).trans h4⟩
   have hwr:∀ (i:Nat) (r:List Int),rs[i]?=some r→∃ b cap J,w=.sl (b+1+1+1+1) 0 rs.length cap 1∧(∀ Y,ab (U++(X++Y)) b=some (vs++J)):=by
    intro i r hr
    have hi:=(List.getElem?_eq_some_iff.1 hr).1
    obtain⟨b,nn,cap,J,rfl,h1,h2,h3,h4,-⟩:=hns.out.pos (by intro h;rw[h]at hnl;simp at hnl;omega)
    obtain⟨b',rfl⟩:∃ b',b=b'+1+1+1+1:=⟨b-4,by omega⟩
    have hn':nn=rs.length:=by simp at h3;omega
    subst hn'
    simp at h2 h4
    exact⟨b',cap,J,rfl,fun Y=>by rw[← List.append_assoc];exact (al (aw h4)).trans h4⟩
   simp(disch:=omega)[Fp,hwl]
   refine aj (fun m fr H=>∃ (i:Nat) (mp:List (Int×Int)),i≤rs.length∧m=rs.length-i∧H=y0::y1::some (lv.map (V.int .i64))::some (pcs t o M k e)::(U++(X++[some [.mp .i64 .i64 mp]]))∧(∀ z,nC mp z=(bgn (rs.take i) z).map Int.ofNat) ∧
    Slots 209 [(0,.ptr 3 0),(3,v),(5,w),(8,.mref (U.length+X.length+1+1+1+1)),(88,w),(89,.int .i64 rs.length),(90,.int .i64 i)] fr) (m:=rs.length) (by omega) ⟨0,[],by omega,by omega,rfl,fun z=>rfl,by simp⟩ ?_
   rintro m fr H ⟨i,mp,hi,rfl,rfl,hmp,hs⟩
   obtain⟨j3,rfl⟩:=hs.ex
   clear hs
   by_cases hlt:i<rs.length
   ·obtain⟨r,hr⟩:∃ r,rs[i]?=some r:=⟨_,List.getElem?_eq_getElem hlt⟩
    obtain⟨b,cap,J,hvi',hrne,hbk⟩:=hrd i r hr
    obtain⟨b2,cap2,J2,rfl,hbk2⟩:=hwr i r hr
    obtain⟨x,hx⟩:∃ x,r.head?=some x:=by cases r with|nil=>exact absurd rfl hrne|cons a q=>exact⟨a,rfl⟩
    have hx0:r[0]?=some x:=by rw[← List.head?_eq_getElem?];exact hx
    have hsx:=gb (k:=.i64) (J:=J) hx0
    have hsv:slot (vs++J2) i=some (.sl (b+1+1+1+1) 0 r.length cap 1):=by rw[slot,List.getElem?_append_left (by omega),hvi']
    have hrl:0<r.length:=List.length_pos_iff.2 hrne
    simp(disch:=omega)[hlt,hbk,hbk2,hsx,hsv]
    have hmo:mapOf (y0::y1::some (lv.map (V.int .i64))::some (pcs t o M k e)::(U++(X++[some [.mp .i64 .i64 mp]]))) (U.length+X.length+1+1+1+1)=some (.i64,.i64,mp):=by
     simp[mapOf,← List.append_assoc]
    have hse:(y0::y1::some (lv.map (V.int .i64))::some (pcs t o M k e)::(U++(X++[some [.mp .i64 .i64 mp]]))).set (U.length+X.length+1+1+1+1) (some [.mp .i64 .i64 (kI mp x i)])=y0::y1::some (lv.map (V.int .i64))::some (pcs t o M k e)::(U++(X++[some [.mp .i64 .i64 (kI mp x i)]])):=by
     simp[← List.append_assoc]
    rw[Fq (m:=.mref (U.length+X.length+1+1+1+1)) (x:=.int .i64 x) (y:=.int .i64 i) rfl rfl rfl,mapUp hmo (bE (by omega)),hse]
    simp(disch:=omega)[wrap64]
    exact ae (m':=rs.length-(i+1)) (by omega) ⟨i+1,_,by omega,rfl,rfl,fun z=>by
     rw[rF,Bh hr hx (fun j q hj hq=>B9 hpw hr hx hj hq),hmp z]
     by_cases hz:z=x<;>simp[hz],by simp(disch:=omega)⟩
   ·obtain rfl:i=rs.length:=by omega
    simp(disch:=omega)
    refine ai 7 (by kernel_rfl) ?_
    simp(disch:=omega)[hwl]
    obtain⟨W,hW⟩:∃ W:Heap,W=U++(X++[some [V.mp .i64 .i64 mp]]):=⟨_,rfl⟩
    have hWl:W.length=U.length+(X.length+1):=by rw[hW];simp
    have hWT:T.length≤W.length:=by omega
    have hrd2:∀ (i:Nat) (r:List Int),rs[i]?=some r→∃ b cap J,vs[i]?=some (.sl (b+1+1+1+1) 0 r.length cap 1)∧r≠[]∧(∀ Y,ab (W++Y) b=some (r.map (V.int .i64)++J)):=by
     intro i r hr
     obtain⟨b,cap,J,h1,h2,h3⟩:=hrd i r hr
     exact⟨b,cap,J,h1,h2,fun Y=>by rw[hW];simpa using h3 ([some [V.mp .i64 .i64 mp]]++Y)⟩
    have hwr2:∀ (i:Nat) (r:List Int),rs[i]?=some r→∃ b cap J,w=.sl (b+1+1+1+1) 0 rs.length cap 1∧(∀ Y,ab (W++Y) b=some (vs++J)):=by
     intro i r hr
     obtain⟨b,cap,J,h1,h2⟩:=hwr i r hr
     exact⟨b,cap,J,h1,fun Y=>by rw[hW];simpa using h2 ([some [V.mp .i64 .i64 mp]]++Y)⟩
    have hvi2:∀ (i:Nat) (x:Int),kept[i]?=some x→∃ b cap J,v=.sl (b+1+1+1+1) 0 kept.length cap 1∧(∀ Y,ab (W++Y) b=some (kept.map (V.int .i64)++J)):=by
     intro i x hx
     obtain⟨b,cap,J,h1,_,h2⟩:=hvi i x hx
     exact⟨b,cap,J,h1,fun Y=>by rw[hW];simpa using h2 (X++([some [V.mp .i64 .i64 mp]]++Y))⟩
    have hmo:∀ Y,mapOf (y0::y1::some (lv.map (V.int .i64))::some (pcs t o M k e)::(W++Y)) (U.length+X.length+1+1+1+1)=some (.i64,.i64,mp):=by
     intro Y
     have hg:(W++Y)[U.length+X.length]?=some (some [V.mp .i64 .i64 mp]):=by
      rw[List.getElem?_append_left (by omega),hW,← List.append_assoc,List.getElem?_append_right (by simp)]
      simp
     simp[mapOf,hg]
    rw[List.take_length]at hmp
    have hfr:∀ x∈rs.flatten,0≤x∧x<o.length:=by
     intro x hx
     rw[hfl]at hx
     have:=hKp x hx
     omega
    have hF:=fun j hj=>wN hM hpw hfr j hj
    have hb0:∀ (cs:List V) (r:Heap),isMap cs=false→ab (W++some cs::r) W.length=some cs:=fun cs r h=>by simp[h]
    have hb1:∀ (x:Option (List V)) (cs:List V) (r:Heap),isMap cs=false→ab (W++x::some cs::r) (W.length+1)=some cs:=fun x cs r h=>by simp[h]
    have hrb:∀ r∈rs,r.length≤kept.length:=fun r h=>by rw[← hfl];exact (List.sublist_flatten_of_mem h).length_le
    have hs0:∀ (x z:Option (List V)) (r:Heap),(W++x::r).set W.length z=W++z::r:=fun x z r=>by simp
    have hs1:∀ (x y z:Option (List V)) (r:Heap),(W++x::y::r).set (W.length+1) z=W++x::z::r:=fun x y z r=>by
     rw[List.set_append_right _ _ (by omega)]
     simp
    have hwt0:(Cfg.wr ⟨T.length+1+1+1+1,[],T.length+1+1+1+1⟩ (W.length+1+1+1+1))=true:=by simp[Cfg.wr];omega
    have hwt1:(Cfg.wr ⟨T.length+1+1+1+1,[],T.length+1+1+1+1⟩ (W.length+1+1+1+1+1))=true:=by simp[Cfg.wr];omega
    have hbs:∀ (l:List Bool) (i:Nat) (b:Bool),(l.map V.bool).set i (.bool b)=(l.set i b).map V.bool:=fun l i b=>by rw[List.map_set]
    have hbg:∀ (l:List Bool) (i:Nat) (b:Bool),l[i]?=some b→slot (l.map V.bool) i=some (.bool b):=fun l i b h=>by rw[slot,List.getElem?_map,h];rfl
    have hz1:bm [V.int .i64 0] rs.length=(gK (fol o M rs) rs.length 0).map (V.int .i64):=by rw[dm,zR]
    have hz2:bm [V.bool false] rs.length=(gF (fol o M rs) rs.length 0).map V.bool:=by
     rw[zJ]
     generalize rs.length=N
     induction N with
     | zero=>rfl
     | succ N ih=>simp[bm,ih,List.replicate_succ]
    have hH0:(U++(X++[some [V.mp IntKind.i64 IntKind.i64 mp],some (bm [V.int IntKind.i64 0] rs.length),some (bm [V.bool false] rs.length)]))=W++[some ((gK (fol o M rs) rs.length 0).map (V.int .i64)),some ((gF (fol o M rs) rs.length 0).map V.bool)]:=by
     rw[hz1,hz2,hW]
     simp
    rw[hH0]
    have hFl:∀ i,(gK (fol o M rs) rs.length i).length=rs.length:=lg _ _
    have hCl:∀ i,(gF (fol o M rs) rs.length i).length=rs.length:=kZ _ _
    have hI:=fun cfg h x=>kD (prim:=prim) (d+3) cfg h (hp 142 (by decide)) x
    have hMl:=hM.len
    refine aj (fun m fr H=>∃ (i:Nat),i≤rs.length∧m=rs.length-i∧H=y0::y1::some (lv.map (V.int .i64))::some (pcs t o M k e)::(W++[some ((gK (fol o M rs) rs.length i).map (V.int .i64)),some ((gF (fol o M rs) rs.length i).map V.bool)]) ∧
     Slots 209 [(0,.ptr 3 0),(3,v),(5,w),(8,.mref (U.length+X.length+1+1+1+1)),(11,.sl (W.length+1+1+1+1) 0 rs.length rs.length 1),(12,.sl (W.length+1+1+1+1+1) 0 rs.length rs.length 1),(107,w),(108,.int .i64 rs.length),(109,.int .i64 i)] fr) (m:=rs.length) (by omega) ⟨0,by omega,by omega,rfl,by simp[hWl];omega⟩ ?_
    rintro m fr H ⟨i,hi,rfl,rfl,hs⟩
    obtain⟨j4,rfl⟩:=hs.ex
    clear hs
    by_cases hlt:i<rs.length
    ·obtain⟨r,hr⟩:∃ r,rs[i]?=some r:=⟨_,List.getElem?_eq_getElem hlt⟩
     obtain⟨b,cap,J,hvi',hrne,hbk⟩:=hrd2 i r hr
     obtain⟨b2,cap2,J2,rfl,hbk2⟩:=hwr2 i r hr
     have hrl:0<r.length:=List.length_pos_iff.2 hrne
     obtain⟨z,hz⟩:∃ z,r[r.length-1]?=some z:=⟨_,List.getElem?_eq_getElem (by omega)⟩
     have hzl:r.getLast?=some z:=by rw[List.getLast?_eq_getElem?];exact hz
     have hsz:=gb (k:=.i64) (J:=J) hz
     have hsv:slot (vs++J2) i=some (.sl (b+1+1+1+1) 0 r.length cap 1):=by rw[slot,List.getElem?_append_left (by omega),hvi']
     have hzr:=hfr z (List.mem_flatten.2 ⟨r,List.mem_of_getElem? hr,List.mem_of_getElem? hz⟩)
     have hrn:((r.length:Int)-1).toNat=r.length-1:=by omega
     have ho:o[z.toNat]?=some (o.getD z.toNat 0):=by rw[List.getD_eq_getElem?_getD,List.getElem?_eq_getElem (by omega)];rfl
     have hMz:M[z.toNat]?=some (M.getD z.toNat 0):=by rw[List.getD_eq_getElem?_getD,List.getElem?_eq_getElem (by omega)];rfl
     have hf1:=fun h=>Hl (o:=o) (M:=M) hr hzl h
     have hf2:=fun h=>BQ (o:=o) (M:=M) hr hzl h
     have hf3:=fun q h1 h2 h=>BS (o:=o) (M:=M) (q:=q) hr hzl h1 h2 h
     generalize o.getD z.toNat 0=oz at ho hf1 hf3
     generalize M.getD z.toNat 0=mz at hMz hf1 hf2 hf3
     have hi1:i+1≤rs.length:=hlt
     have hiI:(i:Int)<rs.length:=by omega
     have hS1:∀ x y,((gK (fol o M rs) rs.length i).set i x).set i y=(gK (fol o M rs) rs.length i).set i y:=fun x y=>List.set_set ..
     have hz0:0≤z:=hzr.1
     have hrb1:=hrb r (List.mem_of_getElem? hr)
     simp(disch:=omega)[hlt,hbk2,hsv,hs0,hFl,hwt0,hi1,-getElem?_pos]
     simp(disch:=omega)[hbk,hsz,hrn,ho,hI,wrap64,-getElem?_pos]
     have hend0:fol o M rs i=-1→((gK (fol o M rs) rs.length i).map (V.int .i64)).set i (.int .i64 (-1))=(gK (fol o M rs) rs.length (i+1)).map (V.int .i64)∧gF (fol o M rs) rs.length (i+1)=gF (fol o M rs) rs.length i:=fun h=>by
      refine⟨?_,BA (by omega)⟩
      rw[ints_set,uy _ _ _ _ h.symm]
     by_cases hio:ini oz=true
     ·simp(disch:=omega)[hio,hMz,-getElem?_pos]
      by_cases hmn:mz<0
      ·obtain⟨he1,he2⟩:=hend0 (hf1 (.inr hmn))
       simp(disch:=omega)[hmn,wrap64]
       exact ae (m':=rs.length-(i+1)) (by omega) ⟨i+1,by omega,rfl,by rw[← he1,he2],by simp(disch:=omega)⟩
      ·simp(disch:=omega)[hmn,hMz,-getElem?_pos]
       have hop:∀ fr Y,fr[143]?=some (V.mref (U.length+X.length+1+1+1+1))→fr[150]?=some (.int .i64 mz)→aF Tryz.prog md (aI Tryz.prog md prim 10000 (d+4)) ⟨T.length+1+1+1+1,[],T.length+1+1+1+1⟩ fr (y0::y1::some (lv.map (V.int .i64))::some (pcs t o M k e)::(W++Y)) (.lookup 192 (.tmp 143) (.tmp 150) true) =
         some (match bgn rs mz with|some q=>.tup [.int .i64 (q:Int),.bool true]|none=>.tup [.int .i64 0,.bool false],y0::y1::some (lv.map (V.int .i64))::some (pcs t o M k e)::(W++Y)):=by
        intro fr Y h1 h2
        rw[Fo (m:=V.mref (U.length+X.length+1+1+1+1)) (x:=.int .i64 mz) (by simpa[ev]using h1) (by simpa[ev]using h2),mapLk (hmo Y),hmp mz]
        cases bgn rs mz<;>rfl
       rw[hop _ _ rfl rfl]
       cases hbg0:bgn rs mz with
       | none =>
        obtain⟨he1,he2⟩:=hend0 (hf2 hbg0)
        simp(disch:=omega)[wrap64]
        exact ae (m':=rs.length-(i+1)) (by omega) ⟨i+1,by omega,rfl,by rw[← he1,he2],by simp(disch:=omega)⟩
       | some q =>
        have hfq:=hf3 q hio hmn hbg0
        obtain⟨rq,hrq,_⟩:=oI hbg0
        have hql:=(List.getElem?_eq_some_iff.1 hrq).1
        have hq1:q+1≤rs.length:=hql
        have hqI:(q:Int)<rs.length:=by omega
        have hx2:∀ x,isMap ((List.map V.bool (gF (fol o M rs) rs.length i)).set q (V.bool x))=false:=fun x=>by rw[hbs];exact uJ
        simp(disch:=omega)[hs0,hs1,hFl,hCl,hwt0,hwt1,hi1,hq1,wrap64,-getElem?_pos]
        refine ae (m':=rs.length-(i+1)) (by omega) ⟨i+1,by omega,rfl,?_,by simp(disch:=omega)⟩
        simp only[bV,ints_set,hbs,List.set_set]
        rw[uy _ _ _ _ hfq.symm,BB hfq]
     ·have hio':ini oz=false:=by simpa using hio
      obtain⟨he1,he2⟩:=hend0 (hf1 (.inl hio'))
      simp(disch:=omega)[hio',wrap64]
      exact ae (m':=rs.length-(i+1)) (by omega) ⟨i+1,by omega,rfl,by rw[← he1,he2],by simp(disch:=omega)⟩
    ·obtain rfl:i=rs.length:=by omega
     obtain⟨W2,hW2⟩:∃ W2:Heap,W2=W++[some ((gK (fol o M rs) rs.length rs.length).map (V.int .i64)),some ((gF (fol o M rs) rs.length rs.length).map V.bool)]:=⟨_,rfl⟩
     rw[← hW2]
     have hW2T:T.length≤W2.length:=by rw[hW2];simp;omega
     have hrd3:∀ (i:Nat) (r:List Int),rs[i]?=some r→∃ b cap J,vs[i]?=some (.sl (b+1+1+1+1) 0 r.length cap 1)∧r≠[]∧(∀ Y,ab (W2++Y) b=some (r.map (V.int .i64)++J)):=by
      intro i r hr
      obtain⟨b,cap,J,h1,h2,h3⟩:=hrd2 i r hr
      exact⟨b,cap,J,h1,h2,fun Y=>by rw[hW2,List.append_assoc];exact h3 _⟩
     have hwr3:∀ (i:Nat) (r:List Int),rs[i]?=some r→∃ b cap J,w=.sl (b+1+1+1+1) 0 rs.length cap 1∧(∀ Y,ab (W2++Y) b=some (vs++J)):=by
      intro i r hr
      obtain⟨b,cap,J,h1,h2⟩:=hwr2 i r hr
      exact⟨b,cap,J,h1,fun Y=>by rw[hW2,List.append_assoc];exact h2 _⟩
     have hvi3:∀ (i:Nat) (x:Int),kept[i]?=some x→∃ b cap J,v=.sl (b+1+1+1+1) 0 kept.length cap 1∧(∀ Y,ab (W2++Y) b=some (kept.map (V.int .i64)++J)):=by
      intro i x hx
      obtain⟨b,cap,J,h1,h2⟩:=hvi2 i x hx
      exact⟨b,cap,J,h1,fun Y=>by rw[hW2,List.append_assoc];exact h2 _⟩
     have hfb:∀ Y,ab (W2++Y) W.length=some ((gK (fol o M rs) rs.length rs.length).map (V.int .i64)):=fun Y=>by rw[hW2];simp
     have hcb:∀ Y,ab (W2++Y) (W.length+1)=some ((gF (fol o M rs) rs.length rs.length).map V.bool):=fun Y=>by rw[hW2];simp
     clear hb0 hb1 hs0 hs1 hrd2 hwr2 hvi2 hmo hrd hwr hvi hH0 hwt0 hwt1 hz1 hz2
     have hhp0:Hp (y0::y1::some (lv.map (V.int .i64))::some (pcs t o M k e)::W2) (y0::y1::some (lv.map (V.int .i64))::some (pcs t o M k e)::W2) ((4,.nils,([]:List (V×Sq)).flatMap sqc)::([]:List (V×Sq)).map sqo):=Hp.start.nil 4
     simp(disch:=omega)[hwl]
     refine aj (fun m fr H=>∃ (i:Nat) (ov:V) (ss:List (V×Sq)) (Z:Heap),i≤rs.length∧m=rs.length-i∧H=y0::y1::some (lv.map (V.int .i64))::some (pcs t o M k e)::(W2++Z)∧ss.map (·.2)=iK o (fol o M rs) rs lv kept e i ∧
      Hp H (y0::y1::some (lv.map (V.int .i64))::some (pcs t o M k e)::W2) ((4,ov,ss.flatMap sqc)::ss.map sqo) ∧
      Slots 209 [(0,.ptr 3 0),(3,v),(5,w),(11,.sl (W.length+1+1+1+1) 0 rs.length rs.length 1),(12,.sl (W.length+1+1+1+1+1) 0 rs.length rs.length 1),(18,ov),(163,w),(164,.int .i64 rs.length),(165,.int .i64 i)] fr) (m:=rs.length) (by omega) ⟨0,.nils,[],[],by omega,by omega,by simp,rfl,hhp0,by simp⟩ ?_
     rintro m fr H ⟨i,ov,ss,Z,hi,rfl,rfl,hss,hhp,hs⟩
     obtain⟨j5,rfl⟩:=hs.ex
     clear hs
     by_cases hlt:i<rs.length
     ·obtain⟨r,hr⟩:∃ r,rs[i]?=some r:=⟨_,List.getElem?_eq_getElem hlt⟩
      obtain⟨b,cap,J,hvi',hrne,hbk⟩:=hrd3 i r hr
      obtain⟨b2,cap2,J2,rfl,hbk2⟩:=hwr3 i r hr
      have hrl:0<r.length:=List.length_pos_iff.2 hrne
      obtain⟨x,hx⟩:∃ x,r[0]?=some x:=⟨_,List.getElem?_eq_getElem hrl⟩
      have hsx:=gb (k:=.i64) (J:=J) hx
      have hsv:slot (vs++J2) i=some (.sl (b+1+1+1+1) 0 r.length cap 1):=by rw[slot,List.getElem?_append_left (by omega),hvi']
      have hxr:=hfr x (List.mem_flatten.2 ⟨r,List.mem_of_getElem? hr,List.mem_of_getElem? hx⟩)
      have hx0:0≤x:=hxr.1
      have hlx:lv[x.toNat]?=some (lvl lv x):=by rw[lvl,List.getD_eq_getElem?_getD,List.getElem?_eq_getElem (by omega)];rfl
      have hiI:(i:Int)<rs.length:=by omega
      have hcg:=hbg _ _ _ (kY (F:=fol o M rs) (i:=rs.length) hlt)
      simp(disch:=omega)[hlt,hcb,hcg,-getElem?_pos]
      cases hco:con (fol o M rs) rs.length i
      ·have hsu:iK o (fol o M rs) rs lv kept e (i+1)=iK o (fol o M rs) rs lv kept e i++[Ds o (fol o M rs) rs lv kept e i]:=by rw[iK,hco];rfl
       simp(disch:=omega)
       refine ai 14 (by kernel_rfl) ?_
       simp(disch:=omega)[hbk,hbk2,hsv,hsx,hlx,-getElem?_pos]
       have hwz:∀ c,W2.length+Z.length+1+1+1+1≤c→(Cfg.wr ⟨T.length+1+1+1+1,[],T.length+1+1+1+1⟩ c)=true:=fun c hc=>by simp[Cfg.wr];omega
       obtain⟨cf1,cf2,cf3⟩:=ra hF hfl hall hr
       have hch:=Br (F:=fol o M rs) hr hx
       generalize hL:chn (fol o M rs) rs rs.length i=L at cf1 cf2 cf3 hch
       have hLl:=cf1.length_le
       simp(disch:=omega)[hwz]
       have hp1:=hhp.new (n:=1) (k:=4) (cs:=[V.nils,.int .i64 (lvl lv x),.int .i64 0,.int .i64 0]) rfl rfl []
       have hp2:=hp1.nil 1
       obtain⟨A,hA⟩:∃ A,A=W2.length+Z.length:=⟨_,rfl⟩
       have hAl:(y0::y1::some (lv.map (V.int .i64))::some (pcs t o M k e)::(W2++Z)).length=A+1+1+1+1:=by simp[hA]
       rw[hAl]at hp2
       rw[← hA]
       refine aj (fun m fr H=>∃ (f:Nat) (jj:Int) (u:V) (l:List Int) (Z':Heap),m=(if 0≤jj then ((rs.length:Int)-jj).toNat else 0)∧jj<rs.length∧(0≤jj→(rs.length:Int)-jj≤f)∧l++chn (fol o M rs) rs f jj=L∧H=y0::y1::some (lv.map (V.int .i64))::some (pcs t o M k e)::(W2++Z') ∧
        Hp H (y0::y1::some (lv.map (V.int .i64))::some (pcs t o M k e)::W2) ((1,u,l.map (V.int .i64))::(4,.sl (A+1+1+1+1) 0 1 1 4,[u,.int .i64 (lvl lv x),.int .i64 0,.int .i64 0])::(4,ov,ss.flatMap sqc)::ss.map sqo) ∧
        Slots 209 [(0,.ptr 3 0),(3,v),(5,.sl (b2+1+1+1+1) 0 rs.length cap2 1),(11,.sl (W.length+1+1+1+1) 0 rs.length rs.length 1),(12,.sl (W.length+1+1+1+1+1) 0 rs.length rs.length 1),(18,ov),(19,.int .i64 i),(20,.ptr (A+1+1+1+1) 0),(21,.int .i64 jj),(163,.sl (b2+1+1+1+1) 0 rs.length cap2 1),(164,.int .i64 rs.length),(165,.int .i64 i)] fr) (m:=rs.length-i) (by omega) ⟨rs.length,i,.nils,[],_,by rw[if_pos (by omega)];omega,by omega,fun _=>by omega,by simpa using hL,rfl,by simpa using hp2,by simp⟩ ?_
       rintro m fr H ⟨f,jj,u,l,Z',rfl,hj1,hj2,hlL,rfl,hhp2,hs⟩
       obtain⟨j6,rfl⟩:=hs.ex
       clear hs hp1 hp2
       have hsA:=hhp2.snd
       have hbA:ab (y0::y1::some (lv.map (V.int .i64))::some (pcs t o M k e)::(W2++Z')) (A+1+1+1+1)=some [u,.int .i64 (lvl lv x),.int .i64 0,.int .i64 0]:=by
        rcases hsA with⟨h,_⟩|⟨b',n',h1,_,_,h2⟩
        ·cases h
        ·cases h1;exact h2
       have hbA':ab (W2++Z') A=some [u,.int .i64 (lvl lv x),.int .i64 0,.int .i64 0]:=by simpa using hbA
       by_cases hj0:0≤jj
       ·obtain⟨q,rfl⟩:∃ q:Nat,jj=q:=⟨jj.toNat,by omega⟩
        have hq:q<rs.length:=by omega
        have hj2':=hj2 hj0
        obtain⟨f,rfl⟩:∃ f',f=f'+1:=⟨f-1,by omega⟩
        obtain⟨r2,hr2⟩:∃ r,rs[q]?=some r:=⟨_,List.getElem?_eq_getElem hq⟩
        rw[oO hr2]at hlL
        obtain⟨b3,cap3,J3,hv3,hrne3,hbk3⟩:=hrd3 q r2 hr2
        have hsv3:slot (vs++J2) q=some (.sl (b3+1+1+1+1) 0 r2.length cap3 1):=by rw[slot,List.getElem?_append_left (by omega),hv3]
        have hrl3:0<r2.length:=List.length_pos_iff.2 hrne3
        have hfq:((gK (fol o M rs) rs.length rs.length))[q]?=some (fol o M rs q):=ux hq hq
        simp(disch:=omega)[hj0]
        refine ai 6 (by kernel_rfl) ?_
        simp(disch:=omega)[hbA',hbk2,hbk3,hsv3,-getElem?_pos]
        have htk:List.take r2.length (r2.map (V.int .i64)++J3)=r2.map (V.int .i64):=List.take_left' (by simp)
        have hlfm:(∀ x∈r2.map (V.int .i64),x.leaf=true):=by
         intro x hx
         obtain⟨y,_,rfl⟩:=List.mem_map.1 hx
         rfl
        rw[htk,if_pos hlfm]
        have hll:l.length+r2.length≤2000:=by
         have:=congrArg List.length hlL
         simp at this
         omega
        refine bZ hhp2 (by simp;omega) (by simp) (by simp) (by omega) (by omega) (by simp;omega) (by simp;omega) ?_
        intro u' H' hhp3
        obtain⟨Z2,hZ2⟩:=Cb hhp3
        simp only[List.cons_append]at hZ2
        subst hZ2
        have hsA3:=hhp3.snd
        have hbA3:ab (y0::y1::some (lv.map (V.int .i64))::some (pcs t o M k e)::(W2++Z2)) (A+1+1+1+1)=some [u,.int .i64 (lvl lv x),.int .i64 0,.int .i64 0]:=by
         rcases hsA3 with⟨h,_⟩|⟨b',n',h1,_,_,h2⟩
         ·cases h
         ·cases h1;exact h2
        have hbA3':ab (W2++Z2) A=some [u,.int .i64 (lvl lv x),.int .i64 0,.int .i64 0]:=by simpa using hbA3
        have hcu:=hhp3.head.cells
        have hhp4:=hhp3.swap.setO (cs':=[u',.int .i64 (lvl lv x),.int .i64 0,.int .i64 0]) (by rcases hhp3.head with⟨h,_⟩|⟨_,_,h,_⟩<;>rw[h]<;>rfl) rfl
        have hAT:T.length≤A:=by omega
        have hset:∀ z:Option (List V),(W2++Z2).set A z=W2++Z2.set (A-W2.length) z:=fun z=>by rw[List.set_append_right _ _ (by omega)]
        simp only[List.set_cons_succ,hset]at hhp4
        have hhp5:=hhp4.swap
        have hwA:(Cfg.wr ⟨T.length+1+1+1+1,[],T.length+1+1+1+1⟩ (A+1+1+1+1))=true:=by simp[Cfg.wr];omega
        simp(disch:=omega)[hbA3',hcu,hset,hwA,hAT]
        simp(disch:=omega)[hfb,hfq,-getElem?_pos]
        have hFq:=hF q hq
        refine ae (m':=if 0≤fol o M rs q then ((rs.length:Int)-fol o M rs q).toNat else 0) ?_ ⟨f,fol o M rs q,u',l++r2,_,rfl,by omega,fun _=>by omega,by rw[List.append_assoc];exact hlL,rfl,by simpa using hhp5,by simp⟩
        rw[if_pos hj0]
        split<;>omega
       ·have hjn:jj<0:=by omega
        rw[Ei hjn,List.append_nil]at hlL
        subst hlL
        have hl0':0<l.length:=List.length_pos_iff.2 cf2
        obtain⟨lb,rfl,hlb1,hlb2,hlb3⟩:=hhp2.head.ints hl0'
        obtain⟨lb,rfl⟩:∃ lb',lb=lb'+1+1+1+1:=⟨lb-4,by simp at hlb1;omega⟩
        have hlb4:ab (W2++Z') lb=some (l.map (V.int .i64)++[]):=by simpa using hlb3
        have hf0:l[0]?=some x:=by rw[uD cf2,hch]
        have hg0:=Cm cf2
        have hxk:x∈kept:=cf1.subset (List.mem_of_getElem? hf0)
        have hgk:l.getLastD 0∈kept:=cf1.subset (List.mem_of_getElem? hg0)
        have hgr:=hKp _ hgk
        have hog:o[(l.getLastD 0).toNat]?=some (o.getD (l.getLastD 0).toNat 0):=by rw[List.getD_eq_getElem?_getD,List.getElem?_eq_getElem (by omega)];rfl
        have hpk:Pl k kept:=⟨hKp,hKa.imp (fun h=>by omega)⟩
        obtain⟨kb,kc,JK,rfl,hkb⟩:=hvi3 _ _ (sJ hxk)
        have hlev:0≤lvl lv x:=hl0 _ (List.mem_of_getElem? hlx)
        have hE:=fun cfg=>En (prim:=prim) d cfg hp t o M k e he hon lv kept l hlv (by omega) (by omega) hpk (GR hKa) y0 y1 (W2++Z') (lvl lv x) hlev kb lb kc l.length (kept.idxOf x) (kept.idxOf (l.getLastD 0)) x (l.getLastD 0) (o.getD (l.getLastD 0).toNat 0) JK [] (hkb Z') hlb4 hf0 hg0 (sJ hxk) (sJ hgk) hog
        obtain⟨E,hEd⟩:∃ E,E=jO lv kept e (lvl lv x) (kept.idxOf x) (kept.idxOf (l.getLastD 0)) (ini (o.getD (l.getLastD 0).toNat 0)):=⟨_,rfl⟩
        rw[← hEd]at hE
        have hsq:Ds o (fol o M rs) rs lv kept e i=⟨l,lvl lv x,E.1,E.2⟩:=by
         unfold Ds
         simp only[hL,hch,hEd]
        simp(disch:=omega)[hj0,hbA',hE]
        have hssl:ss.length≤i:=by
         have h1:=congrArg List.length hss
         have h2:=qo o (fol o M rs) rs lv kept e i
         rw[List.length_map]at h1
         omega
        have hp3:=(hhp2.push [some [V.sl (lb+1+1+1+1) 0 l.length l.length 1,.int .i64 (lvl lv x),.int .i64 E.1,.int .i64 E.2]]).perm (pq1 _ _ _ _)
        simp only[List.cons_append,List.append_assoc]at hp3
        refine bZ (m:=1) hp3 (by simp;omega) rfl rfl (by omega) (by omega) (by rw[jJ];omega) (by rw[jJ];omega) ?_
        intro ov' H' hhp6
        obtain⟨Z3,hZ3⟩:=Cb hhp6
        simp only[List.cons_append]at hZ3
        subst hZ3
        simp(disch:=omega)[wrap64]
        refine ae (m':=rs.length-(i+1)) (by omega) ⟨i+1,ov',ss++[(V.sl (lb+1+1+1+1) 0 l.length l.length 1,⟨l,lvl lv x,E.1,E.2⟩)],Z3,by omega,rfl,rfl,by rw[hsu,List.map_append,hss,hsq];rfl,?_,by simp(disch:=omega)⟩
        rw[Dt,List.map_append]
        exact (hhp6.perm (pq2 _ _ _ _)).drop (List.sublist_append_left ..)
      ·have hsu:iK o (fol o M rs) rs lv kept e (i+1)=iK o (fol o M rs) rs lv kept e i:=by rw[iK,hco];rfl
       simp(disch:=omega)[wrap64]
       exact ae (m':=rs.length-(i+1)) (by omega) ⟨i+1,ov,ss,Z,by omega,rfl,rfl,by rw[hsu];exact hss,hhp,by simp(disch:=omega)⟩
     ·obtain rfl:i=rs.length:=by omega
      simp(disch:=omega)
      refine⟨_,EB hhp (by simp;omega),?_,?_⟩
      ·rw[hss]
       unfold ke
       rw[hkp,hrs]
      ·rw[hW2,hW,hU]
       simp
end
end Bi
end Go.Ab
