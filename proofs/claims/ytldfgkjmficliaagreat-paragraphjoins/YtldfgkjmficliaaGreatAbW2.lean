/- Several texts of this proof in one. -/
import Derived.Test.YtldfgkjmficliaaGreatAbFloat2
set_option linter.unusedSimpArgs false
set_option linter.unusedVariables false
namespace Go.Ab
section
variable {P:Program}{md:FuncId→Nat}{call:aR}{cfg:Cfg}{ops:Array Oper}{N:Nat}{x:List Nat}{F:Nat→List V}{H:Nat→Heap}{v:Nat→V}
theorem tr_HS(hN:di P)(hcall:dc P call)(tr:Tr P md call cfg ops N x F H v)(hle:N≤ops.size):∀ i,i≤N→HS cfg (H 0) (H i):=by
 intro i
 induction i with
 | zero=>intro _;exact .refl _ _
 | succ i ih =>
  intro hi
  refine (ih (by omega)).trans ⟨tr.len1 hle (by omega),fun b hb hw=>(tr.hs hN hcall hle (by omega)).1 b hb fun hx=>?_,fun D t _ h2 hinv=>(tr.hs hN hcall hle (by omega)).2.2 D t h2 hinv⟩
  rw[tr.xwr b hx]at hw;cases hw
theorem BU(fr:List V)(n:Nat):frS ops v (fun _=>false) fr n=fr:=by
 induction n with
 | zero=>rfl
 | succ n ih=>simp only[frS,Bool.false_eq_true,if_false,ih];split<;>rfl
theorem Ez{S:Nat→Bool}(fr:List V)(n:Nat)(hS:∀ j,j<n→S j=true):frS ops v S fr n=frS ops v (fun _=>true) fr n:=by
 induction n with
 | zero=>rfl
 | succ n ih=>simp only[frS,ih fun j hj=>hS j (by omega),hS n (by omega)]
theorem G_all(hN:di P)(hcall:dc P call)(tr:Tr P md call cfg ops N x F H v)(hle:N≤ops.size){k:Nat}(hk:k≤N)(hno:∀ j (hj:j<ops.size),k≤j→j<N→aY ops[j]=false):G H N x k=H N:=
 nI tr hle (Nat.le_refl N) hk fun b _ hb=>by
  have h1:=(kS H b N).2.1
  have h2:b<(H (max k (bi H b N))).length:=Nat.lt_of_lt_of_le (qY (Nat.le_refl _) hb) (tr.len hle (by omega) (by omega))
  exact tr.xsame hN hcall hle (by omega) (Nat.le_refl _) h2 fun j hj h3 h4=>hno j hj (by omega) h4
theorem Cg(hN:di P)(hcall:dc P call)(tr:Tr P md call cfg ops N x F H v)(hle:N≤ops.size){m:Mu}{w:World}{a:Act}(r:Rel m (H 0) w)(fR:FR m (H 0) w (F 0) a):
  ∃ m',JH ops N x F H v m w (fun _=>false) a { w with drawn:=w.drawn+1 } m' 0:=by
 generalize hw1:({ w with drawn:=w.drawn+1 }:World)=w1
 have hh:w1.heap=w.heap:=by rw[← hw1]
 have ho:w1.os=w.os:=by rw[← hw1]
 have ht:w1.tape=w.tape:=by rw[← hw1]
 have hu:w1.output=w.output:=by rw[← hw1]
 have r1:Rel m (H 0) w1:=lN r hh ho ht hu
 have e1:Evo m (H 0) w m (H 0) w1:=gG hh ho ht hu
 have hgt:(G H N x 0).take (H 0).length=H 0:=by
  rw[ou hN hcall tr hle (Nat.zero_le _),nI tr hle (Nat.zero_le _) (Nat.zero_le _) fun b _ hb=>by rw[show max 0 (bi H b N)=0 by have:=tH (N:=N) hb;omega]]
 have hgl:(G H N x 0).length=(H N).length:=kP 0
 have h0N:=tr.len hle (Nat.zero_le N) (Nat.le_refl N)
 have hget:∀ b,b<(H 0).length→(G H N x 0)[b]?=(H 0)[b]?:=by
  intro b hb
  have:((G H N x 0).take (H 0).length)[b]?=(H 0)[b]?:=by rw[hgt]
  rwa [List.getElem?_take,if_pos hb]at this
 have hlv:∀ b,b<(H 0).length→(live (G H N x 0) b↔live (H 0) b):=fun b hb=>by simp only[live,hget b hb]
 generalize hm1:(⟨fun b=>if b<(H 0).length then m b else none,m.z⟩:Mu)=m1
 have hmz:m1.z=m.z:=by rw[← hm1]
 have hmb:∀ b c,m1 b=some c→b<(H 0).length∧m b=some c:=by
  intro b c hbc
  rw[← hm1]at hbc
  simp only at hbc
  split at hbc
  ·rename_i hlt;exact⟨hlt,hbc⟩
  ·cases hbc
 have hml:∀ b,b<(H 0).length→m1 b=m b:=fun b hb=>by rw[← hm1];simp[hb]
 have hR:∀ {y:V} {z:Value},R m (H 0) w1 y z→R m1 (G H N x 0) w1 y z:=by
  intro y z hyz
  have hz:m.z=(Mu.cut ⟨fun _=>none,m.z⟩ (G H N x 0) (H 0).length).z:=by
   funext b
   simp[Mu.cut]
  have:=R.glue (m:=⟨fun _=>none,m.z⟩) (g:=G H N x 0) (m':=m) (g':=G H N x 0) (w':=w1) (n:=(H 0).length) (n':=(H 0).length) hz (Nat.le_refl _) (fun _ _=>rfl) (by omega) (x:=y) (v:=z) (by rw[hgt];exact hyz)
  have hge:Mu.glue ⟨fun _=>none,m.z⟩ m (H 0).length=m1:=by rw[← hm1];rfl
  rwa [hge]at this
 refine⟨m1,Nat.zero_le _,fun i _ _ _=>by simp,fun _ _=>rfl,fun b _ c _ _ _ _=>by rw[show max 0 (c+1)=c+1 by omega],?_,?_,?_,fun b c hl hm=>.inl (hmb b c hm).1,fun b c cs hc hm j hj hbj e he=>?_,fun i h=>by cases h⟩
 ·refine⟨hmz,by omega,fun b hb hl=>⟨(hlv b hb).1 hl,hml b hb⟩,fun b c hl hc=>?_,e1.frame,e1.size,e1.rs,ho,ht,hu⟩
  obtain⟨h1,h2⟩:=hmb b c hc
  exact .inl ⟨b,(hlv b h1).1 hl,h2⟩
 ·refine⟨fun b c hl hc=>?_,fun b hb=>r1.zl b (by rw[← hmz];exact hb),fun b b' c hl hl' hc hc'=>?_,fun b cs c hcs hc=>?_⟩
  ·obtain⟨h1,h2⟩:=hmb b c hc
   rw[hmz]
   exact r1.zo b c ((hlv b h1).1 hl) h2
  ·obtain⟨h1,h2⟩:=hmb b c hc
   obtain⟨h3,h4⟩:=hmb b' c hc'
   exact r1.inj b b' c ((hlv b h1).1 hl) ((hlv b' h3).1 hl') h2 h4
  ·obtain⟨h1,h2⟩:=hmb b c hc
   rw[hget b h1]at hcs
   exact (r1.blk b cs c hcs h2).carry rfl fun d z _ hrz=>hR hrz
 ·rw[BU]
  exact⟨fR.len,fun s y z hy hz=>hR ((fR.slot s y z hy hz).evo e1 r.lt),fR.defers⟩
 ·obtain⟨h1,h2⟩:=hmb b c hm
  rw[hget b h1]at hc
  exact ((r1.blk b cs c hc h2).bel he).mono (tr.len hle (Nat.zero_le j) hj)
theorem Cf{m0:Mu}{w0:World}(st:Static P ops N)(hN:di P)(hcall:dc P call)(tr:Tr P md call cfg ops N x F H v)(hF0:∀ (s:Nat) (c:V),(F 0)[s]?=some c→Bel (H 0).length c){S:Nat→Bool}{a:Act}{w:World}{m:Mu}{k:Nat}
  (J:JH ops N x F H v m0 w0 S a w m k) (hcl:Closed ops S) {i:Nat} {o:Oper} (hi:i<N) (ho:ops[i]?=some o) (hS:S i=false) (hr:Ready S o) (hfl:cS P o=true):
  ∃ u,Blind P ops o a u∧∃ m' k',JH ops N x F H v m0 w0 (bO S i) (a.put o.dst u) w m' k':=by
 have hle:=st.le
 have hslot:∀ s∈o.looksAt ops,(frS ops v S (F 0) N)[s]?=(F i)[s]?:=fun s hs=>ze st tr hcl hi ho hS hr hs
 have hgl:∀ q,(G H N x q).length=(H N).length:=kP
 have hiN:=tr.len hle (by omega:i≤N) (Nat.le_refl N)
 obtain⟨hFs,hkind⟩:=tr.step i o hi ho
 have hwd:∀ b,cY ops (F i) o=some b→Region.wanted o (yielded ops a.tmps)=b:=fun b hb=>ib J.fR (by rw[nu hslot];exact hb)
 have hbelslot:∀ s∈o.looksAt ops,∀ c,(F i)[s]?=some c→Bel (H i).length c:=by
  intro s hs
  refine vI tr hle (hF0 s) i (by omega) fun j oj hj hoj hd=>?_
  have hSj:S j=true:=by
   rcases st.head j i oj o hj hi hoj ho with h|⟨h,_⟩
   ·exact cZ st.back hcl i o ho hr h
   ·exact absurd hs ((Oper.apart_spec h).1 s hd)
  exact J.vb j hSj (by omega)
 have hrelcut:Rel (m.cut (G H N x k) (H i).length) ((G H N x k).take (H i).length) w:=J.rel.cut (by rw[hgl];exact hiN) fun b cs c hb hc hm e he=>J.bel b c cs hc hm i (by omega) hb e he
 have hfrcut:FR (m.cut (G H N x k) (H i).length) ((G H N x k).take (H i).length) w (eO (o.looksAt ops) (frS ops v S (F 0) N)) a:=by
  refine⟨by rw[jY];exact J.fR.len,fun s y z hy hz=>?_,J.fR.defers⟩
  by_cases hs:s∈o.looksAt ops
  ·rw[jC hs]at hy
   exact (J.fR.slot s y z hy hz).cut (by rw[hgl];exact hiN) (hbelslot s hs y (by rw[← hslot s hs];exact hy))
  ·rw[pR hs hy];exact .any _
 have hcong:∀ s∈o.looksAt ops,(F i)[s]?=(eO (o.looksAt ops) (frS ops v S (F 0) N))[s]?:=fun s hs=>by rw[jC hs,hslot s hs]
 have hnc:aY o=false:=by
  unfold cS at hfl
  unfold aY
  split at hfl<;>rename_i hop<;>first
   | (rw[hop];done)
   | (split at hfl<;>first|(rw[hop];done)|(cases hfl;done))
   | (cases hfl;done)
 have hbornk:∀ b∈x,∀ c,c<N→(H c).length≤b→b<(H (c+1)).length→bO S i c=false→(H (max k (c+1)))[b]?=(H (c+1))[b]?:=by
  intro b hb c hc h1 h2 h3
  refine J.born b hb c hc h1 h2 ?_
  by_cases hci:c=i
  ·rw[hci];exact hS
  ·rwa [dR hci]at h3
 -- what it leaves, and the step
 have fin:∀ u,H (i+1)=H i→R (m.cut (G H N x k) (H i).length) ((G H N x k).take (H i).length) w (v i) u→∃ m' k',JH ops N x F H v m0 w0 (bO S i) (a.put o.dst u) w m' k':=by
  intro u hH hru
  refine⟨_,k,wT st hN hcall tr J hcl hi ho hS J.kle (.inl rfl) hbornk (kk J.kcall ho hnc) (m':=m.cut (G H N x k) (H i).length) (w':=w) (u:=u) (by rw[hH];exact .refl _ _ _) (by rw[hH];exact hrelcut) (by rw[hH];exact hru) ?_⟩
  intro b c cs hb _ hc hm j hj hbj e he
  exact J.bel b c cs hc (by simpa[Mu.cut,hb]using hm) j hj hbj e he
 rcases hkind with⟨hw,hv,hH⟩|⟨hw,hic,hh,hop,hrd⟩|⟨hw,hic,_⟩
 ·exact⟨undef,.inr ⟨hwd false hw,rfl⟩,fin undef hH (by rw[hv];exact .no)⟩
 ·obtain⟨hH,_⟩:=pt hfl hop
  have hop2:opV P cfg (eO (o.looksAt ops) (frS ops v S (F 0) N)) (H i) o.op=some (v i,H (i+1)):=by
   have h1:aF P md call cfg (F i) (H i) o.op=some (v i,H (i+1)):=by rw[gr hnc];exact hop
   rw[kJ (oZ hcong),gr hnc]at h1
   exact h1
  obtain⟨u,hu,hru⟩:=ur hfl hop2 hfrcut
  exact⟨u,.inl ⟨hwd true hw,hu⟩,fin u hH hru⟩
 ·rw[hnc]at hic;cases hic
theorem xK{m0:Mu}{h0:Heap}{w0:World}{o:Oper}(hfl:cS P o=true){fr fr2:List V}{h h2:Heap}(hst:gg P md call cfg ops o fr h=some (fr2,h2)){a:Act}{w:World}(k:After m0 h0 w0 fr h a w):
  ∃ u,Blind P ops o a u∧After m0 h0 w0 fr2 h2 (a.put o.dst u) w:=by
 obtain⟨m,e,r,f⟩:=k
 have hnc:aY o=false:=by
  unfold cS at hfl
  unfold aY
  split at hfl<;>rename_i hop<;>first
   | (rw[hop];done)
   | (split at hfl<;>first|(rw[hop];done)|(cases hfl;done))
   | (cases hfl;done)
 unfold gg at hst
 split at hst
 ·rename_i hw
  rw[gr hnc]at hst
  split at hst
  ·rename_i y h1 hop
   simp only[Option.some.injEq,Prod.mk.injEq]at hst
   obtain⟨rfl,rfl⟩:=hst
   obtain⟨rfl,_⟩:=pt hfl hop
   obtain⟨u,hu,hru⟩:=ur hfl hop f
   exact⟨u,.inl ⟨ib f hw,hu⟩,m,e,r,f.put hru o.dst⟩
  ·cases hst
 ·rename_i hw
  simp only[Option.some.injEq,Prod.mk.injEq]at hst
  obtain⟨rfl,rfl⟩:=hst
  exact⟨undef,.inr ⟨ib f hw,rfl⟩,m,e,r,f.put .no o.dst⟩
 ·cases hst
theorem tQ(hm:P.follows .mixedOrders=true)(hN:di P)(hcall:dc P call):wb P (ef P md call):=by
 intro cfg ops fr h fr' h' hd
 unfold ef at hd
 simp only at hd
 split at hd
 ·rename_i hok
  split at hd
  ·rename_i fr1 h1 x ld hrun
   split at hd
   ·rename_i hld
    have st:=tn hok
    generalize jx (eE P 0 ops.toList) (jN [] ops.toList) ops.size=N at st hrun hd
    obtain⟨F,H,v,hF0,hH0,hFN,hHN,tr⟩:=AU hN hcall st.le hrun hld
    subst hF0 hH0 hFN hHN
    obtain⟨hs2,_⟩:=mK hN hcall _ hd
    refine⟨(tr_HS hN hcall tr st.le N (Nat.le_refl _)).trans hs2,fun m w a id r fR Q hQ=>?_⟩
    have hF0b:∀ (s:Nat) (c:V),(F 0)[s]?=some c→Bel (H 0).length c:=by
     intro s c hc
     have hlt:s<a.tmps.size:=by rw[← fR.len];exact (List.getElem?_eq_some_iff.1 hc).1
     exact (fR.slot s c _ hc (Array.getElem?_eq_getElem hlt)).bel
    -- all of the first ones have been carried out
    have done:∀ (S:Nat→Bool) (a':Act) (w':World) (m':Mu) (k:Nat),JH ops N x F H v m w S a' w' m' k→(∀ j,j<N→S j=true)→After m (H 0) w (F N) (H N) a' w':=by
     intro S a' w' m' k J hall
     have hG:G H N x k=H N:=G_all hN hcall tr st.le J.kle fun j hj hkj hjN=>by
      cases hc:aY ops[j]with
      | false=>rfl
      | true=>have:=(J.kcall j hj hjN hc).1 (hall j hjN);omega
     have hf:frS ops v S (F 0) N=F N:=by rw[Ez (F 0) N hall,← F4 tr st.le (Nat.le_refl N)]
     exact⟨m',by rw[← hG];exact J.evo,by rw[← hG];exact J.rel,by rw[← hG,← hf];exact J.fR⟩
    let J:(Nat→Bool)→Act→World→Prop:=fun S a' w'=>(∃ m' k,JH ops N x F H v m w S a' w' m' k) ∨
     ∃ t frt ht,N<t∧t≤ops.size∧(∀ i,i<ops.size→(S i=true↔i<t))∧After m (H 0) w frt ht a' w'∧cT P md call cfg ops (ops.toList.drop t) frt ht=some (fr',h')
    obtain⟨m1,hstart⟩:=Cg hN hcall tr st.le r fR
    -- one of the last ones
    have unroll:∀ (t:Nat) (o:Oper) (frt:List V) (ht:Heap),ops[t]?=some o→cT P md call cfg ops (ops.toList.drop t) frt ht=some (fr',h') →
      ∃ fr2 h2,gg P md call cfg ops o frt ht=some (fr2,h2)∧cT P md call cfg ops (ops.toList.drop (t+1)) fr2 h2=some (fr',h'):=by
     intro t o frt ht hto hrt
     have htl:t<ops.toList.length:=by simpa using (Array.getElem?_eq_some_iff.1 hto).1
     have hte:ops.toList[t]=o:=by simpa using (Array.getElem?_eq_some_iff.1 hto).2
     rw[List.drop_eq_getElem_cons htl,hte]at hrt
     simp only[cT]at hrt
     split at hrt
     ·rename_i fr2 h2 hst
      exact⟨fr2,h2,hst,hrt⟩
     ·cases hrt
    have grow:∀ (S:Nat→Bool) (t:Nat),(∀ i,i<ops.size→(S i=true↔i<t))→∀ i,i<ops.size→(bO S t i=true↔i<t+1):=by
     intro S t hSt i hi
     by_cases hit:i=t
     ·subst hit;simp[ig]
     ·rw[dR hit,hSt i hi];omega
    -- where one of the last ones stands when it comes up
    have place:∀ (S:Nat→Bool) (a':Act) (w':World),J S a' w'→∀ (i:Nat) (o:Oper),N≤i→ops[i]?=some o→S i=false→(∀ p,p<i→S p=true) →
      (∀ j,j<ops.size→(S j=true↔j<i))∧∃ frt ht,After m (H 0) w frt ht a' w'∧cT P md call cfg ops (ops.toList.drop i) frt ht=some (fr',h'):=by
     intro S a' w' hJ i o hiN ho hS hall
     have hio:i<ops.size:=(Array.getElem?_eq_some_iff.1 ho).1
     rcases hJ with⟨m',k,JJ⟩|⟨t,frt,ht,hNt,htn,hSt,haft,hrt⟩
     ·have hiN':i=N:=by
       rcases Nat.lt_or_ge N i with h|h
       ·have h1:=hall N h
        rw[JJ.tail N (Nat.le_refl _)]at h1;cases h1
       ·omega
      subst hiN'
      refine⟨fun j hj=>⟨fun h=>?_,fun h=>hall j h⟩,_,_,done S a' w' m' k JJ hall,hd⟩
      rcases Nat.lt_or_ge j i with h2|h2
      ·exact h2
      ·rw[JJ.tail j h2]at h;cases h
     ·have hit:i=t:=by
       have h1:¬ i<t:=fun h=>by have:=(hSt i hio).2 h;rw[hS]at this;cases this
       rcases Nat.lt_or_ge t i with h|h
       ·have:=(hSt t (by omega)).1 (hall t h);omega
       ·omega
      subst hit
      exact⟨hSt,frt,ht,haft,hrt⟩
    have early:∀ (S:Nat→Bool) (a':Act) (w':World),J S a' w'→∀ i,i<N→S i=false→∃ m' k,JH ops N x F H v m w S a' w' m' k:=by
     intro S a' w' hJ i hiN hS
     rcases hJ with h|⟨t,frt,ht,hNt,htn,hSt,haft,hrt⟩
     ·exact h
     ·have:=(hSt i (by omega)).2 (by omega)
      rw[hS]at this;cases this
    refine nE hm st J ?_ ?_ ?_ (.inl ⟨m1,0,hstart⟩)
    ·intro S a' w' hJ hcl i o ho hS hr hfl hmin
     have hio:i<ops.size:=(Array.getElem?_eq_some_iff.1 ho).1
     rcases Nat.lt_or_ge i N with hiN|hiN
     ·obtain⟨m',k,JJ⟩:=early S a' w' hJ i hiN hS
      obtain⟨u,hb,h⟩:=Cf st hN hcall tr hF0b JJ hcl hiN ho hS hr hfl
      exact⟨u,hb,.inl h⟩
     ·obtain⟨hSt,frt,ht,haft,hrt⟩:=place S a' w' hJ i o hiN ho hS (oH st hcl hiN ho hr hmin)
      obtain⟨fr2,h2,hst,hrt2⟩:=unroll i o frt ht ho hrt
      obtain⟨u,hb,haft2⟩:=xK hfl hst haft
      exact⟨u,hb,.inr ⟨i+1,fr2,h2,by omega,by omega,grow S i hSt,haft2,hrt2⟩⟩
    ·intro S a' w' hJ hcl hsat i o ho hS hr
     have hio:i<ops.size:=(Array.getElem?_eq_some_iff.1 ho).1
     rcases Nat.lt_or_ge i N with hiN|hiN
     ·obtain⟨m',k,JJ⟩:=early S a' w' hJ i hiN hS
      exact wpOp_mono (fun a2 w2 h=>.inl h) (E4 st hN hcall tr hF0b JJ hcl hiN ho hS hr (only Q))
     ·obtain⟨hSt,frt,ht,⟨m',e',r',f'⟩,hrt⟩:=place S a' w' hJ i o hiN ho hS (oH st hcl hiN ho hr fun p q _=>hsat p q)
      obtain⟨fr2,h2,hst,hrt2⟩:=unroll i o frt ht ho hrt
      obtain⟨_,hw2⟩:=rX hN hcall hst
      unfold wpOp
      rw[ho]
      simp only
      exact hw2 m' w' a' r' f' _ (only Q) fun a2 w2 k2=>.inr ⟨i+1,fr2,h2,by omega,by omega,grow S i hSt,k2.trans e',hrt2⟩
    ·intro S a' w' hJ hall
     rcases hJ with⟨m',k,JJ⟩|⟨t,frt,ht,hNt,htn,hSt,haft,hrt⟩
     ·have hNn:N=ops.size:=by
       rcases Nat.lt_or_ge N ops.size with h|h
       ·have:=hall N h
        rw[JJ.tail N (Nat.le_refl _)]at this;cases this
       ·have:=st.le;omega
      have hfin:=done S a' w' m' k JJ fun j hj=>hall j (by omega)
      rw[List.drop_of_length_le (by simp;omega)]at hd
      simp only[cT,Option.some.injEq,Prod.mk.injEq]at hd
      obtain⟨h1,h2⟩:=hd
      rw[← h1,← h2]at hQ
      exact hQ a' w' hfin
     ·have htn':t=ops.size:=by
       rcases Nat.lt_or_ge t ops.size with h|h
       ·have:=(hSt t h).1 (hall t h);omega
       ·omega
      rw[List.drop_of_length_le (by simp;omega)]at hrt
      simp only[cT,Option.some.injEq,Prod.mk.injEq]at hrt
      obtain⟨h1,h2⟩:=hrt
      rw[← h1,← h2]at hQ
      exact hQ a' w' haft
   ·cases hd
  ·cases hd
 ·cases hd
end
end Go.Ab
namespace Go.Ab
open Go.RowKit (Below)
abbrev Prim:=Cfg→List V→Heap→Option (V×Heap)
def aI(P:Program)(md:FuncId→Nat)(prim:FuncId→Option Prim)(n:Nat):Nat→aR
 | 0=>fun _ _ _ _=>none
 | d+1=>fun cfg f args h=>match prim f with
  | some p=>p cfg args h
  | none=>match P.funcs[f]? with
   | none=>none
   | some fn=>wM P md (aI P md prim n d) (ef P md (aI P md prim n d)) n cfg fn args h
def cj(P:Program)(f:FuncId)(p:Prim):Prop:=∀ cfg args h r h',p cfg args h=some (r,h')→HS cfg h h'∧(∃ fn,P.funcs[f]?=some fn∧fn.body.isNone=false) ∧
 ∀ m w vs,Rel m h w→PW m h w args vs→Calls P f vs w fun e w'=>∃ v,e=.returned v∧Out m h w r h' v w'
section
variable {P:Program}{md:FuncId→Nat}{prim:FuncId→Option Prim}{n:Nat}
theorem dz(hm:P.follows .mixedOrders=true)(hN:di P)(hp:∀ f p,prim f=some p→cj P f p):∀ d,dc P (aI P md prim n d)
 | 0=>fun cfg f args h r h' hx=>by simp[aI]at hx
 | d+1=>fun cfg f args h r h' hx=>by
  have ih:=dz hm hN hp d
  simp only[aI]at hx
  split at hx
  ·rename_i p hpf
   exact hp f p hpf cfg args h r h' hx
  ·split at hx
   ·cases hx
   ·rename_i fn hf
    exact Ew hN ih (tQ hm hN ih) hf hx
def uV:Mu:=⟨fun _=>none,fun _=>False⟩
theorem C6(w:World):Rel uV [] w:=
 ⟨fun _ _ h _=>by obtain⟨cs,hc⟩:=h;simp at hc,fun _ h=>h.elim,fun _ _ _ h=>by obtain⟨cs,hc⟩:=h;simp at hc,fun _ _ _ h=>by simp at h⟩
theorem rz(hm:P.follows .mixedOrders=true)(hN:di P)(hp:∀ f p,prim f=some p→cj P f p){d:Nat}{f:FuncId}{args:List V}{h':Heap}
  (hx:aI P md prim n d ⟨0,[],0⟩ f args []=some (.bool true,h')) {w:World} {vs:Array Value} (hargs:PW uV [] w args vs):
  Calls P f vs w fun e w'=>e=.returned (.bool true)∧Below w.heap.size w w':=by
 obtain⟨_,_,hs⟩:=dz (md:=md) (n:=n) hm hN hp d _ _ _ _ _ _ hx
 refine (hs uV w vs (C6 w) hargs).mono ?_
 rintro e w' ⟨v,rfl,m',ev,_,hr⟩
 cases hr
 exact⟨rfl,ev.os,ev.tape,ev.output,ev.size,fun b hb=>ev.frame b hb fun x hx=>by obtain⟨cs,hc⟩:=hx;simp at hc⟩
end
end Go.Ab
namespace Go.Ab
abbrev dQ:=Ex→List V→Heap→Prop
def slot{α:Type}(l:List α)(t:Nat):Option α:=l[t]?
def bV(l:List V)(d:Nat)(v:V):List V:=l.set d v
@[simp] theorem Ka{α:Type}{a:α}{l:List α}:slot (a::l) 0=some a:=rfl
@[simp] theorem J9{α:Type}{a:α}{l:List α}{t:Nat}:slot (a::l) (t+1)=slot l t:=by simp[slot]
@[simp] theorem slot_nil{α:Type}{t:Nat}:slot ([]:List α) t=none:=rfl
@[simp] theorem J6{a v:V}{l:List V}:bV (a::l) 0 v=v::l:=rfl
@[simp] theorem J5{a v:V}{l:List V}{t:Nat}:bV (a::l) (t+1) v=a::bV l t v:=rfl
class Hid (α:Type) where
 val:α
abbrev ck:=List V→Heap→Prop
section
variable (P:Program) (md:FuncId→Nat) (call:aR) (cfg:Cfg) (n:Nat)
def wC[c:Hid Code](fr:List V)(h:Heap)[Q:Hid dQ]:Prop:=∃ st,code P md call (ef P md call) cfg n c.val fr h=some st∧Q.val st.1 st.2.1 st.2.2
def wO[ops:Hid (Array Oper)][l:Hid (List Oper)](fr:List V)(h:Heap)[Q:Hid ck]:Prop:=∃ st,cT P md call cfg ops.val l.val fr h=some st∧Q.val st.1 st.2
def wS[dst:Hid (Option Tmp)][fr:Hid (List V)](r:Option (V×Heap))[ops:Hid (Array Oper)][l:Hid (List Oper)][Q:Hid ck]:Prop:=
 ∃ x,r=some x∧@wO P md call cfg ops l (put fr.val dst.val x.1) x.2 Q
def wIf(b:Bool)[A:Hid Prop][B:Hid Prop]:Prop:=if b=true then A.val else B.val
def zW(ops:Array Oper)(fr:List V)(j:Nat):Option V:=
 match ops[j]? with
 | some p=>match p.dst with
  | some d=>fr[d]?
  | none=>none
 | none=>none
def wG(g:Option V)[want:Hid Bool][dst:Hid (Option Tmp)][op:Hid Op][ops:Hid (Array Oper)][l:Hid (List Oper)][fr:Hid (List V)][h:Hid Heap][Q:Hid ck]:Prop:=
 match g with
 | some (.bool b)=>@wIf (b==want.val) ⟨@wS P md call cfg dst fr (aF P md call cfg fr.val h.val op.val) ops l Q⟩ ⟨@wO P md call cfg ops l (put fr.val dst.val .no) h.val Q⟩
 | some .no=>@wO P md call cfg ops l (put fr.val dst.val .no) h.val Q
 | _=>False
def wB(c:Option V)[t:Hid Code][e:Hid Code][fr:Hid (List V)][h:Hid Heap][Q:Hid dQ]:Prop:=
 match c with
 | some (.bool b)=>@wIf b ⟨@wC P md call cfg n t fr.val h.val Q⟩ ⟨@wC P md call cfg n e fr.val h.val Q⟩
 | _=>False
def Ag[b:Hid Code][Q:Hid dQ](e:Ex)(fr:List V)(h:Heap):Prop:=
 match e with
 | .normal=>@wC P md call cfg n b fr h Q
 | e=>Q.val e fr h
def pD[id:Hid Nat][Q:Hid dQ](e:Ex)(fr:List V)(h:Heap):Prop:=
 match e with
 | .exit i=>Q.val (if i=id.val then .normal else .exit i) fr h
 | e=>Q.val e fr h
def Rnd[I:Hid (Nat→List V→Heap→Prop)][m:Hid Nat](fr:List V)(h:Heap):Prop:=∃ m',m'<m.val∧I.val m' fr h
def yC[I:Hid (Nat→List V→Heap→Prop)][m:Hid Nat][Q:Hid dQ](e:Ex)(fr:List V)(h:Heap):Prop:=
 match e with
 | .normal=>@Rnd I m fr h
 | e=>Q.val e fr h
end
section
variable {P:Program}{md:FuncId→Nat}{call:aR}{cfg:Cfg}{n:Nat}
@[simp] theorem DT{A B:Prop}:@wIf true ⟨A⟩ ⟨B⟩↔A:=by simp[wIf]
@[simp] theorem AZ{A B:Prop}:@wIf false ⟨A⟩ ⟨B⟩↔B:=by simp[wIf]
theorem ak{b:Bool}{A B:Prop}(ha:b=true→A)(hb:b=false→B):@wIf b ⟨A⟩ ⟨B⟩:=by cases b<;>simp_all
@[simp] theorem ng{b:Code}{Q:dQ}{fr:List V}{h:Heap}:@Ag P md call cfg n ⟨b⟩ ⟨Q⟩ .normal fr h↔@wC P md call cfg n ⟨b⟩ fr h ⟨Q⟩:=Iff.rfl
@[simp] theorem JA{b:Code}{Q:dQ}{i:Nat}{fr:List V}{h:Heap}:@Ag P md call cfg n ⟨b⟩ ⟨Q⟩ (.exit i) fr h↔Q (.exit i) fr h:=Iff.rfl
@[simp] theorem kSeq_ret{b:Code}{Q:dQ}{fr:List V}{h:Heap}:@Ag P md call cfg n ⟨b⟩ ⟨Q⟩ .ret fr h↔Q .ret fr h:=Iff.rfl
@[simp] theorem D1{id:Nat}{Q:dQ}{fr:List V}{h:Heap}:@pD ⟨id⟩ ⟨Q⟩ .normal fr h↔Q .normal fr h:=Iff.rfl
@[simp] theorem Gv{id i:Nat}{Q:dQ}{fr:List V}{h:Heap}:@pD ⟨id⟩ ⟨Q⟩ (.exit i) fr h↔Q (if i=id then .normal else .exit i) fr h:=Iff.rfl
@[simp] theorem HN{id:Nat}{Q:dQ}{fr:List V}{h:Heap}:@pD ⟨id⟩ ⟨Q⟩ .ret fr h↔Q .ret fr h:=Iff.rfl
@[simp] theorem E5{I:Nat→List V→Heap→Prop}{m:Nat}{Q:dQ}{fr:List V}{h:Heap}:@yC ⟨I⟩ ⟨m⟩ ⟨Q⟩ .normal fr h↔@Rnd ⟨I⟩ ⟨m⟩ fr h:=Iff.rfl
theorem ae{I:Nat→List V→Heap→Prop}{m:Nat}{fr:List V}{h:Heap}{m':Nat}(h1:m'<m)(h2:I m' fr h):@Rnd ⟨I⟩ ⟨m⟩ fr h:=⟨m',h1,h2⟩
@[simp] theorem HP{I:Nat→List V→Heap→Prop}{m:Nat}{Q:dQ}{i:Nat}{fr:List V}{h:Heap}:@yC ⟨I⟩ ⟨m⟩ ⟨Q⟩ (.exit i) fr h↔Q (.exit i) fr h:=Iff.rfl
@[simp] theorem Jw{I:Nat→List V→Heap→Prop}{m:Nat}{Q:dQ}{fr:List V}{h:Heap}:@yC ⟨I⟩ ⟨m⟩ ⟨Q⟩ .ret fr h↔Q .ret fr h:=Iff.rfl
@[simp] theorem zp{fr:List V}{h:Heap}{Q:dQ}:@wC P md call cfg n ⟨.skip⟩ fr h ⟨Q⟩↔Q .normal fr h:=by simp[wC,code]
@[simp] theorem wC_exit{id:Nat}{fr:List V}{h:Heap}{Q:dQ}:@wC P md call cfg n ⟨.exit id⟩ fr h ⟨Q⟩↔Q (.exit id) fr h:=by simp[wC,code]
@[simp] theorem wC_ret{fr:List V}{h:Heap}{Q:dQ}:@wC P md call cfg n ⟨.ret⟩ fr h ⟨Q⟩↔Q .ret fr h:=by simp[wC,code]
@[simp] theorem dF{a b:Code}{fr:List V}{h:Heap}{Q:dQ}:@wC P md call cfg n ⟨.seq a b⟩ fr h ⟨Q⟩↔@wC P md call cfg n ⟨a⟩ fr h ⟨@Ag P md call cfg n ⟨b⟩ ⟨Q⟩⟩:=by
 unfold wC
 simp only[code]
 cases ha:code P md call (ef P md call) cfg n a fr h with
 | none=>simp
 | some st =>
  obtain⟨e,fr',h'⟩:=st
  cases e<;>simp[Ag,wC]
@[simp] theorem wC_block{id:Nat}{b:Code}{fr:List V}{h:Heap}{Q:dQ}:@wC P md call cfg n ⟨.block id b⟩ fr h ⟨Q⟩↔@wC P md call cfg n ⟨b⟩ fr h ⟨@pD ⟨id⟩ ⟨Q⟩⟩:=by
 unfold wC
 simp only[code]
 cases ha:code P md call (ef P md call) cfg n b fr h with
 | none=>simp
 | some st =>
  obtain⟨e,fr',h'⟩:=st
  cases e<;>simp[pD]
@[simp] theorem FZ{c:Operand}{t e:Code}{fr:List V}{h:Heap}{Q:dQ}:@wC P md call cfg n ⟨.cond c t e⟩ fr h ⟨Q⟩↔@wB P md call cfg n (ev fr c) ⟨t⟩ ⟨e⟩ ⟨fr⟩ ⟨h⟩ ⟨Q⟩:=by
 unfold wC
 simp only[code,wB]
 split<;>rename_i hc
 ·simp[wIf,wC,hc]
 ·simp[wIf,wC,hc]
 ·rename_i h1
  split
  ·rename_i b hb
   cases b
   ·exact absurd hb hc
   ·exact absurd hb h1
  ·simp
@[simp] theorem FY{b:Bool}{t e:Code}{fr:List V}{h:Heap}{Q:dQ}:@wB P md call cfg n (some (.bool b)) ⟨t⟩ ⟨e⟩ ⟨fr⟩ ⟨h⟩ ⟨Q⟩↔@wIf b ⟨@wC P md call cfg n ⟨t⟩ fr h ⟨Q⟩⟩ ⟨@wC P md call cfg n ⟨e⟩ fr h ⟨Q⟩⟩:=Iff.rfl
@[simp] theorem Kc{id:Nat}{ops:Array Oper}{fr:List V}{h:Heap}{Q:dQ}:@wC P md call cfg n ⟨.region id ops false⟩ fr h ⟨Q⟩↔@wO P md call cfg ⟨ops⟩ ⟨ops.toList⟩ fr h ⟨Q .normal⟩:=by
 unfold wC wO
 simp only[code]
 cases ha:cT P md call cfg ops ops.toList fr h with
 | none=>simp
 | some st=>obtain⟨fr',h'⟩:=st;simp
@[simp] theorem wO_list{ops:Array Oper}{l:List Oper}{fr:List V}{h:Heap}{Q:ck}:@wO P md call cfg ⟨ops⟩ ⟨l.toArray.toList⟩ fr h ⟨Q⟩↔@wO P md call cfg ⟨ops⟩ ⟨l⟩ fr h ⟨Q⟩:=Iff.rfl
@[simp] theorem wO_nil{ops:Array Oper}{fr:List V}{h:Heap}{Q:ck}:@wO P md call cfg ⟨ops⟩ ⟨[]⟩ fr h ⟨Q⟩↔Q fr h:=by simp[wO,cT]
@[simp] theorem wO_cons{ops:Array Oper}{dst:Option Tmp}{op:Op}{ty:TypeId}{pos:String}{after:Array Edge}{l:List Oper}{fr:List V}{h:Heap}{Q:ck}:
  @wO P md call cfg ⟨ops⟩ ⟨{ dst:=dst,op:=op,type:=ty,pos:=pos,after:=after,guard:=none }::l⟩ fr h ⟨Q⟩↔@wS P md call cfg ⟨dst⟩ ⟨fr⟩ (aF P md call cfg fr h op) ⟨ops⟩ ⟨l⟩ ⟨Q⟩:=by
 unfold wO wS
 simp only[cT,gg,cY]
 cases ha:aF P md call cfg fr h op with
 | none=>simp
 | some x=>obtain⟨v,h'⟩:=x;simp[wO]
@[simp] theorem wO_guard{ops:Array Oper}{dst:Option Tmp}{op:Op}{ty:TypeId}{pos:String}{after:Array Edge}{j:Nat}{want:Bool}{l:List Oper}{fr:List V}{h:Heap}{Q:ck}:
  @wO P md call cfg ⟨ops⟩ ⟨{ dst:=dst,op:=op,type:=ty,pos:=pos,after:=after,guard:=some (j,want) }::l⟩ fr h ⟨Q⟩↔@wG P md call cfg (zW ops fr j) ⟨want⟩ ⟨dst⟩ ⟨op⟩ ⟨ops⟩ ⟨l⟩ ⟨fr⟩ ⟨h⟩ ⟨Q⟩:=by
 unfold wO wG zW
 simp only[cT,gg,cY]
 cases hj:ops[j]? with
 | none=>simp
 | some p =>
  cases hd:p.dst with
  | none=>simp[hd]
  | some d =>
   simp only[hd]
   cases hf:fr[d]? with
   | none=>simp
   | some v =>
    cases v<;>simp only[reduceCtorEq,false_and,exists_false]
    ·simp[wO]
    ·rename_i b
     cases hbw:(b==want)<;>simp only[wIf,wS,wO,if_true,Bool.false_eq_true,if_false]
     cases ha:aF P md call cfg fr h op with
     | none=>simp
     | some x=>obtain⟨v,h'⟩:=x;simp
@[simp] theorem ao{b want:Bool}{dst:Option Tmp}{op:Op}{ops:Array Oper}{l:List Oper}{fr:List V}{h:Heap}{Q:ck}:
  @wG P md call cfg (some (.bool b)) ⟨want⟩ ⟨dst⟩ ⟨op⟩ ⟨ops⟩ ⟨l⟩ ⟨fr⟩ ⟨h⟩ ⟨Q⟩↔@wIf (b==want) ⟨@wS P md call cfg ⟨dst⟩ ⟨fr⟩ (aF P md call cfg fr h op) ⟨ops⟩ ⟨l⟩ ⟨Q⟩⟩ ⟨@wO P md call cfg ⟨ops⟩ ⟨l⟩ (put fr dst .no) h ⟨Q⟩⟩:=Iff.rfl
@[simp] theorem wG_no{want:Bool}{dst:Option Tmp}{op:Op}{ops:Array Oper}{l:List Oper}{fr:List V}{h:Heap}{Q:ck}:
  @wG P md call cfg (some .no) ⟨want⟩ ⟨dst⟩ ⟨op⟩ ⟨ops⟩ ⟨l⟩ ⟨fr⟩ ⟨h⟩ ⟨Q⟩↔@wO P md call cfg ⟨ops⟩ ⟨l⟩ (put fr dst .no) h ⟨Q⟩:=Iff.rfl
@[simp] theorem gv{dst:Option Tmp}{fr:List V}{v:V}{h:Heap}{ops:Array Oper}{l:List Oper}{Q:ck}:
  @wS P md call cfg ⟨dst⟩ ⟨fr⟩ (some (v,h)) ⟨ops⟩ ⟨l⟩ ⟨Q⟩↔@wO P md call cfg ⟨ops⟩ ⟨l⟩ (put fr dst v) h ⟨Q⟩:=by simp[wS]
@[simp] theorem put_none{fr:List V}{v:V}:put fr none v=fr:=rfl
@[simp] theorem put_some{fr:List V}{d:Tmp}{v:V}:put fr (some d) v=bV fr d v:=rfl
@[simp] theorem gdOf_mk{ops:Array Oper}{fr:List V}{j:Nat}:zW ops fr j=((slot ops.toList j).bind (·.dst)).bind (slot fr ·):=by
 unfold zW
 simp only[slot,Array.getElem?_toList]
 cases h:ops[j]? with
 | none=>simp
 | some p=>cases hd:p.dst<;>simp[hd]
@[simp] theorem ev_tmp{fr:List V}{t:Tmp}:ev fr (.tmp t)=slot fr t:=rfl
@[simp] theorem ev_func{fr:List V}{f:FuncId}:ev fr (.func f)=some (.func (.func f) [] []):=rfl
@[simp] theorem ev_int{fr:List V}{k:IntKind}{i:Int}:ev fr (.const (.int k i))=some (.int k i):=rfl
@[simp] theorem ev_bool{fr:List V}{b:Bool}:ev fr (.const (.bool b))=some (.bool b):=rfl
@[simp] theorem ev_str{fr:List V}{s:ByteArray}:ev fr (.const (.string s))=some (.str s):=rfl
@[simp] theorem ev_nils{fr:List V}:ev fr (.const (.slice none 0 0))=some .nils:=rfl
@[simp] theorem ev_agg{fr:List V}{cs:Array Value}:ev fr (.const (.agg cs))=(cs.toList.mapM gA).map .agg:=rfl
@[simp] theorem Jl{fr:List V}:cK fr []=some []:=rfl
@[simp] theorem Hg{fr:List V}{x:Operand}{r:List Operand}:cK fr (x::r)=(ev fr x).bind fun v=>(cK fr r).map (v::·):=by
 simp only[cK]
 cases ev fr x<;>simp
 cases cK fr r<;>simp
@[simp] theorem JW{fr:List V}{h:Heap}{x:Operand}:aF P md call cfg fr h (.move x)=(ev fr x).map (·,h):=rfl
@[simp] theorem GG{fr:List V}{h:Heap}{x:Operand}:aF P md call cfg fr h (.assign x)=(ev fr x).map (·,h):=rfl
def np(c a b:Option V)(h:Heap):Option (V×Heap):=
 match c with
 | some (.bool true)=>a.map (·,h)
 | some (.bool false)=>b.map (·,h)
 | _=>none
@[simp] theorem JX{fr:List V}{h:Heap}{c a b:Operand}:aF P md call cfg fr h (.pick c a b)=np (ev fr c) (ev fr a) (ev fr b) h:=rfl
@[simp] theorem It{a b:Option V}{h:Heap}:np (some (.bool true)) a b h=a.map (·,h):=rfl
@[simp] theorem GI{a b:Option V}{h:Heap}:np (some (.bool false)) a b h=b.map (·,h):=rfl
@[simp] theorem JZ{x y:Bool}{h:Heap}:np (some (.bool x)) (some (.bool y)) (some (.bool false)) h=some (.bool (x&&y),h):=by cases x<;>rfl
@[simp] theorem pickV_or{x y:Bool}{h:Heap}:np (some (.bool x)) (some (.bool true)) (some (.bool y)) h=some (.bool (x||y),h):=by cases x<;>rfl
@[simp] theorem Ib{fr:List V}{h:Heap}{t:TypeId}:aF P md call cfg fr h (.alloc t)=(zeroOf P t).map fun z=>(.ptr h.length 0,h++[some (cJ z)]):=by
 simp only[aF,opV];cases zeroOf P t<;>rfl
@[simp] theorem opEv_box{fr:List V}{h:Heap}{t:TypeId}{x:Operand}:aF P md call cfg fr h (.box t x)=((ev fr x).bind cellsOf).map fun cs=>(.ptr h.length 0,h++[some cs]):=by
 simp only[aF,opV]
 cases ev fr x with
 | none=>rfl
 | some v=>simp only[Option.bind_some];cases cellsOf v<;>rfl
@[simp] theorem Ie{fr:List V}{h:Heap}{t:TypeId}{ps:Array (Nat×Operand)}:aF P md call cfg fr h (.build t ps)=((cW fr ps.toList).bind (cr P t)).map (·,h):=by
 simp only[aF,opV];cases cW fr ps.toList<;>rfl
@[simp] theorem A2{fr:List V}{h:Heap}{t:TypeId}{len:Nat}{ps:Array (Nat×Operand)}:aF P md call cfg fr h (.buildSlice t len ps)=(aQ fr 0 ps.toList).bind (aM P h t len):=by
 simp only[aF,opV];cases aQ fr 0 ps.toList<;>rfl
@[simp] theorem JV{fr:List V}{h:Heap}{t:TypeId}{a:Operand}:aF P md call cfg fr h (.load t a)=((ev fr a).bind (gp P h t)).map (·,h):=by
 simp only[aF,opV];cases ev fr a<;>rfl
@[simp] theorem Ij{fr:List V}{h:Heap}{t:TypeId}{a x:Operand}:aF P md call cfg fr h (.store t a x)=((ev fr a).bind fun p=>(ev fr x).bind fun v=>bf P cfg h t p v).map (.no,·):=by
 simp only[aF,opV]
 cases ev fr a with
 | none=>rfl
 | some p=>cases ev fr x with
  | none=>rfl
  | some v=>simp only[Option.bind_some];cases bf P cfg h t p v<;>rfl
@[simp] theorem D4{fr:List V}{h:Heap}{x:Operand}:aF P md call cfg fr h (.nilCheck x)=((ev fr x).bind eN).map (·,h):=by
 simp only[aF,opV];cases ev fr x<;>rfl
@[simp] theorem Ic{fr:List V}{h:Heap}{op:BinOp}{t u:TypeId}{x y:Operand}:aF P md call cfg fr h (.binOp op t x y u)=((ev fr x).bind fun a=>(ev fr y).bind fun b=>cz P op t a b).map (·,h):=by
 simp only[aF,opV]
 cases ev fr x with
 | none=>rfl
 | some p=>cases ev fr y with
  | none=>rfl
  | some v=>rfl
@[simp] theorem JY{fr:List V}{h:Heap}{op:UnOp}{t:TypeId}{x:Operand}:aF P md call cfg fr h (.unOp op t x)=((ev fr x).bind (unV op)).map (·,h):=by
 simp only[aF,opV];cases ev fr x<;>rfl
@[simp] theorem Fl{fr:List V}{h:Heap}{s d:TypeId}{x:Operand}:aF P md call cfg fr h (.convert s d x)=(ev fr x).bind (fc P h s d):=by
 simp only[aF,opV];cases ev fr x<;>rfl
@[simp] theorem D3{fr:List V}{h:Heap}{fn:Fn}{a c:Array Operand}:aF P md call cfg fr h (.makeFunc fn a c)=(cK fr a.toList).bind fun f=>(cK fr c.toList).map fun c=>(.func fn f c,h):=by
 simp only[aF,opV]
 cases cK fr a.toList with
 | none=>rfl
 | some p=>cases cK fr c.toList<;>rfl
@[simp] theorem CI{fr:List V}{h:Heap}{t:TypeId}{l c:Operand}:aF P md call cfg fr h (.makeSlice t l c)=(ev fr l).bind fun a=>(ev fr c).bind fun b=>cE P h t a b:=by
 simp only[aF,opV]
 cases ev fr l with
 | none=>rfl
 | some p=>cases ev fr c<;>rfl
@[simp] theorem Ii{fr:List V}{h:Heap}{t:TypeId}{x:Operand}{lo hi:Option Operand}:aF P md call cfg fr h (.slice t x lo hi none)=((ev fr x).bind fun a=>da P h t a (lo.map (ev fr)) (hi.map (ev fr))).map (·,h):=by
 simp only[aF,opV];cases ev fr x<;>rfl
@[simp] theorem CG{fr:List V}{h:Heap}{s:TypeId}{x:Operand}{f:Nat}:aF P md call cfg fr h (.fieldAddr s x f)=((ev fr x).bind fun a=>ag P s a f).map (·,h):=by
 simp only[aF,opV];cases ev fr x<;>rfl
@[simp] theorem Ig{fr:List V}{h:Heap}{s:TypeId}{x:Operand}{f:Nat}:aF P md call cfg fr h (.field s x f)=((ev fr x).bind fun a=>iX P s a f).map (·,h):=by
 simp only[aF,opV];cases ev fr x<;>rfl
@[simp] theorem CH{fr:List V}{h:Heap}{t:TypeId}{x i:Operand}:aF P md call cfg fr h (.indexAddr t x i)=((ev fr x).bind fun a=>(ev fr i).bind fun b=>ay P t a b).map (·,h):=by
 simp only[aF,opV]
 cases ev fr x with
 | none=>rfl
 | some p=>cases ev fr i<;>rfl
@[simp] theorem Ih{fr:List V}{h:Heap}{t:TypeId}{x i:Operand}:aF P md call cfg fr h (.index t x i)=((ev fr x).bind fun a=>(ev fr i).bind fun b=>kC P t a b).map (·,h):=by
 simp only[aF,opV]
 cases ev fr x with
 | none=>rfl
 | some p=>cases ev fr i<;>rfl
@[simp] theorem Fm{fr:List V}{h:Heap}{x:Operand}{i:Nat}:aF P md call cfg fr h (.extract x i)=((ev fr x).bind fun a=>gI a i).map (·,h):=by
 simp only[aF,opV];cases ev fr x<;>rfl
def biV(P:Program)(cfg:Cfg)(h:Heap)(b:Builtin)(tys:List TypeId)(vs:List V):Option (V×Heap):=
 match b,tys,vs with
 | .len,[t],[x]=>(dk P t x).map (·,h)
 | .append,[t,u],[d,x]=>cA P cfg h t u d x
 | .min,_,vs=>(sS vs).map (·,h)
 | .max,_,vs=>(nz vs).map (·,h)
 | .clear,[t],[x]=>(ir P cfg h t x).map (.tup [],·)
 | _,_,_=>none
@[simp] theorem Fk{fr:List V}{h:Heap}{b:Builtin}{args:Array Operand}{tys:Array TypeId}:aF P md call cfg fr h (.call { callee:=.builtin b,args:=args,argTypes:=tys })=(cK fr args.toList).bind (biV P cfg h b tys.toList):=by
 simp only[aF,opV]
 cases cK fr args.toList with
 | none=>rfl
 | some vs =>
  simp only[Option.bind_some,biV]
  generalize tys.toList=tl
  rcases tl with _|⟨t,_|⟨u,_|⟨_,_⟩⟩⟩<;>rcases vs with _|⟨x,_|⟨y,_|⟨_,_⟩⟩⟩<;>cases b<;>first|rfl|(simp only[];cases ir P cfg h t x<;>rfl)|(simp only;cases ir P cfg h t x<;>rfl)
@[simp] theorem biV_len{h:Heap}{t:TypeId}{x:V}:biV P cfg h .len [t] [x]=(dk P t x).map (·,h):=rfl
@[simp] theorem G1{h:Heap}{t u:TypeId}{d x:V}:biV P cfg h .append [t,u] [d,x]=cA P cfg h t u d x:=rfl
@[simp] theorem biV_min{h:Heap}{ts:List TypeId}{vs:List V}:biV P cfg h .min ts vs=(sS vs).map (·,h):=by unfold biV;split<;>simp_all
@[simp] theorem biV_max{h:Heap}{ts:List TypeId}{vs:List V}:biV P cfg h .max ts vs=(nz vs).map (·,h):=by unfold biV;split<;>simp_all
@[simp] theorem Jk{h:Heap}{t:TypeId}{x:V}:biV P cfg h .clear [t] [x]=(ir P cfg h t x).map (.tup [],·):=rfl
def Bo(md:FuncId→Nat)(call:aR)(cfg:Cfg)(h:Heap)(f:Option V)(vs:Option (List V)):Option (V×Heap):=
 match f,vs with
 | some (.func (.func g) first captured),some vs=>af md call cfg g ((first++vs)++captured) h
 | _,_=>none
@[simp] theorem JU{fr:List V}{h:Heap}{f:Operand}{args:Array Operand}{tys:Array TypeId}:aF P md call cfg fr h (.call { callee:=.value f,args:=args,argTypes:=tys })=Bo md call cfg h (ev fr f) (cK fr args.toList):=rfl
@[simp] theorem Gc{h:Heap}{g:FuncId}{first captured vs:List V}:Bo md call cfg h (some (.func (.func g) first captured)) (some vs)=af md call cfg g ((first++vs)++captured) h:=rfl
theorem aj{body:Code}{fr:List V}{h:Heap}{Q:dQ}(I:Nat→List V→Heap→Prop){m:Nat}(hm:m<n)(h0:I m fr h)
  (step:∀ m fr h,I m fr h→@wC P md call cfg n ⟨body⟩ fr h ⟨@yC ⟨I⟩ ⟨m⟩ ⟨Q⟩⟩):@wC P md call cfg n ⟨.loop body⟩ fr h ⟨Q⟩:=by
 have key:∀ k m fr h,m<k→I m fr h→∃ st,iter (code P md call (ef P md call) cfg n body) k fr h=some st∧Q st.1 st.2.1 st.2.2:=by
  intro k
  induction k with
  | zero=>intro m fr h hm;omega
  | succ k ih =>
   intro m fr h hm hI
   obtain⟨⟨e,fr',h'⟩,hst,hq⟩:=step m fr h hI
   replace hst:code P md call (ef P md call) cfg n body fr h=some (e,fr',h'):=hst
   simp only[iter,hst]
   cases e with
   | normal =>
    obtain⟨m',hm',hI'⟩:=hq
    replace hm':m'<m:=hm'
    exact ih m' fr' h' (by omega) hI'
   | exit i=>exact⟨_,rfl,hq⟩
   | ret=>exact⟨_,rfl,hq⟩
 obtain⟨st,h1,h2⟩:=key n m fr h hm h0
 exact⟨st,by show code P md call (ef P md call) cfg n (.loop body) fr h=some st;rw[code];exact h1,h2⟩
theorem F0{c:Code}{fr:List V}{h:Heap}{Q Q':dQ}(hw:@wC P md call cfg n ⟨c⟩ fr h ⟨Q⟩)(hq:∀ e fr h,Q e fr h→Q' e fr h):@wC P md call cfg n ⟨c⟩ fr h ⟨Q'⟩:=by
 obtain⟨st,h1,h2⟩:=hw
 exact⟨st,h1,hq _ _ _ h2⟩
def look:List (Nat×V)→Nat→Option V
 | [],_=>none
 | (a,v)::r,k=>if a=k then some v else look r k
def pe(l:List (Nat×V))(j:Nat→V):Nat→Nat→List V
 | 0,_=>[]
 | c+1,k=>(look l k).getD (j k)::pe l j c (k+1)
def vZ:List (Nat×V)→List V→Prop
 | [],_=>True
 | (k,v)::r,fr=>slot fr k=some v∧vZ r fr
def Slots(N:Nat)(l:List (Nat×V))(fr:List V):Prop:=fr.length=N∧vZ l fr
@[simp] theorem AllS_nil{fr:List V}:vZ [] fr↔True:=Iff.rfl
@[simp] theorem Jd{k:Nat}{v:V}{r:List (Nat×V)}{fr:List V}:vZ ((k,v)::r) fr↔slot fr k=some v∧vZ r fr:=Iff.rfl
@[simp] theorem Je{N:Nat}{l:List (Nat×V)}{fr:List V}:Slots N l fr↔fr.length=N∧vZ l fr:=Iff.rfl
@[simp] theorem look_nil{k:Nat}:look [] k=none:=rfl
@[simp] theorem Aq{a k:Nat}{v:V}{r:List (Nat×V)}:look ((a,v)::r) k=if a=k then some v else look r k:=rfl
@[simp] theorem Hh{l:List (Nat×V)}{j:Nat→V}{k:Nat}:pe l j 0 k=[]:=rfl
@[simp] theorem wK{l:List (Nat×V)}{j:Nat→V}{c k:Nat}:pe l j (c+1) k=(look l k).getD (j k)::pe l j c (k+1):=rfl
theorem qS{fr:List V}:∀ {l:List (Nat×V)},vZ l fr→∀ k v,look l k=some v→fr[k]?=some v
 | [],_,k,v,h=>by simp at h
 | (a,u)::r,hs,k,v,h=>by
  simp only[Aq]at h
  split at h
  ·rename_i hak;subst hak;cases h;exact hs.1
  ·exact qS hs.2 k v h
theorem ud(l:List (Nat×V))(j:Nat→V):∀ (c k i:Nat),i<c→(pe l j c k)[i]?=some ((look l (k+i)).getD (j (k+i)))
 | 0,_,_,h=>by omega
 | c+1,k,0,_=>by simp
 | c+1,k,i+1,h=>by
  simp only[wK,List.getElem?_cons_succ]
  rw[ud l j c (k+1) i (by omega),show k+1+i=k+(i+1) by omega]
theorem ue(l:List (Nat×V))(j:Nat→V):∀ (c k:Nat),(pe l j c k).length=c
 | 0,_=>rfl
 | c+1,k=>by simp[ue l j c]
theorem Slots.ex{N:Nat}{l:List (Nat×V)}{fr:List V}(hs:Slots N l fr):∃ j,fr=pe l j N 0:=by
 obtain⟨hl,ha⟩:=hs
 refine⟨fun k=>fr.getD k .no,List.ext_getElem? fun i=>?_⟩
 by_cases hi:i<N
 ·rw[ud _ _ _ _ _ hi,Nat.zero_add]
  have hfi:fr[i]?=some fr[i]:=List.getElem?_eq_getElem (by omega)
  cases hk:look l i with
  | none=>simp[hfi]
  | some v=>rw[qS ha i v hk];rfl
 ·rw[List.getElem?_eq_none (by omega),List.getElem?_eq_none (by rw[ue];omega)]
end
end Go.Ab
namespace Go.Ab
def Af(o:Option (List V))(h:Heap)[R:Hid (V→Heap→Prop)]:Prop:=∃ vs,o=some vs∧R.val (oneOf vs) h
def kFn(P:Program)[rs:Hid (List ResultVar)][R:Hid (V→Heap→Prop)](e:Ex)(fr:List V)(h:Heap):Prop:=
 match e with
 | .exit _=>False
 | _=>@Af (fZ P fr h rs.val) h R
section
variable {P:Program}{md:FuncId→Nat}{call:aR}{cfg:Cfg}{n:Nat}{prim:FuncId→Option Prim}
@[simp] theorem kFn_ret{rs:List ResultVar}{R:V→Heap→Prop}{fr:List V}{h:Heap}:@kFn P ⟨rs⟩ ⟨R⟩ .ret fr h↔@Af (fZ P fr h rs) h ⟨R⟩:=Iff.rfl
@[simp] theorem HO{rs:List ResultVar}{R:V→Heap→Prop}{fr:List V}{h:Heap}:@kFn P ⟨rs⟩ ⟨R⟩ .normal fr h↔@Af (fZ P fr h rs) h ⟨R⟩:=Iff.rfl
@[simp] theorem Jz{vs:List V}{h:Heap}{R:V→Heap→Prop}:@Af (some vs) h ⟨R⟩↔R (oneOf vs) h:=by simp[Af]
@[simp] theorem JS{v:V}:oneOf [v]=v:=rfl
@[simp] theorem JT{v u:V}{r:List V}:oneOf (v::u::r)=.tup (v::u::r):=rfl
@[simp] theorem JR:oneOf []=.tup []:=rfl
@[simp] theorem resV_nil{fr:List V}{h:Heap}:fZ P fr h []=some []:=rfl
@[simp] theorem resV_tmp{fr:List V}{h:Heap}{t:Tmp}{r:List ResultVar}:fZ P fr h (.tmp t::r)=(slot fr t).bind fun v=>(fZ P fr h r).map (v::·):=by
 simp only[fZ,slot]
 cases fr[t]? with
 | none=>rfl
 | some v=>cases fZ P fr h r<;>rfl
@[simp] theorem J1{fr:List V}{h:Heap}{a:Tmp}{t:TypeId}{r:List ResultVar}:fZ P fr h (.cell a t::r)=(slot fr a).bind fun p=>(gp P h t p).bind fun v=>(fZ P fr h r).map (v::·):=by
 simp only[fZ,slot]
 cases fr[a]? with
 | none=>rfl
 | some p =>
  simp only[Option.bind_some]
  cases gp P h t p with
  | none=>rfl
  | some v=>cases fZ P fr h r<;>rfl
theorem cx{d:Nat}{f:FuncId}{fn:Func}{c:Code}{k:Nat}{rs:List ResultVar}{args:List V}{h:Heap}{R:V→Heap→Prop}(hp:prim f=none)(hf:P.funcs[f]?=some fn)(hb:fn.body=some c)(hk:fn.ntmps=k)
  (hr:fn.results.toList=rs) (hw:@wC P md (aI P md prim n d) cfg n ⟨c⟩ (args++List.replicate (k-args.length) .no) h ⟨@kFn P ⟨rs⟩ ⟨R⟩⟩):
  ∃ r h',aI P md prim n (d+1) cfg f args h=some (r,h')∧R r h':=by
 subst hk;subst hr
 obtain⟨⟨e,fr,h'⟩,h1,h2⟩:=hw
 replace h1:code P md (aI P md prim n d) (ef P md (aI P md prim n d)) cfg n c (args++List.replicate (fn.ntmps-args.length) V.no) h=some (e,fr,h'):=h1
 simp only[aI,hp,hf,wM,hb,h1]
 cases e with
 | exit i=>exact h2.elim
 | normal =>
  obtain⟨vs,h3,h4⟩:=h2
  exact⟨_,_,by simp only at h3 ⊢;rw[h3],h4⟩
 | ret =>
  obtain⟨vs,h3,h4⟩:=h2
  exact⟨_,_,by simp only at h3 ⊢;rw[h3],h4⟩
theorem bo{d:Nat}{f:FuncId}{fn:Func}{c:Code}{k:Nat}{rs:List ResultVar}{args:List V}{h:Heap}{r:V}(hm:md f=0)(hp:prim f=none)(hf:P.funcs[f]?=some fn)(hb:fn.body=some c)(hk:fn.ntmps=k)
  (hr:fn.results.toList=rs) (ha:args.all V.noref=true)
  (hw:@wC P md (aI P md prim n d) ⟨0,[],0⟩ n ⟨c⟩ (args++List.replicate (k-args.length) .no) [] ⟨@kFn P ⟨rs⟩ ⟨fun r' h'=>frz h' 0 6 r'=some r⟩⟩):
  af md (aI P md prim n (d+1)) cfg f args h=some (r,h):=by
 obtain⟨r',h',h1,h2⟩:=cx hp hf hb hk hr hw
 simp only[af,hm,ha,if_true,h1,h2]
theorem call1{d:Nat}{f:FuncId}{fn:Func}{c:Code}{k:Nat}{rs:List ResultVar}{args:List V}{h h2:Heap}{r:V}(hm:md f=1)(hp:prim f=none)(hf:P.funcs[f]?=some fn)(hb:fn.body=some c)(hk:fn.ntmps=k)
  (hr:fn.results.toList=rs)
  (hw:@wC P md (aI P md prim n d) ⟨cfg.lo,cfg.ex,h.length⟩ n ⟨c⟩ (args++List.replicate (k-args.length) .no) h ⟨@kFn P ⟨rs⟩ ⟨fun r' h'=>frz h' h.length 6 r'=some r∧h'.take h.length=h2⟩⟩):
  af md (aI P md prim n (d+1)) cfg f args h=some (r,h2):=by
 obtain⟨r',h',h1,h2,h3⟩:=cx hp hf hb hk hr hw
 simp only[af,hm,h1,h2,h3]
theorem call2{d:Nat}{f:FuncId}{fn:Func}{c:Code}{k:Nat}{rs:List ResultVar}{args:List V}{h h2:Heap}{r:V}(hm:md f=2)(hp:prim f=none)(hf:P.funcs[f]?=some fn)(hb:fn.body=some c)(hk:fn.ntmps=k)
  (hr:fn.results.toList=rs)
  (hw:@wC P md (aI P md prim n d) cfg n ⟨c⟩ (args++List.replicate (k-args.length) .no) h ⟨@kFn P ⟨rs⟩ ⟨fun r' h'=>r'=r∧h'=h2⟩⟩):
  af md (aI P md prim n (d+1)) cfg f args h=some (r,h2):=by
 obtain⟨r',h',h1,rfl,rfl⟩:=cx hp hf hb hk hr hw
 simp only[af,hm,h1]
theorem call3{d:Nat}{f:FuncId}{fn:Func}{c:Code}{k:Nat}{rs:List ResultVar}{args args':List V}{h:Heap}{r:V}(hm:md f=3)(hp:prim f=none)(hf:P.funcs[f]?=some fn)(hb:fn.body=some c)(hk:fn.ntmps=k)
  (hr:fn.results.toList=rs) (ha:args.mapM (frzA h)=some args')
  (hw:@wC P md (aI P md prim n d) ⟨0,[],0⟩ n ⟨c⟩ (args'++List.replicate (k-args'.length) .no) [] ⟨@kFn P ⟨rs⟩ ⟨fun r' h'=>own h' 6 r'=true∧frz h' 0 6 r'=some r⟩⟩):
  af md (aI P md prim n (d+1)) cfg f args h=some (r,h):=by
 obtain⟨r',h',h1,h2,h3⟩:=cx hp hf hb hk hr hw
 simp only[af,hm,ha,h1,h2,h3,if_true]
def stat(P:Program)(ops:Array Oper):Option Nat:=
 if yR P ops (jN [] ops.toList) (jx (eE P 0 ops.toList) (jN [] ops.toList) ops.size) then some (jx (eE P 0 ops.toList) (jN [] ops.toList) ops.size) else none
def bn(P:Program)(md:FuncId→Nat)(call:aR)(cfg:Cfg)(n0:Nat)(fr:List V)(h:Heap)(x:List Nat)(ld:List Nat)(op:Op):Option (V×Heap×List Nat×List Nat):=
  match op with
  | .call { callee:=.value f,args,argTypes:=_ }=>match ev fr f,cK fr args.toList with
   | some (.func (.func g) first captured),some vs =>
    match md g with
    | 0=>match af md call ⟨h.length,[],h.length⟩ g ((first++vs)++captured) h with
     | some (v,h')=>some (v,h',x,ld)
     | none=>none
    | 3=>match af md call ⟨h.length,[],h.length⟩ g ((first++vs)++captured) h with
     | some (v,h')=>some (v,h',x,ld)
     | none=>none
    | 1=>match (first++vs)++captured with
     | .ptr b _::_ =>
      if cfg.wr b&&decide (b<n0) then
       match af md call ⟨h.length,[b],h.length⟩ g ((first++vs)++captured) h with
       | some (v,h')=>some (v,h',b::x,ld)
       | none=>none
      else none
     | _=>none
    | 2=>match af md call ⟨h.length,[],h.length⟩ g ((first++vs)++captured) h with
     | some (v,h')=>some (v,h',x,ld)
     | none=>none
    | m =>
     if (decide (m=4)||decide (m=5))&&((mapsIn h).all fun b=>cfg.wr b&&decide (b<n0)) then
      match af md call ⟨h.length,mapsIn h,h.length⟩ g ((first++vs)++captured) h with
      | some (v,h')=>some (v,h',mapsIn h++x,ld)
      | none=>none
     else none
   | _,_=>none
  | .store t p y=>match ev fr p with
   | some (.ptr b _) =>
    if cfg.wr b then
     match opV P ⟨h.length,[b],h.length⟩ fr h (.store t p y) with
     | some (v,h')=>some (v,h',b::x,ld)
     | none=>none
    else none
   | _=>none
  | op=>if eG P op then
    match opV P cfg fr h op with
    | some (v,h')=>some (v,h',x,match er fr op with
     | some b=>b::ld
     | none=>ld)
    | none=>none
   else none
theorem na{n0:Nat}{ops:Array Oper}{o:Oper}{fr:List V}{h:Heap}{x:List Nat}{ld:List Nat}(hw:cY ops fr o=some true):de P md call cfg n0 ops o fr h x ld=bn P md call cfg n0 fr h x ld o.op:=by
 simp only[de,hw];rfl
theorem nc{n0:Nat}{ops:Array Oper}{o:Oper}{fr:List V}{h:Heap}{x:List Nat}{ld:List Nat}(hw:cY ops fr o=some false):de P md call cfg n0 ops o fr h x ld=some (.no,h,x,ld):=by
 simp only[de,hw]
end
section
variable (P:Program) (md:FuncId→Nat) (call:aR) (cfg:Cfg) (n:Nat)
def wHd[ops:Hid (Array Oper)][l:Hid (List Oper)][tl:Hid (List Oper)](fr:List V)(h:Heap)[n0:Hid Nat][x:Hid (List Nat)][ld:Hid (List Nat)][Q:Hid ck]:Prop:=
 ∃ st,dw P md call cfg n0.val ops.val l.val fr h x.val ld.val=some st∧ny st.2.2.2 st.2.2.1=true∧@wO P md call cfg ops tl st.1 st.2.1 Q
def wHS[dst:Hid (Option Tmp)][fr:Hid (List V)](r:Option (V×Heap×List Nat×List Nat))[ops:Hid (Array Oper)][l:Hid (List Oper)][tl:Hid (List Oper)][n0:Hid Nat][Q:Hid ck]:Prop:=
 ∃ st,r=some st∧@wHd P md call cfg ops l tl (put fr.val dst.val st.1) st.2.1 n0 ⟨st.2.2.1⟩ ⟨st.2.2.2⟩ Q
def wHG(g:Option V)[want:Hid Bool][dst:Hid (Option Tmp)][op:Hid Op][ops:Hid (Array Oper)][l:Hid (List Oper)][tl:Hid (List Oper)][fr:Hid (List V)][h:Hid Heap][n0:Hid Nat][x:Hid (List Nat)][ld:Hid (List Nat)][Q:Hid ck]:Prop:=
 match g with
 | some (.bool b)=>@wIf (b==want.val) ⟨@wHS P md call cfg dst fr (bn P md call cfg n0.val fr.val h.val x.val ld.val op.val) ops l tl n0 Q⟩ ⟨@wHd P md call cfg ops l tl (put fr.val dst.val .no) h.val n0 x ld Q⟩
 | some .no=>@wHd P md call cfg ops l tl (put fr.val dst.val .no) h.val n0 x ld Q
 | _=>False
end
section
variable {P:Program}{md:FuncId→Nat}{call:aR}{cfg:Cfg}{n:Nat}
theorem ai{id:Nat}{ops:Array Oper}{fr:List V}{h:Heap}{Q:dQ}(N:Nat)(hs:stat P ops=some N)(hw:@wHd P md call cfg ⟨ops⟩ ⟨ops.toList.take N⟩ ⟨ops.toList.drop N⟩ fr h ⟨h.length⟩ ⟨[]⟩ ⟨[]⟩ ⟨Q .normal⟩):
  @wC P md call cfg n ⟨.region id ops true⟩ fr h ⟨Q⟩:=by
 unfold stat at hs
 split at hs
 ·rename_i hok
  cases hs
  obtain⟨⟨fr1,h1,x,ld⟩,hr,hl,⟨fr2,h2⟩,ho,hq⟩:=hw
  refine⟨(.normal,fr2,h2),?_,hq⟩
  simp only at hl ho
  replace hr:dw P md call cfg h.length ops (ops.toList.take (jx (eE P 0 ops.toList) (jN [] ops.toList) ops.size)) fr h [] []=some (fr1,h1,x,ld):=hr
  replace ho:cT P md call cfg ops (ops.toList.drop (jx (eE P 0 ops.toList) (jN [] ops.toList) ops.size)) fr1 h1=some (fr2,h2):=ho
  show code P md call (ef P md call) cfg n (.region id ops true) fr h=some (.normal,fr2,h2)
  simp only[code,ef,hok,if_true,hr,hl,ho]
 ·cases hs
@[simp] theorem wHd_take{ops:Array Oper}{o:Oper}{l tl:List Oper}{k:Nat}{fr:List V}{h:Heap}{n0:Nat}{x:List Nat}{ld:List Nat}{Q:ck}:@wHd P md call cfg ⟨ops⟩ ⟨(o::l).take (k+1)⟩ ⟨(o::tl).drop (k+1)⟩ fr h ⟨n0⟩ ⟨x⟩ ⟨ld⟩ ⟨Q⟩↔@wHd P md call cfg ⟨ops⟩ ⟨o::l.take k⟩ ⟨tl.drop k⟩ fr h ⟨n0⟩ ⟨x⟩ ⟨ld⟩ ⟨Q⟩:=Iff.rfl
@[simp] theorem Ke{ops:Array Oper}{l tl:List Oper}{fr:List V}{h:Heap}{n0:Nat}{x:List Nat}{ld:List Nat}{Q:ck}:@wHd P md call cfg ⟨ops⟩ ⟨l.take 0⟩ ⟨tl.drop 0⟩ fr h ⟨n0⟩ ⟨x⟩ ⟨ld⟩ ⟨Q⟩↔@wHd P md call cfg ⟨ops⟩ ⟨[]⟩ ⟨tl⟩ fr h ⟨n0⟩ ⟨x⟩ ⟨ld⟩ ⟨Q⟩:=Iff.rfl
@[simp] theorem wHd_nil{ops:Array Oper}{tl:List Oper}{fr:List V}{h:Heap}{n0:Nat}{x:List Nat}{ld:List Nat}{Q:ck}:@wHd P md call cfg ⟨ops⟩ ⟨[]⟩ ⟨tl⟩ fr h ⟨n0⟩ ⟨x⟩ ⟨ld⟩ ⟨Q⟩↔ny ld x=true∧@wO P md call cfg ⟨ops⟩ ⟨tl⟩ fr h ⟨Q⟩:=by simp[wHd,dw]
@[simp] theorem wHd_cons{ops:Array Oper}{dst:Option Tmp}{op:Op}{ty:TypeId}{pos:String}{after:Array Edge}{l tl:List Oper}{fr:List V}{h:Heap}{n0:Nat}{x:List Nat}{ld:List Nat}{Q:ck}:
  @wHd P md call cfg ⟨ops⟩ ⟨{ dst:=dst,op:=op,type:=ty,pos:=pos,after:=after,guard:=none }::l⟩ ⟨tl⟩ fr h ⟨n0⟩ ⟨x⟩ ⟨ld⟩ ⟨Q⟩↔@wHS P md call cfg ⟨dst⟩ ⟨fr⟩ (bn P md call cfg n0 fr h x ld op) ⟨ops⟩ ⟨l⟩ ⟨tl⟩ ⟨n0⟩ ⟨Q⟩:=by
 unfold wHd wHS
 simp only[dw]
 rw[na (by rfl)]
 cases ha:bn P md call cfg n0 fr h x ld op with
 | none=>simp
 | some y=>obtain⟨v,h',x',ld'⟩:=y;simp[wHd]
@[simp] theorem Kd{ops:Array Oper}{dst:Option Tmp}{op:Op}{ty:TypeId}{pos:String}{after:Array Edge}{j:Nat}{want:Bool}{l tl:List Oper}{fr:List V}{h:Heap}{n0:Nat}{x:List Nat}{ld:List Nat}{Q:ck}:
  @wHd P md call cfg ⟨ops⟩ ⟨{ dst:=dst,op:=op,type:=ty,pos:=pos,after:=after,guard:=some (j,want) }::l⟩ ⟨tl⟩ fr h ⟨n0⟩ ⟨x⟩ ⟨ld⟩ ⟨Q⟩↔@wHG P md call cfg (zW ops fr j) ⟨want⟩ ⟨dst⟩ ⟨op⟩ ⟨ops⟩ ⟨l⟩ ⟨tl⟩ ⟨fr⟩ ⟨h⟩ ⟨n0⟩ ⟨x⟩ ⟨ld⟩ ⟨Q⟩:=by
 have hnone:∀ o:Oper,cY ops fr o=none→de P md call cfg n0 ops o fr h x ld=none:=fun o ho=>by simp only[de,ho]
 unfold wHd wHG zW
 simp only[dw]
 cases hj:ops[j]? with
 | none=>simp[hnone _ (show cY ops fr { dst:=dst,op:=op,type:=ty,pos:=pos,after:=after,guard:=some (j,want) }=none by simp[cY,hj])]
 | some p =>
  cases hd:p.dst with
  | none=>simp[hd,hnone _ (show cY ops fr { dst:=dst,op:=op,type:=ty,pos:=pos,after:=after,guard:=some (j,want) }=none by simp[cY,hj,hd])]
  | some d =>
   simp only[hd]
   cases hf:fr[d]? with
   | none=>simp[hnone _ (show cY ops fr { dst:=dst,op:=op,type:=ty,pos:=pos,after:=after,guard:=some (j,want) }=none by simp[cY,hj,hd,hf])]
   | some v =>
    by_cases hb:∃ b,v=.bool b
    ·obtain⟨b,rfl⟩:=hb
     have hw:cY ops fr { dst:=dst,op:=op,type:=ty,pos:=pos,after:=after,guard:=some (j,want) }=some (b==want):=by simp[cY,hj,hd,hf]
     cases hbw:(b==want)
     ·rw[hbw]at hw
      rw[nc hw]
      simp only[hbw,AZ]
      simp[wHd]
     ·rw[hbw]at hw
      rw[na hw]
      simp only[hbw,DT,wHS,wHd]
      cases ha:bn P md call cfg n0 fr h x ld op with
      | none=>simp
      | some y=>obtain⟨v,h',x',ld'⟩:=y;simp
    ·by_cases hno:v=.no
     ·subst hno
      have hw:cY ops fr { dst:=dst,op:=op,type:=ty,pos:=pos,after:=after,guard:=some (j,want) }=some false:=by simp[cY,hj,hd,hf]
      rw[nc hw]
      simp[wHd]
     ·have hw:cY ops fr { dst:=dst,op:=op,type:=ty,pos:=pos,after:=after,guard:=some (j,want) }=none:=by
       simp only[cY,hj,hd,hf]
       cases v<;>first|rfl|exact absurd ⟨_,rfl⟩ hb|exact absurd rfl hno
      rw[hnone _ hw]
      cases v<;>first|(exact absurd ⟨_,rfl⟩ hb)|(exact absurd rfl hno)|simp
@[simp] theorem wHG_bool{b want:Bool}{dst:Option Tmp}{op:Op}{ops:Array Oper}{l tl:List Oper}{fr:List V}{h:Heap}{n0:Nat}{x:List Nat}{ld:List Nat}{Q:ck}:
  @wHG P md call cfg (some (.bool b)) ⟨want⟩ ⟨dst⟩ ⟨op⟩ ⟨ops⟩ ⟨l⟩ ⟨tl⟩ ⟨fr⟩ ⟨h⟩ ⟨n0⟩ ⟨x⟩ ⟨ld⟩ ⟨Q⟩↔@wIf (b==want) ⟨@wHS P md call cfg ⟨dst⟩ ⟨fr⟩ (bn P md call cfg n0 fr h x ld op) ⟨ops⟩ ⟨l⟩ ⟨tl⟩ ⟨n0⟩ ⟨Q⟩⟩ ⟨@wHd P md call cfg ⟨ops⟩ ⟨l⟩ ⟨tl⟩ (put fr dst .no) h ⟨n0⟩ ⟨x⟩ ⟨ld⟩ ⟨Q⟩⟩:=Iff.rfl
@[simp] theorem wHG_no{want:Bool}{dst:Option Tmp}{op:Op}{ops:Array Oper}{l tl:List Oper}{fr:List V}{h:Heap}{n0:Nat}{x:List Nat}{ld:List Nat}{Q:ck}:
  @wHG P md call cfg (some .no) ⟨want⟩ ⟨dst⟩ ⟨op⟩ ⟨ops⟩ ⟨l⟩ ⟨tl⟩ ⟨fr⟩ ⟨h⟩ ⟨n0⟩ ⟨x⟩ ⟨ld⟩ ⟨Q⟩↔@wHd P md call cfg ⟨ops⟩ ⟨l⟩ ⟨tl⟩ (put fr dst .no) h ⟨n0⟩ ⟨x⟩ ⟨ld⟩ ⟨Q⟩:=Iff.rfl
@[simp] theorem wHS_some{dst:Option Tmp}{fr:List V}{v:V}{h:Heap}{x:List Nat}{ld:List Nat}{ops:Array Oper}{l tl:List Oper}{n0:Nat}{Q:ck}:
  @wHS P md call cfg ⟨dst⟩ ⟨fr⟩ (some (v,h,x,ld)) ⟨ops⟩ ⟨l⟩ ⟨tl⟩ ⟨n0⟩ ⟨Q⟩↔@wHd P md call cfg ⟨ops⟩ ⟨l⟩ ⟨tl⟩ (put fr dst v) h ⟨n0⟩ ⟨x⟩ ⟨ld⟩ ⟨Q⟩:=by simp[wHS]
@[simp] theorem JB{ld:List Nat}:ny ld []=true:=rfl
@[simp] theorem JC{ld x:List Nat}{b:Nat}:ny ld (b::x)=(!ld.contains b&&ny ld x):=rfl
@[simp] theorem ldOK_app{ld x y:List Nat}:ny ld (x++y)=(ny ld x&&ny ld y):=List.all_append
def mR(p:Option V)(ld:List Nat):List Nat:=
 match p with
 | some (.ptr b _)=>b::ld
 | _=>ld
@[simp] theorem Jg{b off:Nat}{ld:List Nat}:mR (some (.ptr b off)) ld=b::ld:=rfl
@[simp] theorem GU{cs:List V}{off:Nat}{ld:List Nat}:mR (some (.lptr cs off)) ld=ld:=rfl
@[simp] theorem Jf{cs:List (List V)}{ld:List Nat}:mR (some (.lst cs)) ld=ld:=rfl
@[simp] theorem addLd_sl{a b c d e:Nat}{ld:List Nat}:mR (some (.sl a b c d e)) ld=ld:=rfl
@[simp] theorem GV{ld:List Nat}:mR (some .nils) ld=ld:=rfl
@[simp] theorem Jh{s:ByteArray}{ld:List Nat}:mR (some (.str s)) ld=ld:=rfl
theorem aL{n0:Nat}{fr:List V}{h:Heap}{x:List Nat}{ld:List Nat}{op:Op}(h1:∀ f a t,op≠.call { callee:=.value f,args:=a,argTypes:=t })(h2:∀ t p y,op≠.store t p y)(h3:eG P op=true)(h4:er fr op=none):
  bn P md call cfg n0 fr h x ld op=(aF P md call cfg fr h op).map fun r=>(r.1,r.2,x,ld):=by
 have he:aF P md call cfg fr h op=opV P cfg fr h op:=by
  unfold aF
  split
  ·exact absurd rfl (h1 _ _ _)
  ·rfl
 rw[he]
 unfold bn
 split
 ·exact absurd rfl (h1 _ _ _)
 ·exact absurd rfl (h2 _ _ _)
 ·simp only[h3,if_true,h4]
  cases opV P cfg fr h op<;>rfl
@[simp] theorem Gq{n0:Nat}{fr:List V}{h:Heap}{x:List Nat}{ld:List Nat}{a:Operand}:bn P md call cfg n0 fr h x ld (.move a)=(aF P md call cfg fr h (.move a)).map fun r=>(r.1,r.2,x,ld):=aL (by simp) (by simp) rfl rfl
@[simp] theorem D0{n0:Nat}{fr:List V}{h:Heap}{x:List Nat}{ld:List Nat}{a:Operand}:bn P md call cfg n0 fr h x ld (.assign a)=(aF P md call cfg fr h (.assign a)).map fun r=>(r.1,r.2,x,ld):=aL (by simp) (by simp) rfl rfl
@[simp] theorem Gr{n0:Nat}{fr:List V}{h:Heap}{x:List Nat}{ld:List Nat}{a b c:Operand}:bn P md call cfg n0 fr h x ld (.pick a b c)=(aF P md call cfg fr h (.pick a b c)).map fun r=>(r.1,r.2,x,ld):=aL (by simp) (by simp) rfl rfl
@[simp] theorem EM{n0:Nat}{fr:List V}{h:Heap}{x:List Nat}{ld:List Nat}{t:TypeId}{p:Array (Nat×Operand)}:bn P md call cfg n0 fr h x ld (.build t p)=(aF P md call cfg fr h (.build t p)).map fun r=>(r.1,r.2,x,ld):=aL (by simp) (by simp) rfl rfl
@[simp] theorem A1{n0:Nat}{fr:List V}{h:Heap}{x:List Nat}{ld:List Nat}{a:Operand}:bn P md call cfg n0 fr h x ld (.nilCheck a)=(aF P md call cfg fr h (.nilCheck a)).map fun r=>(r.1,r.2,x,ld):=aL (by simp) (by simp) rfl rfl
@[simp] theorem EL{n0:Nat}{fr:List V}{h:Heap}{x:List Nat}{ld:List Nat}{o:BinOp}{t u:TypeId}{a b:Operand}:bn P md call cfg n0 fr h x ld (.binOp o t a b u)=(aF P md call cfg fr h (.binOp o t a b u)).map fun r=>(r.1,r.2,x,ld):=aL (by simp) (by simp) rfl rfl
@[simp] theorem Gs{n0:Nat}{fr:List V}{h:Heap}{x:List Nat}{ld:List Nat}{o:UnOp}{t:TypeId}{a:Operand}:bn P md call cfg n0 fr h x ld (.unOp o t a)=(aF P md call cfg fr h (.unOp o t a)).map fun r=>(r.1,r.2,x,ld):=aL (by simp) (by simp) rfl rfl
@[simp] theorem A0{n0:Nat}{fr:List V}{h:Heap}{x:List Nat}{ld:List Nat}{f:Fn}{a b:Array Operand}:bn P md call cfg n0 fr h x ld (.makeFunc f a b)=(aF P md call cfg fr h (.makeFunc f a b)).map fun r=>(r.1,r.2,x,ld):=aL (by simp) (by simp) rfl rfl
@[simp] theorem zX{n0:Nat}{fr:List V}{h:Heap}{x:List Nat}{ld:List Nat}{t:TypeId}{a:Operand}{i:Nat}:bn P md call cfg n0 fr h x ld (.fieldAddr t a i)=(aF P md call cfg fr h (.fieldAddr t a i)).map fun r=>(r.1,r.2,x,ld):=aL (by simp) (by simp) rfl rfl
@[simp] theorem EN{n0:Nat}{fr:List V}{h:Heap}{x:List Nat}{ld:List Nat}{t:TypeId}{a:Operand}{i:Nat}:bn P md call cfg n0 fr h x ld (.field t a i)=(aF P md call cfg fr h (.field t a i)).map fun r=>(r.1,r.2,x,ld):=aL (by simp) (by simp) rfl rfl
@[simp] theorem zY{n0:Nat}{fr:List V}{h:Heap}{x:List Nat}{ld:List Nat}{t:TypeId}{a i:Operand}:bn P md call cfg n0 fr h x ld (.indexAddr t a i)=(aF P md call cfg fr h (.indexAddr t a i)).map fun r=>(r.1,r.2,x,ld):=aL (by simp) (by simp) rfl rfl
@[simp] theorem EO{n0:Nat}{fr:List V}{h:Heap}{x:List Nat}{ld:List Nat}{t:TypeId}{a i:Operand}:bn P md call cfg n0 fr h x ld (.index t a i)=(aF P md call cfg fr h (.index t a i)).map fun r=>(r.1,r.2,x,ld):=aL (by simp) (by simp) rfl rfl
@[simp] theorem B7{n0:Nat}{fr:List V}{h:Heap}{x:List Nat}{ld:List Nat}{a:Operand}{i:Nat}:bn P md call cfg n0 fr h x ld (.extract a i)=(aF P md call cfg fr h (.extract a i)).map fun r=>(r.1,r.2,x,ld):=aL (by simp) (by simp) rfl rfl
@[simp] theorem EK{n0:Nat}{fr:List V}{h:Heap}{x:List Nat}{ld:List Nat}{t:TypeId}:bn P md call cfg n0 fr h x ld (.alloc t)=(aF P md call cfg fr h (.alloc t)).map fun r=>(r.1,r.2,x,ld):=aL (by simp) (by simp) rfl rfl
@[simp] theorem Hn{n0:Nat}{fr:List V}{h:Heap}{x:List Nat}{ld:List Nat}{t:TypeId}{a:Operand}:bn P md call cfg n0 fr h x ld (.box t a)=(aF P md call cfg fr h (.box t a)).map fun r=>(r.1,r.2,x,ld):=aL (by simp) (by simp) rfl rfl
@[simp] theorem yt{n0:Nat}{fr:List V}{h:Heap}{x:List Nat}{ld:List Nat}{t:TypeId}{k:Nat}{p:Array (Nat×Operand)}:bn P md call cfg n0 fr h x ld (.buildSlice t k p)=(aF P md call cfg fr h (.buildSlice t k p)).map fun r=>(r.1,r.2,x,ld):=aL (by simp) (by simp) rfl rfl
@[simp] theorem B8{n0:Nat}{fr:List V}{h:Heap}{x:List Nat}{ld:List Nat}{t:TypeId}:bn P md call cfg n0 fr h x ld (.makeMap t none)=(aF P md call cfg fr h (.makeMap t none)).map fun r=>(r.1,r.2,x,ld):=aL (by simp) (by simp) rfl rfl
@[simp] theorem zZ{n0:Nat}{fr:List V}{h:Heap}{x:List Nat}{ld:List Nat}{t:TypeId}{a b:Operand}:bn P md call cfg n0 fr h x ld (.makeSlice t a b)=(aF P md call cfg fr h (.makeSlice t a b)).map fun r=>(r.1,r.2,x,ld):=aL (by simp) (by simp) rfl rfl
@[simp] theorem Ho{n0:Nat}{fr:List V}{h:Heap}{x:List Nat}{ld:List Nat}{a:Array Operand}{t:Array TypeId}:bn P md call cfg n0 fr h x ld (.call { callee:=.builtin .len,args:=a,argTypes:=t })=(aF P md call cfg fr h (.call { callee:=.builtin .len,args:=a,argTypes:=t })).map fun r=>(r.1,r.2,x,ld):=aL (by simp) (by simp) rfl rfl
@[simp] theorem Hr{n0:Nat}{fr:List V}{h:Heap}{x:List Nat}{ld:List Nat}{a:Array Operand}{t:Array TypeId}:bn P md call cfg n0 fr h x ld (.call { callee:=.builtin .min,args:=a,argTypes:=t })=(aF P md call cfg fr h (.call { callee:=.builtin .min,args:=a,argTypes:=t })).map fun r=>(r.1,r.2,x,ld):=aL (by simp) (by simp) rfl rfl
@[simp] theorem Hq{n0:Nat}{fr:List V}{h:Heap}{x:List Nat}{ld:List Nat}{a:Array Operand}{t:Array TypeId}:bn P md call cfg n0 fr h x ld (.call { callee:=.builtin .max,args:=a,argTypes:=t })=(aF P md call cfg fr h (.call { callee:=.builtin .max,args:=a,argTypes:=t })).map fun r=>(r.1,r.2,x,ld):=aL (by simp) (by simp) rfl rfl
@[simp] theorem Gp{n0:Nat}{fr:List V}{h:Heap}{x:List Nat}{ld:List Nat}{t:TypeId}{a:Operand}:bn P md call cfg n0 fr h x ld (.load t a)=(aF P md call cfg fr h (.load t a)).map fun r=>(r.1,r.2,x,mR (ev fr a) ld):=by
 simp only[bn,aF,eG,if_true,er]
 cases hv:opV P cfg fr h (.load t a) with
 | none=>rfl
 | some y =>
  cases ha:ev fr a with
  | none=>rfl
  | some v=>cases v<;>rfl
@[simp] theorem EP{n0:Nat}{fr:List V}{h:Heap}{x:List Nat}{ld:List Nat}{t:TypeId}{a:Operand}{lo hi:Option Operand}:bn P md call cfg n0 fr h x ld (.slice t a lo hi none)=(aF P md call cfg fr h (.slice t a lo hi none)).map fun r=>(r.1,r.2,x,mR (ev fr a) ld):=by
 simp only[bn,aF,eG,if_true,er]
 cases hv:opV P cfg fr h (.slice t a lo hi none) with
 | none=>rfl
 | some y =>
  cases ha:ev fr a with
  | none=>rfl
  | some v=>cases v<;>rfl
@[simp] theorem B6{n0:Nat}{fr:List V}{h:Heap}{x:List Nat}{ld:List Nat}{s d:TypeId}{a:Operand}:bn P md call cfg n0 fr h x ld (.convert s d a)=if eG P (.convert s d a) then (aF P md call cfg fr h (.convert s d a)).map fun r=>(r.1,r.2,x,ld) else none:=by
 simp only[bn,aF,er]
 split
 ·cases hv:opV P cfg fr h (.convert s d a)<;>rfl
 ·rfl
def iw(md:FuncId→Nat)(call:aR)(cfg:Cfg)(n0:Nat)(h:Heap)(x:List Nat)(ld:List Nat)(m:Nat)(g:FuncId)(vs:List V):Option (V×Heap×List Nat×List Nat):=
 match m with
 | 0=>(af md call ⟨h.length,[],h.length⟩ g vs h).map fun r=>(r.1,r.2,x,ld)
 | 3=>(af md call ⟨h.length,[],h.length⟩ g vs h).map fun r=>(r.1,r.2,x,ld)
 | 1=>match vs with
  | .ptr b _::_=>if cfg.wr b&&decide (b<n0) then (af md call ⟨h.length,[b],h.length⟩ g vs h).map fun r=>(r.1,r.2,b::x,ld) else none
  | _=>none
 | 2=>(af md call ⟨h.length,[],h.length⟩ g vs h).map fun r=>(r.1,r.2,x,ld)
 | m=>if (decide (m=4)||decide (m=5))&&((mapsIn h).all fun b=>cfg.wr b&&decide (b<n0)) then (af md call ⟨h.length,mapsIn h,h.length⟩ g vs h).map fun r=>(r.1,r.2,mapsIn h++x,ld) else none
def pz(md:FuncId→Nat)(call:aR)(cfg:Cfg)(n0:Nat)(h:Heap)(x:List Nat)(ld:List Nat)(f:Option V)(vs:Option (List V)):Option (V×Heap×List Nat×List Nat):=
 match f,vs with
 | some (.func (.func g) first captured),some vs=>iw md call cfg n0 h x ld (md g) g ((first++vs)++captured)
 | _,_=>none
@[simp] theorem Gm{n0:Nat}{fr:List V}{h:Heap}{x:List Nat}{ld:List Nat}{f:Operand}{a:Array Operand}{t:Array TypeId}:bn P md call cfg n0 fr h x ld (.call { callee:=.value f,args:=a,argTypes:=t })=pz md call cfg n0 h x ld (ev fr f) (cK fr a.toList):=by
 simp only[bn,pz]
 split
 ·rename_i g first captured vs hf hvs
  unfold iw
  split<;>rename_i hm
  ·cases af md call ⟨h.length,[],h.length⟩ g (first++vs++captured) h<;>rfl
  ·cases af md call ⟨h.length,[],h.length⟩ g (first++vs++captured) h<;>rfl
  ·split
   ·rename_i b off rest has
    split
    ·cases af md call ⟨h.length,[b],h.length⟩ g (first++vs++captured) h<;>rfl
    ·rfl
   ·rfl
  ·cases af md call ⟨h.length,[],h.length⟩ g (first++vs++captured) h<;>rfl
  ·split
   ·cases af md call ⟨h.length,mapsIn h,h.length⟩ g (first++vs++captured) h<;>rfl
   ·rfl
 ·rfl
@[simp] theorem DZ{n0:Nat}{h:Heap}{x:List Nat}{ld:List Nat}{g:FuncId}{first captured vs:List V}:pz md call cfg n0 h x ld (some (.func (.func g) first captured)) (some vs)=iw md call cfg n0 h x ld (md g) g ((first++vs)++captured):=rfl
@[simp] theorem hdCall_0{n0:Nat}{h:Heap}{x:List Nat}{ld:List Nat}{g:FuncId}{vs:List V}:iw md call cfg n0 h x ld 0 g vs=(af md call ⟨h.length,[],h.length⟩ g vs h).map fun r=>(r.1,r.2,x,ld):=rfl
@[simp] theorem hdCall_3{n0:Nat}{h:Heap}{x:List Nat}{ld:List Nat}{g:FuncId}{vs:List V}:iw md call cfg n0 h x ld 3 g vs=(af md call ⟨h.length,[],h.length⟩ g vs h).map fun r=>(r.1,r.2,x,ld):=rfl
@[simp] theorem hdCall_2{n0:Nat}{h:Heap}{x:List Nat}{ld:List Nat}{g:FuncId}{vs:List V}:iw md call cfg n0 h x ld 2 g vs=(af md call ⟨h.length,[],h.length⟩ g vs h).map fun r=>(r.1,r.2,x,ld):=rfl
@[simp] theorem hdCall_1{n0:Nat}{h:Heap}{x:List Nat}{ld:List Nat}{g:FuncId}{b off:Nat}{vs:List V}:iw md call cfg n0 h x ld 1 g (.ptr b off::vs)=if cfg.wr b&&decide (b<n0) then (af md call ⟨h.length,[b],h.length⟩ g (.ptr b off::vs) h).map fun r=>(r.1,r.2,b::x,ld) else none:=rfl
@[simp] theorem hdCall_4{n0:Nat}{h:Heap}{x:List Nat}{ld:List Nat}{g:FuncId}{vs:List V}:iw md call cfg n0 h x ld 4 g vs=if ((mapsIn h).all fun b=>cfg.wr b&&decide (b<n0)) then (af md call ⟨h.length,mapsIn h,h.length⟩ g vs h).map fun r=>(r.1,r.2,mapsIn h++x,ld) else none:=rfl
@[simp] theorem hdCall_5{n0:Nat}{h:Heap}{x:List Nat}{ld:List Nat}{g:FuncId}{vs:List V}:iw md call cfg n0 h x ld 5 g vs=if ((mapsIn h).all fun b=>cfg.wr b&&decide (b<n0)) then (af md call ⟨h.length,mapsIn h,h.length⟩ g vs h).map fun r=>(r.1,r.2,mapsIn h++x,ld) else none:=rfl
def sI(P:Program)(cfg:Cfg)(h:Heap)(x:List Nat)(ld:List Nat)(t:TypeId)(p v:Option V):Option (V×Heap×List Nat×List Nat):=
 match p with
 | some (.ptr b off)=>if cfg.wr b then (v.bind fun v=>bf P ⟨h.length,[b],h.length⟩ h t (.ptr b off) v).map fun h'=>(.no,h',b::x,ld) else none
 | _=>none
@[simp] theorem ER{n0:Nat}{fr:List V}{h:Heap}{x:List Nat}{ld:List Nat}{t:TypeId}{p y:Operand}:bn P md call cfg n0 fr h x ld (.store t p y)=sI P cfg h x ld t (ev fr p) (ev fr y):=by
 simp only[bn,sI,opV]
 split
 ·rename_i b off hp
  simp only[hp]
  split
  ·cases ev fr y with
   | none=>simp
   | some v=>simp only[Option.bind_some];cases bf P ⟨h.length,[b],h.length⟩ h t (.ptr b off) v<;>rfl
  ·rfl
 ·rfl
@[simp] theorem EJ{h:Heap}{x:List Nat}{ld:List Nat}{t:TypeId}{b off:Nat}{v:Option V}:sI P cfg h x ld t (some (.ptr b off)) v=if cfg.wr b then (v.bind fun v=>bf P ⟨h.length,[b],h.length⟩ h t (.ptr b off) v).map fun h'=>(.no,h',b::x,ld) else none:=rfl
end
end Go.Ab
