/- Several texts of this proof in one. -/
import Derived.Test.YteddnfbjjbcmgaaGreatAbW3
import Derived.Test.YteddnfbjjbcmgaaGreatPaAl
import Derived.Test.YteddnfbjjbcmgaaGreatPaFo2
import Derived.RangeFuncBox
import Derived.RangeFuncLeaves
import Derived.RangeFuncNested
import Derived.Shelf.Abstract
import Derived.Shelf.RegionOpen
import Derived.WalkKit
import Derived.OwnWalkIn
import Derived.TacticsInMore
import Derived.LoopNIn
import Derived.LoopIn
import Derived.Test.YteddnfbjjbcmgaaGreatProg
set_option linter.unusedSimpArgs false
set_option linter.unusedVariables false
namespace Go.Proofs
open Go.RowKit Go.Shelf Tryz
attribute [local go_sem] Oper.semAt_some
namespace Ht
def upto{α:Type}(f:Nat→α)(k:Nat):List α:=(List.range k).map f
theorem sG{α:Type}(f:Nat→α)(k:Nat):upto f (k+1)=upto f k++[f k]:=by simp[upto,List.range_succ]
theorem wX{α:Type}(f:Nat→α)(k:Nat):(upto f k).length=k:=by simp[upto]
structure L10 where
 a0:Int
 a1:Int
 a2:Int
 a3:Int
 a4:Int
 a5:Int
 a6:Int
 a7:Int
 h:Int
 g:Option Addr
 gl:Nat
 gc:Nat
def L10.enc(x:L10):Array Value:=#[.int .i64 x.a0,.int .i64 x.a1,.int .i64 x.a2,.int .i64 x.a3,.int .i64 x.a4,.int .i64 x.a5,.int .i64 x.a6,.int .i64 x.a7,.int .i64 x.h,.slice x.g x.gl x.gc]
def Lie(W:World)(b o:Nat)(x:L10):Prop:=
 (W.cell? ⟨b,o,none⟩=some (.int .i64 x.a0)∧W.cell? ⟨b,o+1,none⟩=some (.int .i64 x.a1)∧W.cell? ⟨b,o+2,none⟩=some (.int .i64 x.a2)∧W.cell? ⟨b,o+3,none⟩=some (.int .i64 x.a3)∧W.cell? ⟨b,o+4,none⟩=some (.int .i64 x.a4)) ∧
 (W.cell? ⟨b,o+5,none⟩=some (.int .i64 x.a5)∧W.cell? ⟨b,o+6,none⟩=some (.int .i64 x.a6)∧W.cell? ⟨b,o+7,none⟩=some (.int .i64 x.a7)∧W.cell? ⟨b,o+8,none⟩=some (.int .i64 x.h)∧W.cell? ⟨b,o+9,none⟩=some (.slice x.g x.gl x.gc))
theorem Lie.below{n₀:Nat}{A B:World}(h:Below n₀ A B){b o:Nat}(hb:b<n₀){x:L10}(hl:Lie A b o x):Lie B b o x:=by
 obtain⟨⟨h0,h1,h2,h3,h4⟩,h5,h6,h7,h8,h9⟩:=hl
 have c:=fun q=>h.cell (p:=⟨b,q,none⟩) hb
 exact⟨⟨(c _).trans h0,(c _).trans h1,(c _).trans h2,(c _).trans h3,(c _).trans h4⟩,(c _).trans h5,(c _).trans h6,(c _).trans h7,(c _).trans h8,(c _).trans h9⟩
set_option maxRecDepth 100000 in
set_option maxHeartbeats 4000000 in
theorem Ez(F:Fence)(n:Nat)(h7:F.fn 74)(hro:F.round=none)(hn:1≤n)(l Bs n₀ b off len cap:Nat)(zs:Nat→L10)(hreach:len*96≤140737488351232)(hb:b<n₀)(J Jx:List (Nat×L10)→World→Prop)
  (W:World) (hW:n₀≤W.heap.size) (hJ:AbidesFrom W.heap.size J) (hJx:AbidesFrom W.heap.size Jx)
  (hY:∀ pre x W,J pre W→pre.length<len→YieldAt F (n-1) prog l #[.int .i64 (x.1:Int),.agg x.2.enc] W fun e W' =>
   (e=.returned (.bool true)∧J (pre++[x]) W'∧Below n₀ W W')∨(e=.returned (.bool false)∧Jx (pre++[x]) W'))
  (hBs:W.cell? ⟨Bs,0,none⟩=some (.slice (some ⟨b,off,none⟩) len cap)) (hc:∀ j,j<len→Lie W b (off+j*10) (zs j)) (h0:J [] W):
  CallsIn F n prog 74 #[.func (.yield l) #[] #[],.pointer (some ⟨Bs,0,none⟩)] W fun e W'=>(∃ v,e=.returned v) ∧
   ((∃ ys,ys=upto (fun j=>(j,zs j)) len∧J ys W')∨(∃ pre,(∃ k,k≤len∧pre=upto (fun j=>(j,zs j)) k)∧Jx pre W')):=by
 refine callsIn_of_wp func74 rfl h7 ?_ hro
 simp only[Tryz.ntmps74,List.size_toArray,List.length_cons,List.length_nil,Nat.reduceAdd,Nat.reduceSub,Array.replicate_succ,Array.replicate_zero,List.push_toArray,List.append_toArray,List.nil_append,List.cons_append]
 gi_wp2
 gi_loopw [7] (fun i wr=>∃ k:Nat,k≤len∧i=.int .i64 k∧J (upto (fun j=>(j,zs j)) k) wr∧Below n₀ W wr∧W.heap.size≤wr.heap.size)
  (fun i _=>len-(intOf i).toNat)
 case atStart=>exact⟨0,Nat.zero_le _,rfl,h0,Below.refl _ _,Nat.le_refl _⟩
 case round =>
  obtain⟨k,hk,rfl,hJs,hnx,hsz⟩:=hrel
  by_cases hlt:k<len
  ·obtain⟨⟨g0,g1,g2,g3,g4⟩,g5,g6,g7,g8,g9⟩:=(hc k hlt).below hnx hb
   have hA:J (upto (fun j=>(j,zs j)) k) (wr.alloc (.cells (zs k).enc 40)):=hJ _ wr _ none hJs (World.grownBy_alloc wr _ none) (fun r e=>by cases e)
   obtain⟨fn,tmps,assign,body,hy,hR⟩:=hY _ (k,zs k) _ hA (by rw[wX];exact hlt)
   dsimp only[L10.enc]at hy
   have hnx2:Below n₀ wr (wr.alloc (.cells (zs k).enc 40)):=(Below.refl n₀ wr).alloc (by omega) _
   gi_wp2
   refine hR.mono ?_
   rintro e W3 (⟨rfl,hJ3,hk3⟩|⟨rfl,hJx3⟩)
   ·gi_wp2
    go_roundw
    case rel=>exact⟨k+1,by omega,by simp,by rw[sG];exact hJ3,(hnx.trans hnx2).trans hk3,by have:=hnx2.size;have:=hk3.size;omega⟩
    case measure=>simp[intOf];omega
   ·gi_wp2
    refine bodyPost_ret (results_none rfl _ _ _) rfl ?_
    exact⟨⟨_,rfl⟩,.inr ⟨_,⟨k+1,by omega,(sG _ _).symm⟩,hJx3⟩⟩
  ·obtain rfl:k=len:=by omega
   gi_wp2
   go_end0
   exact⟨⟨_,rfl⟩,.inl ⟨_,rfl,hJs⟩⟩
set_option maxRecDepth 100000 in
set_option maxHeartbeats 1000000 in
theorem ur(F:Fence)(n:Nat)(h7:F.fn 74)(hro:F.round=none)(l Bs:Nat)(J:List (Nat×L10)→World→Prop)(W:World)(hBs:W.cell? ⟨Bs,0,none⟩=some (.slice none 0 0))(h0:J [] W):
  CallsIn F n prog 74 #[.func (.yield l) #[] #[],.pointer (some ⟨Bs,0,none⟩)] W fun e W'=>(∃ v,e=.returned v)∧J [] W':=by
 refine callsIn_of_wp func74 rfl h7 ?_ hro
 simp only[Tryz.ntmps74,List.size_toArray,List.length_cons,List.length_nil,Nat.reduceAdd,Nat.reduceSub,Array.replicate_succ,Array.replicate_zero,List.push_toArray,List.append_toArray,List.nil_append,List.cons_append]
 gi_wp2
 gi_loopw [7] (fun i wr=>i=.int .i64 0∧J [] wr) (fun _ _=>0)
 case atStart=>exact⟨rfl,h0⟩
 case round =>
  obtain⟨rfl,hJs⟩:=hrel
  gi_wp2
  go_end0
  exact⟨⟨_,rfl⟩,hJs⟩
set_option maxHeartbeats 1000000 in
theorem HC(F:Fence)(n:Nat)(h5:F.fn 46)(hro:F.round=none)(a:Option Addr)(len cap:Nat)(w:World):
  CallsIn F n prog 46 #[.slice a len cap] w fun e w'=>e=.returned (.func (.func 74) #[] #[.pointer (some ⟨w.heap.size,0,none⟩)])∧w'=w.alloc (.cells #[.slice a len cap] 33):=by
 refine callsIn_of_wp func46 rfl h5 ?_ hro
 simp only[Tryz.ntmps46,List.size_toArray,List.length_cons,List.length_nil,Nat.reduceAdd,Nat.reduceSub,Array.replicate_succ,Array.replicate_zero,List.push_toArray,List.append_toArray,List.nil_append,List.cons_append]
 gi_wp2
 go_ret
 exact⟨rfl,rfl⟩
def Lns(n₀:Nat)(W:World)(sv:Value)(zs:Nat→L10)(len:Nat):Prop:=
 (sv=.slice none 0 0∧len=0)∨∃ b off cap,sv=.slice (some ⟨b,off,none⟩) len cap∧b<n₀∧∀ j,j<len→Lie W b (off+j*10) (zs j)
theorem Lns.below{n₀:Nat}{A B:World}(h:Below n₀ A B){sv:Value}{zs:Nat→L10}{len:Nat}:Lns n₀ A sv zs len→Lns n₀ B sv zs len
 | .inl e=>.inl e
 | .inr ⟨b,off,cap,e,hb,hc⟩=>.inr ⟨b,off,cap,e,hb,fun j hj=>(hc j hj).below h hb⟩
theorem Ae(F:Fence)(n:Nat)(h7:F.fn 74)(hro:F.round=none)(hn:1≤n)(Bs n₀:Nat)(sv:Value)(zs:Nat→L10)(len:Nat)(hreach:len*96≤140737488351232)(w:World)(hBs:Bs<w.heap.size)(hn₀:n₀≤w.heap.size)
  (hc:w.cell? ⟨Bs,0,none⟩=some sv) (hI:Lns n₀ w sv zs len):
  SeqStopsK F n prog 74 #[.pointer (some ⟨Bs,0,none⟩)] (fun x:Nat×L10=>#[Value.int .i64 (x.1:Int),.agg x.2.enc]) (Below n₀) (fun ys=>ys=upto (fun j=>(j,zs j)) len)
   (fun pre=>∃ k,k≤len∧pre=upto (fun j=>(j,zs j)) k) len w:=fun l J Jx W hW hJ hJx hY h0=>by
 have hc':=(hW.cell (p:=⟨Bs,0,none⟩) hBs).trans hc
 rcases hI.below (hW.mono hn₀) with⟨rfl,rfl⟩|⟨b,off,cap,rfl,hb,hcs⟩
 ·exact (ur F n h7 hro l Bs J W hc' h0).mono fun e W' ⟨he,hj⟩=>⟨he,.inl ⟨_,rfl,hj⟩⟩
 ·exact Ez F n h7 hro hn l Bs n₀ b off len cap zs hreach hb J Jx W (by have:=hW.size;omega) hJ hJx hY hc' hcs h0
def run(l:List (Nat×L10)):Int:=l.foldl (fun s x=>IntKind.i64.wrap (s+x.2.h)) 0
theorem DL(l:List (Nat×L10))(x:Nat×L10):run (l++[x])=IntKind.i64.wrap (run l+x.2.h):=by simp[run]
set_option maxRecDepth 100000 in
set_option maxHeartbeats 4000000 in
theorem height_in(F:Fence)(n:Nat)(h3:F.fn 24)(h5:F.fn 46)(h7:F.fn 74)(hro:F.round=none)(hn:3≤n)(s:Option Addr)(len cap:Nat)(zs:Nat→L10)(hreach:len≤1000000)(w:World)(hI:Lns w.heap.size w (.slice s len cap) zs len):
  CallsIn F n prog 24 #[.slice s len cap] w fun e W'=>e=.returned (.int .i64 (run (upto (fun j=>(j,zs j)) len)))∧Below w.heap.size w W':=by
 have h1:1≤n:=by omega
 refine callsIn_of_wp_marks func24 rfl h3 ?_ hro
 simp only[Tryz.ntmps24,List.size_toArray,List.length_cons,List.length_nil,Nat.reduceAdd,Nat.reduceSub,Array.replicate_succ,Array.replicate_zero,List.push_toArray,List.append_toArray,List.nil_append,List.cons_append]
 gi_wp2_with (gi_at_call 46;refine (HC F (n-1) h5 hro _ _ _ _).mono ?_;rintro e w' ⟨rfl,rfl⟩)
 have bN:=Boxed.new w 3 (.int .i64 0)
 have bS:=Boxed.new (w.alloc (.cells #[.int .i64 0] 3)) 33 (.slice s len cap)
 simp only[World.size_alloc]at bN bS
 have hB0:Below w.heap.size w ((w.alloc (.cells #[.int .i64 0] 3)).alloc (.cells #[.slice s len cap] 33)):=((Below.refl _ w).alloc (Nat.le_refl _) _).alloc (by simp) _
 have bN':=bN.alloc (.cells #[.slice s len cap] 33)
 have hsz:((w.alloc (.cells #[.int .i64 0] 3)).alloc (.cells #[.slice s len cap] 33)).heap.size=w.heap.size+2:=by simp
 generalize ((w.alloc (.cells #[.int .i64 0] 3)).alloc (.cells #[.slice s len cap] 33))=W4 at *
 refine wpIn_rangeFunc_ownH hro h1 (gf:=74) (lb:=#[.pointer (some ⟨w.heap.size+1,0,none⟩)]) rfl h7 (enters_of func74 (by kernel_rfl) rfl)
  (Ae F (n-1) h7 hro (by omega) (w.heap.size+1) (w.heap.size) _ zs len (by omega) W4 (by omega) (by omega) bS.cell (hI.below hB0)) belowK_t (belowK_b (by omega)) (Below.refl _ _) (fun _=>rfl)
  (fun pre W=>Boxed W w.heap.size 3 (.int .i64 (run pre))∧Below w.heap.size w W)
  (fun _ _ _=>False)
  (OwnFrom.and (Own.from (boxed_own _ _ fun pre=>.int .i64 (run pre)) _) (ownFrom_below (Nat.le_refl _) (by omega)))
  (fun _ _ _ _ _ hs _ _=>hs)
  ⟨bN',hB0⟩
  (fun x a' W=>∃ Bx,w.heap.size<Bx∧W.cell? ⟨Bx,8,none⟩=some (.int .i64 x.2.h)∧a'={ tmps:=#[.slice s len cap,undef,.int .i64 0,.pointer (some ⟨w.heap.size,0,none⟩),undef,.pointer (some ⟨Bx,0,none⟩),.slice s len cap,.func (.func 74) #[] #[.pointer (some ⟨w.heap.size+1,0,none⟩)],.int .i64 (x.1:Int),.agg x.2.enc,undef,undef,undef,undef,undef],defers:=[] })
  (fun x a' s A B row hs hg hr=>by
   obtain⟨Bx,e1,e2,e3⟩:=hs
   exact⟨Bx,e1,cell_kept e2 hg (fun r e=>(hr r e).2),e3⟩) ?assign ?body ?done ?stop
 case assign =>
  rintro l pre x W K hi hK
  dsimp only[L10.enc]
  gi_wp2
  exact hK _ _ ((KeepsOthers.alloc _ _).from _) ((Below.refl _ W).alloc hi.2.size _) ⟨hi.1.alloc _,hi.2.trans ((Below.refl _ W).alloc hi.2.size _)⟩ ⟨W.heap.size,hi.1.lt,by simp only[World.cell?,World.alloc_heap_new];rfl,rfl⟩
 case body =>
  rintro l pre x a' W hl ⟨r,hr⟩ ⟨hb,hB⟩ ⟨Bx,hBx,hc8,rfl⟩ hlt
  have c1:=hb.cell
  have c2:=hb.frozen
  have e:=DL pre x
  gi_wp2
  refine⟨(KeepsOthers.setCell _ _ _).from _,(Below.refl _ W).setCell (p:=⟨w.heap.size,0,none⟩) (Nat.le_refl _) _,?_,hB.trans ((Below.refl _ W).setCell (p:=⟨w.heap.size,0,none⟩) (Nat.le_refl _) _)⟩
  have ew:wrap64 (run pre+x.snd.h)=IntKind.i64.wrap (run pre+x.snd.h):=by rw[IntKind.wrap_i64];unfold wrap64;rfl
  rw[e,ew]
  exact hb.set _
 case done =>
  rintro D ys W hD rfl ⟨hb,hB⟩ hK
  have c1:=hb.cell
  gi_wp2
  refine⟨by simp,.inl ⟨_,_,rfl,run_takeDeferred hK,?_⟩⟩
  refine⟨.int .i64 (run (upto (fun j=>(j,zs j)) len)),by simp[results,Tryz.f24,go_sem],rfl,?_⟩
  exact hB.trans (belowK_b (w:=w) (Nat.le_refl _) W D _ _ (by omega) hK rfl rfl)
 case stop =>
  rintro D c pre W _ _ h _
  exact h.elim
end Ht
end Go.Proofs
namespace Go.Ab
open Go.Proofs Go.RowKit Go.Proofs.Tryz
theorem Dg{m:Mu}{h:Heap}{w w':World}{x:V}{v:Value}(r:Rel m h w)(hb:Below w.heap.size w w')(hx:R m h w x v):Out m h w x h v w':=by
 have e:Evo m h w m h w':={
  zeq:=rfl
  len:=Nat.le_refl _
  keep:=fun _ _ hl=>⟨hl,rfl⟩
  own:=fun y c hl hc=>.inl ⟨y,hl,hc⟩
  frame:=fun b hb' _=>hb.block b hb'
  size:=hb.size
  rs:=fun c hc=>by rw[cN (hb.block c hc)];exact Nat.le_refl _
  os:=hb.os
  tape:=hb.tape
  output:=hb.output }
 refine⟨m,e,⟨r.zo,fun c hc=>Nat.lt_of_lt_of_le (r.zl c hc) hb.size,r.inj,fun y cs c hy hc=>?_⟩,hx.evo e r.lt⟩
 exact (r.blk y cs c hy hc).carry (hb.block c (r.lt y c ⟨cs,hy⟩ hc)) fun d v _ hrv=>hrv.evo e r.lt
namespace Bi
def htS(l:List Int):Int:=l.foldl (fun s x=>IntKind.i64.wrap (s+x)) 0
theorem zf:∀ (l:List Int) (a:Int),0≤a→a+l.length*15000000≤9000000000000→(∀ x∈l,0≤x∧x≤15000000)→l.foldl (fun s x=>IntKind.i64.wrap (s+x)) a=a+l.sum
 | [],a,_,_,_=>by simp
 | x::l,a,h1,h2,h4=>by
  have h5:=h4 x (by simp)
  rw[List.length_cons]at h2
  have hw:IntKind.i64.wrap (a+x)=a+x:=wrap64 (by omega) (by omega)
  rw[List.foldl_cons,hw,zf l (a+x) (by omega) (by omega) fun y hy=>h4 y (by simp[hy]),List.sum_cons]
  omega
theorem Fv{m:Mu}{h:Heap}{w:World}{Ls:List bV}(hL:0<Ls.length){v:Value}(r0:R m h w (.lst (Ls.map aL)) v):
  ∃ s cap zs,v=.slice s Ls.length cap∧Ht.Lns w.heap.size w (.slice s Ls.length cap) zs Ls.length∧∀ j y,Ls[j]?=some y→(zs j).h=y.l.h:=by
 generalize hX:Ls.map aL=X at r0
 have hXl:X.length=Ls.length:=by rw[← hX];simp
 cases r0 with
 | lst0 a rc ha=>simp at hXl;omega
 | lst rv hi hrc hk hc hf hr' =>
  rename_i b o k rc
  have hz:∀ j,∃ x:Ht.L10,∀ y,Ls[j]?=some y→Ht.Lie w b (o+j*10) x∧x.h=y.l.h:=fun j=>by
   cases hj:Ls[j]? with
   | none=>exact⟨⟨0,0,0,0,0,0,0,0,0,none,0,0⟩,fun y hy=>by cases hy⟩
   | some y =>
    have he:X[j]?=some (aL y):=by rw[← hX,List.getElem?_map,hj];rfl
    have hk10:k=10:=(hk j _ he).symm
    subst hk10
    have q:∀ i c,(aL y)[i]?=some c→w.cell? ⟨b,o+j*10+i,none⟩=some (rv j i)∧R m h w c (rv j i):=fun i c hi=>⟨hc j _ i c he hi,hr' j _ i c he hi⟩
    have qi:∀ i n,(aL y)[i]?=some (.int .i64 n)→w.cell? ⟨b,o+j*10+i,none⟩=some (.int .i64 n):=fun i n hi=>by
     obtain⟨h1,h2⟩:=q i _ hi
     generalize rv j i=u at h1 h2
     cases h2
     exact h1
    obtain⟨g,gl,gc,h9⟩:∃ g gl gc,w.cell? ⟨b,o+j*10+9,none⟩=some (.slice g gl gc):=by
     obtain⟨h1,h2⟩:=q 9 (.lst (y.gs.map ax)) rfl
     generalize rv j 9=u at h1 h2
     generalize y.gs.map ax=G at h2
     cases h2 with
     | lst0 a rc _=>exact⟨_,_,_,h1⟩
     | lst=>exact⟨_,_,_,h1⟩
    refine⟨⟨y.l.f,y.l.t,y.l.lv,y.l.x,y.l.y,y.l.w,y.l.a,y.l.d,y.l.h,g,gl,gc⟩,fun y' hy'=>?_⟩
    cases hy'
    exact⟨⟨⟨qi 0 _ rfl,qi 1 _ rfl,qi 2 _ rfl,qi 3 _ rfl,qi 4 _ rfl⟩,qi 5 _ rfl,qi 6 _ rfl,qi 7 _ rfl,qi 8 _ rfl,h9⟩,rfl⟩
  obtain⟨zs,hzs⟩:=Classical.axiomOfChoice hz
  exact⟨_,_,zs,by rw[hXl],.inr ⟨b,o,rc,rfl,hi.1,fun j hj=>(hzs j _ (List.getElem?_eq_getElem hj)).1⟩,fun j y hy=>(hzs j y hy).2⟩
open Classical in
noncomputable def xO:Prim:=fun _ args h=>match args with
 | [.lst xs]=>if hx:∃ Ls:List bV,xs=Ls.map aL∧0<Ls.length∧Ls.length≤1000000 then some (.int .i64 (htS ((Classical.choose hx).map (·.l.h))),h) else none
 | _=>none
theorem IC{a b:List bV}(h:a.map aL=b.map aL):a.map (·.l.h)=b.map (·.l.h):=by
 have h1:=congrArg (List.map fun e:List V=>match e[8]? with|some (.int _ n)=>n|_=>0) h
 simpa[aL,bR,Function.comp_def]using h1
theorem Ft{Ls:List bV}(h1:0<Ls.length)(h2:Ls.length≤1000000)(cfg:Cfg)(h:Heap):xO cfg [.lst (Ls.map aL)] h=some (.int .i64 (htS (Ls.map (·.l.h))),h):=by
 have hx:∃ Ls':List bV,Ls.map aL=Ls'.map aL∧0<Ls'.length∧Ls'.length≤1000000:=⟨Ls,rfl,h1,h2⟩
 simp only[xO]
 rw[dif_pos hx,← IC (Classical.choose_spec hx).1]
theorem Fu:cR prog 24 xO:=by
 intro cfg args h r h' hx
 unfold xO at hx
 split at hx
 ·rename_i xs
  split at hx
  ·rename_i hex
   obtain⟨h1,h2,h3⟩:=Classical.choose_spec hex
   generalize Classical.choose hex=Ls at *
   subst h1
   cases hx
   refine⟨HS.refl _ _,⟨_,func24,rfl⟩,fun m w vs hr hp=>?_⟩
   obtain⟨hsz,hp2⟩:=hp
   simp only[List.length_cons,List.length_nil]at hsz
   obtain⟨v0,rfl⟩:∃ v0,vs=#[v0]:=⟨vs[0],Array.ext (by simpa using hsz) fun i h1 h2=>by
    rcases i with _|i
    ·rfl
    ·simp only[List.size_toArray,List.length_cons,List.length_nil]at h2
     omega⟩
   have r0:=hp2 0 _ v0 rfl rfl
   obtain⟨s,cap,zs,rfl,hI,hz⟩:=Fv h2 r0
   have hh:=Ht.height_in Fence.wide 3 trivial trivial trivial rfl (Nat.le_refl _) s Ls.length cap zs h3 w hI
   refine (callsIn_wide.1 hh).mono fun e w' ⟨he,hb⟩=>?_
   subst he
   refine⟨_,rfl,Dg hr hb ?_⟩
   have e1:Ht.run (Ht.upto (fun j=>(j,zs j)) Ls.length)=htS (Ls.map (·.l.h)):=by
    have e2:(Ht.upto (fun j=>(j,zs j)) Ls.length).map (·.2.h)=Ls.map (·.l.h):=by
     refine List.ext_getElem (by simp[Ht.upto]) fun j g1 g2=>?_
     simp only[Ht.upto,List.getElem_map,List.getElem_range]
     exact hz j _ (List.getElem?_eq_getElem (by simpa using g2))
    rw[← e2]
    unfold Ht.run htS
    rw[List.foldl_map]
   rw[e1]
   exact .int _ _
  ·cases hx
 ·cases hx
section
variable {P:Program}{md:FuncId→Nat}{call:bg}{prim:FuncId→Option Prim}{cfg:Cfg}{n d:Nat}
theorem EU{a b:Code}{fr:List V}{h:Heap}(h1:code P md call (dA P md call) cfg n a fr h=none):code P md call (dA P md call) cfg n (.seq a b) fr h=none:=by
 simp only[code,h1]
theorem sT{id:Nat}{ops:Array Oper}{b:Code}{fr:List V}{h:Heap}(h1:∀ fr h,code P md call (dA P md call) cfg n b fr h=none):code P md call (dA P md call) cfg n (.seq (.region id ops false) b) fr h=none:=by
 simp only[code]
 cases hr:cH P md call cfg ops ops.toList fr h with
 | none=>rfl
 | some p=>simp only[h1]
theorem Ak{f:FuncId}{fn:Func}{c:Code}{k:Nat}{args:List V}{h:Heap}(hp:prim f=none)(hf:P.funcs[f]?=some fn)(hb:fn.body=some c)(hk:fn.ntmps=k)
  (hc:code P md (aF P md prim n d) (dA P md (aF P md prim n d)) cfg n c (args++List.replicate (k-args.length) .no) h=none):aF P md prim n (d+1) cfg f args h=none:=by
 subst hk
 simp only[aF,hp,hf,vq,hb,hc]
theorem pc{prim':FuncId→Option Prim}{g:FuncId}{q:Prim}{D:Nat}(h1:∀ f,f≠g→prim' f=prim f)(h2:prim' g=some q)
  (h3:∀ cfg args h r,aF P md prim n D cfg g args h=some r→q cfg args h=some r):∀ d,d≤D→Le (aF P md prim n d) (aF P md prim' n d)
 | 0,_=>fun _ _ _ _ _ hx=>by cases hx
 | d+1,hd=>fun cfg f args h r hx=>by
  have ih:=pc h1 h2 h3 d (by omega)
  by_cases hf:f=g
  ·subst hf
   have hx':aF P md prim n D cfg f args h=some r:=by
    obtain⟨k,rfl⟩:∃ k,D=d+1+k:=⟨D-(d+1),by omega⟩
    clear hd ih
    induction k with
    | zero=>exact hx
    | succ k ihk=>exact iD (d+1+k) _ _ _ _ _ (ihk (fun cfg args h r hx=>h3 _ _ _ _ (iD (d+1+k) _ _ _ _ _ hx)))
   simp only[aF,h2]
   exact h3 _ _ _ _ hx'
  ·unfold aF at hx ⊢
   rw[h1 f hf]
   split at hx
   ·exact hx
   ·split at hx
    ·cases hx
    ·exact rN ih hx
end
theorem CO(d:Nat)(cfg:Cfg)(args:List V)(h:Heap):aF prog md pZ 10000 (d+1) cfg 24 args h=none:=by
 refine Ak (aV _ (by decide)) func24 rfl rfl ?_
 exact sT fun _ _=>sT fun _ _=>EU (sT fun _ _=>rfl)
noncomputable def pH(f:FuncId):Option Prim:=if f=24 then some xO else pZ f
theorem pH_ok:∀ f p,pH f=some p→cR prog f p:=by
 intro f p h
 unfold pH at h
 split at h
 ·rename_i hf
  cases h
  subst hf
  exact Fu
 ·exact pZ_ok f p h
theorem toH{d:Nat}(hd:d≤40){cfg:Cfg}{f:FuncId}{args:List V}{h:Heap}{r:V×Heap}(hx:af md (K pZ d) cfg f args h=some r):af md (K pH d) cfg f args h=some r:=
 dJ (pc (g:=24) (q:=xO) (D:=40) (fun f hf=>if_neg hf) (if_pos rfl) (fun cfg args h r hx=>by rw[CO 39]at hx;cases hx) d hd) hx
theorem AN(d:Nat)(cfg:Cfg)(h:Heap){Ls:List bV}(h1:0<Ls.length)(h2:Ls.length≤100000)(h3:∀ x∈Ls,0≤x.l.h∧x.l.h≤15000000):
  af md (K pH (d+1)) cfg 24 [.lst (Ls.map aL)] h=some (.int .i64 (Txt.hgt Ls),h):=by
 have hm:md 24=0:=rfl
 have hK:aF prog md pH 10000 (d+1) ⟨0,[],0⟩ 24 [.lst (Ls.map aL)] []=some (.int .i64 (Txt.hgt Ls),[]):=by
  have e:pH 24=some xO:=if_pos rfl
  simp only[aF,e]
  rw[Ft h1 (by omega)]
  have:=zf (Ls.map (·.l.h)) 0 (Int.le_refl _) (by simp;omega) fun x hx=>by
   obtain⟨y,hy,rfl⟩:=List.mem_map.1 hx
   have:=h3 y hy
   omega
  unfold htS Txt.hgt
  rw[this,Int.zero_add]
 have hr:([.lst (Ls.map aL)]:List V).all V.noref=true:=by simp
 simp only[af,hm,hr,if_true,hK]
 simp
end Bi
end Go.Ab
namespace Go.Ab
open Go.Proofs Go.Proofs.Tryz
namespace Bi
def SeC:Nat→List (Nat×Nat)→Nat→Prop
 | a,[],n=>a=n
 | a,k::l,n=>k.1=a∧k.1≤k.2∧(k.1=k.2→l=[])∧SeC k.2 l n
def LCh(e:List bV):Nat→Int→List bV→Nat→Prop
 | a,_,[],b=>a=b
 | a,y,x::l,b=>∃ t:Nat,x.l.f=a∧x.l.y=y∧x.l.t=t∧a≤t∧(a<t∨l++e=[])∧1≤x.l.h∧x.l.h≤15000000∧(0≤x.l.a∧0≤x.l.d∧x.l.a+x.l.d≤x.l.h)∧LCh e t (y+x.l.h) l b
theorem yL{e l2:List bV}{b c:Nat}:∀ {l1:List bV}{a:Nat}{y:Int},LCh (l2++e) a y l1 c→LCh e c (y+Txt.hgt l1) l2 b→LCh e a y (l1++l2) b
 | [],a,y,h1,h2=>by
  have h1:a=c:=h1
  subst h1
  simpa[Txt.hgt]using h2
 | x::l,a,y,⟨t,g1,g2,g3,g4,g5,g6,g7,g8,g9⟩,h2=>by
  refine⟨t,g1,g2,g3,g4,?_,g6,g7,g8,yL g9 ?_⟩
  ·have:(l++l2)++e=l++(l2++e):=List.append_assoc _ _ _
   rcases g5 with g5|g5
   ·exact .inl g5
   ·exact .inr (this.trans g5)
  ·have:y+Txt.hgt (x::l)=y+x.l.h+Txt.hgt l:=by simp[Txt.hgt];omega
   rw[this]at h2
   exact h2
theorem TxV.lin1{X:Txt}(hV:TxV X)(hn:X.p.t.length≤90){k:Nat×Nat}{s t:Nat}{y:Int}(h1:s≤t)(h2:t≤X.p.t.length):
  1≤(X.lin k s t y).l.h∧(X.lin k s t y).l.h≤15000000∧(0≤(X.lin k s t y).l.a∧0≤(X.lin k s t y).l.d∧(X.lin k s t y).l.a+(X.lin k s t y).l.d≤(X.lin k s t y).l.h):=by
 have hH:=hV.linH k s t y hn
 obtain⟨x,hx⟩:∃ x,x∈X.spans s t:=by
  unfold Txt.spans
  split
  ·have hl:0<((X.sp.take t).drop s).length:=by simp[hV.sp];omega
   exact⟨_,List.getElem_mem hl⟩
  ·exact⟨_,List.mem_singleton.2 rfl⟩
 have hx2:0≤x∧x<X.p.s.length:=by
  have hsn:=hV.sn
  unfold Txt.spans at hx
  split at hx
  ·exact hV.spm x (List.mem_of_mem_take (List.mem_of_mem_drop hx))
  ·simp at hx;omega
 have hm:=(zz (f:=X.hei) (l:=X.spans s t)).2 x hx
 have h0:=(zz (f:=X.asc) (l:=X.spans s t)).1
 have h3:=(zz (f:=X.des) (l:=X.spans s t)).1
 obtain⟨q,rfl⟩:∃ q:Nat,x=q:=⟨x.toNat,by omega⟩
 obtain⟨sp,f,g1,g2,g3,g4,g5,g6,g7,g8,g9,g10⟩:=hV.at (q:=q) (by omega)
 have h8:=jK g7 g5 g6
 rw[g10]at hm
 refine⟨?_,hH.2,h0,h3,?_⟩
 ·show 1≤max (mx X.hei (X.spans s t)) (mx X.asc (X.spans s t)+mx X.des (X.spans s t))
  omega
 ·show mx X.asc (X.spans s t)+mx X.des (X.spans s t)≤max (mx X.hei (X.spans s t)) (mx X.asc (X.spans s t)+mx X.des (X.spans s t))
  omega
theorem uE{X:Txt}(hV:TxV X)(hn:X.p.t.length≤90){k:Nat×Nat}(hk:jl X k){e:List bV}:∀ (m s:Nat) (y:Int),k.1≤s→s≤k.2→k.2-s≤m→(s=k.2→e=[])→LCh e s y (X.linK k m s y) k.2
 | 0,s,y,h1,h2,h3,h4=>by
  have hf:=dB (X:=X) hk h2
  have hl:=hV.lin1 hn (k:=k) (y:=y) hf.1 (by have:=hk.2.1;omega)
  rw[Txt.linK]
  exact⟨X.fin k s,rfl,rfl,rfl,hf.1,.inr (by rw[h4 (by omega)];rfl),hl.1,hl.2.1,hl.2.2,by show X.fin k s=k.2;omega⟩
 | m+1,s,y,h1,h2,h3,h4=>by
  have hf:=dB (X:=X) hk h2
  have hl:=hV.lin1 hn (k:=k) (y:=y) hf.1 (by have:=hk.2.1;omega)
  rw[Txt.linK]
  by_cases hlt:X.fin k s<k.2
  ·rw[if_pos hlt]
   have h5:=hf.2.2 h1 (by omega)
   exact⟨X.fin k s,rfl,rfl,rfl,hf.1,.inl h5,hl.1,hl.2.1,hl.2.2,uE hV hn hk m _ _ (by omega) (by omega) (by omega) fun h=>by omega⟩
  ·rw[if_neg hlt]
   refine⟨X.fin k s,rfl,rfl,rfl,hf.1,?_,hl.1,hl.2.1,hl.2.2,by show X.fin k s=k.2;omega⟩
   rcases Nat.lt_or_ge s k.2 with h|h
   ·exact .inl (hf.2.2 h1 h)
   ·exact .inr (by rw[h4 (by omega)];rfl)
theorem uD{X:Txt}(hV:TxV X)(hn:X.p.t.length≤90){n:Nat}:∀ (l:List (Nat×Nat)) (a:Nat) (y:Int),(∀ k∈l,jl X k)→SeC a l n→LCh [] a y (X.linA l y) n
 | [],a,y,_,h=>h
 | k::l,a,y,hl,⟨h1,h2,h3,h4⟩=>by
  subst h1
  rw[Txt.linA]
  refine yL (uE hV hn (hl k (by simp)) _ _ _ (Nat.le_refl _) h2 (Nat.le_refl _) fun h=>?_) (uD hV hn l k.2 _ (fun x hx=>hl x (by simp[hx])) h4)
  rw[h3 h]
  rfl
theorem qH{tl:List (Nat×Nat)}{n:Nat}:∀ (B:List Int) (f i:Nat),f≤i→(B=[]→f=i)→(B≠[]→lgI B (B.length-1)=2)→SeC (i+B.length) tl n→SeC f (jk f i B++tl) n
 | [],f,i,_,h2,_,h4=>by
  rw[h2 rfl]
  exact h4
 | b::B,f,i,h1,_,h3,h4=>by
  have h3':B≠[]→lgI B (B.length-1)=2:=fun hb=>by
   have:=h3 (by simp)
   rcases B with _|⟨c,B⟩
   ·exact absurd rfl hb
   ·simpa[lgI]using this
  have h4':SeC (i+1+B.length) tl n:=by
   rw[List.length_cons]at h4
   rw[show i+1+B.length=i+(B.length+1) by omega]
   exact h4
  rw[jk]
  split
  ·exact⟨rfl,by show f≤i+1;omega,fun h=>by have h:f=i+1:=h;omega,qH B (i+1) (i+1) (Nat.le_refl _) (fun _=>rfl) h3' h4'⟩
  ·rename_i hb
   refine qH B f (i+1) (by omega) (fun h=>?_) h3' h4'
   subst h
   exact absurd (h3 (by simp)) hb
theorem TxV.sch{X:Txt}(hV:TxV X):SeC 0 X.secs X.p.t.length:=by
 unfold Txt.secs
 refine qH X.B 0 0 (Nat.le_refl _) (fun _=>rfl) (fun h=>?_) ?_
 ·have hl:=hV.bl
  have hp:0<X.B.length:=List.length_pos_iff.2 h
  have h2:=hV.b2 (by omega)
  rw[← hl]at h2
  have h3:=atI (l:=X.B) (i:=X.B.length-1) (by omega)
  rw[h2]at h3
  exact (Option.some.inj h3).symm
 ·rw[Nat.zero_add,hV.bl]
  split
  ·exact⟨rfl,Nat.le_refl _,fun _=>rfl,rfl⟩
  ·exact rfl
theorem TxV.secs_ne{X:Txt}(hV:TxV X):X.secs≠[]:=fun h=>by
 have h1:=hV.sch
 rw[h]at h1
 have h1:0=X.p.t.length:=h1
 unfold Txt.secs at h
 rw[if_pos (.inl h1.symm)]at h
 simp at h
theorem FM{X:Txt}{k:Nat×Nat}:∀ (m s:Nat) (y:Int),X.linK k m s y≠[]
 | 0,_,_=>by rw[Txt.linK];simp
 | _+1,_,_=>by rw[Txt.linK];simp
theorem TxV.chn{X:Txt}(hV:TxV X)(hn:X.p.t.length≤90):LCh [] 0 0 (X.linA X.secs 0) X.p.t.length∧X.linA X.secs 0≠[]:=by
 refine⟨uD hV hn _ _ _ hV.secs hV.sch,?_⟩
 have h:=hV.secs_ne
 rcases hs:X.secs with _|⟨k,l⟩
 ·exact absurd hs h
 ·rw[Txt.linA]
  simp[FM]
end Bi
end Go.Ab
namespace Go.Ab
open Go.Proofs Go.Proofs.Tryz
namespace Bi
attribute [local congr] ay
theorem yM{e:List bV}{b:Nat}:∀ {l:List bV}{a:Nat}{y:Int},LCh e a y l b→∀ x∈l,0≤x.l.h∧x.l.h≤15000000
 | [],_,_,_,_,h=>by cases h
 | z::l,a,y,⟨t,g1,g2,g3,g4,g5,g6,g7,g8,g9⟩,x,h=>by
  rcases List.mem_cons.1 h with rfl|h
  ·omega
  ·exact yM g9 x h
set_option maxHeartbeats 16000000 in
set_option maxRecDepth 100000 in
theorem covers_ok(l:List Int):∃ v h',aF prog md pH 10000 22 ⟨0,[],0⟩ 8 [il l] []=some (v,h')∧v=.bool true:=by
 have hA:=fun cfg h=>toH (by omega) (mG (4+16) cfg h)
 have hNw:=fun cfg h=>toH (by omega) (nh (prim:=pZ) (4+16) cfg h (aV _ (by decide)) l)
 have hL:(l.take 4000).length≤4000:=by simp;omega
 refine cm (R:=fun r _=>r=.bool true) (show pH 8=none by unfold pH;rw[if_neg (by decide)];exact aV _ (by decide)) func8 rfl rfl rfl ?_
 generalize hLL:l.take 4000=L at *
 have r0:Rd [some [il L,.int .i64 0]] 0 L 0:=⟨rfl,by omega⟩
 obtain⟨fs,k1,hf1,hf3,hfo,hk1,c1⟩:=gW (prim:=pZ) (4+13) ⟨0,[],0⟩ [some [il L,.int .i64 0]] aV L 0 hL 0 r0 (aP (by simp)) (by simp)
 have r1:Rd (hk [some [il L,.int .i64 0]] 0 L k1) 0 L k1:=r0.set hk1
 obtain⟨p,k2,hpo,hk2,c2⟩:=ni (prim:=pZ) (4+12) ⟨0,[],0⟩ (hk [some [il L,.int .i64 0]] 0 L k1) aV L k1 hL 0 r1 (aP (by simp)) (by simp) 24 fs.length (by omega) (by omega) (by omega)
 replace c1:=toH (by omega) c1
 replace c2:=toH (by omega) c2
 obtain⟨X,hXp,hXf,C⟩:=xC hpo (by omega) hf1 hf3 hfo
 have hLn:=fun cfg h=>toH (by omega) (C.lines 4 cfg h)
 rw[hXp,hXf]at hLn
 obtain⟨hlf,hmp,s0,s1,s2,s3,s4,l5,t5⟩:=qA p
 have hlf':=eq_true (List.all_eq_true.1 hlf)
 have hp0:putAt [V.nils,.nils,.int .i64 0,.int .i64 0,.int .i64 0] 0 (bU p)=bU p:=rfl
 have hll:=C.hV.linL C.h5
 have htl:=hpo.len
 obtain⟨hch,hne⟩:=C.hV.chn C.h5
 rw[hXp]at hch
 have hHt:=fun cfg h=>AN 20 cfg h (List.length_pos_iff.2 hne) (by omega) (yM hch)
 generalize X.linA X.secs 0=Ls at *
 have e14:((24:Nat):Int)=24:=rfl
 rw[e14]at c2
 simp only[hk,List.set_cons_zero]at c1 c2
 have hl0:=List.length_pos_iff.2 hne
 simp(disch:=omega)[hNw,c1,c2,hlf',hmp,l5,t5,hp0,hLn,hne]
 have hlk:∀ x:bV,(aL x).length=10:=fun _=>rfl
 have hlmp:∀ x:bV,isMap (aL x)=false:=fun _=>rfl
 have hlt:∀ x:bV,(aL x).take 10=aL x:=fun _=>rfl
 have hlf2:∀ x:bV,(∀ c∈aL x,c.leaf=true)=True:=fun x=>eq_true (by simp[aL,bR])
 have hlr:∀ x:bV,(∀ c∈aL x,c.rf=true)=True:=fun x=>eq_true (by simp[aL,bR])
 have hxp:∀ x:bV,putAt [V.int .i64 0,.int .i64 0,.int .i64 0,.int .i64 0,.int .i64 0,.int .i64 0,.int .i64 0,.int .i64 0,.int .i64 0,.nils] 0 (aL x)=aL x:=fun _=>rfl
 have hx0:∀ x:bV,slot (aL x) 0=some (.int .i64 x.l.f):=fun _=>rfl
 have hx1:∀ x:bV,slot (aL x) 1=some (.int .i64 x.l.t):=fun _=>rfl
 have hx4:∀ x:bV,slot (aL x) 4=some (.int .i64 x.l.y):=fun _=>rfl
 have hx6:∀ x:bV,slot (aL x) 6=some (.int .i64 x.l.a):=fun _=>rfl
 have hx7:∀ x:bV,slot (aL x) 7=some (.int .i64 x.l.d):=fun _=>rfl
 have hx8:∀ x:bV,slot (aL x) 8=some (.int .i64 x.l.h):=fun _=>rfl
 refine ah (fun m fr H=>∃ (i a:Nat) (y:Int) (Z:Heap),i≤Ls.length∧m=Ls.length-i∧H=some [il L,.int .i64 k2]::some (bU p)::Z∧LCh [] a y (Ls.drop i) p.t.length∧(0≤y∧y≤i*15000000)∧y=Txt.hgt (Ls.take i) ∧
  Slots 109 [(5,.ptr 1 0),(6,.lst (Ls.map aL)),(8,.int .i64 a),(9,.int .i64 y),(10,.int .i64 i)] fr) (m:=Ls.length) (by omega) ⟨0,0,0,[],by omega,by omega,rfl,hch,by omega,rfl,by simp⟩ ?_
 rintro m fr H ⟨i,a,y,Z,hi,rfl,rfl,hcc,hy,hyt,hs⟩
 obtain⟨j,rfl⟩:=hs.ex
 clear hs
 by_cases hlt2:i<Ls.length
 ·have hI:(i:Int)<Ls.length:=by omega
  obtain⟨x,hx⟩:=atG hlt2
  have hdr:Ls.drop i=x::Ls.drop (i+1):=by
   rw[List.drop_eq_getElem_cons hlt2]
   rw[List.getElem?_eq_getElem hlt2]at hx
   rw[Option.some.inj hx]
  rw[hdr]at hcc
  obtain⟨t,g1,g2,g3,g4,g5,g6,g7,g8,g9⟩:=hcc
  have hhs:Txt.hgt (Ls.take (i+1))=y+x.l.h:=by
   have:Ls.take (i+1)=Ls.take i++[x]:=by rw[List.take_add_one,hx];rfl
   rw[this,vC,hyt]
  have hwz:Cfg.wr ⟨0,[],0⟩ (Z.length+1+1)=true:=aP (by simp)
  simp(disch:=omega)[hI,hx,hlk,hlmp,hlt,hlf2,hxp,hwz,-getElem?_pos]
  simp +contextual (disch:=first|omega|(simp;done)|(simp[Decidable.imp_iff_not_or];done)|fail) [-al,bh,qP,ao,aw,aB,bw,wrap64,-getElem?_pos,hx0,hx1,hx4,hx6,hx7,hx8,hlmp]
  refine ak (fun hb=>?_) (fun hb=>?_)
  ·exfalso
   have hg5:(a:Int)<t∨(Ls.length:Int)≤i+1:=by
    rcases g5 with g5|g5
    ·exact .inl (by omega)
    ·rw[List.append_nil]at g5
     have:=List.drop_eq_nil_iff.1 g5
     exact .inr (by omega)
   simp[g1,g2,g3]at hb
   omega
  ·simp
   refine ai 7 (by kernel_rfl) ?_
   simp(disch:=omega)[hlmp,hx1,hx8,g3,wrap64,-getElem?_pos]
   exact ae (m':=Ls.length-(i+1)) (by omega) ⟨i+1,t,y+x.l.h,Z++[some (aL x)],by omega,rfl,rfl,g9,by omega,hhs.symm,by simp(disch:=omega)⟩
 ·obtain rfl:i=Ls.length:=by omega
  have hI:¬ ((Ls.length:Int)<Ls.length):=by omega
  rw[List.drop_length]at hcc
  have hcc:a=p.t.length:=hcc
  subst hcc
  rw[List.take_length]at hyt
  simp(disch:=omega)[hI,hA,s0,hmp,hHt,hyt]
end Bi
end Go.Ab
