/- Several texts of this proof in one. -/
import Derived.Test.YtldfgkjmficliaaGreatAbW7
import Derived.Test.YtldfgkjmficliaaGreatPaHt
set_option linter.unusedSimpArgs false
set_option linter.unusedVariables false
namespace Go.Ab
open Go.Proofs Go.Proofs.Tryz
namespace Bi
def asc:List Row→Bool
 | a::b::r=>decide (a.2.1<b.2.1)&&asc (b::r)
 | _=>true
theorem tG:∀ (t:List Row) (a:Row),asc (a::t)=true→∀ y∈t,a.2.1<y.2.1
 | [],a,_,y,hy=>by simp at hy
 | b::t,a,h,y,hy=>by
  simp only[asc,Bool.and_eq_true,decide_eq_true_eq]at h
  rcases List.mem_cons.1 hy with rfl|hy
  ·exact h.1
  ·have:=tG t b h.2 y hy
   omega
theorem Be{a:Row}{t:List Row}(h:asc (a::t)=true):asc t=true:=by
 cases t with
 | nil=>rfl
 | cons b t=>simp only[asc,Bool.and_eq_true]at h;exact h.2
theorem Bd:∀ (t:List Row),asc t=true→∀ (i j:Nat) (x y:Row),i<j→t[i]?=some x→t[j]?=some y→x.2.1<y.2.1
 | [],_,i,j,x,y,_,hx,_=>by simp at hx
 | a::t,h,0,j+1,x,y,_,hx,hy=>by
  simp at hx
  subst hx
  exact tG t a h y (List.mem_of_getElem? (by simpa using hy))
 | a::t,h,i+1,j+1,x,y,hij,hx,hy=>Bd t (Be h) i j x y (by omega) (by simpa using hx) (by simpa using hy)
 | a::t,h,i,0,x,y,hij,_,_=>by omega
def findS(r:Int):Row:=
 if 44032≤r∧r≤55203 then (if (r-44032)%28=0 then (0,0,12,3,18,0,0) else (0,0,13,3,18,0,0))
 else if r≤161 then fa tab1 r else if r≤1642 then fa tab2 r else if r≤8237 then fa tab3 r else fa tab4 r
def cD(r:Int):Int:=(findS r).2.2.2.2.2.1
theorem jG(new cs:List V)(h:cs.length=new.length):putAt cs 0 new=new:=by
 have:=gV new [] cs (by omega)
 simp only[List.nil_append,List.length_nil]at this
 rw[this,List.drop_eq_nil_of_le (by omega),List.append_nil]
def gi(n:Nat):List V:=aN (List.replicate n jS)
theorem qx(n:Nat):(gi n).length=n*7:=by simp[gi,dE]
section
variable {prim:FuncId→Option Prim}(d:Nat) (cfg:Cfg) (h:Heap)
theorem FP(hp:prim 154=none):af md (K prim (d+1)) cfg 154 [] h=some (.agg (aN tab1),h):=by
 have hk:K prim (d+1) ⟨0,[],0⟩ 154 [] []=some (.agg (aN tab1),[some (aN tab1)]):=by
  simp only[K,aI,hp]
  kernel_rfl
 have hf:frz [some (aN tab1)] 0 6 (.agg (aN tab1))=some (.agg (aN tab1)):=by kernel_rfl
 simp only[af,show md 154=0 from rfl,List.all_nil,if_true,hk,hf]
theorem FQ(hp:prim 156=none):af md (K prim (d+1)) cfg 156 [] h=some (.agg (aN tab2),h):=by
 have hk:K prim (d+1) ⟨0,[],0⟩ 156 [] []=some (.agg (aN tab2),[some (aN tab2)]):=by
  simp only[K,aI,hp]
  kernel_rfl
 have hf:frz [some (aN tab2)] 0 6 (.agg (aN tab2))=some (.agg (aN tab2)):=by kernel_rfl
 simp only[af,show md 156=0 from rfl,List.all_nil,if_true,hk,hf]
theorem FT(hp:prim 157=none):af md (K prim (d+1)) cfg 157 [] h=some (.agg (aN tab3),h):=by
 have hk:K prim (d+1) ⟨0,[],0⟩ 157 [] []=some (.agg (aN tab3),[some (aN tab3)]):=by
  simp only[K,aI,hp]
  kernel_rfl
 have hf:frz [some (aN tab3)] 0 6 (.agg (aN tab3))=some (.agg (aN tab3)):=by kernel_rfl
 simp only[af,show md 157=0 from rfl,List.all_nil,if_true,hk,hf]
theorem FU(hp:prim 158=none):af md (K prim (d+1)) cfg 158 [] h=some (.agg (aN tab4),h):=by
 have hk:K prim (d+1) ⟨0,[],0⟩ 158 [] []=some (.agg (aN tab4),[some (aN tab4)]):=by
  simp only[K,aI,hp]
  kernel_rfl
 have hf:frz [some (aN tab4)] 0 6 (.agg (aN tab4))=some (.agg (aN tab4)):=by kernel_rfl
 simp only[af,show md 158=0 from rfl,List.all_nil,if_true,hk,hf]
theorem z91:zeroOf prog 197=some (.agg (gi 44)):=by kernel_rfl
theorem z95:zeroOf prog 201=some (.agg (gi 41)):=by kernel_rfl
theorem ls1:tab1.length=44:=rfl
theorem ls2:tab2.length=44:=rfl
theorem ls3:tab3.length=44:=rfl
theorem ls4:tab4.length=41:=rfl
theorem sl91{h:Heap}{b:Nat}:da prog h 197 (.ptr b 0) none none=(ab h b).bind fun cs=>if 308≤cs.length then some (.sl b 0 44 44 7) else none:=by
 have hu:prog.underlying 197=some (.array 44 176):=by kernel_rfl
 have hs:cq prog 176=some 7:=by kernel_rfl
 simp only[da,hu,hs]
 cases ab h b<;>simp
theorem sl95{h:Heap}{b:Nat}:da prog h 201 (.ptr b 0) none none=(ab h b).bind fun cs=>if 287≤cs.length then some (.sl b 0 41 41 7) else none:=by
 have hu:prog.underlying 201=some (.array 41 176):=by kernel_rfl
 have hs:cq prog 176=some 7:=by kernel_rfl
 simp only[da,hu,hs]
 cases ab h b<;>simp
theorem wrap32{n:Int}(h1:-2147483648≤n)(h2:n≤2147483647):IntKind.i32.wrap n=n:=by
 have:=IntWalk.i32_in n ⟨by omega,by omega⟩
 exact this
theorem oh(hp:prim 155=none)(t:List Row)(ht:t.length≤100)(hs:asc t=true)(r:Int)(y:Option (List V))(n:Nat)(hn:n=t.length):
  af md (K prim (d+1)) ⟨0,[],0⟩ 155 [.sl 1 0 n n 7,.int .i32 r] [y,some (aN t)]=some (.agg (dM (fa t r)),[y,some (aN t)]):=by
 subst hn
 refine AM (prim:=prim) d _ _ hp t ht (Bd t hs) r ?_
 have hb:ab [y,some (aN t)] 1=some (aN t):=by
  rw[dH,kT,ea];rfl
 simp[List.mapM_cons,BX hb]
set_option maxHeartbeats 2000000 in
theorem nQ(hp:∀ f,Np5 f→prim f=none)(r:Int):af md (K prim (d+2)) cfg 126 [.int .i32 r] h=some (.agg (dM (findS r)),h):=by
 refine bo rfl (hp 126 (by decide)) func126 rfl rfl rfl (by simp) ?_
 have h1:=fun cfg h=>FP (prim:=prim) d cfg h (hp 154 (by decide))
 have h2:=fun cfg h=>FQ (prim:=prim) d cfg h (hp 156 (by decide))
 have h3:=fun cfg h=>FT (prim:=prim) d cfg h (hp 157 (by decide))
 have h4:=fun cfg h=>FU (prim:=prim) d cfg h (hp 158 (by decide))
 have s1:=fun y=>oh (prim:=prim) d (hp 155 (by decide)) tab1 (by simp[ls1]) (by kernel_rfl) r y 44 ls1.symm
 have s2:=fun y=>oh (prim:=prim) d (hp 155 (by decide)) tab2 (by simp[ls2]) (by kernel_rfl) r y 44 ls2.symm
 have s3:=fun y=>oh (prim:=prim) d (hp 155 (by decide)) tab3 (by simp[ls3]) (by kernel_rfl) r y 44 ls3.symm
 have s4:=fun y=>oh (prim:=prim) d (hp 155 (by decide)) tab4 (by simp[ls4]) (by kernel_rfl) r y 41 ls4.symm
 have fz:∀ (H:Heap) (x:Row),frz H 0 6 (.agg (dM x))=some (.agg (dM x)):=fun H ⟨a,b,c,d,e,f,g⟩=>rfl
 unfold findS
 have l1:(aN tab1).length=308:=by rw[dE,ls1]
 have l2:(aN tab2).length=308:=by rw[dE,ls2]
 have l3:(aN tab3).length=308:=by rw[dE,ls3]
 have l4:(aN tab4).length=287:=by rw[dE,ls4]
 have z1:(gi 44).length=308:=qx 44
 have z2:(gi 41).length=287:=qx 41
 have zm:∀ n,isMap (gi n)=false:=fun n=>ea _
 have p1:=jG (aN tab1) (gi 44) (by rw[l1,z1])
 have p2:=jG (aN tab2) (gi 44) (by rw[l2,z1])
 have p3:=jG (aN tab3) (gi 44) (by rw[l3,z1])
 have p4:=jG (aN tab4) (gi 41) (by rw[l4,z2])
 have ro:∀ x:Row,dM x=[.int .i32 x.1,.int .i32 x.2.1,.int .u8 x.2.2.1,.int .u8 x.2.2.2.1,.int .u8 x.2.2.2.2.1,.int .u8 x.2.2.2.2.2.1,.int .u8 x.2.2.2.2.2.2]:=fun ⟨a,b,c,d,e,f,g⟩=>rfl
 by_cases c1:44032≤r∧r≤55203
 ·have m1:(r-44032).tmod 28=(r-44032)%28:=Int.tmod_eq_emod_of_nonneg (by omega)
  by_cases c0:(r-44032)%28=0
  ·simp(disch:=omega)[c1.1,c1.2,wrap32,m1,c0,dM]
  ·simp(disch:=omega)[c1.1,c1.2,wrap32,m1,c0,dM]
 ·have n1:(decide (44032≤r)&&decide (r≤55203))=false:=by simpa using c1
  by_cases c2:r≤161
  ·have n1:¬ 44032≤r:=by omega
   have s:=s1 (some (dM jS))
   simp only[dM,jS]at s
   simp(disch:=omega)[n1,c2,h1,z91,fl,fK,ea,zm,l1,z1,p1,sl91,s,ro,-Tryz.zr197]
  ·by_cases c3:r≤1642
   ·have n1:¬ 44032≤r:=by omega
    have s:=s2 (some (dM jS))
    simp only[dM,jS]at s
    simp(disch:=omega)[n1,c2,c3,h2,z91,fl,fK,ea,zm,l2,z1,p2,sl91,s,ro,-Tryz.zr197]
   ·by_cases c4:r≤8237
    ·have n1:¬ 44032≤r:=by omega
     have s:=s3 (some (dM jS))
     simp only[dM,jS]at s
     simp(disch:=omega)[n1,c2,c3,c4,h3,z91,fl,fK,ea,zm,l3,z1,p3,sl91,s,ro,-Tryz.zr197]
    ·have s:=s4 (some (dM jS))
     simp only[dM,jS]at s
     have c1':44032≤r→¬ r≤55203:=fun a b=>c1 ⟨a,b⟩
     by_cases n0:44032≤r
     ·simp(disch:=omega)[n0,c1' n0,c2,c3,c4,h4,z95,fl,fK,ea,zm,l4,z2,p4,sl95,s,ro,-Tryz.zr201]
     ·simp(disch:=omega)[n0,c2,c3,c4,h4,z95,fl,fK,ea,zm,l4,z2,p4,sl95,s,ro,-Tryz.zr201]
theorem iI(t:List Row)(ht:t.all (fun x=>decide (0≤x.2.2.2.2.2.1)&&decide (x.2.2.2.2.2.1≤22))=true)(r:Int):0≤(fa t r).2.2.2.2.2.1∧(fa t r).2.2.2.2.2.1≤22:=by
 unfold fa
 split
 ·rename_i x hx
  have hm:=List.mem_of_find?_eq_some hx
  have:=List.all_eq_true.1 ht x hm
  simp at this
  split
  ·exact this
  ·simp[jS]
 ·simp[jS]
theorem Bj(r:Int):0≤cD r∧cD r≤22:=by
 unfold cD findS
 split
 ·split<;>simp
 ·split
  ·exact iI tab1 (by decide) r
  ·split
   ·exact iI tab2 (by decide) r
   ·split
    ·exact iI tab3 (by decide) r
    ·exact iI tab4 (by decide) r
@[simp] theorem cv5_3{h:Heap}{k:IntKind}{n:Int}:fc prog h 5 3 (.int k n)=some (.int .i64 (IntKind.i64.wrap n),h):=by kernel_rfl
theorem nK(hp:∀ f,Np5 f→prim f=none)(r:Int):af md (K prim (d+3)) cfg 101 [.int .i32 r] h=some (.int .i64 (cD r),h):=by
 refine bo rfl (hp 101 (by decide)) func101 rfl rfl rfl (by simp) ?_
 have hf:=fun cfg h=>nQ (prim:=prim) d cfg h hp r
 have hb:=Bj r
 unfold cD at hb ⊢
 generalize findS r=x at hf hb ⊢
 obtain⟨a,b,c,d,e,f,g⟩:=x
 simp only[dM]at hf
 simp only at hb
 simp(disch:=omega)[hf,wrap64]
end
end Bi
end Go.Ab
namespace Go.Ab
open Go.Proofs Go.Proofs.Tryz
namespace Bi
section
variable {md':FuncId→Nat}{call:aR}{cfg:Cfg}{n:Nat}
def look:List (Int×List Int)→Int→Option (List Int)
 | [],_=>none
 | (m,l)::t,r=>if r≤m then some l else look t r
end
section
variable {prim:FuncId→Option Prim}(d:Nat) (cfg:Cfg) (h:Heap)
end
end Bi
end Go.Ab
namespace Go.Ab
open Go.Proofs Go.Proofs.Tryz
namespace Bi
theorem least:∀ (L:List Int) (r:Int),(∃ b∈L,r≤b)→∃ s∈L,r≤s∧∀ b∈L,r≤b→s≤b
 | [],_,⟨_,h,_⟩=>by simp at h
 | a::L,r,h=>by
  by_cases hL:∃ b∈L,r≤b
  ·obtain⟨s,h1,h2,h3⟩:=least L r hL
   by_cases ha:r≤a∧a≤s
   ·exact⟨a,List.mem_cons_self ..,ha.1,fun b hb hr=>by
     rcases List.mem_cons.1 hb with rfl|hb
     ·omega
     ·have:=h3 b hb hr;omega⟩
   ·exact⟨s,List.mem_cons_of_mem _ h1,h2,fun b hb hr=>by
     rcases List.mem_cons.1 hb with rfl|hb
     ·omega
     ·exact h3 b hb hr⟩
  ·obtain⟨b,hb,hr⟩:=h
   rcases List.mem_cons.1 hb with rfl|hb
   ·exact⟨b,List.mem_cons_self ..,hr,fun c hc hrc=>by
     rcases List.mem_cons.1 hc with rfl|hc
     ·omega
     ·exact absurd ⟨c,hc,hrc⟩ hL⟩
   ·exact absurd ⟨b,hb,hr⟩ hL
section
variable {prim:FuncId→Option Prim}(d:Nat) (cfg:Cfg) (h:Heap)
end
end Bi
end Go.Ab
namespace Go.Ab
def gd(b:Bool)(v:V):V:=if b=true then v else .no
theorem ED{v:V}:gd true v=v:=rfl
section
variable (P:Program) (md:FuncId→Nat) (call:aR) (cfg:Cfg)
def wGp(e:Bool)(r:Option (V×Heap))[dst:Hid (Option Tmp)][ops:Hid (Array Oper)][l:Hid (List Oper)][fr:Hid (List V)][h:Hid Heap][Q:Hid ck]:Prop:=
 @wIf e ⟨@wS P md call cfg dst fr r ops l Q⟩ ⟨@wO P md call cfg ops l (put fr.val dst.val .no) h.val Q⟩
end
section
variable {P:Program}{md:FuncId→Nat}{call:aR}{cfg:Cfg}
theorem rZ{e e':Bool}{r r':Option (V×Heap)}{dst:Hid (Option Tmp)}{ops:Hid (Array Oper)}{l:Hid (List Oper)}{fr:Hid (List V)}{h:Hid Heap}{Q:Hid ck}(he:e=e')(hr:e'=true→r=r'):
  @wGp P md call cfg e r dst ops l fr h Q=@wGp P md call cfg e' r' dst ops l fr h Q:=by
 subst he
 cases e
 ·simp[wGp]
 ·rw[hr rfl]
theorem F1{e e':Bool}{p:Prop}{r r':Option (V×Heap)}{dst:Hid (Option Tmp)}{ops:Hid (Array Oper)}{l:Hid (List Oper)}{fr:Hid (List V)}{h:Hid Heap}{Q:Hid ck}(he:e=e')(hp:(e'=true)=p)(hr:e'=true→p→r=r'):
  @wGp P md call cfg e r dst ops l fr h Q=@wGp P md call cfg e' r' dst ops l fr h Q:=rZ he fun h=>hr h (hp ▸ h)
theorem wG_gd{b want:Bool}{dst:Option Tmp}{op:Op}{ops:Array Oper}{l:List Oper}{fr:List V}{h:Heap}{Q:ck}:
  @wG P md call cfg (some (.bool b)) ⟨want⟩ ⟨dst⟩ ⟨op⟩ ⟨ops⟩ ⟨l⟩ ⟨fr⟩ ⟨h⟩ ⟨Q⟩↔@wGp P md call cfg (b==want) (aF P md call cfg fr h op) ⟨dst⟩ ⟨ops⟩ ⟨l⟩ ⟨fr⟩ ⟨h⟩ ⟨Q⟩:=Iff.rfl
theorem DS{e:Bool}{v:V}{dst:Option Tmp}{ops:Array Oper}{l:List Oper}{fr:List V}{h:Heap}{Q:ck}:
  @wGp P md call cfg e (some (v,h)) ⟨dst⟩ ⟨ops⟩ ⟨l⟩ ⟨fr⟩ ⟨h⟩ ⟨Q⟩↔@wO P md call cfg ⟨ops⟩ ⟨l⟩ (put fr dst (gd e v)) h ⟨Q⟩:=by
 cases e
 ·simp[wGp,gd]
 ·simp[wGp,gd]
theorem AB{x y:Bool}{h:Heap}:np (some (.bool x)) (some (gd x (.bool y))) (some (.bool false)) h=some (.bool (x&&y),h):=by cases x<;>rfl
end
end Go.Ab
namespace Go.Ab
noncomputable def gq(p:Prop)(v:V):V:=by
 classical
 exact if p then v else .no
theorem px{p:Prop}{v:V}(h:p):gq p v=v:=by unfold gq;exact if_pos h
theorem wQ{p:Prop}{v:V}(h:¬ p):gq p v=.no:=by unfold gq;exact if_neg h
theorem ax{v:V}:gq True v=v:=px trivial
theorem cn{v:V}:gq False v=.no:=wQ id
def lgI(l:List Int)(i:Nat):Int:=l.getD i 0
def lgB(l:List Bool)(i:Nat):Bool:=l.getD i false
theorem atI{l:List Int}{i:Nat}(h:i<l.length):l[i]?=some (lgI l i):=by
 rw[lgI,List.getD_eq_getElem?_getD,List.getElem?_eq_getElem h];rfl
theorem atB{l:List Bool}{i:Nat}(h:i<l.length):l[i]?=some (lgB l i):=by
 rw[lgB,List.getD_eq_getElem?_getD,List.getElem?_eq_getElem h];rfl
section
variable (P:Program) (md:FuncId→Nat) (call:aR) (cfg:Cfg)
def wGq(p:Prop)(r:Option (V×Heap))[dst:Hid (Option Tmp)][ops:Hid (Array Oper)][l:Hid (List Oper)][fr:Hid (List V)][h:Hid Heap][Q:Hid ck]:Prop:=
 (p∧@wS P md call cfg dst fr r ops l Q)∨(¬ p∧@wO P md call cfg ops l (put fr.val dst.val .no) h.val Q)
end
section
variable {P:Program}{md:FuncId→Nat}{call:aR}{cfg:Cfg}{dst:Option Tmp}{op:Op}{ops:Array Oper}{l:List Oper}{fr:List V}{h:Heap}{Q:ck}
theorem az{p p':Prop}{r r':Option (V×Heap)}{dst:Hid (Option Tmp)}{ops:Hid (Array Oper)}{l:Hid (List Oper)}{fr:Hid (List V)}{h:Hid Heap}{Q:Hid ck}(hp:p=p')(hr:p'→r=r'):
  @wGq P md call cfg p r dst ops l fr h Q=@wGq P md call cfg p' r' dst ops l fr h Q:=by
 subst hp
 by_cases h:p
 ·rw[hr h]
 ·simp[wGq,h]
theorem bM{b want:Bool}:@wG P md call cfg (some (.bool b)) ⟨want⟩ ⟨dst⟩ ⟨op⟩ ⟨ops⟩ ⟨l⟩ ⟨fr⟩ ⟨h⟩ ⟨Q⟩↔@wGq P md call cfg ((b==want)=true) (aF P md call cfg fr h op) ⟨dst⟩ ⟨ops⟩ ⟨l⟩ ⟨fr⟩ ⟨h⟩ ⟨Q⟩:=by
 rw[ao]
 cases hb:(b==want)<;>simp[wGq]
theorem DR{b want:Bool}{c:Prop}:@wG P md call cfg (some (gq c (.bool b))) ⟨want⟩ ⟨dst⟩ ⟨op⟩ ⟨ops⟩ ⟨l⟩ ⟨fr⟩ ⟨h⟩ ⟨Q⟩↔@wGq P md call cfg (c∧(b==want)=true) (aF P md call cfg fr h op) ⟨dst⟩ ⟨ops⟩ ⟨l⟩ ⟨fr⟩ ⟨h⟩ ⟨Q⟩:=by
 by_cases hc:c
 ·rw[px hc,bM]
  simp[wGq,hc]
 ·rw[wQ hc,wG_no]
  simp[wGq,hc]
theorem aq{p:Prop}{v:V}:@wGq P md call cfg p (some (v,h)) ⟨dst⟩ ⟨ops⟩ ⟨l⟩ ⟨fr⟩ ⟨h⟩ ⟨Q⟩↔@wO P md call cfg ⟨ops⟩ ⟨l⟩ (put fr dst (gq p v)) h ⟨Q⟩:=by
 by_cases hp:p
 ·rw[px hp];simp[wGq,hp]
 ·rw[wQ hp];simp[wGq,hp]
theorem vS{r:Option (V×Heap)}:@wGq P md call cfg True r ⟨dst⟩ ⟨ops⟩ ⟨l⟩ ⟨fr⟩ ⟨h⟩ ⟨Q⟩↔@wS P md call cfg ⟨dst⟩ ⟨fr⟩ r ⟨ops⟩ ⟨l⟩ ⟨Q⟩:=by simp[wGq]
theorem cC{r:Option (V×Heap)}:@wGq P md call cfg False r ⟨dst⟩ ⟨ops⟩ ⟨l⟩ ⟨fr⟩ ⟨h⟩ ⟨Q⟩↔@wO P md call cfg ⟨ops⟩ ⟨l⟩ (put fr dst .no) h ⟨Q⟩:=by simp[wGq]
theorem bh{p:Prop}{x y:Bool}{h:Heap}(hp:p↔x=true):np (some (.bool x)) (some (gq p (.bool y))) (some (.bool false)) h=some (.bool (x&&y),h):=by
 cases x
 ·rfl
 ·rw[px (hp.2 rfl)];rfl
theorem bC{p:Prop}{x y:Bool}{h:Heap}(hp:p↔x=false):np (some (.bool x)) (some (.bool true)) (some (gq p (.bool y))) h=some (.bool (x||y),h):=by
 cases x
 ·rw[px (hp.2 rfl)];rfl
 ·rfl
end
end Go.Ab
namespace Go.Ab
def intOf:V→Int
 | .int _ n=>n
 | _=>0
def i1Of:List V→Int
 | [.int _ n]=>n
 | _=>0
def b1Of:List V→Bool
 | [.bool b]=>b
 | _=>false
@[simp] theorem i1Of_mk{k:IntKind}{n:Int}:i1Of [.int k n]=n:=rfl
@[simp] theorem b1Of_mk{b:Bool}:b1Of [.bool b]=b:=rfl
def IsB(v:V):Prop:=∃ b,v=.bool b
def IsI(k:IntKind)(v:V):Prop:=∃ z,v=.int k z
@[simp] theorem isB_mk{b:Bool}:IsB (.bool b):=⟨b,rfl⟩
@[simp] theorem isI_mk{k:IntKind}{z:Int}:IsI k (.int k z):=⟨z,rfl⟩
section
variable {P:Program}{md:FuncId→Nat}{prim:FuncId→Option Prim}{n:Nat}
theorem ik{d:Nat}{f:FuncId}{fn:Func}{c:Code}{k:Nat}{rs:List ResultVar}{args:List V}{Post:V→Prop}(hm:md f=0)(hp:prim f=none)(hf:P.funcs[f]?=some fn)(hb:fn.body=some c)(hk:fn.ntmps=k)
  (hr:fn.results.toList=rs) (ha:args.all V.noref=true)
  (hw:@wC P md (aI P md prim n d) ⟨0,[],0⟩ n ⟨c⟩ (args++List.replicate (k-args.length) .no) [] ⟨@kFn P ⟨rs⟩ ⟨fun r' h'=>∃ r,frz h' 0 6 r'=some r∧Post r⟩⟩):
  ∃ r,Post r∧∀ cfg h,af md (aI P md prim n (d+1)) cfg f args h=some (r,h):=by
 obtain⟨r',h',h1,r,h2,h3⟩:=cx hp hf hb hk hr hw
 exact⟨r,h3,fun cfg h=>by simp only[af,hm,ha,if_true,h1,h2]⟩
theorem callE{d:Nat}{f:FuncId}{fn:Func}{c:Code}{k:Nat}{rs:List ResultVar}{args':List V}{Post:V→Prop}(hp:prim f=none)(hf:P.funcs[f]?=some fn)(hb:fn.body=some c)(hk:fn.ntmps=k)
  (hr:fn.results.toList=rs) (ha:args'.all V.noref=true)
  (hw:@wC P md (aI P md prim n d) ⟨0,[],0⟩ n ⟨c⟩ (args'++List.replicate (k-args'.length) .no) [] ⟨@kFn P ⟨rs⟩ ⟨fun r' h'=>own h' 6 r'=true∧∃ r,frz h' 0 6 r'=some r∧Post r⟩⟩):
  ∃ r,Post r∧(md f=0→∀ cfg h,af md (aI P md prim n (d+1)) cfg f args' h=some (r,h)) ∧
   (md f=3→∀ cfg h args,args.mapM (frzA h)=some args'→af md (aI P md prim n (d+1)) cfg f args h=some (r,h)):=by
 obtain⟨r',h',h1,h2,r,h3,h4⟩:=cx hp hf hb hk hr hw
 exact⟨r,h4,fun hm cfg h=>by simp only[af,hm,ha,if_true,h1,h3],fun hm cfg h args hA=>by simp only[af,hm,hA,h1,h2,h3,if_true]⟩
end
end Go.Ab
namespace Go.Ab
open Go.Proofs Go.Proofs.Tryz
namespace Bi
attribute [local congr] az
abbrev bl(l:List Bool):V:=.lst (l.map fun b=>[.bool b])
section
variable {prim:FuncId→Option Prim}(d:Nat) (cfg:Cfg) (h:Heap)
end
end Bi
end Go.Ab
namespace Go.Ab
theorem cX{α:Type}{f:α→List V}{n:Nat}(hf:∀ x,(f x).length=n):∀ l:List α,(l.flatMap f).length=l.length*n
 | []=>by simp
 | x::l=>by rw[List.flatMap_cons,List.length_append,hf,cX hf l,List.length_cons,Nat.add_mul];omega
theorem oP{α:Type}{f:α→List V}{n:Nat}(hf:∀ x,(f x).length=n):∀ l:List α,chunk n l.length (l.flatMap f)=l.map f
 | []=>rfl
 | x::l=>by
  have h1:(x::l).flatMap f=f x++l.flatMap f:=List.flatMap_cons
  rw[h1,List.length_cons,chunk,List.take_append_of_le_length (by rw[hf];exact Nat.le_refl _),List.drop_append_of_le_length (by rw[hf];exact Nat.le_refl _)]
  have e1:(f x).take n=f x:=by rw[← hf x,List.take_length]
  have e2:(f x).drop n=[]:=by rw[← hf x,List.drop_length]
  rw[e1,e2,List.nil_append,oP hf l,List.map_cons]
theorem OwnC.frzF{α:Type}{f:α→List V}{n:Nat}(hf:∀ x,(f x).length=n)(hn:0<n){h:Heap}{lo m d:Nat}{v:V}{l:List α}(ho:OwnC h lo n v (l.flatMap f))(hm:m≤lo)(hr:∀ x,(f x).all V.rf=true)(hnn:∀ x,∀ c∈f x,c≠.nils):Go.Ab.frz h m (d+2) v=some (.lst (l.map f)):=by
 have h1:(l.flatMap f).all V.rf=true:=by
  rw[List.all_eq_true]
  intro c hc
  obtain⟨x,_,hx⟩:=List.mem_flatMap.1 hc
  exact List.all_eq_true.1 (hr x) c hx
 have h2:∀ c∈l.flatMap f,c≠.nils:=fun c hc=>by
  obtain⟨x,_,hx⟩:=List.mem_flatMap.1 hc
  exact hnn x c hx
 rw[ho.frz hm h1 h2 hn,cX hf,Nat.mul_div_cancel _ hn,oP hf]
theorem setI{k:IntKind}{l:List Int}{i:Nat}{x:Int}:bV (l.map (V.int k)) i (.int k x)=(l.set i x).map (V.int k):=by rw[bV,List.map_set]
theorem setB{l:List Bool}{i:Nat}{x:Bool}:bV (l.map V.bool) i (.bool x)=(l.set i x).map V.bool:=by rw[bV,List.map_set]
theorem mQ:∀ n,bm [V.bool false] n=(List.replicate n false).map V.bool
 | 0=>rfl
 | n+1=>by rw[bm,mQ n,List.replicate_succ];rfl
theorem kO:∀ n,bm [V.int .i64 0] n=(List.replicate n 0).map (V.int .i64)
 | 0=>rfl
 | n+1=>by rw[bm,kO n,List.replicate_succ];rfl
theorem pr{α:Type}{f:α→V}:∀ l:List α,(l.flatMap fun x=>[f x])=l.map f
 | []=>rfl
 | x::l=>by rw[List.flatMap_cons,pr l];rfl
theorem zU{h:Heap}{n d b len cap:Nat}{l:List Bool}(hb:ab h b=some (l.map V.bool))(hn:n≤b)(hl:l.length=len):frz h n (d+2) (.sl b 0 len cap 1)=some (.lst (l.map fun x=>[.bool x])):=by
 have h1:OwnC h n 1 (.sl b 0 len len 1) (l.flatMap fun x=>[V.bool x]):=.inr ⟨b,len,rfl,by rw[pr];simp;omega,hn,by rw[hb,pr]⟩
 have h2:=OwnC.frzF (ho:=h1) (f:=fun x=>[V.bool x]) (n:=1) (m:=n) (d:=d) (fun _=>rfl) (by omega) (Nat.le_refl _) (fun _=>rfl) (fun x c hc=>by simp at hc;subst hc;simp)
 rw[iu,if_neg (by omega)]at h2 ⊢
 exact h2
end Go.Ab
namespace Go.Ab
open Go.Proofs Go.Proofs.Tryz
namespace Bi
attribute [local congr] az
section
variable {prim:FuncId→Option Prim}(d:Nat) (cfg:Cfg) (h:Heap)
end
end Bi
end Go.Ab
