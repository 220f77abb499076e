/- Several texts of this proof in one. -/
import Derived.Test.YteddnfbjjbcmgaaGreatAbW7
import Derived.Test.YteddnfbjjbcmgaaGreatAbW3
set_option linter.unusedSimpArgs false
set_option linter.unusedVariables false
namespace Go.Ab
open Go.Proofs Go.Proofs.Tryz
namespace Bi
def asc:List Row→Bool
 | a::b::r=>decide (a.2.1<b.2.1)&&asc (b::r)
 | _=>true
theorem ux:∀ (t:List Row) (a:Row),asc (a::t)=true→∀ y∈t,a.2.1<y.2.1
 | [],a,_,y,hy=>by simp at hy
 | b::t,a,h,y,hy=>by
  simp only[asc,Bool.and_eq_true,decide_eq_true_eq]at h
  rcases List.mem_cons.1 hy with rfl|hy
  ·exact h.1
  ·have:=ux t b h.2 y hy
   omega
theorem BO{a:Row}{t:List Row}(h:asc (a::t)=true):asc t=true:=by
 cases t with
 | nil=>rfl
 | cons b t=>simp only[asc,Bool.and_eq_true]at h;exact h.2
theorem BN:∀ (t:List Row),asc t=true→∀ (i j:Nat) (x y:Row),i<j→t[i]?=some x→t[j]?=some y→x.2.1<y.2.1
 | [],_,i,j,x,y,_,hx,_=>by simp at hx
 | a::t,h,0,j+1,x,y,_,hx,hy=>by
  simp at hx
  subst hx
  exact ux t a h y (List.mem_of_getElem? (by simpa using hy))
 | a::t,h,i+1,j+1,x,y,hij,hx,hy=>BN t (BO h) i j x y (by omega) (by simpa using hx) (by simpa using hy)
 | a::t,h,i,0,x,y,hij,_,_=>by omega
def findS(r:Int):Row:=
 if 44032≤r∧r≤55203 then (if (r-44032)%28=0 then (0,0,12,3,18,0,0) else (0,0,13,3,18,0,0))
 else if r≤161 then bq tab1 r else if r≤1642 then bq tab2 r else if r≤8237 then bq tab3 r else bq tab4 r
def cJ(r:Int):Int:=(findS r).2.2.2.2.2.1
theorem ik(new cs:List V)(h:cs.length=new.length):putAt cs 0 new=new:=by
 have:=im new [] cs (by omega)
 simp only[List.nil_append,List.length_nil]at this
 rw[this,List.drop_eq_nil_of_le (by omega),List.append_nil]
def gw(n:Nat):List V:=aQ (List.replicate n kA)
theorem qT(n:Nat):(gw n).length=n*7:=by simp[gw,dN]
section
variable {prim:FuncId→Option Prim}(d:Nat) (cfg:Cfg) (h:Heap)
theorem Gr(hp:prim 87=none):af md (K prim (d+1)) cfg 87 [] h=some (.agg (aQ tab1),h):=by
 have hk:K prim (d+1) ⟨0,[],0⟩ 87 [] []=some (.agg (aQ tab1),[some (aQ tab1)]):=by
  simp only[K,aF,hp]
  kernel_rfl
 have hf:frz [some (aQ tab1)] 0 6 (.agg (aQ tab1))=some (.agg (aQ tab1)):=by kernel_rfl
 simp only[af,show md 87=0 from rfl,List.all_nil,if_true,hk,hf]
theorem Gs(hp:prim 89=none):af md (K prim (d+1)) cfg 89 [] h=some (.agg (aQ tab2),h):=by
 have hk:K prim (d+1) ⟨0,[],0⟩ 89 [] []=some (.agg (aQ tab2),[some (aQ tab2)]):=by
  simp only[K,aF,hp]
  kernel_rfl
 have hf:frz [some (aQ tab2)] 0 6 (.agg (aQ tab2))=some (.agg (aQ tab2)):=by kernel_rfl
 simp only[af,show md 89=0 from rfl,List.all_nil,if_true,hk,hf]
theorem Gt(hp:prim 90=none):af md (K prim (d+1)) cfg 90 [] h=some (.agg (aQ tab3),h):=by
 have hk:K prim (d+1) ⟨0,[],0⟩ 90 [] []=some (.agg (aQ tab3),[some (aQ tab3)]):=by
  simp only[K,aF,hp]
  kernel_rfl
 have hf:frz [some (aQ tab3)] 0 6 (.agg (aQ tab3))=some (.agg (aQ tab3)):=by kernel_rfl
 simp only[af,show md 90=0 from rfl,List.all_nil,if_true,hk,hf]
theorem Gu(hp:prim 91=none):af md (K prim (d+1)) cfg 91 [] h=some (.agg (aQ tab4),h):=by
 have hk:K prim (d+1) ⟨0,[],0⟩ 91 [] []=some (.agg (aQ tab4),[some (aQ tab4)]):=by
  simp only[K,aF,hp]
  kernel_rfl
 have hf:frz [some (aQ tab4)] 0 6 (.agg (aQ tab4))=some (.agg (aQ tab4)):=by kernel_rfl
 simp only[af,show md 91=0 from rfl,List.all_nil,if_true,hk,hf]
theorem z91:zeroOf prog 127=some (.agg (gw 44)):=by kernel_rfl
theorem z95:zeroOf prog 131=some (.agg (gw 41)):=by kernel_rfl
theorem ls1:tab1.length=44:=rfl
theorem ls2:tab2.length=44:=rfl
theorem ls3:tab3.length=44:=rfl
theorem ls4:tab4.length=41:=rfl
theorem sl91{h:Heap}{b:Nat}:dp prog h 127 (.ptr b 0) none none=(ab h b).bind fun cs=>if 308≤cs.length then some (.sl b 0 44 44 7) else none:=by
 have hu:prog.underlying 127=some (.array 44 106):=by kernel_rfl
 have hs:cD prog 106=some 7:=by kernel_rfl
 simp only[dp,hu,hs]
 cases ab h b<;>simp
theorem sl95{h:Heap}{b:Nat}:dp prog h 131 (.ptr b 0) none none=(ab h b).bind fun cs=>if 287≤cs.length then some (.sl b 0 41 41 7) else none:=by
 have hu:prog.underlying 131=some (.array 41 106):=by kernel_rfl
 have hs:cD prog 106=some 7:=by kernel_rfl
 simp only[dp,hu,hs]
 cases ab h b<;>simp
theorem wrap32{n:Int}(h1:-2147483648≤n)(h2:n≤2147483647):IntKind.i32.wrap n=n:=by
 have:=IntWalk.i32_in n ⟨by omega,by omega⟩
 exact this
theorem oO(hp:prim 88=none)(t:List Row)(ht:t.length≤100)(hs:asc t=true)(r:Int)(y:Option (List V))(n:Nat)(hn:n=t.length):
  af md (K prim (d+1)) ⟨0,[],0⟩ 88 [.sl 1 0 n n 7,.int .i32 r] [y,some (aQ t)]=some (.agg (dU (bq t r)),[y,some (aQ t)]):=by
 subst hn
 refine Bh (prim:=prim) d _ _ hp t ht (BN t hs) r ?_
 have hb:ab [y,some (aQ t)] 1=some (aQ t):=by
  rw[dR,lz,ei];rfl
 simp[List.mapM_cons,CE hb]
set_option maxHeartbeats 2000000 in
theorem oA(hp:∀ f,Np5 f→prim f=none)(r:Int):af md (K prim (d+2)) cfg 60 [.int .i32 r] h=some (.agg (dU (findS r)),h):=by
 refine aZ rfl (hp 60 (by decide)) func60 rfl rfl rfl (by simp) ?_
 have h1:=fun cfg h=>Gr (prim:=prim) d cfg h (hp 87 (by decide))
 have h2:=fun cfg h=>Gs (prim:=prim) d cfg h (hp 89 (by decide))
 have h3:=fun cfg h=>Gt (prim:=prim) d cfg h (hp 90 (by decide))
 have h4:=fun cfg h=>Gu (prim:=prim) d cfg h (hp 91 (by decide))
 have s1:=fun y=>oO (prim:=prim) d (hp 88 (by decide)) tab1 (by simp[ls1]) (by kernel_rfl) r y 44 ls1.symm
 have s2:=fun y=>oO (prim:=prim) d (hp 88 (by decide)) tab2 (by simp[ls2]) (by kernel_rfl) r y 44 ls2.symm
 have s3:=fun y=>oO (prim:=prim) d (hp 88 (by decide)) tab3 (by simp[ls3]) (by kernel_rfl) r y 44 ls3.symm
 have s4:=fun y=>oO (prim:=prim) d (hp 88 (by decide)) tab4 (by simp[ls4]) (by kernel_rfl) r y 41 ls4.symm
 have fz:∀ (H:Heap) (x:Row),frz H 0 6 (.agg (dU x))=some (.agg (dU x)):=fun H ⟨a,b,c,d,e,f,g⟩=>rfl
 unfold findS
 have l1:(aQ tab1).length=308:=by rw[dN,ls1]
 have l2:(aQ tab2).length=308:=by rw[dN,ls2]
 have l3:(aQ tab3).length=308:=by rw[dN,ls3]
 have l4:(aQ tab4).length=287:=by rw[dN,ls4]
 have z1:(gw 44).length=308:=qT 44
 have z2:(gw 41).length=287:=qT 41
 have zm:∀ n,isMap (gw n)=false:=fun n=>ei _
 have p1:=ik (aQ tab1) (gw 44) (by rw[l1,z1])
 have p2:=ik (aQ tab2) (gw 44) (by rw[l2,z1])
 have p3:=ik (aQ tab3) (gw 44) (by rw[l3,z1])
 have p4:=ik (aQ tab4) (gw 41) (by rw[l4,z2])
 have ro:∀ x:Row,dU x=[.int .i32 x.1,.int .i32 x.2.1,.int .u8 x.2.2.1,.int .u8 x.2.2.2.1,.int .u8 x.2.2.2.2.1,.int .u8 x.2.2.2.2.2.1,.int .u8 x.2.2.2.2.2.2]:=fun ⟨a,b,c,d,e,f,g⟩=>rfl
 by_cases c1:44032≤r∧r≤55203
 ·have m1:(r-44032).tmod 28=(r-44032)%28:=Int.tmod_eq_emod_of_nonneg (by omega)
  by_cases c0:(r-44032)%28=0
  ·simp(disch:=omega)[c1.1,c1.2,wrap32,m1,c0,dU]
  ·simp(disch:=omega)[c1.1,c1.2,wrap32,m1,c0,dU]
 ·have n1:(decide (44032≤r)&&decide (r≤55203))=false:=by simpa using c1
  by_cases c2:r≤161
  ·have n1:¬ 44032≤r:=by omega
   have s:=s1 (some (dU kA))
   simp only[dU,kA]at s
   simp(disch:=omega)[n1,c2,h1,z91,fG,fX,ei,zm,l1,z1,p1,sl91,s,ro,-Tryz.zr127]
  ·by_cases c3:r≤1642
   ·have n1:¬ 44032≤r:=by omega
    have s:=s2 (some (dU kA))
    simp only[dU,kA]at s
    simp(disch:=omega)[n1,c2,c3,h2,z91,fG,fX,ei,zm,l2,z1,p2,sl91,s,ro,-Tryz.zr127]
   ·by_cases c4:r≤8237
    ·have n1:¬ 44032≤r:=by omega
     have s:=s3 (some (dU kA))
     simp only[dU,kA]at s
     simp(disch:=omega)[n1,c2,c3,c4,h3,z91,fG,fX,ei,zm,l3,z1,p3,sl91,s,ro,-Tryz.zr127]
    ·have s:=s4 (some (dU kA))
     simp only[dU,kA]at s
     have c1':44032≤r→¬ r≤55203:=fun a b=>c1 ⟨a,b⟩
     by_cases n0:44032≤r
     ·simp(disch:=omega)[n0,c1' n0,c2,c3,c4,h4,z95,fG,fX,ei,zm,l4,z2,p4,sl95,s,ro,-Tryz.zr131]
     ·simp(disch:=omega)[n0,c2,c3,c4,h4,z95,fG,fX,ei,zm,l4,z2,p4,sl95,s,ro,-Tryz.zr131]
theorem ja(t:List Row)(ht:t.all (fun x=>decide (0≤x.2.2.2.2.2.1)&&decide (x.2.2.2.2.2.1≤22))=true)(r:Int):0≤(bq t r).2.2.2.2.2.1∧(bq t r).2.2.2.2.2.1≤22:=by
 unfold bq
 split
 ·rename_i x hx
  have hm:=List.mem_of_find?_eq_some hx
  have:=List.all_eq_true.1 ht x hm
  simp at this
  split
  ·exact this
  ·simp[kA]
 ·simp[kA]
theorem BU(r:Int):0≤cJ r∧cJ r≤22:=by
 unfold cJ findS
 split
 ·split<;>simp
 ·split
  ·exact ja tab1 (by decide) r
  ·split
   ·exact ja tab2 (by decide) r
   ·split
    ·exact ja tab3 (by decide) r
    ·exact ja tab4 (by decide) r
@[simp] theorem cv5_3{h:Heap}{k:IntKind}{n:Int}:fB prog h 5 3 (.int k n)=some (.int .i64 (IntKind.i64.wrap n),h):=by kernel_rfl
theorem oo(hp:∀ f,Np5 f→prim f=none)(r:Int):af md (K prim (d+3)) cfg 111 [.int .i32 r] h=some (.int .i64 (cJ r),h):=by
 refine aZ rfl (hp 111 (by decide)) func111 rfl rfl rfl (by simp) ?_
 have hf:=fun cfg h=>oA (prim:=prim) d cfg h hp r
 have hb:=BU r
 unfold cJ at hb ⊢
 generalize findS r=x at hf hb ⊢
 obtain⟨a,b,c,d,e,f,g⟩:=x
 simp only[dU]at hf
 simp only at hb
 simp(disch:=omega)[hf,wrap64]
end
end Bi
end Go.Ab
namespace Go.Ab
open Go.Proofs Go.Proofs.Tryz
namespace Bi
def refTbl:List (Int×List Int):=[(-1,[0,0,0,0,0]),(8,[3,0,7,9,0]),(9,[3,0,10,11,0]),(10,[2,1,3,10,0]),(11,[3,1,1,11,0]),(12,[3,1,1,12,0]),(13,[1,1,2,10,0]),(31,[3,0,7,9,0]),(32,[0,2,4,12,0]),(33,[0,0,15,13,0]),(34,[0,0,14,13,0]),(37,[0,0,0,5,0]),(38,[0,0,0,13,0]),(39,[0,7,14,13,0]),(40,[0,0,12,13,0]),(41,[0,0,13,13,0]),(42,[0,0,0,13,0]),(43,[0,0,0,4,0]),(44,[0,6,16,7,0]),(45,[0,0,11,4,0]),(46,[0,7,16,7,0]),(47,[0,0,10,7,0]),(57,[0,4,17,3,0]),(58,[0,5,16,7,0]),(59,[0,6,16,13,0]),(62,[0,0,0,13,0]),(63,[0,0,15,13,0]),(64,[0,0,0,13,0]),(90,[0,3,0,0,0]),(91,[0,0,12,13,0]),(92,[0,0,0,13,0]),(93,[0,0,13,13,0]),(94,[0,0,0,13,0]),(95,[0,8,0,13,0]),(96,[0,0,0,13,0]),(122,[0,3,0,0,0]),(123,[0,0,12,13,0]),(124,[0,0,10,13,0]),(125,[0,0,13,13,0]),(126,[0,0,0,13,0]),(132,[3,0,7,9,0]),(133,[3,1,1,10,0]),(159,[3,0,7,9,0]),(160,[0,0,9,7,0]),(161,[0,0,12,13,0]),(165,[0,0,0,5,0]),(169,[0,0,0,13,0]),(170,[0,3,0,0,0]),(171,[0,0,14,13,0]),(172,[0,0,0,13,0]),(173,[3,10,10,9,4]),(180,[0,0,0,13,0]),(181,[0,3,0,0,0]),(182,[0,0,0,13,0]),(183,[0,5,0,13,0]),(185,[0,0,0,13,0]),(186,[0,3,0,0,0]),(187,[0,0,14,13,0]),(191,[0,0,0,13,0]),(767,[0,3,0,0,0]),(879,[4,10,7,8,4]),(1423,[0,3,0,0,0]),(1469,[4,10,7,8,4]),(1470,[0,0,10,1,0]),(1479,[4,10,7,8,4]),(1487,[0,0,0,0,0]),(1514,[0,3,0,1,0]),(1535,[0,0,0,0,0]),(1541,[7,0,0,6,0]),(1547,[0,0,0,0,0]),(1548,[0,6,16,7,0]),(1551,[0,0,0,0,0]),(1562,[4,10,7,8,4]),(1563,[0,0,15,2,0]),(1564,[3,10,7,2,4]),(1566,[0,0,0,0,0]),(1567,[0,0,15,2,0]),(1568,[0,3,0,2,2]),(1569,[0,3,0,2,0]),(1573,[0,3,0,2,1]),(1574,[0,3,0,2,2]),(1575,[0,3,0,2,1]),(1576,[0,3,0,2,2]),(1577,[0,3,0,2,1]),(1582,[0,3,0,2,2]),(1586,[0,3,0,2,1]),(1599,[0,3,0,2,2]),(1600,[0,3,0,2,3]),(1607,[0,3,0,2,2]),(1608,[0,3,0,2,1]),(1610,[0,3,0,2,2]),(1631,[4,10,7,8,4]),(1641,[0,4,17,6,0]),(1642,[0,0,0,5,0]),(1644,[0,6,16,6,0]),(1647,[0,0,0,0,0]),(1648,[4,10,7,8,4]),(1655,[0,3,0,2,1]),(1671,[0,3,0,2,2]),(1689,[0,3,0,2,1]),(1727,[0,3,0,2,2]),(1739,[0,3,0,2,1]),(1747,[0,3,0,2,2]),(1749,[0,0,0,0,0]),(1756,[4,10,7,8,4]),(1775,[0,0,0,0,0]),(1785,[0,4,17,3,0]),(2303,[0,0,0,0,0]),(2306,[4,10,7,8,0]),(2307,[8,10,7,0,0]),(2361,[0,3,0,0,0]),(2363,[0,0,0,0,0]),(2364,[4,10,7,8,0]),(2365,[0,0,0,0,0]),(2368,[8,10,7,0,0]),(2376,[4,10,7,8,0]),(2380,[8,10,7,0,0]),(2381,[4,10,7,8,0]),(2405,[0,0,0,0,0]),(2415,[0,4,17,0,0]),(4351,[0,0,0,0,0]),(4447,[9,3,18,0,0]),(4519,[10,3,18,0,0]),(4607,[11,3,18,0,0]),(8191,[0,0,0,0,0]),(8198,[0,2,10,12,0]),(8199,[0,0,9,12,0]),(8202,[0,2,10,12,0]),(8203,[3,0,5,9,0]),(8204,[4,10,7,9,0]),(8205,[5,11,6,9,3]),(8206,[3,10,7,0,4]),(8207,[3,10,7,1,4]),(8208,[0,0,10,13,0]),(8209,[0,0,9,13,0]),(8212,[0,0,10,13,0]),(8215,[0,0,0,13,0]),(8216,[0,0,14,13,0]),(8217,[0,7,14,13,0]),(8218,[0,0,12,13,0]),(8219,[0,0,0,0,0]),(8221,[0,0,14,13,0]),(8231,[0,0,0,0,0]),(8232,[3,1,1,12,0]),(8233,[3,1,1,10,0]),(8234,[3,10,7,14,4]),(8235,[3,10,7,16,4]),(8236,[3,10,7,18,4]),(8237,[3,10,7,15,4]),(8238,[3,10,7,17,4]),(8239,[0,0,0,0,0]),(8244,[0,0,0,5,0]),(8254,[0,0,0,0,0]),(8256,[0,8,0,13,0]),(8287,[0,0,0,0,0]),(8288,[3,10,8,9,4]),(8293,[0,0,0,0,0]),(8294,[3,10,7,19,0]),(8295,[3,10,7,20,0]),(8296,[3,10,7,21,0]),(8297,[3,10,7,22,0]),(8351,[0,0,0,0,0]),(8399,[0,0,0,5,0]),(8432,[4,10,7,8,4]),(8591,[0,0,0,0,0]),(8959,[0,0,0,13,0]),(9727,[0,0,0,0,0]),(10175,[14,0,18,13,0]),(12287,[0,0,0,0,0]),(12288,[0,2,10,12,0]),(12290,[0,0,13,13,0]),(12292,[0,0,0,0,0]),(12295,[0,0,18,0,0]),(12296,[0,0,12,13,0]),(12297,[0,0,13,13,0]),(12298,[0,0,12,13,0]),(12299,[0,0,13,13,0]),(12300,[0,0,12,13,0]),(12301,[0,0,13,13,0]),(12302,[0,0,12,13,0]),(12303,[0,0,13,13,0]),(12304,[0,0,12,13,0]),(12305,[0,0,13,13,0]),(12352,[0,0,0,0,0]),(12438,[0,0,18,0,0]),(12440,[0,0,0,0,0]),(12442,[4,10,7,8,4]),(12448,[0,0,0,0,0]),(12538,[0,9,18,0,0]),(12539,[0,0,0,0,0]),(12540,[0,9,18,0,0]),(13311,[0,0,0,0,0]),(40959,[0,0,18,0,0]),(64284,[0,0,0,0,0]),(64335,[0,3,0,1,0]),(65023,[0,3,0,2,0]),(65039,[4,10,7,8,4]),(65135,[0,0,0,0,0]),(65276,[0,3,0,2,0]),(65278,[0,0,0,0,0]),(65279,[3,10,8,9,4]),(127461,[0,0,0,0,0]),(127487,[6,12,19,0,0]),(127743,[0,0,0,0,0]),(127994,[14,0,18,13,0]),(127999,[4,10,7,13,4]),(129791,[14,0,18,13,0]),(131071,[0,0,0,0,0]),(262141,[0,0,18,0,0]),(917759,[0,0,0,0,0]),(917999,[4,10,7,8,4])]
def pT:List V→Option (List Int)
 | []=>some []
 | .int .i64 n::r=>(pT r).map (n::·)
 | _=>none
def mN:List (Nat×Operand)→Bool
 | []=>true
 | (_,.const _)::r=>mN r
 | _=>false
noncomputable def tR(ps:List (Nat×Operand)):Option (List Int):=
 if mN ps then match cE [] ps with
  | some vs=>match cq prog 114 vs with
   | some (.agg cs)=>pT cs
   | _=>none
  | none=>none
 else none
def GM(op:BinOp)(n:Int):Option Int:=match op with
 | .leq=>some n
 | .lss=>some (n-1)
 | _=>none
def okT(a:Nat):Bool:=decide (3≤a)&&decide (a<862)
theorem oL{a:Nat}(h:okT a=true):3≤a∧a<862:=by
 unfold okT at h
 rw[Bool.and_eq_true,decide_eq_true_eq,decide_eq_true_eq]at h
 exact h
noncomputable def lk:Code→Option (Int×List Int×Code)
 | .seq (.region _ o1 false) (.cond (.tmp c) (.seq (.region _ o2 false) .ret) rest) =>
  match o1.toList,o2.toList with
  | [⟨some a,.move (.tmp 0),_,_,_,none⟩,⟨some b,.binOp op 21 (.tmp a') (.const (.int .i32 n)) _,_,_,_,none⟩,⟨some c',.assign (.tmp b'),_,_,_,none⟩],[⟨some e,.build 114 ps,_,_,_,none⟩,⟨none,.store 114 (.tmp 2) (.tmp e'),_,_,_,none⟩] =>
   if a=a'∧b=b'∧c=c'∧e=e'∧okT a=true∧okT b=true∧okT c=true∧okT e=true then match GM op n,tR ps.toList with
    | some m,some l=>if l.length=5 then some (m,l,rest) else none
    | _,_=>none
   else none
  | _,_=>none
 | _=>none
theorem kD{fr:List V}:∀ {ps:List (Nat×Operand)},mN ps=true→cE fr ps=cE [] ps
 | [],_=>rfl
 | (i,.const v)::r,h=>by
  have ih:=kD (fr:=fr) (ps:=r) h
  simp only[cE,ev,ih]
 | (_,.tmp _)::_,h=>by simp[mN]at h
 | (_,.global _)::_,h=>by simp[mN]at h
 | (_,.func _)::_,h=>by simp[mN]at h
theorem nF:∀ {cs:List V}{l:List Int},pT cs=some l→cs=l.map (V.int .i64)
 | [],l,h=>by simp[pT]at h;subst h;rfl
 | c::r,l,h=>by
  unfold pT at h
  split at h
  ·rename_i heq;cases heq
  ·rename_i n r' heq
   cases heq
   obtain⟨l',h1,rfl⟩:=Option.map_eq_some_iff.1 h
   rw[nF h1]
   rfl
  ·cases h
theorem tS{ps:List (Nat×Operand)}{l:List Int}(h:tR ps=some l)(fr:List V):∃ vs,cE fr ps=some vs∧cq prog 114 vs=some (.agg (l.map (V.int .i64))):=by
 unfold tR at h
 split at h
 ·rename_i hc
  rw[← kD (fr:=fr) hc]at h
  split at h
  ·rename_i vs hv
   split at h
   ·rename_i cs hb
    rw[nF h]at hb
    exact⟨vs,hv,hb⟩
   ·cases h
  ·cases h
 ·cases h
section
variable {md':FuncId→Nat}{call:bg}{cfg:Cfg}{n:Nat}
theorem mf{fr:List V}{a:Nat}{v:V}(h:a<fr.length):(put fr (some a) v)[a]?=some v:=by
 simp only[put]
 rw[List.getElem?_set_self h]
theorem jC{fr:List V}{a k:Nat}{v:V}(h:a≠k):(put fr (some a) v)[k]?=fr[k]?:=by
 simp only[put]
 rw[List.getElem?_set_ne h]
theorem jY{fr:List V}{a:Nat}{v:V}:(put fr (some a) v).length=fr.length:=by simp[put]
theorem Jw:cD prog 114=some 5:=by kernel_rfl
theorem lk_ok{C rest:Code}{m r:Int}{l:List Int}(hl:lk C=some (m,l,rest)){fr:List V}{z:List V}{Q:dQ}(hz:z.length=5)(hzm:isMap z=false)(hf:fr.length=862)(h0:fr[0]?=some (.int .i32 r))(h2:fr[2]?=some (.ptr 0 0))(hw:cfg.wr 0=true)
  (hy:r≤m→∀ fr':List V,fr'[2]?=some (.ptr 0 0)→Q .ret fr' [some (l.map (V.int .i64))])
  (hn:m<r→∀ fr':List V,fr'.length=862→fr'[0]?=some (.int .i32 r)→fr'[2]?=some (.ptr 0 0)→@wC prog md' call cfg n ⟨rest⟩ fr' [some z] ⟨Q⟩):
  @wC prog md' call cfg n ⟨C⟩ fr [some z] ⟨Q⟩:=by
 unfold lk at hl
 split at hl
 ·rename_i i1 o1 c i2 o2 rest'
  split at hl
  ·rename_i a t1 p1 f1 b op a' m' g t2 p2 f2 c' b' t3 p3 f3 e ps t4 p4 f4 e' t5 p5 f5 ho1 ho2
   split at hl
   ·rename_i hc
    obtain⟨rfl,rfl,rfl,rfl,ha,hb,hcc,he⟩:=hc
    obtain⟨a,rfl⟩:∃ x:Nat,a=x:=⟨a,rfl⟩
    obtain⟨b,rfl⟩:∃ x:Nat,b=x:=⟨b,rfl⟩
    obtain⟨c,rfl⟩:∃ x:Nat,c=x:=⟨c,rfl⟩
    obtain⟨e,rfl⟩:∃ x:Nat,e=x:=⟨e,rfl⟩
    have ha:=oL ha
    have hb:=oL hb
    have hcc:=oL hcc
    have he:=oL he
    split at hl
    ·rename_i m2 l2 hbd hr
     split at hl
     ·rename_i hl5
      cases hl
      obtain⟨vs,hv1,hv2⟩:=tS hr (put (put (put fr (some a) (.int .i32 r)) (some b) (.bool (decide (r≤m)))) (some c) (.bool (decide (r≤m))))
      have hbin:cF prog op 21 (.int .i32 r) (.int .i32 m')=some (.bool (decide (r≤m))):=by
       unfold GM at hbd
       split at hbd
       ·cases hbd;simp[cF,bK]
       ·cases hbd
        have hlt:decide (r<m')=decide (r≤m'-1):=by rw[decide_eq_decide];omega
        simp[cF,bK,hlt]
       ·cases hbd
      obtain⟨F,hF⟩:∃ F,F=put (put (put fr (some a) (.int .i32 r)) (some b) (.bool (decide (r≤m)))) (some c) (.bool (decide (r≤m))):=⟨_,rfl⟩
      rw[← hF]at hv1
      have hFl:F.length=862:=by rw[hF,jY,jY,jY];exact hf
      have hF0:F[0]?=some (.int .i32 r):=by rw[hF,jC (by omega),jC (by omega),jC (by omega)];exact h0
      have hF2:F[2]?=some (.ptr 0 0):=by rw[hF,jC (by omega),jC (by omega),jC (by omega)];exact h2
      have hFc:F[c]?=some (.bool (decide (r≤m))):=by rw[hF,mf (by rw[jY,jY];omega)]
      have hrun:cH prog md' call cfg o1 o1.toList fr [some z]=some (F,[some z]):=by
       rw[ho1]
       have e1:ev (put fr (some a) (.int .i32 r)) (.tmp a)=some (.int .i32 r):=mf (by omega)
       have e2:ev (put (put fr (some a) (.int .i32 r)) (some b) (.bool (decide (r≤m)))) (.tmp b)=some (.bool (decide (r≤m))):=mf (by rw[jY];omega)
       have e0:ev fr (.tmp 0)=some (.int .i32 r):=h0
       have hcst:∀ fr,ev fr (.const (.int .i32 m'))=some (.int .i32 m'):=fun _=>rfl
       simp only[cH,fk,cU,aH,opV,e0,Option.map_some,e1,hcst,hbin,e2,hF]
      have hF3:ev F (.tmp c)=some (.bool (decide (r≤m))):=hFc
      by_cases hrm:r≤m
      ·have hrun2:cH prog md' call cfg o2 o2.toList F [some z]=some (put F (some e) (.agg (l.map (V.int .i64))),[some (l.map (V.int .i64))]):=by
        rw[ho2]
        have e3:ev (put F (some e) (.agg (l.map (V.int .i64)))) (.tmp 2)=some (.ptr 0 0):=by
         show (put F (some e) _)[2]?=_
         rw[jC (by omega)]
         exact hF2
        have e4:ev (put F (some e) (.agg (l.map (V.int .i64)))) (.tmp e)=some (.agg (l.map (V.int .i64))):=mf (by omega)
        have hcl:cellsOf (.agg (l.map (V.int .i64)))=some (l.map (V.int .i64)):=by
         show (if (l.map (V.int .i64)).all V.leaf=true then some (l.map (V.int .i64)) else none)=_
         rw[if_pos]
         rw[List.all_eq_true]
         intro x hx
         obtain⟨y,_,rfl⟩:=List.mem_map.1 hx
         rfl
        have hrf:(l.map (V.int .i64)).all V.rf=true:=by simp
        have hst:aW prog cfg [some z] 114 (.ptr 0 0) (.agg (l.map (V.int .i64)))=some [some (l.map (V.int .i64))]:=by
         rw[aU Jw,hcl,wW,if_pos (by simpa using hl5),fA]
         have hb:ab [some z] 0=some z:=by simp[ab,hzm]
         rw[hb]
         simp only[Option.bind_some,hw,hrf,Bool.or_true,Bool.and_true,List.length_map,hl5,hz,Nat.zero_add,Nat.le_refl,decide_true,if_true]
         rw[ik (l.map (V.int .i64)) z (by simp[hz,hl5])]
         rfl
        simp only[cH,fk,cU,aH,opV,hv1,hv2,Option.map_some,e3,e4,hst]
        rfl
       refine⟨(.ret,put F (some e) (.agg (l.map (V.int .i64))),[some (l.map (V.int .i64))]),?_,hy hrm _ ?_⟩
       ·simp only[code,hrun,hF3,hrm,decide_true,hrun2]
       ·show (put F (some e) _)[2]?=_
        rw[jC (by omega)]
        exact hF2
      ·obtain⟨st,h3,h4⟩:=hn (by omega) F hFl hF0 hF2
       refine⟨st,?_,h4⟩
       simp only[code,hrun,hF3,hrm,decide_false]
       exact h3
     ·cases hl
    ·cases hl
   ·cases hl
  ·cases hl
 ·cases hl
noncomputable def chk:List (Int×List Int)→Code→Option Code
 | [],c=>some c
 | (m,l)::t,c=>match lk c with
  | some (m',l',rest)=>if m=m'∧l=l' then chk t rest else none
  | none=>none
def look:List (Int×List Int)→Int→Option (List Int)
 | [],_=>none
 | (m,l)::t,r=>if r≤m then some l else look t r
theorem xu:∀ {t:List (Int×List Int)}{C rest:Code}{r:Int}{fr:List V}{z:List V}{Q:dQ},chk t C=some rest→z.length=5→isMap z=false→fr.length=862→fr[0]?=some (.int .i32 r)→fr[2]?=some (.ptr 0 0)→cfg.wr 0=true →
  (∀ l,look t r=some l→∀ fr':List V,fr'[2]?=some (.ptr 0 0)→Q .ret fr' [some (l.map (V.int .i64))]) →
  (look t r=none→∀ fr':List V,fr'.length=862→fr'[0]?=some (.int .i32 r)→fr'[2]?=some (.ptr 0 0)→@wC prog md' call cfg n ⟨rest⟩ fr' [some z] ⟨Q⟩) →
  @wC prog md' call cfg n ⟨C⟩ fr [some z] ⟨Q⟩
 | [],C,rest,r,fr,z,Q,h,_,_,hf,h0,h2,_,_,hn=>by
  simp only[chk,Option.some.injEq]at h
  subst h
  exact hn rfl fr hf h0 h2
 | (m,l)::t,C,rest,r,fr,z,Q,h,hz,hzm,hf,h0,h2,hw,hy,hn=>by
  unfold chk at h
  split at h
  ·rename_i m' l' rest' hl
   split at h
   ·rename_i he
    obtain⟨rfl,rfl⟩:=he
    refine lk_ok hl hz hzm hf h0 h2 hw (fun hr fr' hfr=>hy l (by unfold look;rw[if_pos hr]) fr' hfr) ?_
    intro hr fr' g1 g2 g3
    have hlk:look ((m,l)::t) r=look t r:=by
     show (if r≤m then some l else look t r)=_
     rw[if_neg (by omega)]
    rw[hlk]at hy hn
    exact xu h hz hzm g1 g2 g3 hw hy hn
   ·cases h
  ·cases h
end
noncomputable def ch71:Code:=match Tryz.f71.body with
 | some (.seq _ (.seq _ (.seq (.block _ c) _)))=>c
 | _=>.skip
theorem yJ:chk refTbl ch71=some .skip:=by kernel_rfl
theorem vS:∀ {t:List (Int×List Int)}{r:Int}{l:List Int},look t r=some l→∃ m,(m,l)∈t
 | [],_,_,h=>by simp[look]at h
 | (m,l')::t,r,l,h=>by
  unfold look at h
  split at h
  ·cases h;exact⟨m,List.mem_cons_self ..⟩
  ·obtain⟨m',h2⟩:=vS h
   exact⟨m',List.mem_cons_of_mem _ h2⟩
theorem qd{r:Int}{l:List Int}(h:look refTbl r=some l):l.length=5:=by
 obtain⟨m,hm⟩:=vS h
 have ha:refTbl.all (fun x=>decide (x.2.length=5))=true:=by kernel_rfl
 have:=List.all_eq_true.1 ha _ hm
 simpa using this
theorem rZ{h:Heap}{l:List Int}(h5:l.length=5):List.mapM (frz h 0 5 ∘ V.int .i64) l=some (l.map (V.int .i64)):=by
 rcases l with _|⟨a,_|⟨b,_|⟨c,_|⟨e,_|⟨f,_|⟨g,l⟩⟩⟩⟩⟩⟩<;>first|rfl|(simp at h5;done)
def dX(r:Int):List Int:=
 if 44032≤r∧r≤55203 then (if (r-44032).tmod 28=0 then [12,3,18,0,0] else [13,3,18,0,0])
 else (look refTbl r).getD [0,0,0,0,0]
section
variable {prim:FuncId→Option Prim}(d:Nat) (cfg:Cfg) (h:Heap)
set_option maxRecDepth 100000 in
theorem wA(hp:prim 71=none)(r:Int):af md (K prim (d+1)) cfg 71 [.int .i32 r] h=some (.agg ((dX r).map (V.int .i64)),h):=by
 refine aZ (c:=Code.seq _ (Code.seq _ (Code.seq (Code.block 0 ch71) _))) rfl hp func71 rfl rfl rfl (by simp) ?_
 have hz88:zeroOf prog 114=some (.agg [.int .i64 0,.int .i64 0,.int .i64 0,.int .i64 0,.int .i64 0]):=by kernel_rfl
 by_cases h1:44032≤r
 ·by_cases h2:r≤55203
  ·have hw:IntKind.i32.wrap (r-44032)=r-44032:=wrap32 (by omega) (by omega)
   have hR:dX r=if (r-44032).tmod 28=0 then [12,3,18,0,0] else [13,3,18,0,0]:=by unfold dX;rw[if_pos ⟨h1,h2⟩]
   by_cases h3:(r-44032).tmod 28=0
   ·rw[if_pos h3]at hR
    simp(disch:=omega)[h1,h2,hw,h3,hR]
   ·rw[if_neg h3]at hR
    simp(disch:=omega)[h1,h2,hw,h3,hR]
  ·simp(disch:=omega)[h1,h2]
   refine xu yJ rfl rfl rfl rfl rfl rfl (fun l hl fr' hf=>?_) (fun hl fr' g1 g2 g3=>?_)
   ·have hl5:=qd hl
    have hR:dX r=l:=by unfold dX;rw[if_neg (by omega),hl];rfl
    rw[hR]
    have hs2:slot fr' 2=some (.ptr 0 0):=hf
    have htk:List.take 5 (l.map (V.int .i64))=l.map (V.int .i64):=List.take_of_length_le (by simp[hl5])
    simp[hs2,hl5,htk]
    exact rZ hl5
   ·have hR:dX r=[0,0,0,0,0]:=by unfold dX;rw[if_neg (by omega),hl];rfl
    rw[hR]
    have hsn:∀ v,slot (ca fr' 861 v) 2=some (.ptr 0 0):=fun v=>by rw[slot,ca,List.getElem?_set_ne (by omega)];exact g3
    have hse:∀ v,slot (ca fr' 861 v) 861=some v:=fun v=>by rw[slot,ca,List.getElem?_set_self (by omega)]
    simp[hsn,hse]
 ·simp(disch:=omega)[h1]
  refine xu yJ rfl rfl rfl rfl rfl rfl (fun l hl fr' hf=>?_) (fun hl fr' g1 g2 g3=>?_)
  ·have hl5:=qd hl
   have hR:dX r=l:=by unfold dX;rw[if_neg (by omega),hl];rfl
   rw[hR]
   have hs2:slot fr' 2=some (.ptr 0 0):=hf
   have htk:List.take 5 (l.map (V.int .i64))=l.map (V.int .i64):=List.take_of_length_le (by simp[hl5])
   simp[hs2,hl5,htk]
   exact rZ hl5
  ·have hR:dX r=[0,0,0,0,0]:=by unfold dX;rw[if_neg (by omega),hl];rfl
   rw[hR]
   have hsn:∀ v,slot (ca fr' 861 v) 2=some (.ptr 0 0):=fun v=>by rw[slot,ca,List.getElem?_set_ne (by omega)];exact g3
   have hse:∀ v,slot (ca fr' 861 v) 861=some v:=fun v=>by rw[slot,ca,List.getElem?_set_self (by omega)]
   simp[hsn,hse]
end
end Bi
end Go.Ab
namespace Go.Ab
open Go.Proofs Go.Proofs.Tryz
namespace Bi
def tbk(t:List Row):List Int:=t.flatMap fun x=>[x.2.1,x.1-1]
def brkB:List Int:=161::1642::8237::(tbk tab1++tbk tab2++tbk tab3++tbk tab4++refTbl.map (·.1))
theorem ED:brkB.all (fun b=>decide (b≤10000000))=true:=by kernel_rfl
def Sat(B:List Int)(r s:Int):Prop:=∀ b∈B,r≤b↔s≤b
theorem fE{r s:Int}:∀ {t:List Row},Sat (tbk t) r s→bq t r=bq t s
 | [],_=>rfl
 | x::t,h=>by
  have h1:=h x.2.1 (by simp[tbk])
  have h2:=h (x.1-1) (by simp[tbk])
  have ih:=fE (r:=r) (s:=s) (t:=t) fun b hb=>h b (by simp only[tbk,List.flatMap_cons]at hb ⊢;exact List.mem_append_right _ hb)
  unfold bq at ih ⊢
  rw[List.find?_cons,List.find?_cons]
  by_cases hr:r≤x.2.1
  ·have hs:=h1.1 hr
   rw[decide_eq_true hr,decide_eq_true hs]
   simp only
   by_cases h3:x.1≤r
   ·rw[if_pos h3,if_pos (by omega)]
   ·rw[if_neg h3,if_neg (by omega)]
  ·have hs:¬ s≤x.2.1:=fun e=>hr (h1.2 e)
   rw[decide_eq_false hr,decide_eq_false hs]
   exact ih
theorem vT{r s:Int}:∀ {t:List (Int×List Int)},Sat (t.map (·.1)) r s→look t r=look t s
 | [],_=>rfl
 | (m,l)::t,h=>by
  have h1:=h m (by simp)
  have ih:=vT (r:=r) (s:=s) (t:=t) fun b hb=>h b (by simp only[List.map_cons];exact List.mem_cons_of_mem _ hb)
  unfold look
  by_cases hr:r≤m
  ·rw[if_pos hr,if_pos (h1.1 hr)]
  ·rw[if_neg hr,if_neg (fun e=>hr (h1.2 e)),ih]
theorem least:∀ (L:List Int) (r:Int),(∃ b∈L,r≤b)→∃ s∈L,r≤s∧∀ b∈L,r≤b→s≤b
 | [],_,⟨_,h,_⟩=>by simp at h
 | a::L,r,h=>by
  by_cases hL:∃ b∈L,r≤b
  ·obtain⟨s,h1,h2,h3⟩:=least L r hL
   by_cases ha:r≤a∧a≤s
   ·exact⟨a,List.mem_cons_self ..,ha.1,fun b hb hr=>by
     rcases List.mem_cons.1 hb with rfl|hb
     ·omega
     ·have:=h3 b hb hr;omega⟩
   ·exact⟨s,List.mem_cons_of_mem _ h1,h2,fun b hb hr=>by
     rcases List.mem_cons.1 hb with rfl|hb
     ·omega
     ·exact h3 b hb hr⟩
  ·obtain⟨b,hb,hr⟩:=h
   rcases List.mem_cons.1 hb with rfl|hb
   ·exact⟨b,List.mem_cons_self ..,hr,fun c hc hrc=>by
     rcases List.mem_cons.1 hc with rfl|hc
     ·omega
     ·exact absurd ⟨c,hc,hrc⟩ hL⟩
   ·exact absurd ⟨b,hb,hr⟩ hL
theorem rep(r:Int):∃ s∈(10000001::brkB),Sat brkB r s:=by
 by_cases h:∃ b∈brkB,r≤b
 ·obtain⟨s,h1,h2,h3⟩:=least brkB r h
  exact⟨s,List.mem_cons_of_mem _ h1,fun b hb=>⟨fun hr=>h3 b hb hr,fun hs=>by omega⟩⟩
 ·refine⟨10000001,List.mem_cons_self ..,fun b hb=>⟨fun hr=>absurd ⟨b,hb,hr⟩ h,fun hs=>?_⟩⟩
  have:=List.all_eq_true.1 ED b hb
  simp at this
  omega
section
variable {prim:FuncId→Option Prim}(d:Nat) (cfg:Cfg) (h:Heap)
theorem DJ(r:Int):(dX r).length=5:=by
 unfold dX
 split
 ·split<;>rfl
 ·cases hl:look refTbl r with
  | none=>rfl
  | some l=>exact qd hl
end
end Bi
end Go.Ab
namespace Go.Ab
def gd(b:Bool)(v:V):V:=if b=true then v else .no
theorem ti{v:V}:gd true v=v:=rfl
section
variable (P:Program) (md:FuncId→Nat) (call:bg) (cfg:Cfg)
def wGp(e:Bool)(r:Option (V×Heap))[dst:Hid (Option Tmp)][ops:Hid (Array Oper)][l:Hid (List Oper)][fr:Hid (List V)][h:Hid Heap][Q:Hid cx]:Prop:=
 @wIf e ⟨@wS P md call cfg dst fr r ops l Q⟩ ⟨@wO P md call cfg ops l (put fr.val dst.val .no) h.val Q⟩
end
section
variable {P:Program}{md:FuncId→Nat}{call:bg}{cfg:Cfg}
theorem sH{e e':Bool}{r r':Option (V×Heap)}{dst:Hid (Option Tmp)}{ops:Hid (Array Oper)}{l:Hid (List Oper)}{fr:Hid (List V)}{h:Hid Heap}{Q:Hid cx}(he:e=e')(hr:e'=true→r=r'):
  @wGp P md call cfg e r dst ops l fr h Q=@wGp P md call cfg e' r' dst ops l fr h Q:=by
 subst he
 cases e
 ·simp[wGp]
 ·rw[hr rfl]
theorem GC{e e':Bool}{p:Prop}{r r':Option (V×Heap)}{dst:Hid (Option Tmp)}{ops:Hid (Array Oper)}{l:Hid (List Oper)}{fr:Hid (List V)}{h:Hid Heap}{Q:Hid cx}(he:e=e')(hp:(e'=true)=p)(hr:e'=true→p→r=r'):
  @wGp P md call cfg e r dst ops l fr h Q=@wGp P md call cfg e' r' dst ops l fr h Q:=sH he fun h=>hr h (hp ▸ h)
theorem Ei{b want:Bool}{dst:Option Tmp}{op:Op}{ops:Array Oper}{l:List Oper}{fr:List V}{h:Heap}{Q:cx}:
  @wG P md call cfg (some (.bool b)) ⟨want⟩ ⟨dst⟩ ⟨op⟩ ⟨ops⟩ ⟨l⟩ ⟨fr⟩ ⟨h⟩ ⟨Q⟩↔@wGp P md call cfg (b==want) (aH P md call cfg fr h op) ⟨dst⟩ ⟨ops⟩ ⟨l⟩ ⟨fr⟩ ⟨h⟩ ⟨Q⟩:=Iff.rfl
theorem Ej{b c want:Bool}{dst:Option Tmp}{op:Op}{ops:Array Oper}{l:List Oper}{fr:List V}{h:Heap}{Q:cx}:
  @wG P md call cfg (some (gd c (.bool b))) ⟨want⟩ ⟨dst⟩ ⟨op⟩ ⟨ops⟩ ⟨l⟩ ⟨fr⟩ ⟨h⟩ ⟨Q⟩↔@wGp P md call cfg (c&&(b==want)) (aH P md call cfg fr h op) ⟨dst⟩ ⟨ops⟩ ⟨l⟩ ⟨fr⟩ ⟨h⟩ ⟨Q⟩:=by
 cases c
 ·simp[gd,wGp]
 ·exact Iff.rfl
theorem qQ{e:Bool}{v:V}{dst:Option Tmp}{ops:Array Oper}{l:List Oper}{fr:List V}{h:Heap}{Q:cx}:
  @wGp P md call cfg e (some (v,h)) ⟨dst⟩ ⟨ops⟩ ⟨l⟩ ⟨fr⟩ ⟨h⟩ ⟨Q⟩↔@wO P md call cfg ⟨ops⟩ ⟨l⟩ (put fr dst (gd e v)) h ⟨Q⟩:=by
 cases e
 ·simp[wGp,gd]
 ·simp[wGp,gd]
theorem nj{x y:Bool}{h:Heap}:mb (some (.bool x)) (some (gd x (.bool y))) (some (.bool false)) h=some (.bool (x&&y),h):=by cases x<;>rfl
theorem sx{x y:Bool}{h:Heap}:mb (some (.bool x)) (some (.bool true)) (some (gd (!x) (.bool y))) h=some (.bool (x||y),h):=by cases x<;>rfl
end
end Go.Ab
namespace Go.Ab
noncomputable def gq(p:Prop)(v:V):V:=by
 classical
 exact if p then v else .no
theorem pN{p:Prop}{v:V}(h:p):gq p v=v:=by unfold gq;exact if_pos h
theorem xN{p:Prop}{v:V}(h:¬ p):gq p v=.no:=by unfold gq;exact if_neg h
theorem aw{v:V}:gq True v=v:=pN trivial
theorem bZ{v:V}:gq False v=.no:=xN id
def lgI(l:List Int)(i:Nat):Int:=l.getD i 0
def lgB(l:List Bool)(i:Nat):Bool:=l.getD i false
theorem atI{l:List Int}{i:Nat}(h:i<l.length):l[i]?=some (lgI l i):=by
 rw[lgI,List.getD_eq_getElem?_getD,List.getElem?_eq_getElem h];rfl
theorem atB{l:List Bool}{i:Nat}(h:i<l.length):l[i]?=some (lgB l i):=by
 rw[lgB,List.getD_eq_getElem?_getD,List.getElem?_eq_getElem h];rfl
section
variable (P:Program) (md:FuncId→Nat) (call:bg) (cfg:Cfg)
def wGq(p:Prop)(r:Option (V×Heap))[dst:Hid (Option Tmp)][ops:Hid (Array Oper)][l:Hid (List Oper)][fr:Hid (List V)][h:Hid Heap][Q:Hid cx]:Prop:=
 (p∧@wS P md call cfg dst fr r ops l Q)∨(¬ p∧@wO P md call cfg ops l (put fr.val dst.val .no) h.val Q)
end
section
variable {P:Program}{md:FuncId→Nat}{call:bg}{cfg:Cfg}{dst:Option Tmp}{op:Op}{ops:Array Oper}{l:List Oper}{fr:List V}{h:Heap}{Q:cx}
theorem ay{p p':Prop}{r r':Option (V×Heap)}{dst:Hid (Option Tmp)}{ops:Hid (Array Oper)}{l:Hid (List Oper)}{fr:Hid (List V)}{h:Hid Heap}{Q:Hid cx}(hp:p=p')(hr:p'→r=r'):
  @wGq P md call cfg p r dst ops l fr h Q=@wGq P md call cfg p' r' dst ops l fr h Q:=by
 subst hp
 by_cases h:p
 ·rw[hr h]
 ·simp[wGq,h]
theorem bh{b want:Bool}:@wG P md call cfg (some (.bool b)) ⟨want⟩ ⟨dst⟩ ⟨op⟩ ⟨ops⟩ ⟨l⟩ ⟨fr⟩ ⟨h⟩ ⟨Q⟩↔@wGq P md call cfg ((b==want)=true) (aH P md call cfg fr h op) ⟨dst⟩ ⟨ops⟩ ⟨l⟩ ⟨fr⟩ ⟨h⟩ ⟨Q⟩:=by
 rw[al]
 cases hb:(b==want)<;>simp[wGq]
theorem qP{b want:Bool}{c:Prop}:@wG P md call cfg (some (gq c (.bool b))) ⟨want⟩ ⟨dst⟩ ⟨op⟩ ⟨ops⟩ ⟨l⟩ ⟨fr⟩ ⟨h⟩ ⟨Q⟩↔@wGq P md call cfg (c∧(b==want)=true) (aH P md call cfg fr h op) ⟨dst⟩ ⟨ops⟩ ⟨l⟩ ⟨fr⟩ ⟨h⟩ ⟨Q⟩:=by
 by_cases hc:c
 ·rw[pN hc,bh]
  simp[wGq,hc]
 ·rw[xN hc,wG_no]
  simp[wGq,hc]
theorem ao{p:Prop}{v:V}:@wGq P md call cfg p (some (v,h)) ⟨dst⟩ ⟨ops⟩ ⟨l⟩ ⟨fr⟩ ⟨h⟩ ⟨Q⟩↔@wO P md call cfg ⟨ops⟩ ⟨l⟩ (put fr dst (gq p v)) h ⟨Q⟩:=by
 by_cases hp:p
 ·rw[pN hp];simp[wGq,hp]
 ·rw[xN hp];simp[wGq,hp]
theorem xa{r:Option (V×Heap)}:@wGq P md call cfg True r ⟨dst⟩ ⟨ops⟩ ⟨l⟩ ⟨fr⟩ ⟨h⟩ ⟨Q⟩↔@wS P md call cfg ⟨dst⟩ ⟨fr⟩ r ⟨ops⟩ ⟨l⟩ ⟨Q⟩:=by simp[wGq]
theorem cB{r:Option (V×Heap)}:@wGq P md call cfg False r ⟨dst⟩ ⟨ops⟩ ⟨l⟩ ⟨fr⟩ ⟨h⟩ ⟨Q⟩↔@wO P md call cfg ⟨ops⟩ ⟨l⟩ (put fr dst .no) h ⟨Q⟩:=by simp[wGq]
theorem aB{p:Prop}{x y:Bool}{h:Heap}(hp:p↔x=true):mb (some (.bool x)) (some (gq p (.bool y))) (some (.bool false)) h=some (.bool (x&&y),h):=by
 cases x
 ·rfl
 ·rw[pN (hp.2 rfl)];rfl
theorem bw{p:Prop}{x y:Bool}{h:Heap}(hp:p↔x=false):mb (some (.bool x)) (some (.bool true)) (some (gq p (.bool y))) h=some (.bool (x||y),h):=by
 cases x
 ·rw[pN (hp.2 rfl)];rfl
 ·rfl
end
end Go.Ab
namespace Go.Ab
def intOf:V→Int
 | .int _ n=>n
 | _=>0
def i1Of:List V→Int
 | [.int _ n]=>n
 | _=>0
def b1Of:List V→Bool
 | [.bool b]=>b
 | _=>false
@[simp] theorem i1Of_mk{k:IntKind}{n:Int}:i1Of [.int k n]=n:=rfl
@[simp] theorem b1Of_mk{b:Bool}:b1Of [.bool b]=b:=rfl
def IsB(v:V):Prop:=∃ b,v=.bool b
def IsI(k:IntKind)(v:V):Prop:=∃ z,v=.int k z
@[simp] theorem isB_mk{b:Bool}:IsB (.bool b):=⟨b,rfl⟩
@[simp] theorem isI_mk{k:IntKind}{z:Int}:IsI k (.int k z):=⟨z,rfl⟩
section
variable {P:Program}{md:FuncId→Nat}{prim:FuncId→Option Prim}{n:Nat}
theorem ef{d:Nat}{f:FuncId}{fn:Func}{c:Code}{k:Nat}{rs:List ResultVar}{args:List V}{Post:V→Prop}(hm:md f=0)(hp:prim f=none)(hf:P.funcs[f]?=some fn)(hb:fn.body=some c)(hk:fn.ntmps=k)
  (hr:fn.results.toList=rs) (ha:args.all V.noref=true)
  (hw:@wC P md (aF P md prim n d) ⟨0,[],0⟩ n ⟨c⟩ (args++List.replicate (k-args.length) .no) [] ⟨@kFn P ⟨rs⟩ ⟨fun r' h'=>∃ r,frz h' 0 6 r'=some r∧Post r⟩⟩):
  ∃ r,Post r∧∀ cfg h,af md (aF P md prim n (d+1)) cfg f args h=some (r,h):=by
 obtain⟨r',h',h1,r,h2,h3⟩:=cm hp hf hb hk hr hw
 exact⟨r,h3,fun cfg h=>by simp only[af,hm,ha,if_true,h1,h2]⟩
theorem callE{d:Nat}{f:FuncId}{fn:Func}{c:Code}{k:Nat}{rs:List ResultVar}{args':List V}{Post:V→Prop}(hp:prim f=none)(hf:P.funcs[f]?=some fn)(hb:fn.body=some c)(hk:fn.ntmps=k)
  (hr:fn.results.toList=rs) (ha:args'.all V.noref=true)
  (hw:@wC P md (aF P md prim n d) ⟨0,[],0⟩ n ⟨c⟩ (args'++List.replicate (k-args'.length) .no) [] ⟨@kFn P ⟨rs⟩ ⟨fun r' h'=>own h' 6 r'=true∧∃ r,frz h' 0 6 r'=some r∧Post r⟩⟩):
  ∃ r,Post r∧(md f=0→∀ cfg h,af md (aF P md prim n (d+1)) cfg f args' h=some (r,h)) ∧
   (md f=3→∀ cfg h args,args.mapM (frzA h)=some args'→af md (aF P md prim n (d+1)) cfg f args h=some (r,h)):=by
 obtain⟨r',h',h1,h2,r,h3,h4⟩:=cm hp hf hb hk hr hw
 exact⟨r,h4,fun hm cfg h=>by simp only[af,hm,ha,if_true,h1,h3],fun hm cfg h args hA=>by simp only[af,hm,hA,h1,h2,h3,if_true]⟩
end
end Go.Ab
namespace Go.Ab
open Go.Proofs Go.Proofs.Tryz
namespace Bi
attribute [local congr] ay
def rcl(j:Nat)(r:Int):Int:=(dX r).getD j 0
theorem Dy{j:Nat}(hj:j<5)(r:Int):(dX r)[j]?=some (rcl j r):=by
 have hl:=DJ r
 rw[rcl,List.getD_eq_getElem?_getD,List.getElem?_eq_getElem (by omega)]
 rfl
abbrev bl(l:List Bool):V:=.lst (l.map fun b=>[.bool b])
section
variable {prim:FuncId→Option Prim}(d:Nat) (cfg:Cfg) (h:Heap)
theorem Gc(hp:∀ f,Np5 f→prim f=none)(r:Int):af md (K prim (d+2)) cfg 92 [.int .i32 r] h=some (.int .i64 (rcl 0 r),h):=by
 refine aZ rfl (hp 92 (by decide)) func92 rfl rfl rfl (by simp) ?_
 have hF:=fun cfg h r=>wA (prim:=prim) d cfg h (hp 71 (by decide)) r
 simp[hF,Dy (show 0<5 by omega) r]
theorem qE(hp:∀ f,Np5 f→prim f=none)(r:Int):af md (K prim (d+2)) cfg 43 [.int .i32 r] h=some (.int .i64 (rcl 2 r),h):=by
 refine aZ rfl (hp 43 (by decide)) func43 rfl rfl rfl (by simp) ?_
 have hF:=fun cfg h r=>wA (prim:=prim) d cfg h (hp 71 (by decide)) r
 simp[hF,Dy (show 2<5 by omega) r]
theorem yn(hp:∀ f,Np5 f→prim f=none)(l:List Int)(hl:l.length≤5000)(n:Int):af md (K prim (d+1)) cfg 16 [il l,.int .i64 n] h=some (.bool (decide (n∈l)),h):=by
 refine aZ rfl (hp 16 (by decide)) func16 rfl rfl rfl (by simp) ?_
 simp
 refine ah (fun m fr H=>∃ i:Nat,i≤l.length∧m=l.length-i∧n ∉ l.take i∧H=[]∧Slots 18 [(0,il l),(1,.int .i64 n),(5,.int .i64 i)] fr) (m:=l.length) (by omega) ⟨0,by omega,by omega,by simp,rfl,by simp⟩ ?_
 rintro m fr H ⟨i,hi,rfl,hn,rfl,hs⟩
 obtain⟨j,rfl⟩:=hs.ex
 clear hs
 by_cases hlt:i<l.length
 ·have hI:(i:Int)<l.length:=by omega
  obtain⟨x,hx⟩:∃ x,l[i]?=some x:=⟨_,List.getElem?_eq_getElem hlt⟩
  by_cases hxn:x=n
  ·have hm:n∈l:=hxn ▸ List.mem_of_getElem? hx
   simp(disch:=omega)[hI,hx,hxn,hm,-getElem?_pos]
  ·simp(disch:=omega)[hI,hx,hxn,wrap64,-getElem?_pos]
   refine ae (m':=l.length-(i+1)) (by omega) ⟨i+1,by omega,rfl,?_,rfl,by simp(disch:=omega)⟩
   rw[List.take_add_one,hx]
   simp only[Option.toList_some,List.mem_append,List.mem_singleton]
   rintro (h1|h1)
   ·exact hn h1
   ·exact hxn h1.symm
 ·obtain rfl:i=l.length:=by omega
  rw[List.take_length]at hn
  simp(disch:=omega)[hn]
set_option maxRecDepth 100000 in
set_option maxHeartbeats 8000000 in
theorem HG(hp:∀ f,Np5 f→prim f=none)(t:List Int)(ht:t.length≤2000)(i:Nat)(hi:i+1<t.length):
  ∃ r,IsB r∧∀ cfg h,af md (K prim (d+3)) cfg 69 [rl t,.int .i64 ((i:Int)+1)] h=some (r,h):=by
 refine ef rfl (hp 69 (by decide)) func69 rfl rfl rfl (by simp) ?_
 have hB:=fun cfg h r=>Gc (prim:=prim) d cfg h hp r
 obtain⟨x,hx⟩:∃ x,t[i]?=some x:=⟨_,List.getElem?_eq_getElem (by omega)⟩
 obtain⟨y,hy⟩:∃ x,t[i+1]?=some x:=⟨_,List.getElem?_eq_getElem (by omega)⟩
 have hn1:((i:Int)+1).toNat=i+1:=by omega
 have hm:md 92=0:=rfl
 simp
 refine ai 10 (by kernel_rfl) ?_
 simp +contextual (disch:=first|omega|(simp;done)|(simp[Decidable.imp_iff_not_or];done)|fail) [-al,bh,ao,aw,aB,wrap64,-getElem?_pos,hm,hB,hx,hy,hn1]
 refine ak (fun _=>by simp) (fun _=>?_)
 iterate 5
  simp +contextual (disch:=first|omega|(simp;done)|(simp[Decidable.imp_iff_not_or];done)|fail) [-al,bh,qP,ao,aw,bZ,aB,bw]
  refine ak (fun _=>by simp) (fun _=>?_)
 simp +contextual (disch:=first|omega|(simp;done)|(simp[Decidable.imp_iff_not_or];done)|fail) [-al,bh,ao,aw,aB]
 refine ak (fun _=>?_) (fun _=>?_)
 ·simp(disch:=omega)[wrap64]
  refine ah (fun m fr H=>∃ q:Nat,q≤i∧m=q∧H=[]∧Slots 160 [(0,rl t),(1,.int .i64 ((i:Int)+1)),(5,.int .i64 (rcl 0 x)),(6,.int .i64 (rcl 0 y)),(7,.int .i64 ((q:Int)-1))] fr) (m:=i) (by omega) ⟨i,by omega,rfl,rfl,by simp;omega⟩ ?_
  rintro m fr H ⟨q,hq,hmq,rfl,hs⟩
  replace hmq:=hmq.symm
  subst hmq
  obtain⟨j,rfl⟩:=hs.ex
  clear hs
  simp +contextual (disch:=first|omega|(simp;done)|(simp[Decidable.imp_iff_not_or];done)|fail) [-al,bh,ao,aw,aB,-getElem?_pos,hB,atI]
  refine ak (fun hb=>?_) (fun _=>?_)
  ·have hq1:1≤q:=by simp at hb;omega
   simp(disch:=omega)[wrap64]
   exact ae (m':=q-1) (by omega) ⟨q-1,by omega,rfl,rfl,by simp;omega⟩
  ·simp +contextual (disch:=first|omega|(simp;done)|(simp[Decidable.imp_iff_not_or];done)|fail) [-al,bh,ao,aw,aB,-getElem?_pos,hB,atI]
   refine ak (fun _=>by simp) (fun _=>?_)
   simp +contextual (disch:=first|omega|(simp;done)|(simp[Decidable.imp_iff_not_or];done)|fail) [-al,bh,ao,aw,aB,-getElem?_pos]
   refine ak (fun _=>?_) (fun _=>by simp)
   simp(disch:=omega)[wrap64]
   refine ah (fun m fr H=>∃ (q:Nat) (c:Int),q≤i+1∧m=q∧H=[]∧Slots 160 [(0,rl t),(8,.int .i64 c),(9,.int .i64 ((q:Int)-1))] fr) (m:=i+1) (by omega) ⟨i+1,0,by omega,rfl,rfl,by simp⟩ ?_
   rintro m fr H ⟨q,c,hq,hmq,rfl,hs⟩
   replace hmq:=hmq.symm
   subst hmq
   obtain⟨j9,rfl⟩:=hs.ex
   clear hs
   simp +contextual (disch:=first|omega|(simp;done)|(simp[Decidable.imp_iff_not_or];done)|fail) [-al,bh,ao,aw,aB,-getElem?_pos,hB,atI]
   refine ak (fun hb=>?_) (fun _=>?_)
   ·have hq1:1≤q:=by simp at hb;omega
    simp(disch:=omega)[wrap64]
    exact ae (m':=q-1) (by omega) ⟨q-1,IntKind.i64.wrap (c+1),by omega,rfl,rfl,by simp;omega⟩
   ·simp
 ·simp +contextual (disch:=first|omega|(simp;done)|(simp[Decidable.imp_iff_not_or];done)|fail) [-al,bh,ao,aw,bZ,aB,-getElem?_pos]
  refine ak (fun _=>?_) (fun _=>by simp)
  simp(disch:=omega)[wrap64]
  refine ah (fun m fr H=>∃ (q:Nat) (c:Int),q≤i+1∧m=q∧H=[]∧Slots 160 [(0,rl t),(8,.int .i64 c),(9,.int .i64 ((q:Int)-1))] fr) (m:=i+1) (by omega) ⟨i+1,0,by omega,rfl,rfl,by simp⟩ ?_
  rintro m fr H ⟨q,c,hq,hmq,rfl,hs⟩
  replace hmq:=hmq.symm
  subst hmq
  obtain⟨j9,rfl⟩:=hs.ex
  clear hs
  simp +contextual (disch:=first|omega|(simp;done)|(simp[Decidable.imp_iff_not_or];done)|fail) [-al,bh,ao,aw,aB,-getElem?_pos,hB,atI]
  refine ak (fun hb=>?_) (fun _=>?_)
  ·have hq1:1≤q:=by simp at hb;omega
   simp(disch:=omega)[wrap64]
   exact ae (m':=q-1) (by omega) ⟨q-1,IntKind.i64.wrap (c+1),by omega,rfl,rfl,by simp;omega⟩
  ·simp
set_option maxHeartbeats 4000000 in
theorem ET(hp:∀ f,Np5 f→prim f=none)(t:List Int)(ht:t.length≤2000):
  ∃ r,(∃ l:List Int,r=il l∧l.length≤t.length+1∧∀ x∈l,0≤x∧x≤t.length)∧∀ cfg h,af md (K prim (d+4)) cfg 41 [rl t] h=some (r,h):=by
 refine ef rfl (hp 41 (by decide)) func41 rfl rfl rfl (by simp) ?_
 have ht2:¬ (2000:Int)<t.length:=by omega
 by_cases h0:t=[]
 ·subst h0
  simp
 have hpos:0<t.length:=List.length_pos_iff.2 h0
 have h1:¬ (t.length:Int)=0:=by omega
 simp(disch:=omega)[h0,ht2]
 refine ah (fun m fr H=>∃ (q:Nat) (v:V) (l:List Int),q+1≤t.length∧m=t.length-(q+1)∧l.length≤q+1∧(∀ x∈l,0≤x∧x≤t.length)∧Hp H [] [(1,v,l.map (V.int .i64))] ∧
  Slots 32 [(0,rl t),(3,v),(4,.int .i64 ((q:Int)+1))] fr) (m:=t.length-1) (by omega) ⟨0,.sl 0 0 1 1 1,[0],by omega,by omega,by simp,by simp,by simpa using (Hp.start (H:=[])).new (cs:=[V.int .i64 0]) (n:=1) (k:=1) rfl rfl [],by simp⟩ ?_
 rintro m fr H ⟨q,v,l,hq,rfl,hll,hlr,hhp,hs⟩
 obtain⟨j,rfl⟩:=hs.ex
 clear hs
 by_cases hlt:q+1<t.length
 ·have hI:(q:Int)+1<t.length:=by omega
  obtain⟨r,⟨b,rfl⟩,hbd⟩:=HG (prim:=prim) d hp t ht q hlt
  cases b
  ·simp(disch:=omega)[hI,hbd,wrap64]
   exact ae (m':=t.length-(q+1+1)) (by omega) ⟨q+1,v,l,by omega,by omega,by omega,hlr,hhp,by simp(disch:=omega)⟩
  ·have hbn:ab (H++[some [V.int .i64 ((q:Int)+1)]]) H.length=some [V.int .i64 ((q:Int)+1)]:=by rw[cy rfl];rfl
   simp(disch:=omega)[hI,hbd,hbn]
   refine bM (m:=1) (hhp.push [some [V.int .i64 ((q:Int)+1)]]) (by simp) rfl rfl (by omega) (by omega) (by simp;omega) (by simp;omega) ?_
   intro v' H' hhp2
   simp(disch:=omega)[wrap64]
   refine ae (m':=t.length-(q+1+1)) (by omega) ⟨q+1,v',l++[(q:Int)+1],by omega,by omega,by simp;omega,?_,by simpa using hhp2,by simp(disch:=omega)⟩
   intro x hx
   rcases List.mem_append.1 hx with hx|hx
   ·exact hlr x hx
   ·simp at hx;omega
 ·have hI:¬ (q:Int)+1<t.length:=by omega
  have hbn:ab (H++[some [V.int .i64 (t.length:Int)]]) H.length=some [V.int .i64 (t.length:Int)]:=by rw[cy rfl];rfl
  simp(disch:=omega)[hI,hbn]
  refine bM (m:=1) (hhp.push [some [V.int .i64 (t.length:Int)]]) (by simp) rfl rfl (by omega) (by omega) (by simp;omega) (by simp;omega) ?_
  intro v' H' hhp2
  have f1:=OwnC.frzI (d:=4) (kd:=.i64) (l:=l++[(t.length:Int)]) (n:=0) (by simpa using hhp2.head) (Nat.zero_le _)
  simp(disch:=omega)
  refine⟨_,f1,_,rfl,by simp;omega,?_⟩
  intro x hx
  rcases List.mem_append.1 hx with hx|hx
  ·exact hlr x hx
  ·simp at hx;omega
set_option maxHeartbeats 4000000 in
theorem BJ(hp:∀ f,Np5 f→prim f=none)(l:List Int)(hl:l.length≤2000)(i:Nat)(hi:i≤l.length)(c:Int):
  ∃ r,IsB r∧∀ cfg h,af md (K prim (d+1)) cfg 70 [il l,.int .i64 i,.int .i64 c] h=some (r,h):=by
 refine ef rfl (hp 70 (by decide)) func70 rfl rfl rfl (by simp) ?_
 simp(disch:=omega)[wrap64]
 refine ah (fun m fr H=>∃ q:Nat,q≤i∧m=q∧H=[]∧Slots 31 [(0,il l),(2,.int .i64 c),(7,.int .i64 ((q:Int)-1))] fr) (m:=i) (by omega) ⟨i,by omega,rfl,rfl,by simp⟩ ?_
 rintro m fr H ⟨q,hq,hmq,rfl,hs⟩
 replace hmq:=hmq.symm
 subst hmq
 obtain⟨j,rfl⟩:=hs.ex
 clear hs
 simp +contextual (disch:=first|omega|(simp;done)|(simp[Decidable.imp_iff_not_or];done)|fail) [-al,bh,ao,aw,aB,-getElem?_pos,atI]
 refine ak (fun hb=>?_) (fun _=>?_)
 ·have hq1:1≤q:=by simp at hb;omega
  simp(disch:=omega)[wrap64]
  exact ae (m':=q-1) (by omega) ⟨q-1,by omega,rfl,rfl,by simp;omega⟩
 ·simp +contextual (disch:=first|omega|(simp;done)|(simp[Decidable.imp_iff_not_or];done)|fail) [-al,bh,ao,aw,aB,-getElem?_pos,atI]
end
end Bi
end Go.Ab
namespace Go.Ab
theorem cb{α:Type}{f:α→List V}{n:Nat}(hf:∀ x,(f x).length=n):∀ l:List α,(l.flatMap f).length=l.length*n
 | []=>by simp
 | x::l=>by rw[List.flatMap_cons,List.length_append,hf,cb hf l,List.length_cons,Nat.add_mul];omega
theorem pj{α:Type}{f:α→List V}{n:Nat}(hf:∀ x,(f x).length=n):∀ l:List α,chunk n l.length (l.flatMap f)=l.map f
 | []=>rfl
 | x::l=>by
  have h1:(x::l).flatMap f=f x++l.flatMap f:=List.flatMap_cons
  rw[h1,List.length_cons,chunk,List.take_append_of_le_length (by rw[hf];exact Nat.le_refl _),List.drop_append_of_le_length (by rw[hf];exact Nat.le_refl _)]
  have e1:(f x).take n=f x:=by rw[← hf x,List.take_length]
  have e2:(f x).drop n=[]:=by rw[← hf x,List.drop_length]
  rw[e1,e2,List.nil_append,pj hf l,List.map_cons]
theorem OwnC.frzF{α:Type}{f:α→List V}{n:Nat}(hf:∀ x,(f x).length=n)(hn:0<n){h:Heap}{lo m d:Nat}{v:V}{l:List α}(ho:OwnC h lo n v (l.flatMap f))(hm:m≤lo)(hr:∀ x,(f x).all V.rf=true)(hnn:∀ x,∀ c∈f x,c≠.nils):Go.Ab.frz h m (d+2) v=some (.lst (l.map f)):=by
 have h1:(l.flatMap f).all V.rf=true:=by
  rw[List.all_eq_true]
  intro c hc
  obtain⟨x,_,hx⟩:=List.mem_flatMap.1 hc
  exact List.all_eq_true.1 (hr x) c hx
 have h2:∀ c∈l.flatMap f,c≠.nils:=fun c hc=>by
  obtain⟨x,_,hx⟩:=List.mem_flatMap.1 hc
  exact hnn x c hx
 rw[ho.frz hm h1 h2 hn,cb hf,Nat.mul_div_cancel _ hn,pj hf]
theorem setI{k:IntKind}{l:List Int}{i:Nat}{x:Int}:ca (l.map (V.int k)) i (.int k x)=(l.set i x).map (V.int k):=by rw[ca,List.map_set]
theorem DQ{l:List Bool}{i:Nat}{x:Bool}:ca (l.map V.bool) i (.bool x)=(l.set i x).map V.bool:=by rw[ca,List.map_set]
theorem lr:∀ n,bH [V.bool false] n=(List.replicate n false).map V.bool
 | 0=>rfl
 | n+1=>by rw[bH,lr n,List.replicate_succ];rfl
theorem gM:∀ n,bH [V.int .i64 0] n=(List.replicate n 0).map (V.int .i64)
 | 0=>rfl
 | n+1=>by rw[bH,gM n,List.replicate_succ];rfl
theorem pK{α:Type}{f:α→V}:∀ l:List α,(l.flatMap fun x=>[f x])=l.map f
 | []=>rfl
 | x::l=>by rw[List.flatMap_cons,pK l];rfl
theorem rP{h:Heap}{n d b len cap:Nat}{l:List Bool}(hb:ab h b=some (l.map V.bool))(hn:n≤b)(hl:l.length=len):frz h n (d+2) (.sl b 0 len cap 1)=some (.lst (l.map fun x=>[.bool x])):=by
 have h1:OwnC h n 1 (.sl b 0 len len 1) (l.flatMap fun x=>[V.bool x]):=.inr ⟨b,len,rfl,by rw[pK];simp;omega,hn,by rw[hb,pK]⟩
 have h2:=OwnC.frzF (ho:=h1) (f:=fun x=>[V.bool x]) (n:=1) (m:=n) (d:=d) (fun _=>rfl) (by omega) (Nat.le_refl _) (fun _=>rfl) (fun x c hc=>by simp at hc;subst hc;simp)
 rw[iK,if_neg (by omega)]at h2 ⊢
 exact h2
end Go.Ab
namespace Go.Ab
open Go.Proofs Go.Proofs.Tryz
namespace Bi
attribute [local congr] ay
section
variable {prim:FuncId→Option Prim}(d:Nat) (cfg:Cfg) (h:Heap)
end
end Bi
end Go.Ab
