/- Several texts of this proof in one. -/
import Derived.Test.YtldfgkjmficliaaGreatAbW7
set_option linter.all false
set_option maxHeartbeats 2000000
namespace Go.Ab
open Go.Proofs Go.Proofs.Tryz
namespace Bi
def asc:List Row->Bool
 | a::b::r=>decide (a.2.1<b.2.1)&&asc (b::r)
 | _=>true
theorem uA:∀ (t:List Row) (a:Row),asc (a::t)=true->∀ y∈t,a.2.1<y.2.1
 | [],a,_,y,hy=>by simp at hy
 | b::t,a,h,y,hy=>by
  simp only[asc,Lq,decide_eq_true_eq]at h;rcases Ly.1 hy with rfl|hy
  ·exact h.1
  ·have:=uA t b h.2 y hy;omega
theorem B5{a:Row}{t:List Row}(h:asc (a::t)=true):asc t=true:=by
 cases t with
 | nil=>rfl
 | cons b t=>simp only[asc,Lq]at h;exact h.2
theorem B4:∀ (t:List Row),asc t=true->∀ (i j:Nat) (x y:Row),i<j->t[i]?=some x->t[j]?=some y->x.2.1<y.2.1
 | [],_,i,j,x,y,_,hx,_=>by simp at hx
 | a::t,h,0,j+1,x,y,_,hx,hy=>by
  simp at hx;subst hx;exact uA t a h y (Le (by simpa using hy))
 | a::t,h,i+1,j+1,x,y,h0,hx,hy=>B4 t (B5 h) i j x y (by omega) (by simpa using hx) (by simpa using hy)
 | a::t,h,i,0,x,y,h0,_,_=>by omega
def findS(r:Int):Row:=
 if 44032<=r/\r<=55203 then (if (r-44032)%28=0 then (0,0,12,3,18,0,0) else (0,0,13,3,18,0,0))
 else if r<=161 then bQ tab1 r else if r<=1642 then bQ tab2 r else if r<=8237 then bQ tab3 r else bQ tab4 r
def cD(r:Int):Int:=(findS r).2.2.2.2.2.1
theorem kx(new cs:List V)(h:cs.length=new.length):putAt cs 0 new=new:=by
 have:=iz new [] cs (by omega);simp only[Mf,Me]at this;rw[this,M4 (by omega),Mn]
def gH(n:Nat):List V:=aV (List.replicate n kQ)
theorem rp(n:Nat):(gH n).length=n*7:=by simp[gH,dT]
section
variable {prim:FuncId->Option Prim}(d:Nat) (cfg:Cfg) (h:Heap)
theorem GA(hp:prim 154=none):af md (K prim (d+1)) cfg 154 [] h=some (.agg (aV tab1),h):=by
 have hk:K prim (d+1) ⟨0,[],0⟩ 154 [] []=some (.agg (aV tab1),[some (aV tab1)]):=by
  simp only[K,aN,hp];kernel_rfl
 have hf:frz [some (aV tab1)] 0 6 (.agg (aV tab1))=some (.agg (aV tab1)):=by kernel_rfl
 simp only[af,show md 154=0 from rfl,NH,if_true,hk,hf]
theorem GB(hp:prim 156=none):af md (K prim (d+1)) cfg 156 [] h=some (.agg (aV tab2),h):=by
 have hk:K prim (d+1) ⟨0,[],0⟩ 156 [] []=some (.agg (aV tab2),[some (aV tab2)]):=by
  simp only[K,aN,hp];kernel_rfl
 have hf:frz [some (aV tab2)] 0 6 (.agg (aV tab2))=some (.agg (aV tab2)):=by kernel_rfl
 simp only[af,show md 156=0 from rfl,NH,if_true,hk,hf]
theorem GC(hp:prim 157=none):af md (K prim (d+1)) cfg 157 [] h=some (.agg (aV tab3),h):=by
 have hk:K prim (d+1) ⟨0,[],0⟩ 157 [] []=some (.agg (aV tab3),[some (aV tab3)]):=by
  simp only[K,aN,hp];kernel_rfl
 have hf:frz [some (aV tab3)] 0 6 (.agg (aV tab3))=some (.agg (aV tab3)):=by kernel_rfl
 simp only[af,show md 157=0 from rfl,NH,if_true,hk,hf]
theorem GD(hp:prim 158=none):af md (K prim (d+1)) cfg 158 [] h=some (.agg (aV tab4),h):=by
 have hk:K prim (d+1) ⟨0,[],0⟩ 158 [] []=some (.agg (aV tab4),[some (aV tab4)]):=by
  simp only[K,aN,hp];kernel_rfl
 have hf:frz [some (aV tab4)] 0 6 (.agg (aV tab4))=some (.agg (aV tab4)):=by kernel_rfl
 simp only[af,show md 158=0 from rfl,NH,if_true,hk,hf]
theorem z91:zeroOf prog 197=some (.agg (gH 44)):=by kernel_rfl
theorem z95:zeroOf prog 201=some (.agg (gH 41)):=by kernel_rfl
theorem ls1:tab1.length=44:=rfl
theorem ls2:tab2.length=44:=rfl
theorem ls3:tab3.length=44:=rfl
theorem ls4:tab4.length=41:=rfl
theorem sl91{h:Heap}{b:Nat}:dz prog h 197 (.ptr b 0) none none=(ab h b).bind fun cs=>if 308<=cs.length then some (.sl b 0 44 44 7) else none:=by
 have hu:prog.underlying 197=some (.array 44 176):=by kernel_rfl
 have hs:cz prog 176=some 7:=by kernel_rfl
 simp only[dz,hu,hs];cases ab h b<;>simp
theorem sl95{h:Heap}{b:Nat}:dz prog h 201 (.ptr b 0) none none=(ab h b).bind fun cs=>if 287<=cs.length then some (.sl b 0 41 41 7) else none:=by
 have hu:prog.underlying 201=some (.array 41 176):=by kernel_rfl
 have hs:cz prog 176=some 7:=by kernel_rfl
 simp only[dz,hu,hs];cases ab h b<;>simp
theorem wrap32{n:Int}(h1:-2147483648<=n)(h2:n<=2147483647):IntKind.i32.wrap n=n:=by
 have:=IntWalk.i32_in n ⟨by omega,by omega⟩;exact this
theorem po(hp:prim 155=none)(t:List Row)(ht:t.length<=100)(hs:asc t=true)(r:Int)(y:Option (List V))(n:Nat)(hn:n=t.length):
  af md (K prim (d+1)) ⟨0,[],0⟩ 155 [.sl 1 0 n n 7,.int .i32 r] [y,some (aV t)]=some (.agg (ea (bQ t r)),[y,some (aV t)]):=by
 subst hn;refine Bw (prim:=prim) d _ _ hp t ht (B4 t hs) r ?_;have hb:ab [y,some (aV t)] 1=some (aV t):=by
  rw[dW,lR,eG];rfl
 simp[MC,CP hb]
theorem oU(hp:∀ f,Np5 f->prim f=none)(r:Int):af md (K prim (d+2)) cfg 126 [.int .i32 r] h=some (.agg (ea (findS r)),h):=by
 refine aU rfl (hp 126 (by decide)) func126 rfl rfl rfl (by simp) ?_;have h1:=fun cfg h=>GA (prim:=prim) d cfg h (hp 154 (by decide));have h2:=fun cfg h=>GB (prim:=prim) d cfg h (hp 156 (by decide));have h3:=fun cfg h=>GC (prim:=prim) d cfg h (hp 157 (by decide));have h4:=fun cfg h=>GD (prim:=prim) d cfg h (hp 158 (by decide));have s1:=fun y=>po (prim:=prim) d (hp 155 (by decide)) tab1 (by simp[ls1]) (by kernel_rfl) r y 44 ls1.symm;have s2:=fun y=>po (prim:=prim) d (hp 155 (by decide)) tab2 (by simp[ls2]) (by kernel_rfl) r y 44 ls2.symm;have s3:=fun y=>po (prim:=prim) d (hp 155 (by decide)) tab3 (by simp[ls3]) (by kernel_rfl) r y 44 ls3.symm;have s4:=fun y=>po (prim:=prim) d (hp 155 (by decide)) tab4 (by simp[ls4]) (by kernel_rfl) r y 41 ls4.symm;have fz:∀ (H:Heap) (x:Row),frz H 0 6 (.agg (ea x))=some (.agg (ea x)):=fun H ⟨a,b,c,d,e,f,g⟩=>rfl;unfold findS;have l1:(aV tab1).length=308:=by rw[dT,ls1]
 have l2:(aV tab2).length=308:=by rw[dT,ls2]
 have l3:(aV tab3).length=308:=by rw[dT,ls3]
 have l4:(aV tab4).length=287:=by rw[dT,ls4]
 have z1:(gH 44).length=308:=rp 44;have z2:(gH 41).length=287:=rp 41;have zm:∀ n,isMap (gH n)=false:=fun n=>eG _;have p1:=kx (aV tab1) (gH 44) (by rw[l1,z1]);have p2:=kx (aV tab2) (gH 44) (by rw[l2,z1]);have p3:=kx (aV tab3) (gH 44) (by rw[l3,z1]);have p4:=kx (aV tab4) (gH 41) (by rw[l4,z2]);have ro:∀ x:Row,ea x=[.int .i32 x.1,.int .i32 x.2.1,.int .u8 x.2.2.1,.int .u8 x.2.2.2.1,.int .u8 x.2.2.2.2.1,.int .u8 x.2.2.2.2.2.1,.int .u8 x.2.2.2.2.2.2]:=fun ⟨a,b,c,d,e,f,g⟩=>rfl;by_cases c1:44032<=r/\r<=55203
 ·have m1:(r-44032).tmod 28=(r-44032)%28:=MM (by omega);by_cases c0:(r-44032)%28=0
  ·simp(disch:=omega)[c1.1,c1.2,wrap32,m1,c0,ea]
  ·simp(disch:=omega)[c1.1,c1.2,wrap32,m1,c0,ea]
 ·have n1:(decide (44032<=r)&&decide (r<=55203))=false:=by simpa using c1
  by_cases c2:r<=161
  ·have n1:¬ 44032<=r:=by omega
   have s:=s1 (some (ea kQ));simp only[ea,kQ]at s;simp(disch:=omega)[n1,c2,h1,z91,fK,gh,eG,zm,l1,z1,p1,sl91,s,ro,-Tryz.zr197]
  ·by_cases c3:r<=1642
   ·have n1:¬ 44032<=r:=by omega
    have s:=s2 (some (ea kQ));simp only[ea,kQ]at s;simp(disch:=omega)[n1,c2,c3,h2,z91,fK,gh,eG,zm,l2,z1,p2,sl91,s,ro,-Tryz.zr197]
   ·by_cases c4:r<=8237
    ·have n1:¬ 44032<=r:=by omega
     have s:=s3 (some (ea kQ));simp only[ea,kQ]at s;simp(disch:=omega)[n1,c2,c3,c4,h3,z91,fK,gh,eG,zm,l3,z1,p3,sl91,s,ro,-Tryz.zr197]
    ·have s:=s4 (some (ea kQ));simp only[ea,kQ]at s;have c1':44032<=r->¬ r<=55203:=fun a b=>c1 ⟨a,b⟩;by_cases n0:44032<=r
     ·simp(disch:=omega)[n0,c1' n0,c2,c3,c4,h4,z95,fK,gh,eG,zm,l4,z2,p4,sl95,s,ro,-Tryz.zr201]
     ·simp(disch:=omega)[n0,c2,c3,c4,h4,z95,fK,gh,eG,zm,l4,z2,p4,sl95,s,ro,-Tryz.zr201]
theorem jg(t:List Row)(ht:t.all (fun x=>decide (0<=x.2.2.2.2.2.1)&&decide (x.2.2.2.2.2.1<=22))=true)(r:Int):0<=(bQ t r).2.2.2.2.2.1/\(bQ t r).2.2.2.2.2.1<=22:=by
 unfold bQ;split
 ·rename_i x hx;have hm:=NJ hx;have:=Lp.1 ht x hm;simp at this;split
  ·exact this
  ·simp[kQ]
 ·simp[kQ]
theorem B8(r:Int):0<=cD r/\cD r<=22:=by
 unfold cD findS;split
 ·split<;>simp
 ·split
  ·exact jg tab1 (by decide) r
  ·split
   ·exact jg tab2 (by decide) r
   ·split
    ·exact jg tab3 (by decide) r
    ·exact jg tab4 (by decide) r
@[simp] theorem cv5_3{h:Heap}{k:IntKind}{n:Int}:fB prog h 5 3 (.int k n)=some (.int .i64 (IntKind.i64.wrap n),h):=by kernel_rfl
theorem oP(hp:∀ f,Np5 f->prim f=none)(r:Int):af md (K prim (d+3)) cfg 101 [.int .i32 r] h=some (.int .i64 (cD r),h):=by
 refine aU rfl (hp 101 (by decide)) func101 rfl rfl rfl (by simp) ?_;have hf:=fun cfg h=>oU (prim:=prim) d cfg h hp r;have hb:=B8 r;unfold cD at hb ⊢;generalize findS r=x at hf hb ⊢;obtain⟨a,b,c,d,e,f,g⟩:=x;simp only[ea]at hf;simp only at hb;simp(disch:=omega)[hf,wrap64]
end
section
variable {prim:FuncId->Option Prim}(d:Nat)
def cBr(r:Int):Int:=IntKind.i64.wrap (findS r).2.2.1
def cLn(r:Int):Int:=IntKind.i64.wrap (findS r).2.2.2.2.1
theorem xz(hp:∀ f,Np5 f->prim f=none)(cfg:Cfg)(h:Heap)(r:Int):af md (K prim (d+3)) cfg 90 [.int .i32 r] h=some (.int .i64 (cBr r),h):=by
 refine aU rfl (hp 90 (by decide)) func90 rfl rfl rfl (by simp) ?_;have hf:=fun cfg h=>oU (prim:=prim) d cfg h hp r;unfold cBr;generalize findS r=x at hf ⊢;obtain⟨a,b,c,d,e,f,g⟩:=x;simp only[ea]at hf;simp[hf]
theorem pN(hp:∀ f,Np5 f->prim f=none)(cfg:Cfg)(h:Heap)(r:Int):af md (K prim (d+3)) cfg 93 [.int .i32 r] h=some (.int .i64 (cLn r),h):=by
 refine aU rfl (hp 93 (by decide)) func93 rfl rfl rfl (by simp) ?_;have hf:=fun cfg h=>oU (prim:=prim) d cfg h hp r;unfold cLn;generalize findS r=x at hf ⊢;obtain⟨a,b,c,d,e,f,g⟩:=x;simp only[ea]at hf;simp[hf]
def cJn(r:Int):Int:=IntKind.i64.wrap (findS r).2.2.2.2.2.2
theorem Cm(hp:∀ f,Np5 f->prim f=none)(cfg:Cfg)(h:Heap)(r:Int):af md (K prim (d+3)) cfg 129 [.int .i32 r] h=some (.int .i64 (cJn r),h):=by
 refine aU rfl (hp 129 (by decide)) func129 rfl rfl rfl (by simp) ?_;have hf:=fun cfg h=>oU (prim:=prim) d cfg h hp r;unfold cJn;generalize findS r=x at hf ⊢;obtain⟨a,b,c,d,e,f,g⟩:=x;simp only[ea]at hf;simp[hf]
end
def refTbl:List (Int×List Int):=[(-1,[0,0,0,0,0]),(8,[3,0,7,9,0]),(9,[3,0,10,11,0]),(10,[2,1,3,10,0]),(11,[3,1,1,11,0]),(12,[3,1,1,12,0]),(13,[1,1,2,10,0]),(31,[3,0,7,9,0]),(32,[0,2,4,12,0]),(33,[0,0,15,13,0]),(34,[0,0,14,13,0]),(37,[0,0,0,5,0]),(38,[0,0,0,13,0]),(39,[0,7,14,13,0]),(40,[0,0,12,13,0]),(41,[0,0,13,13,0]),(42,[0,0,0,13,0]),(43,[0,0,0,4,0]),(44,[0,6,16,7,0]),(45,[0,0,11,4,0]),(46,[0,7,16,7,0]),(47,[0,0,10,7,0]),(57,[0,4,17,3,0]),(58,[0,5,16,7,0]),(59,[0,6,16,13,0]),(62,[0,0,0,13,0]),(63,[0,0,15,13,0]),(64,[0,0,0,13,0]),(90,[0,3,0,0,0]),(91,[0,0,12,13,0]),(92,[0,0,0,13,0]),(93,[0,0,13,13,0]),(94,[0,0,0,13,0]),(95,[0,8,0,13,0]),(96,[0,0,0,13,0]),(122,[0,3,0,0,0]),(123,[0,0,12,13,0]),(124,[0,0,10,13,0]),(125,[0,0,13,13,0]),(126,[0,0,0,13,0]),(132,[3,0,7,9,0]),(133,[3,1,1,10,0]),(159,[3,0,7,9,0]),(160,[0,0,9,7,0]),(161,[0,0,12,13,0]),(165,[0,0,0,5,0]),(169,[0,0,0,13,0]),(170,[0,3,0,0,0]),(171,[0,0,14,13,0]),(172,[0,0,0,13,0]),(173,[3,10,10,9,4]),(180,[0,0,0,13,0]),(181,[0,3,0,0,0]),(182,[0,0,0,13,0]),(183,[0,5,0,13,0]),(185,[0,0,0,13,0]),(186,[0,3,0,0,0]),(187,[0,0,14,13,0]),(191,[0,0,0,13,0]),(767,[0,3,0,0,0]),(879,[4,10,7,8,4]),(1423,[0,3,0,0,0]),(1469,[4,10,7,8,4]),(1470,[0,0,10,1,0]),(1479,[4,10,7,8,4]),(1487,[0,0,0,0,0]),(1514,[0,3,0,1,0]),(1535,[0,0,0,0,0]),(1541,[7,0,0,6,0]),(1547,[0,0,0,0,0]),(1548,[0,6,16,7,0]),(1551,[0,0,0,0,0]),(1562,[4,10,7,8,4]),(1563,[0,0,15,2,0]),(1564,[3,10,7,2,4]),(1566,[0,0,0,0,0]),(1567,[0,0,15,2,0]),(1568,[0,3,0,2,2]),(1569,[0,3,0,2,0]),(1573,[0,3,0,2,1]),(1574,[0,3,0,2,2]),(1575,[0,3,0,2,1]),(1576,[0,3,0,2,2]),(1577,[0,3,0,2,1]),(1582,[0,3,0,2,2]),(1586,[0,3,0,2,1]),(1599,[0,3,0,2,2]),(1600,[0,3,0,2,3]),(1607,[0,3,0,2,2]),(1608,[0,3,0,2,1]),(1610,[0,3,0,2,2]),(1631,[4,10,7,8,4]),(1641,[0,4,17,6,0]),(1642,[0,0,0,5,0]),(1644,[0,6,16,6,0]),(1647,[0,0,0,0,0]),(1648,[4,10,7,8,4]),(1655,[0,3,0,2,1]),(1671,[0,3,0,2,2]),(1689,[0,3,0,2,1]),(1727,[0,3,0,2,2]),(1739,[0,3,0,2,1]),(1747,[0,3,0,2,2]),(1749,[0,0,0,0,0]),(1756,[4,10,7,8,4]),(1775,[0,0,0,0,0]),(1785,[0,4,17,3,0]),(2303,[0,0,0,0,0]),(2306,[4,10,7,8,0]),(2307,[8,10,7,0,0]),(2361,[0,3,0,0,0]),(2363,[0,0,0,0,0]),(2364,[4,10,7,8,0]),(2365,[0,0,0,0,0]),(2368,[8,10,7,0,0]),(2376,[4,10,7,8,0]),(2380,[8,10,7,0,0]),(2381,[4,10,7,8,0]),(2405,[0,0,0,0,0]),(2415,[0,4,17,0,0]),(4351,[0,0,0,0,0]),(4447,[9,3,18,0,0]),(4519,[10,3,18,0,0]),(4607,[11,3,18,0,0]),(8191,[0,0,0,0,0]),(8198,[0,2,10,12,0]),(8199,[0,0,9,12,0]),(8202,[0,2,10,12,0]),(8203,[3,0,5,9,0]),(8204,[4,10,7,9,0]),(8205,[5,11,6,9,3]),(8206,[3,10,7,0,4]),(8207,[3,10,7,1,4]),(8208,[0,0,10,13,0]),(8209,[0,0,9,13,0]),(8212,[0,0,10,13,0]),(8215,[0,0,0,13,0]),(8216,[0,0,14,13,0]),(8217,[0,7,14,13,0]),(8218,[0,0,12,13,0]),(8219,[0,0,0,0,0]),(8221,[0,0,14,13,0]),(8231,[0,0,0,0,0]),(8232,[3,1,1,12,0]),(8233,[3,1,1,10,0]),(8234,[3,10,7,14,4]),(8235,[3,10,7,16,4]),(8236,[3,10,7,18,4]),(8237,[3,10,7,15,4]),(8238,[3,10,7,17,4]),(8239,[0,0,0,0,0]),(8244,[0,0,0,5,0]),(8254,[0,0,0,0,0]),(8256,[0,8,0,13,0]),(8287,[0,0,0,0,0]),(8288,[3,10,8,9,4]),(8293,[0,0,0,0,0]),(8294,[3,10,7,19,0]),(8295,[3,10,7,20,0]),(8296,[3,10,7,21,0]),(8297,[3,10,7,22,0]),(8351,[0,0,0,0,0]),(8399,[0,0,0,5,0]),(8432,[4,10,7,8,4]),(8591,[0,0,0,0,0]),(8959,[0,0,0,13,0]),(9727,[0,0,0,0,0]),(10175,[14,0,18,13,0]),(12287,[0,0,0,0,0]),(12288,[0,2,10,12,0]),(12290,[0,0,13,13,0]),(12292,[0,0,0,0,0]),(12295,[0,0,18,0,0]),(12296,[0,0,12,13,0]),(12297,[0,0,13,13,0]),(12298,[0,0,12,13,0]),(12299,[0,0,13,13,0]),(12300,[0,0,12,13,0]),(12301,[0,0,13,13,0]),(12302,[0,0,12,13,0]),(12303,[0,0,13,13,0]),(12304,[0,0,12,13,0]),(12305,[0,0,13,13,0]),(12352,[0,0,0,0,0]),(12438,[0,0,18,0,0]),(12440,[0,0,0,0,0]),(12442,[4,10,7,8,4]),(12448,[0,0,0,0,0]),(12538,[0,9,18,0,0]),(12539,[0,0,0,0,0]),(12540,[0,9,18,0,0]),(13311,[0,0,0,0,0]),(40959,[0,0,18,0,0]),(64284,[0,0,0,0,0]),(64335,[0,3,0,1,0]),(65023,[0,3,0,2,0]),(65039,[4,10,7,8,4]),(65135,[0,0,0,0,0]),(65276,[0,3,0,2,0]),(65278,[0,0,0,0,0]),(65279,[3,10,8,9,4]),(127461,[0,0,0,0,0]),(127487,[6,12,19,0,0]),(127743,[0,0,0,0,0]),(127994,[14,0,18,13,0]),(127999,[4,10,7,13,4]),(129791,[14,0,18,13,0]),(131071,[0,0,0,0,0]),(262141,[0,0,18,0,0]),(917759,[0,0,0,0,0]),(917999,[4,10,7,8,4])]
section
variable {md':FuncId->Nat}{call:aW}{cfg:Cfg}{n:Nat}
def look:List (Int×List Int)->Int->Option (List Int)
 | [],_=>none
 | (m,l)::t,r=>if r<=m then some l else look t r
end
section
variable {prim:FuncId->Option Prim}(d:Nat) (cfg:Cfg) (h:Heap)
end
def tbk(t:List Row):List Int:=t.flatMap fun x=>[x.2.1,x.1-1]
def brkB:List Int:=161::1642::8237::(tbk tab1++tbk tab2++tbk tab3++tbk tab4++refTbl.map (·.1))
theorem EX:brkB.all (fun b=>decide (b<=10000000))=true:=by kernel_rfl
def Sat(B:List Int)(r s:Int):Prop:=∀ b∈B,r<=b↔s<=b
theorem fI{r s:Int}:∀ {t:List Row},Sat (tbk t) r s->bQ t r=bQ t s
 | [],_=>rfl
 | x::t,h=>by
  have h1:=h x.2.1 (by simp[tbk]);have h2:=h (x.1-1) (by simp[tbk]);have ih:=fI (r:=r) (s:=s) (t:=t) fun b hb=>h b (by simp only[tbk,L4]at hb ⊢;exact List.mem_append_right _ hb);unfold bQ at ih ⊢;rw[Ob,Ob];by_cases hr:r<=x.2.1
  ·have hs:=h1.1 hr;rw[decide_eq_true hr,decide_eq_true hs];simp only;by_cases h3:x.1<=r
   ·rw[if_pos h3,if_pos (by omega)]
   ·rw[if_neg h3,if_neg (by omega)]
  ·have hs:¬ s<=x.2.1:=fun e=>hr (h1.2 e);rw[decide_eq_false hr,decide_eq_false hs];exact ih
theorem least:∀ (L:List Int) (r:Int),(∃ b∈L,r<=b)->∃ s∈L,r<=s/\∀ b∈L,r<=b->s<=b
 | [],_,⟨_,h,_⟩=>by simp at h
 | a::L,r,h=>by
  by_cases hL:∃ b∈L,r<=b
  ·obtain⟨s,h1,h2,h3⟩:=least L r hL;by_cases ha:r<=a/\a<=s
   ·exact⟨a,Lv ..,ha.1,fun b hb hr=>by
     rcases Ly.1 hb with rfl|hb
     ·omega
     ·have:=h3 b hb hr;omega⟩
   ·exact⟨s,Lm _ h1,h2,fun b hb hr=>by
     rcases Ly.1 hb with rfl|hb
     ·omega
     ·exact h3 b hb hr⟩
  ·obtain⟨b,hb,hr⟩:=h;rcases Ly.1 hb with rfl|hb
   ·exact⟨b,Lv ..,hr,fun c hc h0=>by
     rcases Ly.1 hc with rfl|hc
     ·omega
     ·exact absurd ⟨c,hc,h0⟩ hL⟩
   ·exact absurd ⟨b,hb,hr⟩ hL
theorem rep(r:Int):∃ s∈(10000001::brkB),Sat brkB r s:=by
 by_cases h:∃ b∈brkB,r<=b
 ·obtain⟨s,h1,h2,h3⟩:=least brkB r h;exact⟨s,Lm _ h1,fun b hb=>⟨fun hr=>h3 b hb hr,fun hs=>by omega⟩⟩
 ·refine⟨10000001,Lv ..,fun b hb=>⟨fun hr=>absurd ⟨b,hb,hr⟩ h,fun hs=>?_⟩⟩;have:=Lp.1 EX b hb;simp at this;omega
section
variable {prim:FuncId->Option Prim}(d:Nat) (cfg:Cfg) (h:Heap)
end
end Bi
end Go.Ab
namespace Go.Ab
def gd(b:Bool)(v:V):V:=if b=true then v else .no
theorem tz{v:V}:gd true v=v:=rfl
section
variable (P:Program) (md:FuncId->Nat) (call:aW) (cfg:Cfg)
def wGp(e:Bool)(r:Option (V×Heap))[dst:Hid (Option Tmp)][ops:Hid (Array Oper)][l:Hid (List Oper)][fr:Hid (List V)][h:Hid Heap][Q:Hid bR]:Prop:=
 @wIf e ⟨@wS P md call cfg dst fr r ops l Q⟩ ⟨@wO P md call cfg ops l (put fr.val dst.val .no) h.val Q⟩
end
section
variable {P:Program}{md:FuncId->Nat}{call:aW}{cfg:Cfg}
theorem sU{e e':Bool}{r r':Option (V×Heap)}{dst:Hid (Option Tmp)}{ops:Hid (Array Oper)}{l:Hid (List Oper)}{fr:Hid (List V)}{h:Hid Heap}{Q:Hid bR}(he:e=e')(hr:e'=true->r=r'):
  @wGp P md call cfg e r dst ops l fr h Q=@wGp P md call cfg e' r' dst ops l fr h Q:=by
 subst he;cases e
 ·simp[wGp]
 ·rw[hr rfl]
theorem GM{e e':Bool}{p:Prop}{r r':Option (V×Heap)}{dst:Hid (Option Tmp)}{ops:Hid (Array Oper)}{l:Hid (List Oper)}{fr:Hid (List V)}{h:Hid Heap}{Q:Hid bR}(he:e=e')(hp:(e'=true)=p)(hr:e'=true->p->r=r'):
  @wGp P md call cfg e r dst ops l fr h Q=@wGp P md call cfg e' r' dst ops l fr h Q:=sU he fun h=>hr h (hp ▸ h)
theorem EB{b want:Bool}{dst:Option Tmp}{op:Op}{ops:Array Oper}{l:List Oper}{fr:List V}{h:Heap}{Q:bR}:
  @wG P md call cfg (some (.bool b)) ⟨want⟩ ⟨dst⟩ ⟨op⟩ ⟨ops⟩ ⟨l⟩ ⟨fr⟩ ⟨h⟩ ⟨Q⟩↔@wGp P md call cfg (b==want) (aH P md call cfg fr h op) ⟨dst⟩ ⟨ops⟩ ⟨l⟩ ⟨fr⟩ ⟨h⟩ ⟨Q⟩:=ME
theorem EC{b c want:Bool}{dst:Option Tmp}{op:Op}{ops:Array Oper}{l:List Oper}{fr:List V}{h:Heap}{Q:bR}:
  @wG P md call cfg (some (gd c (.bool b))) ⟨want⟩ ⟨dst⟩ ⟨op⟩ ⟨ops⟩ ⟨l⟩ ⟨fr⟩ ⟨h⟩ ⟨Q⟩↔@wGp P md call cfg (c&&(b==want)) (aH P md call cfg fr h op) ⟨dst⟩ ⟨ops⟩ ⟨l⟩ ⟨fr⟩ ⟨h⟩ ⟨Q⟩:=by
 cases c
 ·simp[gd,wGp]
 ·exact ME
theorem rk{e:Bool}{v:V}{dst:Option Tmp}{ops:Array Oper}{l:List Oper}{fr:List V}{h:Heap}{Q:bR}:
  @wGp P md call cfg e (some (v,h)) ⟨dst⟩ ⟨ops⟩ ⟨l⟩ ⟨fr⟩ ⟨h⟩ ⟨Q⟩↔@wO P md call cfg ⟨ops⟩ ⟨l⟩ (put fr dst (gd e v)) h ⟨Q⟩:=by
 cases e
 ·simp[wGp,gd]
 ·simp[wGp,gd]
theorem nG{x y:Bool}{h:Heap}:mN (some (.bool x)) (some (gd x (.bool y))) (some (.bool false)) h=some (.bool (x&&y),h):=by cases x<;>rfl
theorem sJ{x y:Bool}{h:Heap}:mN (some (.bool x)) (some (.bool true)) (some (gd (!x) (.bool y))) h=some (.bool (x||y),h):=by cases x<;>rfl
end
end Go.Ab
namespace Go.Ab
noncomputable def gq(p:Prop)(v:V):V:=by
 classical
 exact if p then v else .no
theorem qu{p:Prop}{v:V}(h:p):gq p v=v:=by unfold gq;exact if_pos h
theorem xM{p:Prop}{v:V}(h:¬ p):gq p v=.no:=by unfold gq;exact if_neg h
theorem aG{v:V}:gq True v=v:=qu trivial
theorem cP{v:V}:gq False v=.no:=xM id
def lgI(l:List Int)(i:Nat):Int:=l.getD i 0
def lgB(l:List Bool)(i:Nat):Bool:=l.getD i false
theorem atI{l:List Int}{i:Nat}(h:i<l.length):l[i]?=some (lgI l i):=by
 rw[lgI,Lg,Lc h];rfl
theorem atB{l:List Bool}{i:Nat}(h:i<l.length):l[i]?=some (lgB l i):=by
 rw[lgB,Lg,Lc h];rfl
section
variable (P:Program) (md:FuncId->Nat) (call:aW) (cfg:Cfg)
def wGq(p:Prop)(r:Option (V×Heap))[dst:Hid (Option Tmp)][ops:Hid (Array Oper)][l:Hid (List Oper)][fr:Hid (List V)][h:Hid Heap][Q:Hid bR]:Prop:=
 (p/\@wS P md call cfg dst fr r ops l Q)\/(¬ p/\@wO P md call cfg ops l (put fr.val dst.val .no) h.val Q)
end
section
variable {P:Program}{md:FuncId->Nat}{call:aW}{cfg:Cfg}{dst:Option Tmp}{op:Op}{ops:Array Oper}{l:List Oper}{fr:List V}{h:Heap}{Q:bR}
theorem aw{p p':Prop}{r r':Option (V×Heap)}{dst:Hid (Option Tmp)}{ops:Hid (Array Oper)}{l:Hid (List Oper)}{fr:Hid (List V)}{h:Hid Heap}{Q:Hid bR}(hp:p=p')(hr:p'->r=r'):
  @wGq P md call cfg p r dst ops l fr h Q=@wGq P md call cfg p' r' dst ops l fr h Q:=by
 subst hp;by_cases h:p
 ·rw[hr h]
 ·simp[wGq,h]
theorem cC{b want:Bool}:@wG P md call cfg (some (.bool b)) ⟨want⟩ ⟨dst⟩ ⟨op⟩ ⟨ops⟩ ⟨l⟩ ⟨fr⟩ ⟨h⟩ ⟨Q⟩↔@wGq P md call cfg ((b==want)=true) (aH P md call cfg fr h op) ⟨dst⟩ ⟨ops⟩ ⟨l⟩ ⟨fr⟩ ⟨h⟩ ⟨Q⟩:=by
 rw[ar];cases hb:(b==want)<;>simp[wGq]
theorem HN{b want:Bool}{c:Prop}:@wG P md call cfg (some (gq c (.bool b))) ⟨want⟩ ⟨dst⟩ ⟨op⟩ ⟨ops⟩ ⟨l⟩ ⟨fr⟩ ⟨h⟩ ⟨Q⟩↔@wGq P md call cfg (c/\(b==want)=true) (aH P md call cfg fr h op) ⟨dst⟩ ⟨ops⟩ ⟨l⟩ ⟨fr⟩ ⟨h⟩ ⟨Q⟩:=by
 by_cases hc:c
 ·rw[qu hc,cC];simp[wGq,hc]
 ·rw[xM hc,wG_no];simp[wGq,hc]
theorem ax{p:Prop}{v:V}:@wGq P md call cfg p (some (v,h)) ⟨dst⟩ ⟨ops⟩ ⟨l⟩ ⟨fr⟩ ⟨h⟩ ⟨Q⟩↔@wO P md call cfg ⟨ops⟩ ⟨l⟩ (put fr dst (gq p v)) h ⟨Q⟩:=by
 by_cases hp:p
 ·rw[qu hp];simp[wGq,hp]
 ·rw[xM hp];simp[wGq,hp]
theorem wY{r:Option (V×Heap)}:@wGq P md call cfg True r ⟨dst⟩ ⟨ops⟩ ⟨l⟩ ⟨fr⟩ ⟨h⟩ ⟨Q⟩↔@wS P md call cfg ⟨dst⟩ ⟨fr⟩ r ⟨ops⟩ ⟨l⟩ ⟨Q⟩:=by simp[wGq]
theorem cL{r:Option (V×Heap)}:@wGq P md call cfg False r ⟨dst⟩ ⟨ops⟩ ⟨l⟩ ⟨fr⟩ ⟨h⟩ ⟨Q⟩↔@wO P md call cfg ⟨ops⟩ ⟨l⟩ (put fr dst .no) h ⟨Q⟩:=by simp[wGq]
theorem cx{p:Prop}{x y:Bool}{h:Heap}(hp:p↔x=true):mN (some (.bool x)) (some (gq p (.bool y))) (some (.bool false)) h=some (.bool (x&&y),h):=by
 cases x
 ·rfl
 ·rw[qu (hp.2 rfl)];rfl
theorem cr{p:Prop}{x y:Bool}{h:Heap}(hp:p↔x=false):mN (some (.bool x)) (some (.bool true)) (some (gq p (.bool y))) h=some (.bool (x||y),h):=by
 cases x
 ·rw[qu (hp.2 rfl)];rfl
 ·rfl
end
end Go.Ab
namespace Go.Ab
def i1Of:List V->Int
 | [.int _ n]=>n
 | _=>0
def b1Of:List V->Bool
 | [.bool b]=>b
 | _=>false
@[simp] theorem i1Of_mk{k:IntKind}{n:Int}:i1Of [.int k n]=n:=rfl
@[simp] theorem b1Of_mk{b:Bool}:b1Of [.bool b]=b:=rfl
def IsB(v:V):Prop:=∃ b,v=.bool b
def IsI(k:IntKind)(v:V):Prop:=∃ z,v=.int k z
@[simp] theorem isB_mk{b:Bool}:IsB (.bool b):=⟨b,rfl⟩
@[simp] theorem isI_mk{k:IntKind}{z:Int}:IsI k (.int k z):=⟨z,rfl⟩
section
variable {P:Program}{md:FuncId->Nat}{prim:FuncId->Option Prim}{n:Nat}
theorem gn{d:Nat}{f:FuncId}{fn:Func}{c:Code}{k:Nat}{rs:List ResultVar}{args:List V}{Post:V->Prop}(hm:md f=0)(hp:prim f=none)(hf:P.funcs[f]?=some fn)(hb:fn.body=some c)(hk:fn.ntmps=k)
  (hr:fn.results.toList=rs) (ha:args.all V.noref=true)
  (hw:@wC P md (aN P md prim n d) ⟨0,[],0⟩ n ⟨c⟩ (args++List.replicate (k-args.length) .no) [] ⟨@kFn P ⟨rs⟩ ⟨fun r' h'=>∃ r,frz h' 0 6 r'=some r/\Post r⟩⟩):
  ∃ r,Post r/\∀ cfg h,af md (aN P md prim n (d+1)) cfg f args h=some (r,h):=by
 obtain⟨r',h',h1,r,h2,h3⟩:=cw hp hf hb hk hr hw;exact⟨r,h3,fun cfg h=>by simp only[af,hm,ha,if_true,h1,h2]⟩
theorem H8{d:Nat}{f:FuncId}{fn:Func}{c:Code}{k:Nat}{rs:List ResultVar}{args':List V}{Post:V->Prop}(hm:md f=3)(hp:prim f=none)(hf:P.funcs[f]?=some fn)(hb:fn.body=some c)(hk:fn.ntmps=k)
  (hr:fn.results.toList=rs)
  (hw:@wC P md (aN P md prim n d) ⟨0,[],0⟩ n ⟨c⟩ (args'++List.replicate (k-args'.length) .no) [] ⟨@kFn P ⟨rs⟩ ⟨fun r' h'=>own h' 6 r'=true/\∃ r,frz h' 0 6 r'=some r/\Post r⟩⟩):
  ∃ r,Post r/\∀ cfg h args,args.mapM (frzA h)=some args'->af md (aN P md prim n (d+1)) cfg f args h=some (r,h):=by
 obtain⟨r',h',h1,h2,r,h3,h4⟩:=cw hp hf hb hk hr hw;exact⟨r,h4,fun cfg h args ha=>by simp only[af,hm,ha,h1,h2,h3,if_true]⟩
theorem callE{d:Nat}{f:FuncId}{fn:Func}{c:Code}{k:Nat}{rs:List ResultVar}{args':List V}{Post:V->Prop}(hp:prim f=none)(hf:P.funcs[f]?=some fn)(hb:fn.body=some c)(hk:fn.ntmps=k)
  (hr:fn.results.toList=rs) (ha:args'.all V.noref=true)
  (hw:@wC P md (aN P md prim n d) ⟨0,[],0⟩ n ⟨c⟩ (args'++List.replicate (k-args'.length) .no) [] ⟨@kFn P ⟨rs⟩ ⟨fun r' h'=>own h' 6 r'=true/\∃ r,frz h' 0 6 r'=some r/\Post r⟩⟩):
  ∃ r,Post r/\(md f=0->∀ cfg h,af md (aN P md prim n (d+1)) cfg f args' h=some (r,h)) /\
   (md f=3->∀ cfg h args,args.mapM (frzA h)=some args'->af md (aN P md prim n (d+1)) cfg f args h=some (r,h)):=by
 obtain⟨r',h',h1,h2,r,h3,h4⟩:=cw hp hf hb hk hr hw;exact⟨r,h4,fun hm cfg h=>by simp only[af,hm,ha,if_true,h1,h3],fun hm cfg h args hA=>by simp only[af,hm,hA,h1,h2,h3,if_true]⟩
end
end Go.Ab
namespace Go.Ab
open Go.Proofs Go.Proofs.Tryz
namespace Bi
attribute [local congr] aw
abbrev bl(l:List Bool):V:=.lst (l.map fun b=>[.bool b])
section
variable {prim:FuncId->Option Prim}(d:Nat) (cfg:Cfg) (h:Heap)
end
end Bi
end Go.Ab
namespace Go.Ab
open Go.Proofs Go.Proofs.Tryz
namespace Bi
structure MOK(c M:List Int):Prop where
 len:M.length=c.length
 at_:∀ (i:Nat) (x:Int),c[i]?=some x->ini x=true->M[i]?=some (mt c i)
theorem Hu{c:List Int}{i:Nat}(h:i<c.length):mt c i=-1\/∃ m:Nat,mt c i=m/\i<m/\m<c.length/\bn (c.drop (i+1)) 0=some (m-(i+1)):=by
 unfold mt;cases hm:bn (c.drop (i+1)) 0 with
 | none=>exact .inl rfl
 | some m =>
  have:=jD _ _ _ hm;simp at this;refine .inr ⟨i+1+m,rfl,by omega,by omega,by congr 1;omega⟩
section
variable {P:Program}{md':FuncId->Nat}{n:Nat}{prim:FuncId->Option Prim}
theorem H7{d:Nat}{f:FuncId}{fn:Func}{c:Code}{k:Nat}{rs:List ResultVar}{args:List V}{Post:V->Prop}(hm:md' f=0)(hp:prim f=none)(hf:P.funcs[f]?=some fn)(hb:fn.body=some c)(hk:fn.ntmps=k)
  (hr:fn.results.toList=rs) (ha:args.all V.noref=true)
  (hw:@wC P md' (aN P md' prim n d) ⟨0,[],0⟩ n ⟨c⟩ (args++List.replicate (k-args.length) .no) [] ⟨@kFn P ⟨rs⟩ ⟨fun r' h'=>∃ r,frz h' 0 6 r'=some r/\Post r⟩⟩):
  ∃ r,(∀ cfg h,af md' (aN P md' prim n (d+1)) cfg f args h=some (r,h))/\Post r:=by
 obtain⟨r',h',h1,r,h2,h3⟩:=cw hp hf hb hk hr hw;exact⟨r,fun cfg h=>by simp only[af,hm,ha,if_true,h1,h2],h3⟩
end
section
variable {prim:FuncId->Option Prim}(d:Nat) (cfg:Cfg) (h:Heap)
theorem lC(hp:prim 142=none)(x:Int):af md (K prim (d+1)) cfg 142 [.int .i64 x] h=some (.bool (ini x),h):=by
 refine aU rfl hp func142 rfl rfl rfl (by simp) ?_;unfold ini;simp;by_cases h1:x=19<;>by_cases h2:x=20<;>by_cases h3:x=21<;>simp_all
theorem lr(hp:prim 103=none)(B:Int->Int)(hB:∀ cfg h r,af md (K prim (d+1)) cfg 101 [.int .i32 r] h=some (.int .i64 (B r),h))(t:List Int)(ht:t.length<=2000):
  af md (K prim (d+2)) cfg 103 [rl t] h=some (il (t.map B),h):=by
 refine aU rfl hp func103 rfl rfl rfl (by simp) ?_;simp(disch:=omega);refine ai (fun m fr H=>∃ (i:Nat) (o:List Int),i<=t.length/\m=t.length-i/\o.length=t.length/\o.take i=(t.map B).take i/\H=[some (o.map (V.int .i64))] /\
  Slots 23 [(0,rl t),(3,.sl 0 0 t.length t.length 1),(9,rl t),(10,.int .i64 t.length),(11,.int .i64 i)] fr) (m:=t.length) (by omega) ⟨0,List.replicate t.length 0,by omega,by omega,by simp,rfl,by simp[dF],by simp⟩ ?_
 rintro m fr H ⟨i,o,hi,rfl,ho,h0,rfl,hs⟩;obtain⟨j,rfl⟩:=hs.ex;clear hs;by_cases h3:i<t.length
 ·obtain⟨x,hx⟩:∃ x,t[i]?=some x:=⟨_,Lc h3⟩;have hle:i+1<=o.length:=by omega
  simp(disch:=omega)[h3,hx,hB,hle,-getElem?_pos];refine ae (m':=t.length-(i+1)) (by omega) ⟨i+1,o.set i (B x),by omega,rfl,by simpa using ho,?_,by simp,by simp(disch:=omega)[wrap64]⟩;rw[LO,LO,Mw (Lh _),h0,Lo (by omega)];simp[hx]
 ·obtain rfl:i=t.length:=by omega
  have e:o=t.map B:=by
   rw[Lu (by omega),Lu (by simp)]at h0;exact h0
  subst e;simp;have h4:ab [some ((t.map B).map (V.int .i64))] 0=some ((t.map B).map (V.int .i64)):=by
   rw[lR];simp only[dN];rfl
  have:=dx (d:=4) (cap:=t.length) (k:=.i64) h4 (LJ _) ho;simpa[il,Function.comp_def]using this
end
def Opens(c M:List Int)(i:Nat)(st:List Nat):Prop:=∀ (q k:Nat),st[q]?=some k->k<i/\M[k]?=some (-1)/\bn (c.drop (k+1)) 0=(bn (c.drop i) q).map (·+(i-(k+1)))
structure MI(c M:List Int)(i:Nat)(st:List Nat):Prop where
 len:M.length=c.length
 op:Opens c M i st
 dec:st.Pairwise (· > ·)
 ok:∀ (j:Nat) (x:Int),j<i->c[j]?=some x->ini x=true->j∈st\/M[j]?=some (mt c j)
theorem MI.stl{c M:List Int}{i:Nat}{st:List Nat}(h:MI c M i st):st.length<=i:=by
 have key:∀ (st:List Nat) (i:Nat),st.Pairwise (· > ·)->(∀ k∈st,k<i)->st.length<=i:=by
  intro st
  induction st with
  | nil=>intro i _ _;simp
  | cons a st ih =>
   intro i hp hk;have hp:=Mj.1 hp;have:=ih a hp.2 (fun k hk=>hp.1 k hk);have:=hk a (Lv ..);simp;omega
 refine key st i h.dec fun k hk=>?_;obtain⟨q,hq,rfl⟩:=NC.1 hk;exact (h.op q _ (Lc hq)).1
theorem MI.zero{c:List Int}:MI c (List.replicate c.length 0) 0 []:=⟨by simp,fun q k h=>by simp at h,Oz,fun j x h=>by omega⟩
theorem MI.fin{c M:List Int}{st:List Nat}(h:MI c M c.length st):MOK c M:=by
 refine⟨h.len,fun i x hx hi=>?_⟩;have h0:=(Ld.1 hx).1;rcases h.ok i x h0 hx hi with hs|hs
 ·obtain⟨q,hq,rfl⟩:=NC.1 hs;obtain⟨_,h1,h2⟩:=h.op q _ (Lc hq);rw[M4 (Lh _)]at h2;rw[h1,mt,h2];rfl
 ·exact hs
theorem eK{c:List Int}{i:Nat}{x:Int}(hx:c[i]?=some x):c.drop i=x::c.drop (i+1):=by
 have h0:=(Ld.1 hx).1;rw[LC h0];congr 1;exact (Ld.1 hx).2
theorem nD{o:Option Nat}{i k:Nat}(hk:k<i):(o.map (·+1)).map (·+(i-(k+1)))=o.map (·+(i+1-(k+1))):=by
 cases o with
 | none=>rfl
 | some m=>simp;omega
theorem MI.open_{c M:List Int}{i:Nat}{st:List Nat}{x:Int}(h:MI c M i st)(hx:c[i]?=some x)(hi:ini x=true):MI c (M.set i (-1)) (i+1) (i::st):=by
 have h4:=(Ld.1 hx).1;have hM:=h.len;refine⟨by simpa using h.len,fun q k hq=>?_,Mj.2 ⟨fun k hk=>?_,h.dec⟩,fun j y hj hy h0=>?_⟩
 ·rcases q with _|q
  ·simp at hq;subst hq;refine⟨by omega,by rw[Lo (by omega)],?_⟩;cases bn (c.drop (i+1)) 0<;>simp
  ·obtain⟨h1,h2,h3⟩:=h.op q k (by simpa using hq);refine⟨by omega,by rw[Li (by omega)];exact h2,?_⟩;rw[h3,eK hx,kg hi,nD h1]
 ·obtain⟨q,hq,rfl⟩:=NC.1 hk;exact (h.op q _ (Lc hq)).1
 ·by_cases e:j=i
  ·exact .inl (by simp[e])
  ·rcases h.ok j y (by omega) hy h0 with hs|hs
   ·exact .inl (Lm _ hs)
   ·exact .inr (by rw[Li (by omega)];exact hs)
theorem MI.other{c M:List Int}{i:Nat}{st:List Nat}{x:Int}(h:MI c M i st)(hx:c[i]?=some x)(hi:ini x=false)(hp:x≠22\/st=[]):MI c (M.set i (-1)) (i+1) st:=by
 have h4:=(Ld.1 hx).1;have hM:=h.len;refine⟨by simpa using h.len,fun q k hq=>?_,h.dec,fun j y hj hy h0=>?_⟩
 ·obtain⟨h1,h2,h3⟩:=h.op q k hq;refine⟨by omega,by rw[Li (by omega)];exact h2,?_⟩;rcases hp with hp|rfl
  ·rw[h3,eK hx,nE hi hp,nD h1]
  ·simp at hq
 ·by_cases e:j=i
  ·subst e;rw[hx]at hy;cases hy;rw[hi]at h0;cases h0
  ·rcases h.ok j y (by omega) hy h0 with hs|hs
   ·exact .inl hs
   ·exact .inr (by rw[Li (by omega)];exact hs)
theorem MI.close{c M:List Int}{i k0:Nat}{st:List Nat}(h:MI c M i (k0::st))(hx:c[i]?=some 22):MI c (((M.set i (-1)).set i k0).set k0 i) (i+1) st:=by
 have h6:=(Ld.1 hx).1;have hM:=h.len;have hd:=Mj.1 h.dec;obtain⟨g1,g2,g3⟩:=h.op 0 k0 rfl;have h4:mt c k0=i:=by
  rw[mt,g3,eK hx,nF];simp;omega
 refine⟨by simpa using h.len,fun q k hq=>?_,hd.2,fun j y hj hy h0=>?_⟩
 ·obtain⟨h1,h2,h3⟩:=h.op (q+1) k (by simpa using hq);have hne:k0 > k:=hd.1 k (Le hq);refine⟨by omega,by rw[Li (by omega),Li (by omega),Li (by omega)];exact h2,?_⟩;rw[h3,eK hx,iq];exact nD h1
 ·by_cases e:j=i
  ·subst e;rw[hx]at hy;cases hy;cases h0
  ·by_cases e2:j=k0
   ·subst e2;right;rw[Lo (by simp;omega),h4]
   ·rcases h.ok j y (by omega) hy h0 with hs|hs
    ·rcases Ly.1 hs with hs|hs
     ·exact absurd hs e2
     ·exact .inl hs
    ·right;rw[Li (by omega),Li (by omega),Li (by omega)];exact hs
def opc(st:List Nat):List V:=st.reverse.map fun k:Nat=>V.int .i64 (k:Int)
theorem mF(k:Nat)(st:List Nat):opc (k::st)=opc st++[V.int .i64 k]:=by simp[opc]
theorem kn(st:List Nat):(opc st).length=st.length:=by simp[opc]
section
variable {prim:FuncId->Option Prim}(d:Nat)
theorem jC(hp:prim 104=none)(hl:prim 142=none)(c:List Int)(hc:c.length<=2000):
  ∃ M,(∀ cfg h,af md (K prim (d+2)) cfg 104 [il c] h=some (il M,h))/\MOK c M:=by
 suffices H:∃ r,(∀ cfg h,af md (K prim (d+2)) cfg 104 [il c] h=some (r,h))/\∃ M,r=il M/\MOK c M by
  obtain⟨r,h1,M,rfl,h2⟩:=H;exact⟨M,h1,h2⟩
 refine H7 rfl hp func104 rfl rfl rfl (by simp) ?_;have hI:=fun cfg h x=>lC (prim:=prim) d cfg h hl x;simp(disch:=omega);refine ai (fun m fr H=>∃ (i:Nat) (M:List Int) (st:List Nat) (v:V),i<=c.length/\m=c.length-i/\MI c M i st/\H.take 1=[some (M.map (V.int .i64))]/\1<=H.length/\Stk H 1 1 v (opc st) /\
  Slots 57 [(0,il c),(3,.sl 0 0 c.length c.length 1),(4,v),(11,il c),(12,.int .i64 c.length),(13,.int .i64 i)] fr) (m:=c.length) (by omega) ⟨0,_,[],.nils,by omega,by omega,MI.zero,by simp[dF],by simp,.inl ⟨rfl,rfl⟩,by simp⟩ ?_
 rintro m fr H ⟨i,M,st,v,hi,rfl,h0,ht,hg,h8,hs⟩;obtain⟨j,rfl⟩:=hs.ex;clear hs;have hlen:=h0.len;obtain⟨T,rfl⟩:∃ T,H=some (M.map (V.int .i64))::T:=by
  rcases H with _|⟨a,T⟩
  ·simp at hg
  ·simp at ht;exact⟨T,by rw[ht]⟩
 clear ht hg;by_cases h6:i<c.length
 ·obtain⟨x,hx⟩:∃ x,c[i]?=some x:=⟨_,Lc h6⟩;have hle:i+1<=M.length:=by omega
  have h3:∀ y:Option (List V),Stk (y::T) 1 1 v (opc st):=fun y=>h8.of_blk fun b hb=>by
   obtain⟨b',rfl⟩:∃ b',b=b'+1:=⟨b-1,by have:=(h8.blk hb).1;omega⟩;simp
  have h9:=h8.len (show prog.underlying 22=some (.slice 3) by kernel_rfl) (by omega);simp only[Oy,kn]at h9;cases h4:ini x
  ·by_cases ha:x=22
   ·subst ha;rcases st with _|⟨k0,st⟩
    ·simp at h9;simp(disch:=omega)[h6,hx,hle,hI,h4,h9,-getElem?_pos];exact ae (m':=c.length-(i+1)) (by omega) ⟨i+1,_,[],v,by omega,rfl,h0.other hx h4 (.inr rfl),by simp,by simp,by simpa using h3 _,by simp(disch:=omega)[wrap64]⟩
    ·simp at h9;obtain⟨b,n,cap,J,rfl,hr,hu,hn,hh,hJ,hv⟩:=h8.pos (by simp[mF]);simp[kn]at hn;subst hn;obtain⟨b,rfl⟩:∃ b',b=b'+1:=⟨b-1,by omega⟩;rw[dW]at hh;have hm:slot (opc (k0::st)++J) st.length=some (.int .i64 k0):=by
      rw[<- kn st,mF,LD,slot,Lk (Lh _)];simp
     have hw:=(h0.op 0 k0 rfl).1;have hd:=h0.stl;simp at hd;have he:k0+1<=M.length:=by omega
     simp(disch:=omega)[h6,hx,hle,he,hI,h4,hh,hm,wrap64,-getElem?_pos,-List.map_set];refine ae (m':=c.length-(i+1)) (by omega) ⟨i+1,_,st,.sl (b+1) 0 st.length cap 1,by omega,rfl,h0.close hx,by simp,by simp,?_,by simp(disch:=omega)⟩;refine (h3 _).pop (mF k0 st) (by simp[kn]) (by omega)
   ·simp(disch:=omega)[h6,hx,hle,hI,h4,ha,-getElem?_pos];exact ae (m':=c.length-(i+1)) (by omega) ⟨i+1,_,st,v,by omega,rfl,h0.other hx h4 (.inl ha),by simp,by simp,by simpa using h3 _,by simp(disch:=omega)[wrap64]⟩
  ·simp(disch:=omega)[h6,hx,hle,hI,h4,-getElem?_pos];refine kI (lo:=1) (cs:=opc st) ?_ (by simp) (by simp) (by simp) rfl rfl (by omega) (by simp[kn];have:=h0.stl;omega) (by simp[kn];have:=h0.stl;omega) ?_
   ·have:=(h3 (some ((M.map (V.int .i64)).set i (.int .i64 (-1))))).push [some [V.int .i64 i]];simpa using this
   ·intro d' h' hf hy hj h7 hz hb;have h1:∃ T',h'=some ((M.map (V.int .i64)).set i (.int .i64 (-1)))::T':=by
     rcases h' with _|⟨a,T'⟩
     ·simp at h7
     ·simp at hj;exact⟨T',by rw[hj]⟩
    obtain⟨T',rfl⟩:=h1;simp(disch:=omega)[wrap64];exact ae (m':=c.length-(i+1)) (by omega) ⟨i+1,_,i::st,d',by omega,rfl,h0.open_ hx h4,by simp,by simp,by rw[mF];exact hf,by simp⟩
 ·obtain rfl:i=c.length:=by omega
  simp;have hq:ab (some (M.map (V.int .i64))::T) 0=some (M.map (V.int .i64)):=by simp
  exact⟨_,dx (d:=4) (k:=.i64) hq (LJ _) hlen,M,rfl,h0.fin⟩
end
end Bi
end Go.Ab
