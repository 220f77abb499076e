/- Several texts of this proof in one. -/
import Derived.Test.YtoappddifbgegaaGreatAbW7
set_option linter.all false
set_option maxHeartbeats 2000000
namespace Go.Ab
open Go.Proofs Go.Proofs.Tryz
namespace Bi
def asc:List Row->Bool
 | a::b::r=>decide (a.2.1<b.2.1)&&asc (b::r)
 | _=>true
theorem uP:∀ (t:List Row) (a:Row),asc (a::t)=true->∀ y∈t,a.2.1<y.2.1
 | [],a,_,y,hy=>by simp at hy
 | b::t,a,h,y,hy=>by
  simp only[asc,Ld,decide_eq_true_eq]at h;rcases Lt.1 hy with rfl|hy
  ·exact h.1
  ·have:=uP t b h.2 y hy;omega
theorem Cp{a:Row}{t:List Row}(h:asc (a::t)=true):asc t=true:=by
 cases t with
 | nil=>rfl
 | cons b t=>simp only[asc,Ld]at h;exact h.2
theorem Co:∀ (t:List Row),asc t=true->∀ (i j:Nat) (x y:Row),i<j->t[i]?=some x->t[j]?=some y->x.2.1<y.2.1
 | [],_,i,j,x,y,_,hx,_=>by simp at hx
 | a::t,h,0,j+1,x,y,_,hx,hy=>by
  simp at hx;subst hx;exact uP t a h y (K6 (by simpa using hy))
 | a::t,h,i+1,j+1,x,y,h0,hx,hy=>Co t (Cp h) i j x y (by omega) (by simpa using hx) (by simpa using hy)
 | a::t,h,i,0,x,y,h0,_,_=>by omega
def findS(r:Int):Row:=
 if 44032<=r/\r<=55203 then (if (r-44032)%28=0 then (0,0,12,3,18,0,0) else (0,0,13,3,18,0,0))
 else if r<=161 then fp tab1 r else if r<=1642 then fp tab2 r else if r<=8237 then fp tab3 r else fp tab4 r
def cA(r:Int):Int:=(findS r).2.2.2.2.2.1
theorem kn(new cs:List V)(h:cs.length=new.length):putAt cs 0 new=new:=by
 have:=ic new [] cs (by omega);simp only[Mp,L3]at this;rw[this,MH (by omega),Mg]
def gz(n:Nat):List V:=aM (List.replicate n kL)
theorem rI(n:Nat):(gz n).length=n*7:=by simp[gz,dE]
section
variable {prim:FuncId->Option Prim}(d:Nat) (cfg:Cfg) (h:Heap)
theorem GX(hp:prim 182=none):af md (K prim (d+1)) cfg 182 [] h=some (.agg (aM tab1),h):=by
 have hk:K prim (d+1) ⟨0,[],0⟩ 182 [] []=some (.agg (aM tab1),[some (aM tab1)]):=by
  simp only[K,aH,hp];kernel_rfl
 have hf:frz [some (aM tab1)] 0 6 (.agg (aM tab1))=some (.agg (aM tab1)):=by kernel_rfl
 simp only[af,show md 182=0 from rfl,Np,if_true,hk,hf]
theorem GY(hp:prim 184=none):af md (K prim (d+1)) cfg 184 [] h=some (.agg (aM tab2),h):=by
 have hk:K prim (d+1) ⟨0,[],0⟩ 184 [] []=some (.agg (aM tab2),[some (aM tab2)]):=by
  simp only[K,aH,hp];kernel_rfl
 have hf:frz [some (aM tab2)] 0 6 (.agg (aM tab2))=some (.agg (aM tab2)):=by kernel_rfl
 simp only[af,show md 184=0 from rfl,Np,if_true,hk,hf]
theorem GZ(hp:prim 185=none):af md (K prim (d+1)) cfg 185 [] h=some (.agg (aM tab3),h):=by
 have hk:K prim (d+1) ⟨0,[],0⟩ 185 [] []=some (.agg (aM tab3),[some (aM tab3)]):=by
  simp only[K,aH,hp];kernel_rfl
 have hf:frz [some (aM tab3)] 0 6 (.agg (aM tab3))=some (.agg (aM tab3)):=by kernel_rfl
 simp only[af,show md 185=0 from rfl,Np,if_true,hk,hf]
theorem G0(hp:prim 186=none):af md (K prim (d+1)) cfg 186 [] h=some (.agg (aM tab4),h):=by
 have hk:K prim (d+1) ⟨0,[],0⟩ 186 [] []=some (.agg (aM tab4),[some (aM tab4)]):=by
  simp only[K,aH,hp];kernel_rfl
 have hf:frz [some (aM tab4)] 0 6 (.agg (aM tab4))=some (.agg (aM tab4)):=by kernel_rfl
 simp only[af,show md 186=0 from rfl,Np,if_true,hk,hf]
theorem z91:zeroOf prog 230=some (.agg (gz 44)):=by kernel_rfl
theorem z95:zeroOf prog 234=some (.agg (gz 41)):=by kernel_rfl
theorem ls1:tab1.length=44:=rfl
theorem ls2:tab2.length=44:=rfl
theorem ls3:tab3.length=44:=rfl
theorem ls4:tab4.length=41:=rfl
theorem sl91{h:Heap}{b:Nat}:cN prog h 230 (.ptr b 0) none none=(ab h b).bind fun cs=>if 308<=cs.length then some (.sl b 0 44 44 7) else none:=by
 have hu:prog.underlying 230=some (.array 44 166):=by kernel_rfl
 have hs:cj prog 166=some 7:=by kernel_rfl
 simp only[cN,hu,hs];cases ab h b<;>simp
theorem sl95{h:Heap}{b:Nat}:cN prog h 234 (.ptr b 0) none none=(ab h b).bind fun cs=>if 287<=cs.length then some (.sl b 0 41 41 7) else none:=by
 have hu:prog.underlying 234=some (.array 41 166):=by kernel_rfl
 have hs:cj prog 166=some 7:=by kernel_rfl
 simp only[cN,hu,hs];cases ab h b<;>simp
theorem wrap32{n:Int}(h1:-2147483648<=n)(h2:n<=2147483647):IntKind.i32.wrap n=n:=by
 have:=IntWalk.i32_in n ⟨by omega,by omega⟩;exact this
theorem pw(hp:prim 183=none)(t:List Row)(ht:t.length<=100)(hs:asc t=true)(r:Int)(y:Option (List V))(n:Nat)(hn:n=t.length):
  af md (K prim (d+1)) ⟨0,[],0⟩ 183 [.sl 1 0 n n 7,.int .i32 r] [y,some (aM t)]=some (.agg (dT (fp t r)),[y,some (aM t)]):=by
 subst hn;refine BX (prim:=prim) d _ _ hp t ht (Co t hs) r ?_;have hb:ab [y,some (aM t)] 1=some (aM t):=by
  rw[de,lS,ef];rfl
 simp[Mn,C9 hb]
theorem oZ(hp:∀ f,Np5 f->prim f=none)(r:Int):af md (K prim (d+2)) cfg 113 [.int .i32 r] h=some (.agg (dT (findS r)),h):=by
 refine aP rfl (hp 113 (by decide)) func113 rfl rfl rfl (by simp) ?_;have h1:=fun cfg h=>GX (prim:=prim) d cfg h (hp 182 (by decide));have h2:=fun cfg h=>GY (prim:=prim) d cfg h (hp 184 (by decide));have h3:=fun cfg h=>GZ (prim:=prim) d cfg h (hp 185 (by decide));have h4:=fun cfg h=>G0 (prim:=prim) d cfg h (hp 186 (by decide));have s1:=fun y=>pw (prim:=prim) d (hp 183 (by decide)) tab1 (by simp[ls1]) (by kernel_rfl) r y 44 ls1.symm;have s2:=fun y=>pw (prim:=prim) d (hp 183 (by decide)) tab2 (by simp[ls2]) (by kernel_rfl) r y 44 ls2.symm;have s3:=fun y=>pw (prim:=prim) d (hp 183 (by decide)) tab3 (by simp[ls3]) (by kernel_rfl) r y 44 ls3.symm;have s4:=fun y=>pw (prim:=prim) d (hp 183 (by decide)) tab4 (by simp[ls4]) (by kernel_rfl) r y 41 ls4.symm;have fz:∀ (H:Heap) (x:Row),frz H 0 6 (.agg (dT x))=some (.agg (dT x)):=fun H ⟨a,b,c,d,e,f,g⟩=>rfl;unfold findS;have l1:(aM tab1).length=308:=by rw[dE,ls1]
 have l2:(aM tab2).length=308:=by rw[dE,ls2]
 have l3:(aM tab3).length=308:=by rw[dE,ls3]
 have l4:(aM tab4).length=287:=by rw[dE,ls4]
 have z1:(gz 44).length=308:=rI 44;have z2:(gz 41).length=287:=rI 41;have zm:∀ n,isMap (gz n)=false:=fun n=>ef _;have p1:=kn (aM tab1) (gz 44) (by rw[l1,z1]);have p2:=kn (aM tab2) (gz 44) (by rw[l2,z1]);have p3:=kn (aM tab3) (gz 44) (by rw[l3,z1]);have p4:=kn (aM tab4) (gz 41) (by rw[l4,z2]);have ro:∀ x:Row,dT x=[.int .i32 x.1,.int .i32 x.2.1,.int .u8 x.2.2.1,.int .u8 x.2.2.2.1,.int .u8 x.2.2.2.2.1,.int .u8 x.2.2.2.2.2.1,.int .u8 x.2.2.2.2.2.2]:=fun ⟨a,b,c,d,e,f,g⟩=>rfl;by_cases c1:44032<=r/\r<=55203
 ·have m1:(r-44032).tmod 28=(r-44032)%28:=Mw (by omega);by_cases c0:(r-44032)%28=0
  ·simp(disch:=omega)[c1.1,c1.2,wrap32,m1,c0,dT]
  ·simp(disch:=omega)[c1.1,c1.2,wrap32,m1,c0,dT]
 ·have n1:(decide (44032<=r)&&decide (r<=55203))=false:=by simpa using c1
  by_cases c2:r<=161
  ·have n1:¬ 44032<=r:=by omega
   have s:=s1 (some (dT kL));simp only[dT,kL]at s;simp(disch:=omega)[n1,c2,h1,z91,fB,fU,ef,zm,l1,z1,p1,sl91,s,ro,-Tryz.zr230]
  ·by_cases c3:r<=1642
   ·have n1:¬ 44032<=r:=by omega
    have s:=s2 (some (dT kL));simp only[dT,kL]at s;simp(disch:=omega)[n1,c2,c3,h2,z91,fB,fU,ef,zm,l2,z1,p2,sl91,s,ro,-Tryz.zr230]
   ·by_cases c4:r<=8237
    ·have n1:¬ 44032<=r:=by omega
     have s:=s3 (some (dT kL));simp only[dT,kL]at s;simp(disch:=omega)[n1,c2,c3,c4,h3,z91,fB,fU,ef,zm,l3,z1,p3,sl91,s,ro,-Tryz.zr230]
    ·have s:=s4 (some (dT kL));simp only[dT,kL]at s;have c1':44032<=r->¬ r<=55203:=fun a b=>c1 ⟨a,b⟩;by_cases n0:44032<=r
     ·simp(disch:=omega)[n0,c1' n0,c2,c3,c4,h4,z95,fB,fU,ef,zm,l4,z2,p4,sl95,s,ro,-Tryz.zr234]
     ·simp(disch:=omega)[n0,c2,c3,c4,h4,z95,fB,fU,ef,zm,l4,z2,p4,sl95,s,ro,-Tryz.zr234]
theorem iZ(t:List Row)(ht:t.all (fun x=>decide (0<=x.2.2.2.2.2.1)&&decide (x.2.2.2.2.2.1<=22))=true)(r:Int):0<=(fp t r).2.2.2.2.2.1/\(fp t r).2.2.2.2.2.1<=22:=by
 unfold fp;split
 ·rename_i x hx;have hm:=M5 hx;have:=Lk.1 ht x hm;simp at this;split
  ·exact this
  ·simp[kL]
 ·simp[kL]
theorem Cu(r:Int):0<=cA r/\cA r<=22:=by
 unfold cA findS;split
 ·split<;>simp
 ·split
  ·exact iZ tab1 (by decide) r
  ·split
   ·exact iZ tab2 (by decide) r
   ·split
    ·exact iZ tab3 (by decide) r
    ·exact iZ tab4 (by decide) r
@[simp] theorem cv5_3{h:Heap}{k:IntKind}{n:Int}:eh prog h 5 3 (.int k n)=some (.int .i64 (IntKind.i64.wrap n),h):=by kernel_rfl
theorem oW(hp:∀ f,Np5 f->prim f=none)(r:Int):af md (K prim (d+3)) cfg 288 [.int .i32 r] h=some (.int .i64 (cA r),h):=by
 refine aP rfl (hp 288 (by decide)) func288 rfl rfl rfl (by simp) ?_;have hf:=fun cfg h=>oZ (prim:=prim) d cfg h hp r;have hb:=Cu r;unfold cA at hb ⊢;generalize findS r=x at hf hb ⊢;obtain⟨a,b,c,d,e,f,g⟩:=x;simp only[dT]at hf;simp only at hb;simp(disch:=omega)[hf,wrap64]
end
section
variable {prim:FuncId->Option Prim}(d:Nat)
def cBr(r:Int):Int:=IntKind.i64.wrap (findS r).2.2.1
def cLn(r:Int):Int:=IntKind.i64.wrap (findS r).2.2.2.2.1
theorem CA(hp:∀ f,Np5 f->prim f=none)(cfg:Cfg)(h:Heap)(r:Int):af md (K prim (d+3)) cfg 115 [.int .i32 r] h=some (.int .i64 (cBr r),h):=by
 refine aP rfl (hp 115 (by decide)) func115 rfl rfl rfl (by simp) ?_;have hf:=fun cfg h=>oZ (prim:=prim) d cfg h hp r;unfold cBr;generalize findS r=x at hf ⊢;obtain⟨a,b,c,d,e,f,g⟩:=x;simp only[dT]at hf;simp[hf]
theorem xK(hp:∀ f,Np5 f->prim f=none)(cfg:Cfg)(h:Heap)(r:Int):af md (K prim (d+3)) cfg 70 [.int .i32 r] h=some (.int .i64 (cLn r),h):=by
 refine aP rfl (hp 70 (by decide)) func70 rfl rfl rfl (by simp) ?_;have hf:=fun cfg h=>oZ (prim:=prim) d cfg h hp r;unfold cLn;generalize findS r=x at hf ⊢;obtain⟨a,b,c,d,e,f,g⟩:=x;simp only[dT]at hf;simp[hf]
def cJn(r:Int):Int:=IntKind.i64.wrap (findS r).2.2.2.2.2.2
theorem CF(hp:∀ f,Np5 f->prim f=none)(cfg:Cfg)(h:Heap)(r:Int):af md (K prim (d+3)) cfg 272 [.int .i32 r] h=some (.int .i64 (cJn r),h):=by
 refine aP rfl (hp 272 (by decide)) func272 rfl rfl rfl (by simp) ?_;have hf:=fun cfg h=>oZ (prim:=prim) d cfg h hp r;unfold cJn;generalize findS r=x at hf ⊢;obtain⟨a,b,c,d,e,f,g⟩:=x;simp only[dT]at hf;simp[hf]
end
end Bi
end Go.Ab
