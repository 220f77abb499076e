/- Several texts of this proof in one. -/
import Derived.Test.YtoappddifbgegaaGreatPbB
set_option linter.all false
set_option maxHeartbeats 4000000
set_option maxRecDepth 100000
namespace Go.Ab
open Go.Proofs Go.Proofs.Tryz
namespace Bi
def pc(r:List (Int×Int)):List V:=r.flatMap fun x=>[V.int .i64 x.1,V.int .i64 x.2]
theorem ki(r:List (Int×Int))(x:Int×Int):pc (r++[x])=pc r++[V.int .i64 x.1,V.int .i64 x.2]:=by simp[pc]
theorem jH(r:List (Int×Int)):(pc r).length=r.length*2:=by
 induction r with
 | nil=>rfl
 | cons x r ih=>simp only[pc,Mj,Ln,Lp,L3]at ih ⊢;omega
theorem JC(r:List (Int×Int)):isMap (pc r)=false:=by cases r<;>rfl
theorem pc_rf(r:List (Int×Int)):(pc r).all V.rf=true:=by simp[pc,Nq]
theorem pc_nn(r:List (Int×Int)):∀ c∈pc r,c≠V.nils:=by
 intro c hc;simp only[pc,M8]at hc;obtain⟨x,_,hx⟩:=hc;simp at hx;rcases hx with rfl|rfl<;>simp
theorem DY(r:List (Int×Int)):chunk 2 r.length (pc r)=r.map fun x=>[V.int .i64 x.1,V.int .i64 x.2]:=by
 induction r with
 | nil=>rfl
 | cons x r ih =>
  have e:pc (x::r)=V.int .i64 x.1::V.int .i64 x.2::pc r:=rfl;simp[chunk,e,ih]
def nY(r:List (Int×Int))(x:Int):List (Int×Int):=
 match r.getLast? with
 | some y=>if x=y.2 then r.dropLast++[(y.1+1,y.2)] else r++[(1,x)]
 | none=>[(1,x)]
def du(m:List Int):List (Int×Int):=m.foldl nY []
theorem nq(m:List Int)(x:Int):du (m++[x])=nY (du m) x:=by simp[du]
structure GOK(m:List Int)(r:List (Int×Int)):Prop where
 last:r.getLast?.map (·.2)=m.getLast?
 sum:bZ r=m.length
 pos:∀ x∈r,1<=x.1
 mem:∀ x∈r,x.2∈m
 al:cz r=false
 len:r.length<=m.length
theorem Ax{α:Type}{r:List α}{y:α}(h:r.getLast?=some y):∃ r',r=r'++[y]:=by
 rcases NN r with rfl|⟨r',z,rfl⟩
 ·simp at h
 ·simp at h;subst h;exact⟨r',by simp⟩
theorem Dd{m:List Int}{r:List (Int×Int)}(h:GOK m r)(x:Int):GOK (m++[x]) (nY r x):=by
 unfold nY;cases hl:r.getLast? with
 | none =>
  have:r=[]:=List.getLast?_eq_none_iff.1 hl;subst this;have hm:m.length=0:=by have:=h.sum;simp[bZ]at this;omega
  have hm:m=[]:=LH.1 hm;subst hm;exact⟨rfl,rfl,by simp,by simp,rfl,by simp⟩
 | some y =>
  obtain⟨r',rfl⟩:=Ax hl;simp only[List.dropLast_concat];have hs:=h.sum;rw[dk]at hs;have h0:=h.al;rw[eb]at h0;split
  ·rename_i hx;subst hx;refine⟨by simp,by rw[dk];simp;omega,?_,?_,?_,by have:=h.len;simp at this ⊢;omega⟩
   ·intro z hz;rcases LB.1 hz with hz|hz
    ·exact h.pos z (Mv _ hz)
    ·simp at hz;subst hz;have:=h.pos y (by simp);simp;omega
   ·intro z hz;rcases LB.1 hz with hz|hz
    ·exact Mv _ (h.mem z (Mv _ hz))
    ·simp at hz;subst hz;simp
   ·rw[eb];exact h0
  ·rename_i hx;refine⟨by simp,by rw[dk,dk];simp;omega,?_,?_,?_,by have:=h.len;simp at this ⊢;omega⟩
   ·intro z hz;rcases LB.1 hz with hz|hz
    ·exact h.pos z hz
    ·simp at hz;subst hz;simp
   ·intro z hz;rcases LB.1 hz with hz|hz
    ·exact Mv _ (h.mem z hz)
    ·simp at hz;subst hz;simp
   ·rw[eb,h.al];simp;exact fun e=>hx e.symm
theorem gok(m:List Int):GOK m (du m):=by
 have:∀ (m a:List Int) (r:List (Int×Int)),GOK a r->GOK (a++m) (m.foldl nY r):=by
  intro m
  induction m with
  | nil=>intro a r h;simpa using h
  | cons x m ih =>
   intro a r h;have:=ih (a++[x]) _ (Dd h x);simpa using this
 exact this m [] [] ⟨rfl,rfl,by simp,by simp,rfl,by simp⟩
theorem JQ{r:List (Int×Int)}{l mk l':Int}:bR (pc r++[V.int .i64 l,V.int .i64 mk]) (r.length*2) (.int .i64 l')=pc r++[V.int .i64 l',V.int .i64 mk]:=by
 rw[<- jH,bR,LO _ _ (La _)];simp
theorem GS{r:List (Int×Int)}{l mk:Int}:slot (pc r++[V.int .i64 l,V.int .i64 mk]) (r.length*2)=some (.int .i64 l):=by
 rw[<- jH,slot,Lg (La _)];simp
section
variable {prim:FuncId->Option Prim}(d:Nat) (cfg:Cfg) (h:Heap)
theorem Bf(hp:prim 57=none)(t m:List Int)(hm:m.length=t.length)(ht:t.length<=1000){args:List V}(ha:args.mapM (frzA h)=some [rl t,il m]):
  af md (K prim (d+1)) cfg 57 args h=some (.agg [rl t,ml (du m)],h):=by
 refine call3 rfl hp func57 rfl rfl rfl (args':=[rl t,il m]) ha ?_;by_cases h0:t=[]
 ·subst h0;simp at hm;subst hm;simp;refine ah (fun m fr h=>m=0/\h=[some [.nils,.nils],some [.nils,.nils]]/\Slots 53 [(0,rl []),(1,il []),(4,.ptr 0 0),(5,.ptr 1 0),(6,.int .i64 0)] fr) (m:=0) (by omega) ⟨rfl,rfl,by simp⟩ ?_;rintro m fr h ⟨rfl,rfl,hs⟩;obtain⟨j,rfl⟩:=hs.ex;clear hs;simp[own,du]
 ·have hL:0<t.length:=LW.2 h0;simp;rw[gL (by omega) (by omega) hL,dt];simp;refine ah (fun mm fr H=>∃ (i:Nat) (rv:V),i<=t.length/\mm=t.length-i/\Hp H [some [.nils,.nils],some (t.map (V.int .i32)),some [.sl 1 0 t.length t.length 1,rv]] [(2,rv,pc (du (m.take i)))] /\
    Slots 53 [(0,rl t),(1,il m),(4,.ptr 0 0),(5,.ptr 2 0),(6,.int .i64 i)] fr) (m:=t.length) (by omega) ⟨0,.nils,by omega,by omega,Hp.start.nil 2,by simp⟩ ?_
  rintro mm fr H ⟨i,rv,hi,rfl,hH,hs⟩;obtain⟨j,rfl⟩:=hs.ex;clear hs;have h8:ab H 2=some [.sl 1 0 t.length t.length 1,rv]:=hH.block (by simp);by_cases hv:i<t.length
  ·obtain⟨x,hx⟩:∃ x,m[i]?=some x:=⟨m[i],K4 (by omega)⟩;have hg:=gok (m.take i);have hw:(du (m.take i)).length<=i:=by have:=hg.len;simp at this;omega
   have hr:=dh m i x hx;have hA:∀ y,(du (m.take i)).getLast?=some y->∃ k,i=k+1/\m[k]?=some y.2:=by
    intro y hy;have:=hg.last;rw[hy]at this;rcases i with _|k
    ·simp at this
    ·obtain⟨z,hz⟩:∃ z,m[k]?=some z:=⟨m[k],K4 (by omega)⟩;rw[jV m k z hz]at this;exact⟨k,rfl,by rw[hz,<- this];rfl⟩
   have hd:=hg.sum;rw[L6,MD (by omega)]at hd;simp(disch:=omega)[hv];rw[<- dp];refine J4 (fun fr H=>∃ (rv:V) (r:List (Int×Int)) (l mk:Int),Hp H [some [.nils,.nils],some (t.map (V.int .i32)),some [.sl 1 0 t.length t.length 1,rv]] [(2,rv,pc (r++[(l,mk)]))]/\du (m.take (i+1))=r++[(l+1,mk)]/\0<=l/\l<=1000/\r.length<=1000 /\
    Slots 53 [(0,rl t),(1,il m),(4,.ptr 0 0),(5,.ptr 2 0),(6,.int .i64 i)] fr) ?_ ?_
   ·simp;refine ai 12 (by kernel_rfl) ?_;by_cases hj:i=0
    ·have h3:du (m.take i)=[]:=by subst hj;rfl
     have h4:du (m.take (i+1))=du (m.take i)++[(0+1,x)]:=by rw[hr,nq,nY,h3];rfl
     simp[hj];refine ai 8 (by kernel_rfl) ?_;have hD:=hx;rw[hj]at hD;simp(disch:=omega)[h8,hD,-getElem?_pos];refine cg (k:=2) (hH.push _) (by simp) (by simp) rfl (by omega) (by omega) (by simp[h3,pc]) (by simp[h3,pc]) ?_;intro d' H' h6;have h7:ab H' 2=some [.sl 1 0 t.length t.length 1,rv]:=h6.block (by simp);simp[h7,h6.head.cells];refine bz ⟨d',du (m.take i),0,x,?_,h4,by omega,by omega,by omega,by simp[hj]⟩;rw[ki];exact h6.set (b:=2) (by simp) _
    ·obtain⟨k,rfl⟩:∃ k,i=k+1:=⟨i-1,by omega⟩;obtain⟨y,hy⟩:∃ y,m[k]?=some y:=⟨m[k],K4 (by omega)⟩;have he:=hg.last;rw[jV m k y hy]at he;obtain⟨z,hz,hE⟩:∃ z,(du (m.take (k+1))).getLast?=some z/\z.2=y:=by
      cases hq:(du (m.take (k+1))).getLast? with
      | none=>rw[hq]at he;simp at he
      | some z=>rw[hq]at he;exact⟨z,rfl,by simpa using he⟩
     have hF:¬ (k:Int)+1=0:=by omega
     have hR:((k:Int)+1-1).toNat=k:=by omega
     by_cases hl:x=y
     ·obtain⟨r',hf⟩:=Ax hz;have h4:du (m.take (k+1+1))=r'++[(z.1+1,z.2)]:=by rw[hr,nq,nY,hz,hf];simp[hl,hE]
      have hS:=hg.pos z (by rw[hf];simp);have hsb:=hd;rw[hf,dk]at hsb;have hM:∀ (r:List (Int×Int)),(∀ x∈r,1<=x.1)->0<=bZ r:=by
       intro r
       induction r with
       | nil=>intro _;simp[bZ]
       | cons a r ih =>
        intro h;have h1:=ih (fun x hx=>h x (Lc _ hx));have h2:=h a (Ll ..);simp only[bZ,Mk,OB]at h1 ⊢;omega
      have:=hM r' (fun x hx=>hg.pos x (by rw[hf];exact Mv _ hx));rw[hf]at hH hw;simp at hw;simp(disch:=omega)[hF,hx,hy,hl,wrap64,-getElem?_pos];exact bz ⟨rv,r',z.1,z.2,hH,h4,by omega,by omega,by omega,by simp⟩
     ·have h4:du (m.take (k+1+1))=du (m.take (k+1))++[(0+1,x)]:=by rw[hr,nq,nY,hz];simp[hl,hE]
      simp(disch:=omega)[hF,hx,hy,hl,wrap64,-getElem?_pos];refine ai 8 (by kernel_rfl) ?_;simp(disch:=omega)[h8,hx,-getElem?_pos];refine cg (k:=2) (hH.push _) (by simp) (by simp) rfl (by omega) (by omega) (by simp[jH];omega) (by simp[jH];omega) ?_;intro d' H' h6;have h7:ab H' 2=some [.sl 1 0 t.length t.length 1,rv]:=h6.block (by simp);simp[h7,h6.head.cells];refine bz ⟨d',du (m.take (k+1)),0,x,?_,h4,by omega,by omega,by omega,by simp⟩;rw[ki];exact h6.set (b:=2) (by simp) _
   ·clear hH h8;rintro fr H ⟨rv,r,l,mk,hH,h4,hT,hX,hY,hs⟩;obtain⟨j,rfl⟩:=hs.ex;clear hs;have h8:ab H 2=some [.sl 1 0 t.length t.length 1,rv]:=hH.block (by simp);obtain⟨b,n,rfl,hn,hN,hZ,hI⟩:=hH.head.pos (by simp[ki]);simp[jH]at hn hN;obtain rfl:n=r.length+1:=by omega
    simp only[ki]at hI;have hO:=GS (r:=r) (l:=l) (mk:=mk);have h9:=hH.setO (cs':=pc (r++[(l+1,mk)])) (JC _) (by simp[jH]);simp only[ki]at h9;simp(disch:=omega)[h8,hI,hO,JQ,jH,wrap64];refine ae (m':=t.length-(i+1)) (by omega) ⟨i+1,.sl b 0 (r.length+1) (r.length+1) 2,by omega,rfl,?_,by simp⟩;rw[h4,ki];exact h9
  ·have hJ:ab H 0=some [.nils,.nils]:=hH.block (by simp);have hP:0<H.length:=ao hJ;have h9:=hH.set (b:=0) (by simp) (some [.sl 1 0 t.length t.length 1,rv]);have hu:=h9.head.frz (n:=0) (d:=3) (LA _) (pc_rf _) (pc_nn _) (by omega);simp only[jH,Lw _ (show 0<2 by omega),DY]at hu;have hK:ab (H.set 0 (some [.sl 1 0 t.length t.length 1,rv])) 1=some (t.map (V.int .i32)):=by rw[h9.block (by simp)];simp
   rw[Li (by omega)]at hu;have hQ:=h9.head.own (d:=3) (fun c hc=>by
    simp only[pc,M8]at hc;obtain⟨x,_,hx⟩:=hc;simp at hx;rcases hx with rfl|rfl<;>rfl)
   have hh:own (H.set 0 (some [.sl 1 0 t.length t.length 1,rv])) 5 (.sl 1 0 t.length t.length 1)=true:=qV hK;simp[hv,h8,hJ,hH.head.leaf,hP,cK hK (LA _) rfl,hu];simp[hh,hQ]
end
def alph:List Int:=[97,98,102,105,88,49,50,32,32,46,44,45,39,34,40,41,91,93,60,33,58,95,37,43,47,9,10,13,0x0B,0x85,0xA0,0xAD,0xB7,0x301,0x5D0,0x5D1,0x5BE,0x5B0,0x600,0x627,0x628,0x633,0x640,0x64B,0x661,0x66A,0x60C,0x61C,0x6F1,0x903,0x905,0x93C,0x1100,0x1161,0x11A8,0xAC00,0xAC01,0x2009,0x200B,0x200C,0x200D,0x200E,0x200F,0x2019,0x2028,0x2029,0x202A,0x202B,0x202C,0x202D,0x202E,0x2060,0x2066,0x2067,0x2068,0x2069,0x2600,0x3000,0x3001,0x300C,0x300D,0x30A2,0x4E00,0xFE0F,0x1F1E6,0x1F1E7,0x1F3FB,0x1F468,0x10FFFF]
section
variable {prim:FuncId->Option Prim}(d:Nat) (cfg:Cfg) (h:Heap)
theorem Jk(hp:prim 14=none)(l:List Int):af md (K prim (d+1)) cfg 14 [il l] h=some (.ptr h.length 0,h++[some [il (l.take 4000),.int .i64 0]]):=by
 refine call2 rfl hp func14 rfl rfl rfl ?_;simp;by_cases hl:4000<l.length
 ·have h0:(4000:Int)<l.length:=by omega
  simp(disch:=first|omega|(simp;done)|(simp;omega)) [h0]
 ·have h0:¬ (4000:Int)<l.length:=by omega
  simp[h0,Li (show l.length<=4000 by omega)]
theorem Ck(hp:prim 16=none)(L:List Int)(k:Nat)(hL:L.length<=4000)(hk:k<=L.length)(n:Int)(hn:1<=n)(h7:n<=4000000000)(b:Nat)(hb:ab h b=some [il L,.int .i64 k])(hw:cfg.wr b=true):
  ∃ v k':Nat,(v:Int)<n/\k'<=L.length/\af md (K prim (d+1)) cfg 16 [.ptr b 0,.int .i64 n] h=some (.int .i64 v,h.set b (some [il L,.int .i64 k'])):=by
 have h4:(Cfg.wr ⟨cfg.lo,cfg.ex,h.length⟩ b)=true:=hw;have h8:=ao hb;by_cases h9:k<L.length
 ·obtain⟨x,hx⟩:∃ x,L[k]=x:=⟨_,rfl⟩;have hr:=N2 x (b:=n) (by omega);have ha:=N3 x (b:=n) (by omega);refine⟨(if x.tmod n<0 then x.tmod n+n else x.tmod n).toNat,k+1,by split<;>omega,by omega,call1 rfl hp func16 rfl rfl rfl ?_⟩;simp;refine ai 9 (by kernel_rfl) ?_;have h3:¬ L.length<=k:=by omega
  have h6:¬ n<1:=by omega
  have hc:¬ n=0:=by omega
  simp[hb,h3,h6];refine ai 11 (by kernel_rfl) ?_;simp(disch:=first|omega|(simp;done)|(simp;omega)) [hb,hx,h4,wrap64];by_cases h0:x.tmod n<0
  ·simp(disch:=first|omega|(simp;done)|(simp;omega)) [h0,wrap64];exact⟨by omega,Li (by simp)⟩
  ·simp(disch:=first|omega|(simp;done)|(simp;omega)) [h0];exact⟨by omega,Li (by simp)⟩
 ·refine⟨0,k,by omega,hk,?_⟩;rw[eK hb];refine call1 rfl hp func16 rfl rfl rfl ?_;have h3:L.length<=k:=by omega
  simp;refine ai 9 (by kernel_rfl) ?_;simp[hb,h3]
@[simp] theorem cv3_21{h:Heap}{k:IntKind}{n:Int}:eh prog h 3 21 (.int k n)=some (.int .i32 (IntKind.i32.wrap n),h):=by kernel_rfl
theorem AZ(hp:∀ f,Np5 f->prim f=none)(L:List Int)(k:Nat)(hL:L.length<=4000)(hk:k<=L.length)(n:Int)(hn:1<=n)(h0:n<=4000000000)(b:Nat)(hb:ab h b=some [il L,.int .i64 k])(hw:cfg.wr b=true):
  ∃ (v:Bool) (k':Nat),k'<=L.length/\af md (K prim (d+2)) cfg 120 [.ptr b 0,.int .i64 n] h=some (.bool v,h.set b (some [il L,.int .i64 k'])):=by
 obtain⟨v,k',hv,h3,hN⟩:=Ck (prim:=prim) d ⟨cfg.lo,cfg.ex,h.length⟩ h (hp 16 (by decide)) L k hL hk n hn h0 b hb hw;refine⟨decide ((v:Int)=n-1),k',h3,call1 rfl (hp 120 (by decide)) func120 rfl rfl rfl ?_⟩;simp(disch:=omega)[hN,wrap64];exact Li (by simp)
theorem JG(hp:∀ f,Np5 f->prim f=none)(L:List Int)(k:Nat)(hL:L.length<=4000)(hk:k<=L.length)(b:Nat)(hb:ab h b=some [il L,.int .i64 k])(hw:cfg.wr b=true):
  ∃ (v:Int) (k':Nat),k'<=L.length/\af md (K prim (d+1)) cfg 121 [.ptr b 0] h=some (.int .i64 v,h.set b (some [il L,.int .i64 k'])):=by
 have h3:(Cfg.wr ⟨cfg.lo,cfg.ex,h.length⟩ b)=true:=hw;have h6:=ao hb;by_cases h4:k<L.length
 ·obtain⟨x,hx⟩:∃ x,L[k]?=some x:=⟨L[k],K4 h4⟩;refine⟨x,k+1,by omega,call1 rfl (hp 121 (by decide)) func121 rfl rfl rfl ?_⟩;have h0:¬ L.length<=k:=by omega
  simp;refine ai 9 (by kernel_rfl) ?_;simp(disch:=omega)[hb,h0,h3,wrap64];refine ai 9 (by kernel_rfl) ?_;have e1:((k:Int)+1-1).toNat=k:=by omega
  simp(disch:=omega)[hx,wrap64,-getElem?_pos];exact Li (by simp)
 ·refine⟨0,k,hk,?_⟩;rw[eK hb];refine call1 rfl (hp 121 (by decide)) func121 rfl rfl rfl ?_;have h0:L.length<=k:=by omega
  simp;refine ai 9 (by kernel_rfl) ?_;simp[hb,h0]
theorem uM(hp:prim 119=none):∃ A:List Int,A.length=89/\∀ cfg h,af md (K prim (d+1)) cfg 119 [] h=some (rl A,h):=by
 refine⟨alph,rfl,fun cfg h=>?_⟩;refine aP rfl hp func119 rfl rfl rfl (by simp) ?_;simp;exact cK (d:=4) (k:=.i32) (l:=alph) rfl (LA _) rfl
theorem Ar(hp:∀ f,Np5 f->prim f=none)(L:List Int)(k:Nat)(hL:L.length<=4000)(hk:k<=L.length)(b:Nat)(hb:ab h b=some [il L,.int .i64 k])(hw:cfg.wr b=true):
  ∃ (v:Int) (k':Nat),k'<=L.length/\af md (K prim (d+3)) cfg 80 [.ptr b 0] h=some (.int .i32 v,h.set b (some [il L,.int .i64 k'])):=by
 have h7:=ao hb;obtain⟨A,hA,h3⟩:=uM (prim:=prim) (d+1) (hp 119 (by decide));obtain⟨c,k1,h4,hC⟩:=AZ (prim:=prim) d ⟨cfg.lo,cfg.ex,h.length⟩ h hp L k hL hk 40 (by omega) (by omega) b hb hw;have h6:ab (h.set b (some [il L,.int .i64 k1])) b=some [il L,.int .i64 k1]:=by simp[h7]
 cases c
 ·obtain⟨v,k2,hv,h0,hN⟩:=Ck (prim:=prim) (d+1) ⟨cfg.lo,cfg.ex,h.length⟩ (h.set b (some [il L,.int .i64 k1])) (hp 16 (by decide)) L k1 hL h4 89 (by omega) (by omega) b h6 hw;obtain⟨x,hx⟩:∃ x,A[v]?=some x:=⟨A[v],K4 (by omega)⟩;refine⟨x,k2,h0,call1 rfl (hp 80 (by decide)) func80 rfl rfl rfl ?_⟩;simp at hN;simp(disch:=omega)[h3,hC,hA,hN,hx,-getElem?_pos];exact Li (by simp)
 ·obtain⟨v,k2,h0,hR⟩:=JG (prim:=prim) (d+1) ⟨cfg.lo,cfg.ex,h.length⟩ (h.set b (some [il L,.int .i64 k1])) hp L k1 hL h4 b h6 hw;refine⟨IntKind.i32.wrap v,k2,h0,call1 rfl (hp 80 (by decide)) func80 rfl rfl rfl ?_⟩;simp at hR;simp(disch:=omega)[h3,hC,hR];exact Li (by simp)
theorem G1(hp:∀ f,Np5 f->prim f=none)(L:List Int)(k:Nat)(hL:L.length<=4000)(hk:k<=L.length)(n:Nat)(hn:n<=1000)(b:Nat)(hb:ab h b=some [il L,.int .i64 k])(hw:cfg.wr b=true)(hz:cfg.lo<=h.length):
  ∃ (l:List Int) (k':Nat),l.length<=n/\k'<=L.length/\af md (K prim (d+4)) cfg 48 [.ptr b 0,.int .i64 n] h=some (rl l,h.set b (some [il L,.int .i64 k'])):=by
 have he:(Cfg.wr ⟨cfg.lo,cfg.ex,h.length⟩ b)=true:=hw;have hy:=ao hb;obtain⟨v,k1,hv,hO,hN⟩:=Ck (prim:=prim) (d+2) ⟨cfg.lo,cfg.ex,h.length⟩ h (hp 16 (by decide)) L k hL hk (n+1) (by omega) (by omega) b hb he;have hP:ab (h.set b (some [il L,.int .i64 k1])) b=some [il L,.int .i64 k1]:=by simp[hy]
 obtain⟨few,k2,hQ,hT,hI⟩:=Ck (prim:=prim) (d+2) ⟨cfg.lo,cfg.ex,h.length⟩ (h.set b (some [il L,.int .i64 k1])) (hp 16 (by decide)) L k1 hL hO 3 (by omega) (by omega) b hP he;simp at hI;have hc:=ni (md:=md) (n:=10000) (d:=d+3) (cfg:=cfg) (h:=h) (args:=[.ptr b 0,.int .i64 n]) (Post:=fun r h2=>∃ (l:List Int) (k':Nat),l.length<=n/\k'<=L.length/\r=rl l/\h2=h.set b (some [il L,.int .i64 k'])) rfl (hp 48 (by decide)) func48 rfl rfl rfl ?_
 ·obtain⟨r,h2,h3,l,k',h4,h5,rfl,rfl⟩:=hc;exact⟨l,k',h4,h5,h3⟩
 have hX:Upd h b [il L,.int .i64 k2] (h.set b (some [il L,.int .i64 k2])):=(Upd.refl hb).set;simp(disch:=omega)[hN,hI,wrap64];refine ah (fun m fr H=>∃ (i kk:Nat) (sv:V) (S:List Int),i<=5/\m=5-i/\kk<=L.length/\S.length=i/\Upd h b [il L,.int .i64 kk] H/\OwnL H h.length .i32 sv S /\
   Slots 47 [(0,.ptr b 0),(5,.int .i64 v),(6,.nils),(7,.int .i64 few),(8,sv),(9,.int .i64 i)] fr) (m:=5) (by omega) ⟨0,k2,.nils,[],by omega,by omega,hT,rfl,hX,.inl ⟨rfl,rfl⟩,by simp⟩ ?_
 rintro m fr H ⟨i,kk,sv,S,hi,rfl,h7,hS,hu,h0,hs⟩;obtain⟨j,rfl⟩:=hs.ex;clear hs;by_cases g2:i<5
 ·obtain⟨x,k3,hg,hR⟩:=Ar (prim:=prim) d ⟨cfg.lo,cfg.ex,h.length⟩ H hp L kk hL h7 b (hu.block hy rfl) he;have hh:Upd h b [il L,.int .i64 k3] (H.set b (some [il L,.int .i64 k3])):=hu.set;have hj:(i:Int)<5:=by omega
  have hl:ab (H.set b (some [il L,.int .i64 k3])++[some [.int .i32 x]]) H.length=some [.int .i32 x]:=by rw[dK (by simp)];rfl
  simp(disch:=omega)[hj,hR,hl];refine E1 (l:=S) (lo:=h.length) (y:=4) ?_ ?_ ?_ ?_ ?_ ?_
  ·refine h0.mono fun c h1 h2=>?_;rw[aj (by simpa using h2),ak (by omega)]
  ·exact hz
  ·have:=hu.2;simp;omega
  ·rw[hS];omega
  ·rw[hS];omega
  ·intro d' h' hm hr h6;simp(disch:=omega)[wrap64];exact ae (m':=5-(i+1)) (by omega) ⟨i+1,k3,d',S++[x],by omega,rfl,hg,by simp[hS],(hh.push _).of_take hr h6,hm,by simp⟩
 ·have hj:¬ (i:Int)<5:=by omega
  have hY:i=5:=by omega
  subst hY;simp;refine ah (fun m fr H=>∃ (q kk:Nat) (lv:V) (Ls:List Int),q<=v/\m=v-q/\kk<=L.length/\Ls.length=q/\Upd h b [il L,.int .i64 kk] H/\OwnL H h.length .i32 sv S/\OwnL H h.length .i32 lv Ls/\Dj sv lv /\
   Slots 47 [(0,.ptr b 0),(5,.int .i64 v),(6,lv),(7,.int .i64 few),(8,sv),(10,.int .i64 q)] fr) (m:=v) (by omega) ⟨0,kk,.nils,[],by omega,by omega,h7,rfl,hu,h0,.inl ⟨rfl,rfl⟩,Dj.nils,by simp⟩ ?_
  clear hu h0 h7;rintro m fr H ⟨q,kk,lv,Ls,hq,rfl,h7,hd,hu,h0,h8,hJ,hs⟩;obtain⟨j,rfl⟩:=hs.ex;clear hs;by_cases hA:q<v
  ·by_cases hf:0<few
   ·obtain⟨u,k3,g3,hg,hZ⟩:=Ck (prim:=prim) (d+2) ⟨cfg.lo,cfg.ex,h.length⟩ H (hp 16 (by decide)) L kk hL h7 5 (by omega) (by omega) b (hu.block hy rfl) he;obtain⟨x,hx⟩:∃ x,S[u]?=some x:=⟨S[u],K4 (by omega)⟩;rcases h0 with⟨rfl,rfl⟩|⟨sb,rfl,ht,h9⟩
    ·simp at hx
    have hK:OwnL H h.length .i32 (.sl sb 0 S.length S.length 1) S:=.inr ⟨sb,rfl,ht,h9⟩;have g0:sb<H.length:=ao h9;have hh:Upd h b [il L,.int .i64 k3] (H.set b (some [il L,.int .i64 k3])):=hu.set;have g1:b≠sb:=by omega
    have hM:ab (H.set b (some [il L,.int .i64 k3])) sb=some (S.map (V.int .i32)):=by rw[ak g1];exact h9
    have hl:ab (H.set b (some [il L,.int .i64 k3])++[some [.int .i32 x]]) H.length=some [.int .i32 x]:=by rw[dK (by simp)];rfl
    simp(disch:=omega)[hA,hf,hZ,hM,hx,hl,-getElem?_pos];refine AJ (l:=Ls) (lo:=h.length) (y:=4) ?_ ?_ ?_ ?_ ?_ ?_
    ·refine h8.mono fun c h1 h2=>?_;rw[aj (by simpa using h2),ak (by omega)]
    ·exact hz
    ·have:=hu.2;simp;omega
    ·rw[hd];omega
    ·rw[hd];omega
    ·intro d' h' hm hr h6 _ ha;obtain⟨hD,hE⟩:=ha _ hJ (fun c hc=>by cases hc;simp;omega);simp(disch:=omega)[wrap64];refine ae (m':=v-(q+1)) (by omega) ⟨q+1,k3,d',Ls++[x],by omega,rfl,hg,by simp[hd],(hh.push _).of_take hr h6,?_,hm,hD,by simp⟩;refine .inr ⟨sb,rfl,ht,?_⟩;rw[hE sb rfl,aj (by simpa using g0)];exact hM
   ·obtain⟨x,k3,hg,hR⟩:=Ar (prim:=prim) d ⟨cfg.lo,cfg.ex,h.length⟩ H hp L kk hL h7 b (hu.block hy rfl) he;have hh:Upd h b [il L,.int .i64 k3] (H.set b (some [il L,.int .i64 k3])):=hu.set;have hl:ab (H.set b (some [il L,.int .i64 k3])++[some [.int .i32 x]]) H.length=some [.int .i32 x]:=by rw[dK (by simp)];rfl
    simp(disch:=omega)[hA,hf,hR,hl];refine AJ (l:=Ls) (lo:=h.length) (y:=4) ?_ ?_ ?_ ?_ ?_ ?_
    ·refine h8.mono fun c h1 h2=>?_;rw[aj (by simpa using h2),ak (by omega)]
    ·exact hz
    ·have:=hu.2;simp;omega
    ·rw[hd];omega
    ·rw[hd];omega
    ·intro d' h' hm hr h6 _ ha;obtain⟨hD,hE⟩:=ha sv hJ (fun c hc=>by have:=(h0.blk hc).2;simp;omega);simp(disch:=omega)[wrap64];refine ae (m':=v-(q+1)) (by omega) ⟨q+1,k3,d',Ls++[x],by omega,rfl,hg,by simp[hd],(hh.push _).of_take hr h6,?_,hm,hD,by simp⟩;refine h0.of_blk fun c hc=>?_;have:=h0.blk hc;rw[hE c hc,aj (by simpa using this.2),ak (by omega)]
  ·simp[hA];refine⟨_,?_,Ls,by omega,kk,h7,rfl,hu.1⟩;rcases h8 with⟨rfl,rfl⟩|⟨lb,rfl,hF,hH⟩
   ·rfl
   ·exact cK (d:=4) hH hF rfl
end
end Bi
end Go.Ab
namespace Go.Ab
def gd(b:Bool)(v:V):V:=if b=true then v else .no
theorem FL{v:V}:gd true v=v:=rfl
section
variable (P:Program) (md:FuncId->Nat) (call:aF) (cfg:Cfg)
def wGp(e:Bool)(r:Option (V×Heap))[dst:Hid (Option Tmp)][ops:Hid (Array Oper)][l:Hid (List Oper)][fr:Hid (List V)][h:Hid Heap][Q:Hid ca]:Prop:=
 @wIf e ⟨@wS P md call cfg dst fr r ops l Q⟩ ⟨@wO P md call cfg ops l (put fr.val dst.val .no) h.val Q⟩
end
section
variable {P:Program}{md:FuncId->Nat}{call:aF}{cfg:Cfg}
theorem tt{e e':Bool}{r r':Option (V×Heap)}{dst:Hid (Option Tmp)}{ops:Hid (Array Oper)}{l:Hid (List Oper)}{fr:Hid (List V)}{h:Hid Heap}{Q:Hid ca}(he:e=e')(hr:e'=true->r=r'):
  @wGp P md call cfg e r dst ops l fr h Q=@wGp P md call cfg e' r' dst ops l fr h Q:=by
 subst he;cases e
 ·rfl
 simp_all
theorem G7{e e':Bool}{p:Prop}{r r':Option (V×Heap)}{dst:Hid (Option Tmp)}{ops:Hid (Array Oper)}{l:Hid (List Oper)}{fr:Hid (List V)}{h:Hid Heap}{Q:Hid ca}(he:e=e')(hp:(e'=true)=p)(hr:e'=true->p->r=r'):
  @wGp P md call cfg e r dst ops l fr h Q=@wGp P md call cfg e' r' dst ops l fr h Q:=tt he fun h=>hr h (hp ▸ h)
theorem wG_gd{b want:Bool}{dst:Option Tmp}{op:Op}{ops:Array Oper}{l:List Oper}{fr:List V}{h:Heap}{Q:ca}:
  @wG P md call cfg (some (.bool b)) ⟨want⟩ ⟨dst⟩ ⟨op⟩ ⟨ops⟩ ⟨l⟩ ⟨fr⟩ ⟨h⟩ ⟨Q⟩↔@wGp P md call cfg (b==want) (aB P md call cfg fr h op) ⟨dst⟩ ⟨ops⟩ ⟨l⟩ ⟨fr⟩ ⟨h⟩ ⟨Q⟩:=Mt
theorem EZ{e:Bool}{v:V}{dst:Option Tmp}{ops:Array Oper}{l:List Oper}{fr:List V}{h:Heap}{Q:ca}:
  @wGp P md call cfg e (some (v,h)) ⟨dst⟩ ⟨ops⟩ ⟨l⟩ ⟨fr⟩ ⟨h⟩ ⟨Q⟩↔@wO P md call cfg ⟨ops⟩ ⟨l⟩ (put fr dst (gd e v)) h ⟨Q⟩:=by
 cases e
 ·rfl
 simp[wGp,gd]
theorem BH{x y:Bool}{h:Heap}:oD (some (.bool x)) (some (gd x (.bool y))) (some (.bool false)) h=some (.bool (x&&y),h):=by cases x<;>rfl
end
end Go.Ab
namespace Go.Ab
def i1Of:List V->Int
 | [.int _ n]=>n
 | _=>0
def b1Of:List V->Bool
 | [.bool b]=>b
 | _=>false
@[simp] theorem i1Of_mk{k:IntKind}{n:Int}:i1Of [.int k n]=n:=rfl
@[simp] theorem b1Of_mk{b:Bool}:b1Of [.bool b]=b:=rfl
def IsB(v:V):Prop:=∃ b,v=.bool b
def IsI(k:IntKind)(v:V):Prop:=∃ z,v=.int k z
@[simp] theorem isB_mk{b:Bool}:IsB (.bool b):=⟨b,rfl⟩
@[simp] theorem isI_mk{k:IntKind}{z:Int}:IsI k (.int k z):=⟨z,rfl⟩
section
variable {P:Program}{md:FuncId->Nat}{prim:FuncId->Option Prim}{n:Nat}
theorem iB{d:Nat}{f:FuncId}{fn:Func}{c:Code}{k:Nat}{rs:List ResultVar}{args:List V}{Post:V->Prop}(hm:md f=0)(hp:prim f=none)(hf:P.funcs[f]?=some fn)(hb:fn.body=some c)(hk:fn.ntmps=k)
  (hr:fn.results.toList=rs) (ha:args.all V.noref=true)
  (hw:@wC P md (aH P md prim n d) ⟨0,[],0⟩ n ⟨c⟩ (args++List.replicate (k-args.length) .no) [] ⟨@kFn P ⟨rs⟩ ⟨fun r' h'=>∃ r,frz h' 0 6 r'=some r/\Post r⟩⟩):
  ∃ r,Post r/\∀ cfg h,af md (aH P md prim n (d+1)) cfg f args h=some (r,h):=by
 obtain⟨r',h',h1,r,h2,h3⟩:=cn hp hf hb hk hr hw;exact⟨r,h3,fun cfg h=>by simp_all[af,if_true]⟩
theorem callE{d:Nat}{f:FuncId}{fn:Func}{c:Code}{k:Nat}{rs:List ResultVar}{args':List V}{Post:V->Prop}(hp:prim f=none)(hf:P.funcs[f]?=some fn)(hb:fn.body=some c)(hk:fn.ntmps=k)
  (hr:fn.results.toList=rs) (ha:args'.all V.noref=true)
  (hw:@wC P md (aH P md prim n d) ⟨0,[],0⟩ n ⟨c⟩ (args'++List.replicate (k-args'.length) .no) [] ⟨@kFn P ⟨rs⟩ ⟨fun r' h'=>own h' 6 r'=true/\∃ r,frz h' 0 6 r'=some r/\Post r⟩⟩):
  ∃ r,Post r/\(md f=0->∀ cfg h,af md (aH P md prim n (d+1)) cfg f args' h=some (r,h)) /\
   (md f=3->∀ cfg h args,args.mapM (frzA h)=some args'->af md (aH P md prim n (d+1)) cfg f args h=some (r,h)):=by
 obtain⟨r',h',h1,h2,r,h3,h4⟩:=cn hp hf hb hk hr hw;exact⟨r,h4,fun hm cfg h=>by simp_all[af,if_true],fun hm cfg h args hA=>by simp_all[af,if_true]⟩
end
end Go.Ab
namespace Go.Ab
theorem cE{α:Type}{f:α->List V}{n:Nat}(hf:∀ x,(f x).length=n):∀ l:List α,(l.flatMap f).length=l.length*n
 | []=>by simp
 | x::l=>by rw[Mj,Ln,hf,cE hf l,Lp,M7];omega
theorem pW{α:Type}{f:α->List V}{n:Nat}(hf:∀ x,(f x).length=n):∀ l:List α,chunk n l.length (l.flatMap f)=l.map f
 | []=>rfl
 | x::l=>by
  have h1:(x::l).flatMap f=f x++l.flatMap f:=Mj;rw[h1,Lp,chunk,Mb (by simp_all),Na (by simp_all)];have e1:(f x).take n=f x:=by grind
  have e2:(f x).drop n=[]:=by simp_all
  rw[e1,e2,Mp,pW hf l,Mk]
theorem OwnC.frzF{α:Type}{f:α->List V}{n:Nat}(hf:∀ x,(f x).length=n)(hn:0<n){h:Heap}{lo m d:Nat}{v:V}{l:List α}(ho:OwnC h lo n v (l.flatMap f))(hm:m<=lo)(hr:∀ x,(f x).all V.rf=true)(h0:∀ x,∀ c∈f x,c≠.nils):Go.Ab.frz h m (d+2) v=some (.lst (l.map f)):=by
 have h1:(l.flatMap f).all V.rf=true:=by
  grind
 have h2:∀ c∈l.flatMap f,c≠.nils:=fun c hc=>by
  grind
 rw[ho.frz hm h1 h2 hn,cE hf,Lw _ hn,pW hf]
theorem setI{k:IntKind}{l:List Int}{i:Nat}{x:Int}:bR (l.map (V.int k)) i (.int k x)=(l.set i x).map (V.int k):=by simp
theorem setB{l:List Bool}{i:Nat}{x:Bool}:bR (l.map V.bool) i (.bool x)=(l.set i x).map V.bool:=by rw[bR,MZ]
theorem nP:∀ n,bj [V.bool false] n=(List.replicate n false).map V.bool
 | 0=>rfl
 | n+1=>by rw[bj,nP n,MK];rfl
theorem lM:∀ n,bj [V.int .i64 0] n=(List.replicate n 0).map (V.int .i64)
 | 0=>rfl
 | n+1=>by rw[bj,lM n,MK];rfl
theorem qu{α:Type}{f:α->V}:∀ l:List α,(l.flatMap fun x=>[f x])=l.map f
 | []=>rfl
 | x::l=>by rw[Mj,qu l];rfl
theorem Bd{h:Heap}{n d b len cap:Nat}{l:List Bool}(hb:ab h b=some (l.map V.bool))(hn:n<=b)(hl:l.length=len):frz h n (d+2) (.sl b 0 len cap 1)=some (.lst (l.map fun x=>[.bool x])):=by
 have h1:OwnC h n 1 (.sl b 0 len len 1) (l.flatMap fun x=>[V.bool x]):=.inr ⟨b,len,rfl,by grind[qu],hn,by rw[hb,qu]⟩;have h2:=OwnC.frzF (ho:=h1) (f:=fun x=>[V.bool x]) (n:=1) (m:=n) (d:=d) (fun _=>rfl) (by omega) (La _) (fun _=>rfl) (fun x c hc=>by simp_all);simp_all[jA,if_neg]
end Go.Ab
