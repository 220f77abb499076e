/- Several texts of this proof in one. -/
import Derived.Test.YtldfgkjmficliaaGreatPaPm
set_option linter.all false
set_option maxHeartbeats 8000000
set_option maxRecDepth 100000
namespace Go.Ab
open Go.Proofs Go.Proofs.Tryz
namespace Bi
theorem jL{α:Type}{r:α->α->Prop}{l:List α}(h:l.Pairwise r){i j:Nat}{x y:α}(h0:i<j)(hx:l[i]?=some x)(hy:l[j]?=some y):r x y:=by
 obtain⟨h1,rfl⟩:=Ld.1 hx;obtain⟨h2,rfl⟩:=Ld.1 hy;exact (Mo.1 h) i j h1 h2 h0
theorem Fq{f:Fnt}(h:pw f):ck f=0:=by
 have h1:=h.u;have h2:=h.a;have h3:=h.d;have h4:=h.g;have h5:=h.df;have h6:=h.advL;have h7:=h.kerL;have h8:=h.ligL;refine Aj (by omega) ⟨⟨by omega,by omega,by omega,by omega,by omega,by omega,by omega,by omega,by rw[wrap64 (by omega) (by omega)];omega,by omega,by omega⟩,fun x hx=>?_,fun x hx=>?_,fun x hx=>?_⟩ ⟨fun i x hx=>?_,fun i x y hx hy=>?_,fun i x y hx hy=>?_⟩
 ·have:=h.adv x hx;exact⟨by omega,by omega,by omega,by omega,by omega,by omega⟩
 ·have:=h.ker x hx;exact⟨by omega,by omega,by omega,by omega,by omega,by omega⟩
 ·have:=h.lig x hx;exact⟨by omega,by omega,by omega,by omega,by omega,by omega,by omega,by omega⟩
 ·have h9:=h.adv x (Le hx);refine⟨by omega,fun y hi hy=>jL h.advA (show i-1<i by omega) hy hx⟩
 ·rw[Ln]at hx hy;obtain⟨x',h0,rfl⟩:=LG.1 hx;obtain⟨y',ha,rfl⟩:=LG.1 hy;exact jL h.kerA (Nat.lt_succ_self i) h0 ha
 ·rw[Ln]at hx hy;obtain⟨x',h0,rfl⟩:=LG.1 hx;obtain⟨y',ha,rfl⟩:=LG.1 hy;exact jL h.ligA (Nat.lt_succ_self i) h0 ha
theorem tg:∀ {l:List Spn}{a b:Int},Cov a b l->a<=b/\∀ s∈l,a<=s.f/\s.f<s.t/\s.t<=b
 | [],a,b,h=>⟨by have h:a=b:=h;omega,fun _ h=>by cases h⟩
 | s::l,a,b,⟨h1,h2,h3⟩=>by
  have ih:=tg h3;refine⟨by omega,fun x hx=>?_⟩;rcases Ly.1 hx with rfl|hx
  ·omega
  ·have:=ih.2 x hx;omega
theorem yW:∀ {l:List Spn}{a b:Int}(i:Nat),Cov a b l->(spI i l).length=(b-a).toNat
 | [],a,b,_,h=>by have h:a=b:=h;simp[spI,h]
 | s::l,a,b,i,⟨h1,h2,h3⟩=>by
  have ih:=yW (i+1) h3;have:=(tg h3).1;rw[spI,Lt,List.length_replicate,ih];omega
theorem yY:∀ {fs:List Fnt},(∀ f∈fs,ck f=0)->ly fs=0
 | [],_=>rfl
 | f::r,h=>by rw[rZ,if_pos (h f (by simp)),yY fun x hx=>h x (by simp[hx])]
open Classical in
noncomputable def lvZ(t:List Int)(b:Int):List Int:=if h:t.length<=2000/\(-1<=b/\b<=1) then Classical.choose (zB t h.1 b h.2) else []
theorem xU{t:List Int}{b:Int}(ht:t.length<=2000)(hb:-1<=b/\b<=1):(∀ (d:Nat) (cfg:Cfg) (h:Heap),af md (K pZ (d+1)) cfg 68 [rl t,.int .i64 b] h=some (il (lvZ t b),h))/\(lvZ t b).length=t.length:=by
 unfold lvZ;rw[dif_pos ⟨ht,hb⟩];have h:=Nh (zB t ht b hb);exact⟨h.1,h.2.1⟩
theorem PB{t:List Int}{b:Int}:∀ x∈lvZ t b,0<=x/\x<=127:=by
 unfold lvZ;split
 ·rename_i h;exact (Nh (zB t h.1 b h.2)).2.2
 ·intro x hx;cases hx
theorem Fc{p:Par}{fs:List Fnt}{n:Nat}(hP:BW p n fs.length)(hn:n<=60)(hc:1<=fs.length)(hd:fs.length<=3)(hF:∀ f∈fs,pw f){C:List Int}(hC:∀ (d:Nat) (cfg:Cfg) (h:Heap),af md (K pZ (d+4)) cfg 51 [rl p.t] h=some (il C,h))(he:C.length<=p.t.length+1)(h8:∀ x∈C,0<=x/\x<=p.t.length):CtxA pZ ⟨p,fs,iK p.t C,C,lvZ,kO⟩:=by
 have hg:=hP.len;have hh:=hP.sl;have hb:=hP.b;have ha:=hP.a;have hw:=hP.w;have h6:∀ s∈p.s,0<=s.n/\s.n<fs.length/\1<=s.z/\s.z<=1000:=fun s hs=>by have:=hP.sp s hs;omega
 have h7:∀ f∈fs,ck f=0:=fun f hf=>Fq (hF f hf);have h9:pW p.s p.t.length:=by
  unfold pW;rcases hP.cov with⟨h1,h2⟩|⟨h1,h2⟩
  ·rw[if_pos (by rw[h1];rfl)];exact h2
  ·rw[if_neg (by intro e;exact h1 (L9.1 (by omega)))];exact h2
 have h0:0<p.s.length/\(spI 0 p.s).length=p.t.length/\∀ s∈p.s,0<=s.f/\s.f<=2000/\0<=s.t/\s.t<=2000:=by
  rcases hP.cov with⟨h1,s,h2,h3,h4⟩|⟨h1,h2⟩
  ·rw[h1,h2];refine⟨by simp,by simp[spI,h3,h4],fun x hx=>?_⟩;simp at hx;subst hx;omega
  ·have h3:=yW 0 h2;have h4:=tg h2;refine⟨?_,by rw[h3];omega,fun x hx=>?_⟩
   ·rcases hs:p.s with _|⟨s,ss⟩
    ·rw[hs]at h2;have h5:(0:Int)=p.t.length:=h2;exact absurd (L9.1 (by omega)) h1
    ·simp
   ·have:=h4.2 x hx;omega
 refine { hp:=cH,hG:=Ge,hV:=?_,hXr:=rfl,hpR:=DC,hCl:=fun d cfg H l=>Cp d cfg H l,hCn:=yU,h5:=by show p.t.length<=90;omega,hB:=rfl,hC:=hC,hLv:=fun d cfg h t ht=>(xU ht hb).1 d cfg h,hsb:=h0.2.2,hVl:=fun d cfg h=>?_ }
 ·exact { n:=by show p.t.length<=2000;omega,sp:=h0.2.1,sn:=⟨h0.1,by show p.s.length<=2000;omega⟩,fn:=by show fs.length<=2000;omega,sf:=h6,fv:=h7,w:=⟨hw.1,by show p.w<=100000000;omega⟩,bl:=lS,b2:=fun h=>rV h,cl:=⟨by show C.length<=4000;omega,h8⟩,lv:=fun t ht=>(xU ht hb).2,rs:=fun t lv e a b h1 h2 h3=>qX h1 h2 h3 }
 ·obtain⟨_,rfl,h1,_⟩:=BJ (prim:=pZ) d cH p (by omega) (by omega) fs (by omega) fun f hf=>by have h1:=hF f hf;exact⟨by have:=h1.advL;omega,by have:=h1.kerL;omega,by have:=h1.ligL;omega⟩
  have hv:oM p fs=0:=by
   refine Ak (by omega) ?_ (yY h7) h9;rintro (h|⟨s,hs,h⟩)
   ·unfold rz at h;omega
   ·have:=h6 s hs;unfold pD at h;omega
  have:=h1 rfl cfg h;rw[hv]at this;exact this
end Bi
end Go.Ab
namespace Go.Ab
section
variable {P:Program}{md:FuncId->Nat}{call:aW}{cfg:Cfg}{n:Nat}
abbrev Acc:=Option (Bool×Nat×Nat)
def uv(w:Bool):Option V->Acc
 | some (.ptr b k)=>some (w,b,k)
 | _=>none
@[simp] theorem accL_ptr{w:Bool}{b k:Nat}:uv w (some (.ptr b k))=some (w,b,k):=rfl
@[simp] theorem Kf{w:Bool}{cs:List V}{k:Nat}:uv w (some (.lptr cs k))=none:=rfl
def wR(P:Program)(_md:FuncId->Nat)(_call:aW)(cfg:Cfg)[l:Hid (List Oper)](fr:List V)(h:Heap)(acc:List Acc)[Q:Hid bR]:Prop:=∃ E,runS P cfg l.val (fr,h) acc=some E/\Q.val (E.foldl dM (fr,h)).1 (E.foldl dM (fr,h)).2
def wRS(P:Program)(md:FuncId->Nat)(call:aW)(cfg:Cfg)[dst:Hid (Option Tmp)][fr:Hid (List V)](r:Option (V×Heap))(lf:Bool)(a:Acc)(acc:List Acc)[l:Hid (List Oper)][Q:Hid bR]:Prop:=
 ∃ x,r=some x/\(lf=true\/x.1.leaf=true)/\jG a acc=true/\@wR P md call cfg l (put fr.val dst.val x.1) x.2 (acc++[a]) Q
@[simp] theorem wRS_some{dst:Option Tmp}{fr:List V}{v:V}{h:Heap}{lf:Bool}{a:Acc}{acc:List Acc}{l:List Oper}{Q:bR}:@wRS P md call cfg ⟨dst⟩ ⟨fr⟩ (some (v,h)) lf a acc ⟨l⟩ ⟨Q⟩↔(lf=true\/v.leaf=true)/\jG a acc=true/\@wR P md call cfg ⟨l⟩ (put fr dst v) h (acc++[a]) ⟨Q⟩:=by simp[wRS]
@[simp] theorem wR_nil{fr:List V}{h:Heap}{acc:List Acc}{Q:bR}:@wR P md call cfg ⟨[]⟩ fr h acc ⟨Q⟩↔Q fr h:=by simp[wR,runS]
@[simp] theorem wR_list{l:List Oper}{fr:List V}{h:Heap}{acc:List Acc}{Q:bR}:@wR P md call cfg ⟨l.toArray.toList⟩ fr h acc ⟨Q⟩↔@wR P md call cfg ⟨l⟩ fr h acc ⟨Q⟩:=ME
theorem kH{o:Oper}{l:List Oper}{fr:List V}{h:Heap}{acc:List Acc}{Q:bR}{lf:Bool}{a:Acc}(hk:sOp o=true)(h6:aH P md call cfg fr h o.op=opV P cfg fr h o.op)(ha:gV fr o=a)
  (hl:∀ x,opV P cfg fr h o.op=some x->((∃ e,jx fr o x.1=some e)↔(lf=true\/x.1.leaf=true))):@wR P md call cfg ⟨o::l⟩ fr h acc ⟨Q⟩↔@wRS P md call cfg ⟨o.dst⟩ ⟨fr⟩ (aH P md call cfg fr h o.op) lf a acc ⟨l⟩ ⟨Q⟩:=by
 subst ha;rw[h6];unfold wR wRS;constructor
 ·rintro⟨E,hE,hQ⟩;replace hE:runS P cfg (o::l) (fr,h) acc=some E:=hE;unfold runS at hE;split at hE
  ·rename_i v h' hv;split at hE
   ·rename_i e he;split at hE
    ·rename_i h4;obtain⟨E',h0,rfl⟩:=LG.1 hE;obtain⟨a1,a2,a3,_,_⟩:=ue (f:=fr) (g:=h) hk hv he (fun _ _=>rfl) fun _ _ _ _=>⟨rfl,fun _=>rfl⟩;have h3:dM (fr,h) e=(put fr o.dst v,h'):=OL (by rw[<- a1,<- a2];rfl) a3.symm;rw[h3]at h0;refine⟨(v,h'),hv,(hl _ hv).1 ⟨e,he⟩,h4,E',h0,?_⟩;rw[MP,h3]at hQ;exact hQ
    ·cases hE
   ·cases hE
  ·cases hE
 ·rintro⟨⟨v,h'⟩,hv,h7,h4,E',h0,hQ⟩;obtain⟨e,he⟩:=(hl _ hv).2 h7;obtain⟨a1,a2,a3,_,_⟩:=ue (f:=fr) (g:=h) hk hv he (fun _ _=>rfl) fun _ _ _ _=>⟨rfl,fun _=>rfl⟩;have h3:dM (fr,h) e=(put fr o.dst v,h'):=OL (by rw[<- a1,<- a2];rfl) a3.symm;refine⟨e::E',?_,?_⟩
  ·show runS P cfg (o::l) (fr,h) acc=some (e::E');replace h0:runS P cfg l (put fr o.dst v,h') (acc++[gV fr o])=some E':=h0;simp only[runS,hv,he,h4,if_true,h3,h0,LW]
  ·rw[MP,h3];exact hQ
variable {dst:Option Tmp}{ty:TypeId}{pos:String}{after:Array Edge}{l:List Oper}{fr:List V}{h:Heap}{acc:List Acc}{Q:bR}
@[simp] theorem wR_move{x:Operand}:@wR P md call cfg ⟨{ dst:=dst,op:=.move x,type:=ty,pos:=pos,after:=after,guard:=none }::l⟩ fr h acc ⟨Q⟩↔@wRS P md call cfg ⟨dst⟩ ⟨fr⟩ (aH P md call cfg fr h (.move x)) true none acc ⟨l⟩ ⟨Q⟩:=
 kH rfl rfl rfl fun _ _=>by simp[jx]
@[simp] theorem GN{t:TypeId}{x:Operand}{k:Nat}:@wR P md call cfg ⟨{ dst:=dst,op:=.fieldAddr t x k,type:=ty,pos:=pos,after:=after,guard:=none }::l⟩ fr h acc ⟨Q⟩↔@wRS P md call cfg ⟨dst⟩ ⟨fr⟩ (aH P md call cfg fr h (.fieldAddr t x k)) true none acc ⟨l⟩ ⟨Q⟩:=
 kH rfl rfl rfl fun _ _=>by simp[jx]
@[simp] theorem GO{t:TypeId}{x y:Operand}:@wR P md call cfg ⟨{ dst:=dst,op:=.indexAddr t x y,type:=ty,pos:=pos,after:=after,guard:=none }::l⟩ fr h acc ⟨Q⟩↔@wRS P md call cfg ⟨dst⟩ ⟨fr⟩ (aH P md call cfg fr h (.indexAddr t x y)) true none acc ⟨l⟩ ⟨Q⟩:=
 kH rfl rfl rfl fun _ _=>by simp[jx]
@[simp] theorem wR_binOp{b:BinOp}{t c:TypeId}{x y:Operand}:@wR P md call cfg ⟨{ dst:=dst,op:=.binOp b t x y c,type:=ty,pos:=pos,after:=after,guard:=none }::l⟩ fr h acc ⟨Q⟩↔@wRS P md call cfg ⟨dst⟩ ⟨fr⟩ (aH P md call cfg fr h (.binOp b t x y c)) true none acc ⟨l⟩ ⟨Q⟩:=
 kH rfl rfl rfl fun _ _=>by simp[jx]
@[simp] theorem wR_load{t:TypeId}{x:Operand}:@wR P md call cfg ⟨{ dst:=dst,op:=.load t x,type:=ty,pos:=pos,after:=after,guard:=none }::l⟩ fr h acc ⟨Q⟩↔@wRS P md call cfg ⟨dst⟩ ⟨fr⟩ (aH P md call cfg fr h (.load t x)) false (uv false (ev fr x)) acc ⟨l⟩ ⟨Q⟩:=
 kH rfl rfl (by cases hx:ev fr x with|none=>simp[gV,uv,hx]|some v=>cases v<;>simp[gV,uv,hx]) fun v _=>by simp[jx]
def lfO:Option V->Bool
 | some u=>u.leaf
 | none=>false
@[simp] theorem lfO_some{u:V}:lfO (some u)=u.leaf:=rfl
@[simp] theorem wR_store{t:TypeId}{x y:Operand}:@wR P md call cfg ⟨{ dst:=dst,op:=.store t x y,type:=ty,pos:=pos,after:=after,guard:=none }::l⟩ fr h acc ⟨Q⟩↔@wRS P md call cfg ⟨dst⟩ ⟨fr⟩ (aH P md call cfg fr h (.store t x y)) (lfO (ev fr y)) (uv true (ev fr x)) acc ⟨l⟩ ⟨Q⟩:=by
 refine kH rfl rfl (by cases hx:ev fr x with|none=>simp[gV,uv,hx]|some v=>cases v<;>simp[gV,uv,hx]) fun v hv=>?_;have h0:v.1.leaf=false:=by
  simp only[opV]at hv;split at hv
  ·split at hv
   ·cases hv;rfl
   ·cases hv
  ·cases hv
 rw[h0];simp only[opV]at hv;split at hv
 ·rename_i p u hp hu;cases p<;>first
   | (simp[jx,hp,hu,lfO];done)
   | (exfalso;revert hv;simp[aQ];done)
 ·cases hv
theorem EA{id:Nat}{ops:Array Oper}{fr:List V}{h:Heap}{Q:dV}(hs:(sOK P ops&&!sN ops)=true)(hw:@wR P md call cfg ⟨ops.toList⟩ fr h [] ⟨Q .normal⟩):@wC P md call cfg n ⟨.region id ops true⟩ fr h ⟨Q⟩:=by
 simp only[Lq,Mx]at hs;obtain⟨E,hE,hQ⟩:=hw;refine⟨(.normal,(E.foldl dM (fr,h)).1,(E.foldl dM (fr,h)).2),?_,hQ⟩;replace hE:runS P cfg ops.toList (fr,h) []=some E:=hE;show code P md call (fC P md call) cfg n (.region id ops true) fr h=some (.normal,(E.foldl dM (fr,h)).1,(E.foldl dM (fr,h)).2);simp only[code,fC,hs.2,hs.1,LH,if_true,if_false,Cy,hE,LW]
end
end Go.Ab
namespace Go.Ab
open Go.Proofs Go.Proofs.Tryz
namespace Bi
attribute [local congr] aw
noncomputable def rN(g:FuncId):Prim:=fun cfg args h=>aN prog md pZ 10000 40 cfg g args h
theorem pn(g:FuncId):cM prog g (rN g):=by
 intro cfg args h r h' hx;unfold rN at hx;exact ee hfol hnam pZ_ok 40 _ _ _ _ _ _ hx
noncomputable def p2(f:FuncId):Option Prim:=if f=51 then some (rN 51) else if f=93 then some (rN 93) else none
theorem p2_ok:∀ f p,p2 f=some p->cM prog f p:=by
 intro f p h;unfold p2 at h;split at h
 ·rename_i hf;rw[<- Option.some.inj h,hf];exact pn _
 ·split at h
  ·rename_i hf;rw[<- Option.some.inj h,hf];exact pn _
  ·cases h
theorem jV{md md':FuncId->Nat}{call call':aW}{f:FuncId}{args:List V}(hm:md f=0)(h0:md' f=0)(ha:args.all V.noref=true)(e:call ⟨0,[],0⟩ f args []=call' ⟨0,[],0⟩ f args [])(cfg:Cfg)(h:Heap):af md call cfg f args h=af md' call' cfg f args h:=by
 simp only[af,hm,h0,ha,if_true,e]
noncomputable abbrev K2(d:Nat):aW:=aN prog md2 p2 10000 d
theorem p2_ln:p2 93=some (rN 93):=(if_neg (by decide)).trans (if_pos rfl)
theorem p2_cl:p2 51=some (rN 51):=if_pos rfl
theorem I9(d:Nat)(cfg:Cfg)(h:Heap)(r:Int):af md2 (K2 (d+1)) cfg 93 [.int .i32 r] h=some (.int .i64 (cLn r),h):=by
 rw[jV (md':=md) (call':=K pZ 40) rfl rfl rfl (dq p2_ln _ _ _)];exact pN (prim:=pZ) 37 cH cfg h r
theorem Jg(d:Nat)(cfg:Cfg)(h:Heap)(r:Int):af md2 (K2 (d+2)) cfg 73 [.int .i32 r] h=some (.bool (nlS r),h):=by
 refine aU (md:=md2) rfl rfl func73 rfl rfl rfl (by simp) ?_;have hL:=fun cfg h=>I9 d cfg h r;by_cases h1:cLn r=1
 ·simp[hL,h1,nlS]
 by_cases h2:cLn r=2
 ·simp[hL,h2,nlS]
 by_cases h3:cLn r=3<;>simp[hL,h1,h2,h3,nlS]
theorem Jf(d:Nat)(cfg:Cfg)(h:Heap)(r:Int):af md2 (K2 (d+3)) cfg 72 [.int .i32 r] h=some (.bool (!nlS r),h):=by
 refine aU (md:=md2) rfl rfl func72 rfl rfl rfl (by simp) ?_;have hL:=fun cfg h=>Jg d cfg h r;simp[hL]
def vis(l:List Int):Bool:=l.any fun r=>!nlS r
theorem IY(d:Nat)(l:List Int)(hl:l.length<=2000):∃ n:Int,(0<=n↔vis l=true)/\∀ cfg h,af md2 (K2 (d+4)) cfg 115 [rl l,.func (.func 72) [] []] h=some (.int .i64 n,h):=by
 obtain⟨_,⟨n,rfl,hn⟩,hc⟩:=gn (md:=md2) (prim:=p2) (n:=10000) (d:=d+3) (args:=[rl l,.func (.func 72) [] []]) (Post:=fun r=>∃ n:Int,r=.int .i64 n/\(0<=n↔vis l=true)) rfl rfl func115 rfl rfl rfl (by simp;rfl) (by
  simp(disch:=omega);refine ai (fun m fr H=>∃ i:Nat,i<=l.length/\m=l.length-i/\vis (l.take i)=false/\H=[]/\Slots 19 [(0,rl l),(1,.func (.func 72) [] []),(7,.int .i64 l.length),(8,.int .i64 i)] fr) (m:=l.length) (by omega) ⟨0,by omega,by omega,rfl,rfl,by simp⟩ ?_;rintro m fr H ⟨i,hi,rfl,hv,rfl,hs⟩;obtain⟨j,rfl⟩:=hs.ex;clear hs;by_cases h0:i<l.length
  ·have hI:(i:Int)<l.length:=by omega
   have hG:=fun cfg h=>Jf d cfg h (lgI l i);have h3:l.take (i+1)=l.take i++[lgI l i]:=by rw[LO,atI h0];rfl
   cases hb:nlS (lgI l i)
   ·have h4:vis l=true:=by
     unfold vis;rw[N3];exact⟨lgI l i,Le (atI h0),by rw[hb];rfl⟩
    simp(disch:=omega)[hI,atI h0,hG,hb,h4,-getElem?_pos]
   ·simp(disch:=omega)[hI,atI h0,hG,hb,wrap64,-getElem?_pos];exact ae (m':=l.length-(i+1)) (by omega) ⟨i+1,by omega,by omega,by rw[h3];unfold vis at hv ⊢;rw[List.any_append,hv];simp[hb],rfl,by simp(disch:=omega)⟩
  ·obtain rfl:i=l.length:=by omega
   have hI:¬ ((l.length:Int)<l.length):=by omega
   rw[LQ]at hv;simp(disch:=omega)[hI,hv])
 exact⟨n,hn,hc⟩
theorem Ic(d:Nat)(l:List Int)(hl:l.length<=2000)(cfg:Cfg)(h:Heap):af md2 (K2 (d+5)) cfg 71 [rl l,.func (.func 72) [] []] h=some (.bool (vis l),h):=by
 refine aU (md:=md2) rfl rfl func71 rfl rfl rfl (by simp;rfl) ?_;obtain⟨n,hn,hI⟩:=IY d l hl;cases hv:vis l
 ·have:¬ 0<=n:=fun h=>by rw[hn.1 h]at hv;cases hv
  simp[hI,this]
 ·have:=hn.2 hv;simp[hI,this]
section
variable {prim:FuncId->Option Prim}(d:Nat)
theorem HY(hp:∀ f,Np5 f->prim f=none)(l:List Int)(hl:l.length<=4000)(x:Int):
  ∃ (k:Int) (b:Bool),∀ cfg h,af md (K prim (d+3)) cfg 70 [il l,.int .i64 x] h=some (.tup [.int .i64 k,.bool b],h):=by
 have hL:=fun cfg h x y=>zA (prim:=prim) (cfg:=cfg) (h:=h) d (hp 113 (by decide)) (hp 151 (by decide)) x y;have hN:∀ cfg h x,af md (K prim (d+2)) cfg 114 [.int .i64 x] h=some (.bool false,h):=fun cfg h x=>Dr (prim:=prim) (d+1) cfg h (hp 114 (by decide)) x;obtain⟨_,⟨k,b,rfl⟩,hc⟩:=H8 (md:=md) (prim:=prim) (n:=10000) (d:=d+2) (args':=[il l,.int .i64 x]) (Post:=fun r=>∃ (k:Int) (b:Bool),r=.tup [.int .i64 k,.bool b]) rfl (hp 70 (by decide)) func70 rfl rfl rfl (by
  simp;refine ai (fun m fr H=>∃ lo hi:Nat,hi<=l.length/\lo<=hi/\m=hi-lo/\H=[]/\Slots 54 [(0,il l),(1,.int .i64 x),(6,.int .i64 l.length),(7,.int .i64 lo),(8,.int .i64 hi)] fr) (m:=l.length) (by omega) ⟨0,l.length,by omega,by omega,by omega,rfl,by simp⟩ ?_;rintro m fr H ⟨lo,hi,h2,h3,rfl,rfl,hs⟩;obtain⟨j,rfl⟩:=hs.ex;clear hs;by_cases h6:lo<hi
  ·obtain⟨y,hy⟩:∃ y,l[(lo+hi) / 2]?=some y:=⟨_,Lc (by omega)⟩;have hf:((lo:Int)+hi).fdiv (2 ^ (min 1 IntKind.u64.bits))=((lo+hi) / 2:Nat):=by
    rw[show (2:Int) ^ (min 1 IntKind.u64.bits)=2 from rfl,Ng _ (by omega)];omega
   have h7:(((lo:Int)+hi) / 2).toNat=(lo+hi) / 2:=by omega
   simp(disch:=omega)[h6,wrap64,uq,hf,h7,hy,hL,-getElem?_pos];by_cases hc:y<x
   ·simp(disch:=omega)[hc,wrap64,-getElem?_pos];exact ae (m':=hi-((lo+hi) / 2+1)) (by omega) ⟨(lo+hi) / 2+1,hi,h2,by omega,rfl,rfl,by simp(disch:=omega)⟩
   ·simp(disch:=omega)[hc,-getElem?_pos];exact ae (m':=(lo+hi) / 2-lo) (by omega) ⟨lo,(lo+hi) / 2,by omega,by omega,rfl,rfl,by simp(disch:=omega)⟩
  ·obtain rfl:lo=hi:=by omega
   by_cases h0:lo<l.length
   ·obtain⟨y,hy⟩:∃ y,l[lo]?=some y:=⟨_,Lc h0⟩;by_cases h4:y=x
    ·simp(disch:=omega)[hy,h0,own,h4,-getElem?_pos]
    ·simp(disch:=omega)[hy,h0,own,h4,hN,-getElem?_pos]
   ·simp(disch:=omega)[h0,own,-getElem?_pos])
 exact⟨k,b,fun cfg h=>hc cfg h _ (by simp)⟩
theorem jw{c:List Int}:∀ q,∀ x∈eD c q,0<=x/\x<=q
 | 0,x,h=>by simp[eD]at h;omega
 | q+1,x,h=>by
  rw[eD]at h;split at h
  ·rcases LA.1 h with h|h
   ·have:=jw q x h;omega
   ·rw[LP.1 h];omega
  ·have:=jw q x h;omega
theorem cluS_rng{t:List Int}:(∀ x∈cu t,0<=x/\x<=t.length)/\(cu t).length<=t.length+1:=by
 unfold cu;split
 ·simp
 ·rename_i h0;have h1:=L7.2 h0;refine⟨fun x h=>?_,?_⟩
  ·rcases LA.1 h with h|h
   ·have:=jw _ x h;omega
   ·rw[LP.1 h];omega
  ·have:=lX (c:=t.map cBr) (t.length-1);simp;omega
theorem Ih(d:Nat)(p:Par)(ht:p.t.length<=2000)(hb:-1<=p.b/\p.b<=1)(x:cn)(f e:Nat)(hf:x.l.f=f)(he:x.l.t=e)(hQ:f<=e)(hT:e<=p.t.length):
  ∃ lv:List Int,lv.length=e-f/\∀ cfg h,af md (K pZ (d+7)) cfg 36 [.agg (aO p),.agg (az x)] h=some (il lv,h):=by
 obtain⟨hD,hX⟩:=@cluS_rng p.t;have hC:=fun cfg h=>lY (prim:=pZ) d cH p.t ht cfg h;have hr:∀ cfg h,af md (K pZ (d+6)) cfg 51 [rl p.t] h=some (il (cu p.t),h):=fun cfg h=>lY (prim:=pZ) (d+2) cH p.t ht cfg h;have hu:=fun cfg h=>Cd (prim:=pZ) d cH p.t ht (cu p.t) hD (by omega) hC cfg h;have hw:=@lS p.t (cu p.t);obtain⟨hE,h7,s0,s1,s2,s3,s4,l5,t5⟩:=oJ p;have hd:=eq_true (Lp.1 hE);have hY:(az x).length=10:=rfl;have h0:isMap (az x)=false:=rfl;have hg:(∀ c∈az x,c.leaf=true)=True:=eq_true (by simp[az,bA]);have h6:slot (az x) 0=some (.int .i64 f):=by rw[<- hf];rfl
 have hj:slot (az x) 1=some (.int .i64 e):=by rw[<- he];rfl
 obtain⟨_,⟨lv,rfl,hl⟩,hc⟩:=gn (md:=md) (prim:=pZ) (n:=10000) (d:=d+6) (args:=[.agg (aO p),.agg (az x)]) (Post:=fun r=>∃ lv,r=il lv/\lv.length=e-f) rfl (cH _ (by decide)) func36 rfl rfl rfl (by simp[az,bA,aO]) (by
  simp(disch:=omega)[hd,hg];refine ah 4 (by kernel_rfl) ?_;simp(disch:=omega)[s0,h7];simp(disch:=omega)[hu,hw];generalize iK p.t (cu p.t)=B at *;refine ai (fun m fr H=>∃ i a b:Nat,i<=p.t.length/\a<=f/\e<=b/\b<=p.t.length/\m=p.t.length-i/\H=[some (aO p),some (az x)]/\Slots 101 [(2,.ptr 0 0),(3,.ptr 1 0),(4,.nils),(5,.int .i64 a),(6,.int .i64 b),(20,il B),(21,.int .i64 p.t.length),(22,.int .i64 i)] fr) (m:=p.t.length) (by omega) ⟨0,0,p.t.length,by omega,by omega,by omega,by omega,by omega,rfl,by simp⟩ ?_;rintro m fr H ⟨i,a,b,hi,ha,hm,hZ,rfl,rfl,hs⟩;obtain⟨j,rfl⟩:=hs.ex;clear hs;by_cases hF:i<p.t.length
  ·have hI:(i:Int)<p.t.length:=by omega
   have h8:=atI (l:=B) (i:=i) (by omega);by_cases h2:lgI B i=2
   ·by_cases h3:(i:Int)+1<=f
    ·simp(disch:=omega)[hI,h8,h2,h3,h6,h0,wrap64,-getElem?_pos];exact ae (m':=p.t.length-(i+1)) (by omega) ⟨i+1,i+1,b,by omega,by omega,by omega,by omega,rfl,rfl,by simp(disch:=omega)⟩
    ·by_cases h4:(e:Int)<=(i:Int)+1
     ·simp(disch:=omega)[hI,h8,h2,h3,h4,h6,hj,h0,wrap64,-getElem?_pos];exact ae (m':=p.t.length-(i+1)) (by omega) ⟨i+1,a,min b (i+1),by omega,by omega,by omega,by omega,rfl,rfl,by simp(disch:=omega);omega⟩
     ·simp(disch:=omega)[hI,h8,h2,h3,h4,h6,hj,h0,wrap64,-getElem?_pos];exact ae (m':=p.t.length-(i+1)) (by omega) ⟨i+1,a,b,by omega,by omega,by omega,by omega,rfl,rfl,by simp(disch:=omega)⟩
   ·simp(disch:=omega)[hI,h8,h2,wrap64,-getElem?_pos];exact ae (m':=p.t.length-(i+1)) (by omega) ⟨i+1,a,b,by omega,by omega,by omega,by omega,rfl,rfl,by simp(disch:=omega)⟩
  obtain rfl:i=p.t.length:=by omega
  have hI:¬ ((p.t.length:Int)<p.t.length):=by omega
  simp(disch:=omega)[hI,s0,h7];clear hu hw;have ep:V.lst (List.drop a (List.take b (List.map (fun n=>[V.int .i32 n]) p.t)))=rl ((p.t.take b).drop a):=by simp[rl,NN,NO]
  have g0:((p.t.take b).drop a).length=b-a:=by simp;omega
  rw[ep];generalize (p.t.take b).drop a=T at *;obtain⟨hLv,hy⟩:=xU (t:=T) (by omega) hb;have hLv:=fun cfg h=>hLv (d+5) cfg h;have hH:∀ cfg h,af md (K pZ (d+6)) cfg 69 [rl T,.int .i64 p.b] h=some (.int .i64 (dt cD T p.b),h):=fun cfg h=>uC (prim:=pZ) (d+1) cH cfg h T (by omega) p.b;have mL:md 68=3:=rfl;have mB:md 69=3:=rfl;have mR:md 67=2:=rfl;refine ah 17 (by kernel_rfl) ?_;obtain⟨rv,H1,hR,hz⟩:=zT (prim:=pZ) d cH DC (fun cfg H l h1 h2 h3=>Cp (d+4) cfg H l h1 h2 h3) (fun cfg H=>yU (d+4) cfg H) T (lvZ T p.b) (by omega) hy (dt cD T p.b) (f-a) (e-a) (by omega) (by omega) ⟨0,[],0⟩ [some (aO p),some (az x)] (by simp);have eA:((f-a:Nat):Int)=(f:Int)-a:=by omega
  have eB:((e-a:Nat):Int)=(e:Int)-a:=by omega
  rw[eA,eB]at hR hz;have hn:(kO T (lvZ T p.b) (dt cD T p.b) ((f:Int)-a) ((e:Int)-a)).length=e-f:=by
   have:=qX (t:=T) (lv:=lvZ T p.b) (e:=dt cD T p.b) (a:=f-a) (b:=e-a) hy (by omega) (by omega);rw[eA,eB]at this;omega
  generalize kO T (lvZ T p.b) (dt cD T p.b) ((f:Int)-a) ((e:Int)-a)=l0 at *;simp(disch:=omega)[s2,h7,h6,hj,h0,hLv,hH,hR,mL,mB,wrap64,-getElem?_pos];rcases hz with⟨hJ,rfl,rfl⟩|⟨hJ,h9⟩
  ·simp(disch:=omega)[s0,h7,hr];refine ai (fun m fr H=>m=0/\H=[some (aO p),some (az x)]/\Slots 101 [(3,.ptr 1 0),(4,.nils),(10,.lst []),(12,.int .i64 1)] fr) (m:=0) (by omega) ⟨rfl,rfl,by simp⟩ ?_;rintro m fr H ⟨rfl,rfl,hs⟩;obtain⟨j,rfl⟩:=hs.ex;clear hs;simp;omega
  obtain⟨vb,rfl,-,-,-⟩:=h9.head.ints (by omega);have hK:ab H1 0=some (aO p):=by rw[h9.block (by simp)];simp[h7]
  simp(disch:=omega)[hK,s0,hr];refine ai (fun m fr H=>∃ (i:Nat) (st:List Int),1<=i/\i<=e-f/\st.length=e-f/\m=e-f-i/\Hp H [some (aO p),some (az x)] [(1,.sl vb 0 (e-f) (e-f) 1,st.map (V.int .i64))]/\Slots 101 [(3,.ptr 1 0),(4,.nils),(10,.sl vb 0 (e-f) (e-f) 1),(11,il (cu p.t)),(12,.int .i64 i)] fr) (m:=e-f-1) (by omega) ⟨1,l0,by omega,by omega,hn,rfl,by rw[hn]at h9;exact h9,by simp[hn]⟩ ?_;rintro m fr H ⟨i,st,g1,hi,hq,rfl,hh,hs⟩;obtain⟨j,rfl⟩:=hs.ex;clear hs;by_cases hF:i<e-f
  ·have hI:(i:Int)<((e-f:Nat):Int):=by omega
   have hm:ab H 1=some (az x):=by rw[hh.block (by simp)];simp[ab,h0]
   obtain⟨w,hv,hL,hM,hN⟩:=hh.head.ints (by omega);obtain rfl:vb=w:=(V.sl.inj hv).1;obtain⟨k,b,hS⟩:=HY (prim:=pZ) (d+3) cH (cu p.t) (by omega) ((f:Int)+i);have hO:Cfg.wr ⟨0,[],0⟩ vb=true:=bq (LJ _);have e1:(i:Int)-1=((i-1:Nat):Int):=by omega
   have hP:=atI (l:=st) (i:=i-1) (by omega);have hle:i+1<=st.length:=by omega
   cases b
   ·simp(disch:=omega)[hI,hm,h6,hS,hN,hO,e1,hP,hle,wrap64,-getElem?_pos];have hA:=hh.setO (cs':=(st.set i (lgI st (i-1))).map (V.int .i64)) dN (by simp);rw[MB]at hA;exact ae (m':=e-f-(i+1)) (by omega) ⟨i+1,st.set i (lgI st (i-1)),by omega,by omega,by simpa using hq,rfl,by rw[MB];exact hA,by simp(disch:=omega)⟩
   ·simp(disch:=omega)[hI,hm,h6,hS,wrap64,-getElem?_pos];exact ae (m':=e-f-(i+1)) (by omega) ⟨i+1,st,by omega,by omega,hq,rfl,hh,by simp(disch:=omega)⟩
  ·have hI:¬ (i:Int)<((e-f:Nat):Int):=by omega
   have f1:=OwnC.frzI (d:=4) (kd:=.i64) (l:=st) (n:=0) hh.head (LJ _);simp(disch:=omega)[hI];exact⟨_,f1,st,rfl,hq⟩)
 exact⟨lv,hl,hc⟩
end
end Bi
end Go.Ab
