/- Several texts of this proof in one. -/
import Derived.Test.YtldfgkjmficliaaGreatPiG
set_option linter.all false
set_option maxHeartbeats 2000000
namespace Go.Ab
open Go.Proofs
namespace Bi
theorem Gf{c:List Int}{b i:Nat}{x:Int}(hx:c[i]?=some x)(hi:i<b):(c.take b).drop i=x::(c.take b).drop (i+1):=eK (by rw[LR hi];exact hx)
theorem Bl(c:List Int)(b i:Nat):bn ((c.take b).drop i) 0=match bn (c.drop i) 0 with
  | some m=>if m<b-i then some m else none
  | none=>none:=by
 rw[List.drop_take,qI];cases bn (c.drop i) 0<;>rfl
section
variable {prim:FuncId->Option Prim}(d:Nat) (cfg:Cfg) (h:Heap)
theorem qk(hp:prim 112=none)(hd:prim 142=none)(c M:List Int)(hM:MOK c M)(hc:c.length<=2000)(a b:Nat)(he:a<=b)(hb:b<=c.length):
  af md (K prim (d+2)) cfg 112 [il c,il M,.int .i64 a,.int .i64 b] h=some (.int .i64 (fs ((c.take b).drop a)),h):=by
 refine aU rfl hp Tryz.func112 rfl rfl rfl (by simp) ?_;have hI:=fun cfg h x=>lC (prim:=prim) d cfg h hd x;simp;refine ai (fun m fr H=>∃ i:Nat,i<=b/\m=b-i/\fs ((c.take b).drop a)=fs ((c.take b).drop i)/\H=[]/\Slots 66 [(0,il c),(1,il M),(3,.int .i64 b),(9,.int .i64 i)] fr) (m:=b-a) (by omega) ⟨a,he,rfl,rfl,rfl,by simp⟩ ?_;rintro m fr H ⟨i,hi,rfl,hf,rfl,hs⟩;obtain⟨j,rfl⟩:=hs.ex;clear hs;rw[hf];by_cases h4:i<b
 ·obtain⟨x,hx⟩:∃ x,c[i]?=some x:=⟨_,Lc (by omega)⟩;have h3:=Fx x ((c.take b).drop (i+1));rw[<- Gf hx h4,Bl]at h3;by_cases h0:x=0
  ·rw[if_pos h0]at h3;simp[h4,hx,h0,h3,-getElem?_pos]
  ·by_cases h8:x=1\/x=2
   ·rw[if_neg h0,if_pos h8]at h3;rcases h8 with rfl|rfl<;>simp[h4,hx,h3,-getElem?_pos]
   ·have h1:¬ x=1:=fun e=>h8 (.inl e);have h2:¬ x=2:=fun e=>h8 (.inr e);rw[if_neg h0,if_neg h8]at h3;cases h6:ini x
    ·rw[h6,if_neg (by simp)]at h3;simp[h4,hx,h0,h1,h2,hI,h6,-getElem?_pos];exact ae (m':=b-(i+1)) (by omega) ⟨i+1,by omega,rfl,by rw[h3],rfl,by simp(disch:=omega)[wrap64]⟩
    ·rw[h6,if_pos rfl]at h3;have h9:=hM.at_ i x hx h6;rcases Hu (c:=c) (i:=i) (by omega) with h7|⟨m,h7,hg,hh,ha⟩
     ·have ha:bn (c.drop (i+1)) 0=none:=by
       unfold mt at h7;cases hq:bn (c.drop (i+1)) 0 with
       | none=>rfl
       | some m=>rw[hq]at h7;simp at h7;omega
      rw[ha]at h3;rw[h7]at h9;simp[h4,hx,h0,h1,h2,hI,h6,h9,h3,-getElem?_pos]
     ·rw[ha]at h3;rw[h7]at h9;by_cases hj:m<b
      ·simp only[show m-(i+1)<b-(i+1) by omega,if_true]at h3;rw[OM,show i+1+(m-(i+1)+1)=m+1 by omega]at h3;have n1:¬ (m:Int)<0:=by omega
       have n2:¬ b<=m:=by omega
       simp[h4,hx,h0,h1,h2,hI,h6,h9,n1,n2,-getElem?_pos];exact ae (m':=b-(m+1)) (by omega) ⟨m+1,by omega,rfl,by rw[h3],rfl,by simp(disch:=omega)[wrap64]⟩
      ·simp only[show ¬ m-(i+1)<b-(i+1) by omega,if_false]at h3;have n1:¬ (m:Int)<0:=by omega
       have n2:b<=m:=by omega
       simp[h4,hx,h0,h1,h2,hI,h6,h9,n1,n2,h3,-getElem?_pos]
 ·obtain rfl:i=b:=by omega
  rw[M4 (by simp;omega)];simp[Iv]
def dt(B:Int->Int)(t:List Int)(base:Int):Int:=if base=0\/base=1 then base else fs (t.map B)
theorem EU(hp:∀ f,Np2 f->prim f=none)(B:Int->Int)(hB:∀ cfg h r,af md (K prim (d+1)) cfg 101 [.int .i32 r] h=some (.int .i64 (B r),h))(t:List Int)(ht:t.length<=2000)(base:Int):
  af md (K prim (d+3)) cfg 69 [rl t,.int .i64 base] h=some (.int .i64 (dt B t base),h):=by
 refine call3 rfl (hp 69 (by decide)) Tryz.func69 rfl rfl rfl (args':=[rl t,.int .i64 base]) (by simp) ?_;by_cases h3:base=0\/base=1
 ·rcases h3 with rfl|rfl<;>simp[dt]
 ·have h0:¬ base=0:=fun e=>h3 (.inl e);have h1:¬ base=1:=fun e=>h3 (.inr e);have hC:=fun cfg h=>lr (prim:=prim) d cfg h (hp 103 (by decide)) B hB t ht;obtain⟨M,h4,h6⟩:=jC (prim:=prim) d (hp 104 (by decide)) (hp 142 (by decide)) (t.map B) (by simpa using ht);have hF:=fun cfg h=>qk (prim:=prim) d cfg h (hp 112 (by decide)) (hp 142 (by decide)) (t.map B) M h6 (by simpa using ht) 0 t.length (by omega) (by simp);have e:((t.map B).take t.length).drop 0=t.map B:=by rw[ML,Lu (by simp)]
  rw[e]at hF;simp at hC h4 hF;simp[h0,h1,hC,h4,hF,dt]
end
def eV(st:List Ent):List V:=st.reverse.flatMap fun a=>[V.int .i64 a.1,V.int .i64 a.2.1,V.bool a.2.2]
theorem dY(a:Ent)(st:List Ent):eV (a::st)=eV st++[V.int .i64 a.1,V.int .i64 a.2.1,V.bool a.2.2]:=by simp[eV]
theorem eL(st:List Ent):(eV st).length=st.length*3:=by
 induction st with
 | nil=>rfl
 | cons a st ih=>rw[dY,Lt,ih];simp;omega
theorem CB(a:Ent)(r:List Ent)(J:List V):slot (eV (a::r)++J) (r.length*3)=some (.int .i64 a.1):=by
 rw[<- eL r,dY,LD,slot,Lk (Lh _)];simp
theorem Il(a:Ent)(r:List Ent)(J:List V):slot (eV (a::r)++J) (r.length*3+2)=some (.bool a.2.2):=by
 rw[<- eL r,dY,LD,slot,Lk (by omega)];simp
theorem uK(a:Ent)(r:List Ent)(J:List V):((eV (a::r)++J).drop (r.length*3)).take 3=[V.int .i64 a.1,V.int .i64 a.2.1,V.bool a.2.2]:=by
 rw[<- eL r,dY,LD,List.drop_left];rfl
theorem yX(a:Ent)(r:List Ent)(J:List V):r.length*3+3<=(eV (a::r)).length+J.length:=by
 rw[eL];simp;omega
section
variable {prim:FuncId->Option Prim}(d:Nat) (cfg:Cfg) (h:Heap)
theorem iX(hp:prim 144=none)(n:Int)(hn:0<=n/\n<=1000)(odd:Bool):af md (K prim (d+1)) cfg 144 [.int .i64 n,.bool odd] h=some (.int .i64 (nxt n odd),h):=by
 refine aU rfl hp Tryz.func144 rfl rfl rfl (by simp) ?_;have m1:n.tmod 2=n%2:=MM hn.1;unfold nxt;by_cases h0:n%2=0
 ·cases odd<;>simp(disch:=omega)[m1,h0,wrap64]
 ·cases odd<;>simp(disch:=omega)[m1,h0,wrap64]
theorem wc(hp:prim 143=none)(t o M:List Int)(n:Nat)(e:Int)(c:List Int)(y2 X:Option (List V))(T:Heap)(a:Ent)(r:List Ent)(b cap:Nat)(J:List V)(bi i:Nat)(hr:r.length<=4000)
  (hw:cfg.wr 1=true) (hd:cfg.lo<=T.length+7) (hn:c.length=n) (hi:i<n)
  (hb:∀ c',ab (none::some c'::y2::some [rl t,il o,.sl 1 0 n n 1,il M,.sl 2 0 n n 1,.int .i64 e]::some [.ptr 3 0]::X::some [.sl b 0 (r.length+1) cap 3]::T) b=some (eV (a::r)++J))
  (ha:b<T.length+7) (h6:ab T bi=some [.int .i64 i]):
  af md (K prim (d+1)) cfg 143 [.ptr 6 0,.ptr 4 0,.ptr (bi+1+1+1+1+1+1+1) 0] (none::some (c.map (V.int .i64))::y2::some [rl t,il o,.sl 1 0 n n 1,il M,.sl 2 0 n n 1,.int .i64 e]::some [.ptr 3 0]::X::some [.sl b 0 (r.length+1) cap 3]::T) =
   some (.tup [],none::some ((if 0<=a.2.1 then c.set i a.2.1 else c).map (V.int .i64))::y2::some [rl t,il o,.sl 1 0 n n 1,il M,.sl 2 0 n n 1,.int .i64 e]::some [.ptr 3 0]::X::some [.sl b 0 (r.length+1) cap 3]::T):=by
 have hc:∀ q,(Cfg.wr ⟨cfg.lo,cfg.ex,q⟩ 1)=true:=fun q=>hw;refine call1 rfl hp Tryz.func143 rfl rfl rfl ?_;have he:∀ c' T',ab (none::some c'::y2::some [rl t,il o,.sl 1 0 n n 1,il M,.sl 2 0 n n 1,.int .i64 e]::some [.ptr 3 0]::X::some [.sl b 0 (r.length+1) cap 3]::(T++T')) b=some (eV (a::r)++J):=by
  intro c' T';have:=aj (h:=none::some c'::y2::some [rl t,il o,.sl 1 0 n n 1,il M,.sl 2 0 n n 1,.int .i64 e]::some [.ptr 3 0]::X::some [.sl b 0 (r.length+1) cap 3]::T) (r:=T') (b:=b) (by simpa using ha);rw[hb]at this;simpa using this
 have h7:=yX a r J;have h8:=uK a r J;have h9:∀ q,(Cfg.wr ⟨cfg.lo,cfg.ex,q⟩ (List.length T+1+1+1+1+1+1+1))=true:=fun q=>bq (by omega);have h3:bi<T.length:=al h6;have h4:∀ x,ab (T++x) bi=some [.int .i64 i]:=fun x=>(aj h3).trans h6;have hle:i+1<=c.length:=by omega
 by_cases h0:0<=a.2.1
 ·simp(disch:=omega)[hb,wrap64,h7,h8,h9,h0];refine ah 7 (by kernel_rfl) ?_;simp(disch:=omega)[h4,h0,hc,hle]
 ·simp(disch:=omega)[hb,wrap64,h7,h8,h9,h0]
end
structure EW(e:Int)(i:Nat)(s:ES):Prop where
 last:s.st.getLast?=some (e,-1,false)
 cnt:s.val=(s.st.filter fun a=>a.2.2).length
 rng:∀ a∈s.st,0<=a.1/\a.1<=125/\(a.2.1=-1\/a.2.1=a.1%2)
 len:s.st.length<=i+1
 iso:s.iso<=i
 emb:s.emb<=i
theorem EW.zero{e:Int}(he:0<=e/\e<=1):EW e 0 (es0 e):=⟨rfl,rfl,by
 intro a ha;simp[es0]at ha;subst ha;exact⟨he.1,by omega,.inl rfl⟩,by simp[es0],by simp[es0],by simp[es0]⟩
theorem EW.up{e:Int}{i j:Nat}{s:ES}(h:EW e i s)(hj:i<=j):EW e j s:=⟨h.last,h.cnt,h.rng,by have:=h.len;omega,by have:=h.iso;omega,by have:=h.emb;omega⟩
theorem EW.cons{e:Int}{i:Nat}{s:ES}(h:EW e i s):∃ a r,s.st=a::r:=by
 have:=h.last;cases hs:s.st with
 | nil=>rw[hs]at this;simp at this
 | cons a r=>exact⟨a,r,rfl⟩
theorem EW.val{e:Int}{i:Nat}{s:ES}(h:EW e i s):s.val<=i+1:=by
 have:=h.cnt;have:=List.length_filter_le (fun a:Ent=>a.2.2) s.st;have:=h.len;omega
theorem zK{n:Int}(h:0<=n)(odd:Bool):n<nxt n odd/\nxt n odd<=n+2/\(nxt n odd%2=if odd then 1 else 0):=by
 unfold nxt;cases odd
 ·by_cases h0:n%2=0<;>simp[h0]<;>omega
 ·by_cases h0:n%2=0<;>simp[h0]<;>omega
theorem EW.push{e:Int}{i:Nat}{s:ES}(h:EW e i s)(a:Ent)(ha:0<=a.1/\a.1<=125/\(a.2.1=-1\/a.2.1=a.1%2))(v:Nat)(hv:v=s.val+if a.2.2 then 1 else 0):EW e (i+1) { s with st:=a::s.st,val:=v }:=by
 obtain⟨b,r,hs⟩:=h.cons;refine⟨?_,?_,?_,by have:=h.len;simp;omega,by have:=h.iso;simp;omega,by have:=h.emb;simp;omega⟩
 ·have:=h.last;rw[hs]at this ⊢;rw[NU];exact this
 ·simp only[Nu];rw[hv,h.cnt];split<;>simp
 ·intro x hx;rcases Ly.1 hx with rfl|hx
  ·exact ha
  ·exact h.rng x hx
theorem EW.tail{e:Int}{i:Nat}{s:ES}(h:EW e i s)(hl:1<s.st.length)(ht:(fM s.st).2.2=false):EW e i { s with st:=s.st.tail }:=by
 obtain⟨b,r,hs⟩:=h.cons;have h1:=h.last;have h2:=h.cnt;have h3:=h.len;rw[hs]at h1 h2 ht hl h3;obtain⟨b2,r2,rfl⟩:∃ b2 r2,r=b2::r2:=by
  cases r with
  | nil=>simp at hl
  | cons b2 r2=>exact⟨b2,r2,rfl⟩
 simp only[fM]at ht;refine⟨?_,?_,?_,?_,h.iso,h.emb⟩
 ·rw[hs];rw[NU]at h1;exact h1
 ·rw[hs,h2];simp[Nu,ht]
 ·intro x hx;rw[hs]at hx;exact h.rng x (by rw[hs];exact Lm _ hx)
 ·rw[hs];simp at h3 ⊢;omega
theorem tR:∀ (st:List Ent) (e:Int),st.getLast?=some (e,-1,false)->0<(st.filter fun a=>a.2.2).length ->
  (jK st).getLast?=some (e,-1,false)/\((jK st).filter fun a=>a.2.2).length+1=(st.filter fun a=>a.2.2).length/\(∀ a∈jK st,a∈st)/\(jK st).length<st.length
 | [],e,h,_=>by simp at h
 | a::r,e,h,hf=>by
  have hr:r≠[]:=by
   rintro rfl;simp at h;subst h;simp at hf
  obtain⟨b,r',rfl⟩:∃ b r',r=b::r':=by
   cases r with
   | nil=>exact absurd rfl hr
   | cons b r'=>exact⟨b,r',rfl⟩
  rw[NU]at h;cases ha:a.2.2
  ·have e1:jK (a::b::r')=jK (b::r'):=by rw[jK,ha];rfl
   have e2:(a::b::r').filter (fun a=>a.2.2)=(b::r').filter fun a=>a.2.2:=by rw[Nu,ha];rfl
   rw[e2]at hf ⊢;rw[e1];obtain⟨h1,h2,h3,h4⟩:=tR (b::r') e h hf;exact⟨h1,h2,fun x hx=>Lm _ (h3 x hx),by simp at h4 ⊢;omega⟩
  ·have e1:jK (a::b::r')=b::r':=by rw[jK,ha];rfl
   have e2:(a::b::r').filter (fun a=>a.2.2)=a::(b::r').filter fun a=>a.2.2:=by rw[Nu,ha];rfl
   rw[e1,e2];exact⟨h,by simp,fun x hx=>Lm _ hx,by simp⟩
theorem EW.step{e:Int}{i:Nat}{s:ES}(h:EW e i s)(x:Int)(odd:Bool):EW e (i+1) (ca e x odd s).2.2:=by
 obtain⟨a,r,hs⟩:=h.cons;have ha:=h.rng a (by rw[hs];exact Lv ..);have ht:fM s.st=a:=by rw[hs];rfl
 unfold ca;split
 ·rename_i hx;simp only;split
  ·rename_i hc;have hn:=zK ha.1 (decide (x=16\/x=17));rw[ht]at hc ⊢;refine h.push (nxt a.1 (decide (x=16\/x=17)),yf x,false) ⟨by simp only;omega,hc.1,?_⟩ s.val (by simp);simp only;rw[hn.2.2];unfold yf;rcases hx with rfl|rfl|rfl|rfl<;>simp
  ·split
   ·refine⟨h.last,h.cnt,h.rng,by have:=h.len;simp;omega,by have:=h.iso;simp;omega,by have:=h.emb;simp;omega⟩
   ·exact h.up (by omega)
 ·split
  ·simp only;split
   ·rename_i hc;have hn:=zK ha.1 odd;rw[ht]at hc ⊢;exact h.push (nxt a.1 odd,-1,true) ⟨by simp only;omega,hc.1,.inl rfl⟩ (s.val+1) (by simp)
   ·refine⟨h.last,h.cnt,h.rng,by have:=h.len;simp;omega,by have:=h.iso;simp;omega,by have:=h.emb;simp;omega⟩
  ·split
   ·simp only;split
    ·refine⟨h.last,h.cnt,h.rng,by have:=h.len;simp;omega,by have:=h.iso;simp;omega,by have:=h.emb;simp;omega⟩
    ·split
     ·rename_i hv;obtain⟨h1,h2,h3,h4⟩:=tR s.st e h.last (by rw[<- h.cnt];exact hv);refine⟨h1,?_,fun a ha=>h.rng a (h3 a ha),by have:=h.len;simp;omega,by have:=h.iso;simp;omega,by simp⟩;have:=h.cnt;simp only;omega
     ·exact h.up (by omega)
   ·split
    ·simp only;split
     ·exact h.up (by omega)
     ·split
      ·refine⟨h.last,h.cnt,h.rng,by have:=h.len;simp;omega,by have:=h.iso;simp;omega,by have:=h.emb;simp;omega⟩
      ·split
       ·rename_i hc;exact (h.tail hc.2 hc.1).up (by omega)
       ·exact h.up (by omega)
    ·split
     ·exact h.up (by omega)
     ·split<;>exact h.up (by omega)
structure EI(e:Int)(o:List Int)(i:Nat)(c lv:List Int)(s:ES):Prop where
 w:EW e i s
 cl:c.length=o.length
 ll:lv.length=o.length
 ct:∀ j,j<i->c[j]?=((ic e o)[j]?).map (·.2)
 cd:∀ j,i<=j->c[j]?=o[j]?
 lt:∀ j,j<i->lv[j]?=((ic e o)[j]?).map (·.1)
 rest:∀ k,(ic e o)[i+k]?=(qd e (o.drop i) s)[k]?
theorem uP(e:Int):∀ (l:List Int) (s:ES),(qd e l s).length=l.length
 | [],_=>rfl
 | x::l,s=>by simp[qd,uP e l]
theorem qe(e:Int)(o:List Int):(ic e o).length=o.length:=uP e o _
theorem EI.zero{e:Int}{o lv:List Int}(he:0<=e/\e<=1)(hl:lv.length=o.length):EI e o 0 o lv (es0 e):=
 ⟨EW.zero he,rfl,hl,fun j hj=>by omega,fun j _=>rfl,fun j hj=>by omega,fun k=>by simp[ic]⟩
theorem EI.step{e:Int}{o c lv:List Int}{i:Nat}{s:ES}{x:Int}(h:EI e o i c lv s)(hx:o[i]?=some x)(odd:Bool)(h3:odd=gP x (o.drop (i+1))){l1 c1:Int}{s':ES}(h4:ca e x odd s=(l1,c1,s')):
  EI e o (i+1) (c.set i c1) (lv.set i l1) s':=by
 subst h3;have h8:=(Ld.1 hx).1;have h6:=h.cl;have h7:=h.ll;have hr:qd e (o.drop i) s=(l1,c1)::qd e (o.drop (i+1)) s':=by rw[eK hx,qd,h4]
 have h0:=h.rest 0;rw[hr]at h0;simp at h0;refine⟨?_,by simpa using h6,by simpa using h7,fun j hj=>?_,fun j hj=>?_,fun j hj=>?_,fun k=>?_⟩
 ·have:=h.w.step x (gP x (o.drop (i+1)));rw[h4]at this;exact this
 ·by_cases e1:i=j
  ·subst e1;rw[Lo (by omega),h0];rfl
  ·rw[Li e1,h.ct j (by omega)]
 ·rw[Li (by omega),h.cd j (by omega)]
 ·by_cases e1:i=j
  ·subst e1;rw[Lo (by omega),h0];rfl
  ·rw[Li e1,h.lt j (by omega)]
 ·have:=h.rest (k+1);rw[hr]at this;rw[show i+1+k=i+(k+1) by omega,this];simp
theorem EI.fin{e:Int}{o c lv:List Int}{s:ES}(h:EI e o o.length c lv s):c=(ic e o).map (·.2)/\lv=(ic e o).map (·.1):=by
 have h0:=h.cl;have h3:=h.ll;have h4:=qe e o;constructor
 ·apply LY;intro j;by_cases hj:j<o.length
  ·rw[h.ct j hj,Ln]
  ·rw[Lw (by omega),Lw (by simp;omega)]
 ·apply LY;intro j;by_cases hj:j<o.length
  ·rw[h.lt j hj,Ln]
  ·rw[Lw (by omega),Lw (by simp;omega)]
theorem lit7{h:Heap}{a0 a1 a2 a3 a4 y:Option (List V)}(ht:h.take 5=[a0,a1,a2,a3,a4])(h6:h[6]?=some y):∃ X T,h=a0::a1::a2::a3::a4::X::y::T:=by
 rcases h with _|⟨b0,_|⟨b1,_|⟨b2,_|⟨b3,_|⟨b4,_|⟨b5,_|⟨b6,T⟩⟩⟩⟩⟩⟩⟩<;>simp at ht h6;obtain⟨rfl,rfl,rfl,rfl,rfl⟩:=ht;subst h6;exact⟨b5,T,rfl⟩
section
variable {P:Program}{md':FuncId->Nat}{call:aW}
theorem jk{dst:Option Tmp}{fr:List V}{ops:Array Oper}{rest:List Oper}{Q:bR}{y1 y2 y3 y4 X:Option (List V)}{v:V}{T:Heap}{st:List Ent}{N O:Int}{I:Bool}{y:Nat}
  (ho:Stk (none::y1::y2::y3::y4::X::some [v]::T) 5 3 v (eV st)) (h6:cO v≠some 6) (hv:v.leaf=true) (hl:st.length<=4000) (hy:y<=100)
  (H:∀ d' X' T',(∀ y6,Stk (none::y1::y2::y3::y4::X'::y6::T') 5 3 d' (eV ((N,O,I)::st)))->cellsOf d'=some [d']->cO d'≠some 6->@wO P md' call ⟨0,[],4⟩ ⟨ops⟩ ⟨rest⟩ (put fr dst d') (none::y1::y2::y3::y4::X'::some [v]::T') ⟨Q⟩):
  @wS P md' call ⟨0,[],4⟩ ⟨dst⟩ ⟨fr⟩ (fP ⟨0,[],4⟩ (none::y1::y2::y3::y4::X::some [v]::T) 3 y v 1 [.int .i64 N,.int .i64 O,.bool I]) ⟨ops⟩ ⟨rest⟩ ⟨Q⟩:=by
 have h7:(st.length+1)*y<=1099511627776:=by
  have:(st.length+1)*y<=4001*100:=Nv (by omega) hy;omega
 refine kI (lo:=5) (cs:=eV st) ho (by simp) (by simp) (by simp) rfl rfl (by omega) (by rw[eL,LI _ (by omega)];exact h7) (by rw[eL,LI _ (by omega)];omega) ?_;intro d' h' h0 hc h8 h3 h9 hb;have hm:isMap [v]=false:=by cases v<;>first|rfl|simp[V.leaf]at hv
 have ha:h'[6]?=some (some [v]):=by
  have h1:=h9 6 h6 (by simp);have h2:ab (none::y1::y2::y3::y4::X::some [v]::T) 6=some [v]:=by simp[hm]
  rw[h2]at h1;exact aB h1
 obtain⟨X',T',rfl⟩:=lit7 (a0:=none) (a1:=y1) (a2:=y2) (a3:=y3) (a4:=y4) (by rw[h8];rfl) ha;have h4:cO d'≠some 6:=by
  rcases hb with hb|hb
  ·rw[hb];exact h6
  ·rw[hb];simp
 refine H d' X' T' (fun y6=>?_) h0.cells h4;rw[dY];have:=h0.set h4 y6;simpa using this
end
end Bi
end Go.Ab
