/- The weak rules: the program. -/
import Derived.Test.YtoappddifbgegaaGreatPiSpec4
set_option linter.all false
set_option maxHeartbeats 8000000
set_option maxRecDepth 100000
namespace Go.Ab
open Go.Proofs
namespace Bi
section
variable {P:Program}{md':FuncId->Nat}{n:Nat}{prim:FuncId->Option Prim}{cfg:Cfg}
theorem xH{d:Nat}{f:FuncId}{fn:Func}{c:Code}{k:Nat}{rs:List ResultVar}{args:List V}{h h2:Heap}{r:V}(hm:md' f=0)(hp:prim f=none)(hf:P.funcs[f]?=some fn)(hb:fn.body=some c)(hk:fn.ntmps=k)
  (hr:fn.results.toList=rs) (ha:args.all V.noref=false)
  (hw:@wC P md' (aH P md' prim n d) ⟨h.length,[],h.length⟩ n ⟨c⟩ (args++List.replicate (k-args.length) .no) h ⟨@kFn P ⟨rs⟩ ⟨fun r' h'=>frz h' h.length 6 r'=some r/\h'.take h.length=h2⟩⟩):
  af md' (aH P md' prim n (d+1)) cfg f args h=some (r,h2):=by
 obtain⟨r',h',h1,h2,h3⟩:=cn hp hf hb hk hr hw;simp only[af,hm,ha,Lv,if_false,h1,h2,h3]
end
def wkS(s:List Int)(k:Int):Int:=if 0<=k/\k<s.length then s.getD k.toNat 0 else -1
theorem uE{s:List Int}{k:Int}(h:k<0):wkS s k=-1:=by unfold wkS;rw[if_neg (by omega)]
theorem nO{s:List Int}{k:Nat}{x:Int}(h:s[k]?=some x):wkS s k=x:=by
 have:=(K5.1 h).1;unfold wkS;rw[if_pos (by omega)];simp[h]
theorem uF{s:List Int}{k:Int}(h:s.length<=k):wkS s k=-1:=by unfold wkS;rw[if_neg (by omega)]
section
variable {prim:FuncId->Option Prim}(d:Nat) (cfg:Cfg)
theorem wk_ok(hp:prim 308=none)(t o M:List Int)(n:Nat)(e:Int)(c l s c':List Int)(hn:c.length=n)(h3:n<=2000)(hl:Pl n l)(hW:WB c l s c')(y2:Option (List V))(T T':Heap)(a b g k:Int)(hk:-5<=k/\k<=5000):
  af md (K prim (d+1)) cfg 308 [.int .i64 k,.ptr (T.length+1+1+1+1+1) 0,.ptr (T.length+1+1+1+1) 0] (none::some (c'.map (V.int .i64))::y2::some (pcs t o M n e)::(T++some [.ptr 3 0]::some [il l,.int .i64 a,.int .i64 b,.int .i64 g]::T')) =
   some (.int .i64 (wkS s k),none::some (c'.map (V.int .i64))::y2::some (pcs t o M n e)::(T++some [.ptr 3 0]::some [il l,.int .i64 a,.int .i64 b,.int .i64 g]::T')):=by
 refine xH rfl hp Tryz.func308 rfl rfl rfl (by simp) ?_;have h4:=hW.sl;have b4:ab (T++some [V.ptr 3 0]::some [il l,.int .i64 a,.int .i64 b,.int .i64 g]::T') T.length=some [.ptr 3 0]:=by
  simp
 have b5:ab (T++some [V.ptr 3 0]::some [il l,.int .i64 a,.int .i64 b,.int .i64 g]::T') (T.length+1)=some [il l,.int .i64 a,.int .i64 b,.int .i64 g]:=by
  simp
 by_cases h0:k<0
 ·rw[uE h0];simp[h0];exact Li (by simp)
 ·obtain⟨q,rfl⟩:=ND (by omega:0<=k);have n0:¬ (q:Int)<0:=by omega
  by_cases h1:l.length<=q
  ·rw[uF (by omega)];simp[n0,b5,h1];exact Li (by simp)
  ·obtain⟨i,hi,h6⟩:=hl.at_ (k:=q) (by omega);obtain⟨x,hx⟩:∃ x,s[q]?=some x:=⟨_,K4 (by omega)⟩;have hc:=hW.at_ q i hi;rw[hx,Lr]at hc;rw[nO hx];simp[n0,b5,h1];refine ai 9 (by kernel_rfl) ?_;simp(disch:=omega)[b4,b5,hi,hc,-getElem?_pos];exact Li (by simp)
def p1(st:Int)(dn:List Int):Int:=match dn.getLast? with
 | some y=>nx y
 | none=>st
theorem mG(st:Int)(dn:List Int)(y:Int):p1 st (dn++[y])=nx y:=by simp[p1]
def lo1(dn:List Int):Int:=dn.getLast?.getD (-1)
theorem dW(dn:List Int)(y:Int):lo1 (dn++[y])=y:=by simp[lo1]
theorem xu{dn td:List Int}{x:Int}:wkS (dn++x::td) ((dn.length:Int)-1)=lo1 dn:=by
 rcases NN dn with rfl|⟨dn',y,rfl⟩
 ·exact uE (by simp)
 ·rw[show (((dn'.concat y).length:Nat):Int)-1=(dn'.length:Nat) by simp];rw[List.concat_eq_append,dW];exact nO (by simp)
theorem G9{dn td:List Int}{x:Int}:wkS (dn++x::td) dn.length=x:=nO (by simp)
theorem E4{dn td:List Int}{x:Int}:wkS (dn++x::td) ((dn.length:Int)+1)=td.headD (-1):=by
 rcases td with _|⟨y,td⟩
 ·exact uF (by simp)
 ·rw[show (dn.length:Int)+1=(dn.length+1:Nat) by simp];exact nO (by rw[Lg (by omega)];simp)
theorem nf{dn td:List Int}{x:Int}:(dn++x::td)[dn.length]?=some x:=by simp
theorem G8(hp:∀ f,Np2 f->prim f=none)(t o M:List Int)(n:Nat)(e:Int)(c l:List Int)(hn:c.length=n)(g2:n<=2000)(hl:Pl n l)(z0:l.length<=2000)(y2:List Int)(T:Heap)(lv st en:Int)(q:Nat):
  ∃ c',WB c l (AL st (l.map (lvl c))) c'/\af md (K prim (d+2)) ⟨0,[],q⟩ 282 [.ptr 3 0,.agg [il l,.int .i64 lv,.int .i64 st,.int .i64 en]] (none::some (c.map (V.int .i64))::some (y2.map (V.int .i64))::some (pcs t o M n e)::T) =
   some (.tup [],none::some (c'.map (V.int .i64))::some (y2.map (V.int .i64))::some (pcs t o M n e)::T):=by
 suffices H:∃ r h2,af md (K prim (d+2)) ⟨0,[],q⟩ 282 [.ptr 3 0,.agg [il l,.int .i64 lv,.int .i64 st,.int .i64 en]] (none::some (c.map (V.int .i64))::some (y2.map (V.int .i64))::some (pcs t o M n e)::T)=some (r,h2) /\
   ∃ c',r=.tup []/\h2=(none::some (c'.map (V.int .i64))::some (y2.map (V.int .i64))::some (pcs t o M n e)::T)/\WB c l (AL st (l.map (lvl c))) c' by
  obtain⟨r,h2,h3,c',rfl,rfl,h4⟩:=H;exact⟨c',h4,h3⟩
 refine ni rfl (hp 282 (by decide)) Tryz.func282 rfl rfl rfl ?_;have hk:=fun c' s hW k hk T'=>wk_ok (prim:=prim) d ⟨0,[],T.length+1+1+1+1⟩ (hp 308 (by decide)) t o M n e c l s c' hn g2 hl hW (some (y2.map (V.int .i64))) T T' lv st en k hk;have hI:=fun cfg h x=>lD (prim:=prim) d cfg h (hp 304 (by decide)) x;have b4:∀ x T',ab (T++some [V.ptr 3 0]::some x::T') T.length=some [.ptr 3 0]:=fun x T'=>by
  have:=bn (h:=T) (r:=some [V.ptr 3 0]::some x::T') (k:=0);simp
 have b5:∀ x T',isMap x=false->ab (T++some [V.ptr 3 0]::some x::T') (T.length+1)=some x:=fun x T' hx=>by
  have:=bn (h:=T) (r:=some [V.ptr 3 0]::some x::T') (k:=1);simp[hx]
 generalize g3:l.map (lvl c)=s0;have hJ:WB c l s0 c:=by rw[<- g3];exact WB.start (by rw[hn];exact hl)
 have g4:=hJ.sl;simp(disch:=omega);refine ah (fun m fr H=>∃ (dn td c':List Int),m=td.length/\w1 st s0=dn++w1 (p1 st dn) td/\WB c l (dn++td) c'/\H=none::some (c'.map (V.int .i64))::some (y2.map (V.int .i64))::some (pcs t o M n e)::(T++[some [.ptr 3 0],some [il l,.int .i64 lv,.int .i64 st,.int .i64 en]])/\Slots 292 [(2,.ptr (T.length+1+1+1+1) 0),(3,.ptr (T.length+1+1+1+1+1) 0),(4,.func (.func 308) [] [.ptr (T.length+1+1+1+1+1) 0,.ptr (T.length+1+1+1+1) 0]),(24,il l),(25,.int .i64 l.length),(26,.int .i64 dn.length)] fr) (m:=s0.length) (by omega) ⟨[],s0,_,rfl,rfl,hJ,rfl,by simp⟩ ?_;rintro m fr H ⟨dn,td,c',rfl,hF,hW,rfl,hs⟩;obtain⟨j,rfl⟩:=hs.ex;clear hs;have hlen:dn.length+td.length=l.length:=by have:=hW.sl;simpa using this
 rcases td with _|⟨x,td⟩
 rotate_left
 ·have h6:dn.length<l.length:=by simp at hlen;omega
  obtain⟨i,hi,ht⟩:=hl.at_ h6;have hc:=hW.at_ _ i hi;rw[nf,Lr]at hc;have hu:=hW.len;have hle:i+1<=c'.length:=by omega
  have same:WB c l ((dn++[x])++td) c':=by simpa using hW
  have step:∀ y,WB c l ((dn++[y])++td) (c'.set i y):=by
   intro y;have:=hW.set (by rw[hn];exact hl) hi y;rw[dZ]at this;simpa using this
  
  by_cases h8:x=8
  ·subst h8;rw[w1,if_pos rfl]at hF;have hf:=hk c' _ hW ((dn.length:Int)-1) (by omega) [];rcases NN dn with rfl|⟨dn',y,rfl⟩
   ·rw[uE (by simp)]at hf;simp at hf hi h6;simp(disch:=omega)[h6,hi,hc,hf,b4,wrap64,-getElem?_pos];refine ai 7 (by kernel_rfl) ?_;simp(disch:=omega)[hle,b4,wrap64,-getElem?_pos];exact ae (m':=td.length) (by simp) ⟨[st],td,_,rfl,by simpa[p1]using hF,by simpa using step st,by simp,by simp(disch:=omega)⟩
   ·have g5:wkS (dn'.concat y++8::td) ((dn'.concat y).length-1)=y:=by
     rw[show (((dn'.concat y).length:Nat):Int)-1=(dn'.length:Nat) by simp];exact nO (by simp)
    rw[g5]at hf;simp only[List.concat_eq_append]at *;simp at hf hi h6;have n0:¬ (dn'.length:Int)+1=0:=by omega
    have hT:=mG st dn' y;have hj:(dn'.length:Int)+1<l.length:=by omega
    have hK:((dn'.length:Int)+1).toNat=dn'.length+1:=by omega
    by_cases hv:ini y=true\/y=22
    ·have hD:nx y=13:=by unfold nx;rw[if_pos hv]
     rw[hT,hD]at hF;have z1:(ini y||decide (y=22))=true:=by simpa using hv
     by_cases hw:ini y=true
     ·simp(disch:=omega)[hj,hK,hi,hc,hle,hf,n0,hI,hw,b4,wrap64,-getElem?_pos];exact ae (m':=td.length) (by simp) ⟨dn'++[y]++[13],td,_,rfl,by rw[mG,hF];simp,step 13,by simp,by simp(disch:=omega);omega⟩
     ·have hL:=hv.resolve_left hw;subst hL;have hM:ini 22=false:=rfl;simp(disch:=omega)[hj,hK,hi,hc,hle,hf,n0,hI,hM,b4,wrap64,-getElem?_pos];exact ae (m':=td.length) (by simp) ⟨dn'++[22]++[13],td,_,rfl,by rw[mG,hF];simp,step 13,by simp,by simp(disch:=omega);omega⟩
    ·have hD:nx y=y:=by unfold nx;rw[if_neg hv]
     rw[hT,hD]at hF;have hM:¬ y=22:=fun e=>hv (.inr e);have hN:ini y=false:=by
      cases hq:ini y
      ·rfl
      ·exact absurd (.inl hq) hv
     simp(disch:=omega)[hj,hK,hi,hc,hle,hf,n0,hI,hN,hM,b4,wrap64,-getElem?_pos];exact ae (m':=td.length) (by simp) ⟨dn'++[y]++[y],td,_,rfl,by rw[mG,hF,hD];simp,step y,by simp,by simp(disch:=omega);omega⟩
  ·rw[w1,if_neg h8]at hF;simp(disch:=omega)[h6,hi,hc,h8,b4,wrap64,-getElem?_pos];exact ae (m':=td.length) (by simp) ⟨dn++[x],td,c',rfl,by rw[mG,hF];simp,same,rfl,by simp(disch:=omega)⟩
 obtain⟨s1,g6,hX,g7⟩:∃ s,s=w1 st s0/\WB c l s c'/\s.length=l.length:=⟨dn,by simpa[w1]using hF.symm,by simpa using hW,by simpa using hlen⟩;have h0:dn.length=l.length:=by simpa using hlen
 simp[h0];clear hF hW hlen h0 hJ;refine ah (fun m fr H=>∃ (dn td c':List Int) (lst:Int),m=td.length/\w2 st s1=dn++w2 lst td/\WB c l (dn++td) c'/\H=none::some (c'.map (V.int .i64))::some (y2.map (V.int .i64))::some (pcs t o M n e)::(T++[some [.ptr 3 0],some [il l,.int .i64 lv,.int .i64 st,.int .i64 en]])/\Slots 292 [(2,.ptr (T.length+1+1+1+1) 0),(3,.ptr (T.length+1+1+1+1+1) 0),(4,.func (.func 308) [] [.ptr (T.length+1+1+1+1+1) 0,.ptr (T.length+1+1+1+1) 0]),(8,.int .i64 lst),(78,il l),(79,.int .i64 l.length),(80,.int .i64 dn.length)] fr) (m:=s1.length) (by omega) ⟨[],s1,_,st,rfl,rfl,hX,rfl,by simp⟩ ?_;rintro m fr H ⟨dn,td,c',lst,rfl,hF,hW,rfl,hs⟩;obtain⟨j,rfl⟩:=hs.ex;clear hs;have hlen:dn.length+td.length=l.length:=by have:=hW.sl;simpa using this
 rcases td with _|⟨x,td⟩
 rotate_left
 ·have h6:dn.length<l.length:=by simp at hlen;omega
  obtain⟨i,hi,ht⟩:=hl.at_ h6;have hc:=hW.at_ _ i hi;rw[nf,Lr]at hc;have hu:=hW.len;have hle:i+1<=c'.length:=by omega
  have same:WB c l ((dn++[x])++td) c':=by simpa using hW
  have step:∀ y,WB c l ((dn++[y])++td) (c'.set i y):=by
   intro y;have:=hW.set (by rw[hn];exact hl) hi y;rw[dZ]at this;simpa using this
  
  rw[w2]at hF;by_cases ha:x=0\/x=1\/x=2
  ·rw[if_pos ha]at hF;rcases ha with hx|hx|hx
   all_goals
    simp(disch:=omega)[h6,hi,hc,hx,b4,wrap64,-getElem?_pos];exact ae (m':=td.length) (by simp) ⟨dn++[x],td,c',x,rfl,by rw[hF];simp,same,rfl,by simp(disch:=omega)[hx]⟩
  ·rw[if_neg ha]at hF;simp only[not_or]at ha;by_cases h3:x=3
   ·subst h3;by_cases h2:lst=2
    ·rw[if_pos ⟨rfl,h2⟩]at hF;subst h2;simp(disch:=omega)[h6,hi,hc,hle,b4,wrap64,-getElem?_pos];exact ae (m':=td.length) (by simp) ⟨dn++[6],td,_,2,rfl,by rw[hF];simp,step 6,by simp,by simp(disch:=omega)⟩
    ·rw[if_neg (fun h=>h2 h.2)]at hF;simp(disch:=omega)[h6,hi,hc,h2,b4,wrap64,-getElem?_pos];exact ae (m':=td.length) (by simp) ⟨dn++[3],td,c',lst,rfl,by rw[hF];simp,same,rfl,by simp(disch:=omega)⟩
   ·rw[if_neg (fun h=>h3 h.1)]at hF;simp(disch:=omega)[h6,hi,hc,ha,h3,b4,wrap64,-getElem?_pos];exact ae (m':=td.length) (by simp) ⟨dn++[x],td,c',lst,rfl,by rw[hF];simp,same,rfl,by simp(disch:=omega)⟩
 obtain⟨s2,g8,hZ,g9⟩:∃ s,s=w2 st s1/\WB c l s c'/\s.length=l.length:=⟨dn,by simpa[w2]using hF.symm,by simpa using hW,by simpa using hlen⟩;have h0:dn.length=l.length:=by simpa using hlen
 simp[h0];clear hF hW hlen h0 hX;refine ah (fun m fr H=>∃ (dn td c':List Int),m=td.length/\w3 s2=dn++w3 td/\WB c l (dn++td) c'/\H=none::some (c'.map (V.int .i64))::some (y2.map (V.int .i64))::some (pcs t o M n e)::(T++[some [.ptr 3 0],some [il l,.int .i64 lv,.int .i64 st,.int .i64 en]])/\Slots 292 [(2,.ptr (T.length+1+1+1+1) 0),(3,.ptr (T.length+1+1+1+1+1) 0),(4,.func (.func 308) [] [.ptr (T.length+1+1+1+1+1) 0,.ptr (T.length+1+1+1+1) 0]),(114,il l),(115,.int .i64 l.length),(116,.int .i64 dn.length)] fr) (m:=s2.length) (by omega) ⟨[],s2,_,rfl,rfl,hZ,rfl,by simp⟩ ?_;rintro m fr H ⟨dn,td,c',rfl,hF,hW,rfl,hs⟩;obtain⟨j,rfl⟩:=hs.ex;clear hs;have hlen:dn.length+td.length=l.length:=by have:=hW.sl;simpa using this
 rcases td with _|⟨x,td⟩
 rotate_left
 ·have h6:dn.length<l.length:=by simp at hlen;omega
  obtain⟨i,hi,ht⟩:=hl.at_ h6;have hc:=hW.at_ _ i hi;rw[nf,Lr]at hc;have hu:=hW.len;have hle:i+1<=c'.length:=by omega
  have same:WB c l ((dn++[x])++td) c':=by simpa using hW
  have step:∀ y,WB c l ((dn++[y])++td) (c'.set i y):=by
   intro y;have:=hW.set (by rw[hn];exact hl) hi y;rw[dZ]at this;simpa using this
  
  have k0:w3 (x::td)=(if x=2 then 1 else x)::w3 td:=rfl;rw[k0]at hF;by_cases h2:x=2
  ·subst h2;rw[if_pos rfl]at hF;simp(disch:=omega)[h6,hi,hc,hle,b4,wrap64,-getElem?_pos];exact ae (m':=td.length) (by simp) ⟨dn++[1],td,_,rfl,by rw[hF];simp,step 1,by simp,by simp(disch:=omega)⟩
  ·rw[if_neg h2]at hF;simp(disch:=omega)[h6,hi,hc,h2,b4,wrap64,-getElem?_pos];exact ae (m':=td.length) (by simp) ⟨dn++[x],td,c',rfl,by rw[hF];simp,same,rfl,by simp(disch:=omega)⟩
 obtain⟨s3,k1,g0,k2⟩:∃ s,s=w3 s2/\WB c l s c'/\s.length=l.length:=⟨dn,by simpa[w3]using hF.symm,by simpa using hW,by simpa using hlen⟩;have h0:dn.length=l.length:=by simpa using hlen
 simp[h0];clear hF hW hlen h0 hZ;refine ah (fun m fr H=>∃ (dn td c':List Int),m=td.length/\w4 (-1) s3=dn++w4 (lo1 dn) td/\WB c l (dn++td) c'/\H=none::some (c'.map (V.int .i64))::some (y2.map (V.int .i64))::some (pcs t o M n e)::(T++[some [.ptr 3 0],some [il l,.int .i64 lv,.int .i64 st,.int .i64 en]])/\Slots 292 [(2,.ptr (T.length+1+1+1+1) 0),(3,.ptr (T.length+1+1+1+1+1) 0),(4,.func (.func 308) [] [.ptr (T.length+1+1+1+1+1) 0,.ptr (T.length+1+1+1+1) 0]),(136,il l),(137,.int .i64 l.length),(138,.int .i64 dn.length)] fr) (m:=s3.length) (by omega) ⟨[],s3,_,rfl,rfl,g0,rfl,by simp⟩ ?_;rintro m fr H ⟨dn,td,c',rfl,hF,hW,rfl,hs⟩;obtain⟨j,rfl⟩:=hs.ex;clear hs;have hlen:dn.length+td.length=l.length:=by have:=hW.sl;simpa using this
 rcases td with _|⟨x,td⟩
 rotate_left
 ·have h6:dn.length<l.length:=by simp at hlen;omega
  obtain⟨i,hi,ht⟩:=hl.at_ h6;have hc:=hW.at_ _ i hi;rw[nf,Lr]at hc;have hu:=hW.len;have hle:i+1<=c'.length:=by omega
  have same:WB c l ((dn++[x])++td) c':=by simpa using hW
  have step:∀ y,WB c l ((dn++[y])++td) (c'.set i y):=by
   intro y;have:=hW.set (by rw[hn];exact hl) hi y;rw[dZ]at this;simpa using this
  
  have h7:=hk c' _ hW ((dn.length:Int)-1) (by omega) [];have he:=hk c' _ hW ((dn.length:Int)+1) (by omega) [];rw[xu]at h7;rw[E4]at he;rw[w4]at hF;generalize hP:lo1 dn=P at hF h7;generalize td.headD (-1)=Y at hF he;by_cases x4:x=4
  ·by_cases p3:P=3
   ·by_cases y3:Y=3
    ·have CC:w4c P x Y=P:=by unfold w4c;rw[if_pos (.inl ⟨x4,p3,y3⟩)]
     simp(disch:=omega)[h6,hi,hc,hle,h7,he,x4,p3,y3,b4,wrap64,-getElem?_pos];exact ae (m':=td.length) (by simp) ⟨dn++[P],td,_,rfl,by rw[hF,CC,dW];simp,step P,by simp[p3],by simp(disch:=omega)⟩
    ·have CC:w4c P x Y=x:=by unfold w4c;rw[if_neg (by omega)]
     simp(disch:=omega)[h6,hi,hc,h7,he,x4,p3,y3,b4,wrap64,-getElem?_pos];exact ae (m':=td.length) (by simp) ⟨dn++[x],td,c',rfl,by rw[hF,CC,dW];simp,same,rfl,by simp(disch:=omega)⟩
   ·have CC:w4c P x Y=x:=by unfold w4c;rw[if_neg (by omega)]
    simp(disch:=omega)[h6,hi,hc,h7,he,x4,p3,b4,wrap64,-getElem?_pos];exact ae (m':=td.length) (by simp) ⟨dn++[x],td,c',rfl,by rw[hF,CC,dW];simp,same,rfl,by simp(disch:=omega)⟩
  ·by_cases x7:x=7
   ·by_cases py:P=Y
    ·subst py;by_cases p3:P=3
     ·have CC:w4c P x P=P:=by unfold w4c;rw[if_pos (by omega)]
      simp(disch:=omega)[h6,hi,hc,hle,h7,he,x7,p3,b4,wrap64,-getElem?_pos];exact ae (m':=td.length) (by simp) ⟨dn++[P],td,_,rfl,by rw[hF,CC,dW];simp,step P,by simp[p3],by simp(disch:=omega)⟩
     ·by_cases p6:P=6
      ·have CC:w4c P x P=P:=by unfold w4c;rw[if_pos (by omega)]
       simp(disch:=omega)[h6,hi,hc,hle,h7,he,x7,p6,b4,wrap64,-getElem?_pos];exact ae (m':=td.length) (by simp) ⟨dn++[P],td,_,rfl,by rw[hF,CC,dW];simp,step P,by simp[p6],by simp(disch:=omega)⟩
      ·have CC:w4c P x P=x:=by unfold w4c;rw[if_neg (by omega)]
       simp(disch:=omega)[h6,hi,hc,h7,he,x7,p3,p6,b4,wrap64,-getElem?_pos];exact ae (m':=td.length) (by simp) ⟨dn++[x],td,c',rfl,by rw[hF,CC,dW];simp,same,rfl,by simp(disch:=omega)⟩
    ·have CC:w4c P x Y=x:=by unfold w4c;rw[if_neg (by omega)]
     simp(disch:=omega)[h6,hi,hc,h7,he,x7,py,b4,wrap64,-getElem?_pos];exact ae (m':=td.length) (by simp) ⟨dn++[x],td,c',rfl,by rw[hF,CC,dW];simp,same,rfl,by simp(disch:=omega)⟩
   ·have CC:w4c P x Y=x:=by unfold w4c;rw[if_neg (by omega)]
    simp(disch:=omega)[h6,hi,hc,h7,he,x4,x7,b4,wrap64,-getElem?_pos];exact ae (m':=td.length) (by simp) ⟨dn++[x],td,c',rfl,by rw[hF,CC,dW];simp,same,rfl,by simp(disch:=omega)⟩
 obtain⟨s4,k3,g1,k4⟩:∃ s,s=w4 (-1) s3/\WB c l s c'/\s.length=l.length:=⟨dn,by simpa[w4]using hF.symm,by simpa using hW,by simpa using hlen⟩;have h0:dn.length=l.length:=by simpa using hlen
 simp[h0];clear hF hW hlen h0 g0;refine ah (fun m fr H=>∃ (dn td c':List Int),m=td.length/\w5 (-1) 0 s4=dn++w5 (lo1 dn) 0 td/\WB c l (dn++td) c'/\H=none::some (c'.map (V.int .i64))::some (y2.map (V.int .i64))::some (pcs t o M n e)::(T++[some [.ptr 3 0],some [il l,.int .i64 lv,.int .i64 st,.int .i64 en]])/\Slots 292 [(2,.ptr (T.length+1+1+1+1) 0),(3,.ptr (T.length+1+1+1+1+1) 0),(4,.func (.func 308) [] [.ptr (T.length+1+1+1+1+1) 0,.ptr (T.length+1+1+1+1) 0]),(17,.int .i64 dn.length)] fr) (m:=s4.length) (by omega) ⟨[],s4,_,rfl,rfl,g1,rfl,by simp⟩ ?_;rintro m fr H ⟨dn,td,c',rfl,hF,hW,rfl,hs⟩;obtain⟨j,rfl⟩:=hs.ex;clear hs;have hlen:dn.length+td.length=l.length:=by have:=hW.sl;simpa using this
 rcases td with _|⟨x,td⟩
 rotate_left
 ·have h6:dn.length<l.length:=by simp at hlen;omega
  obtain⟨i,hi,ht⟩:=hl.at_ h6;have hc:=hW.at_ _ i hi;rw[nf,Lr]at hc;have hu:=hW.len;have hle:i+1<=c'.length:=by omega
  have same:WB c l ((dn++[x])++td) c':=by simpa using hW
  have step:∀ y,WB c l ((dn++[y])++td) (c'.set i y):=by
   intro y;have:=hW.set (by rw[hn];exact hl) hi y;rw[dZ]at this;simpa using this
  
  have hO:=hk c' _ hW dn.length (by omega) [];rw[G9]at hO;by_cases x5:x=5
  ·subst x5;simp(disch:=omega)[h6,hO,-getElem?_pos];refine ah (fun m fr H=>∃ (k:Nat) (rest:List Int),5::td=List.replicate k 5++rest/\0<k+1/\m=rest.length/\H=none::some (c'.map (V.int .i64))::some (y2.map (V.int .i64))::some (pcs t o M n e)::(T++[some [.ptr 3 0],some [il l,.int .i64 lv,.int .i64 st,.int .i64 en]])/\Slots 292 [(2,.ptr (T.length+1+1+1+1) 0),(3,.ptr (T.length+1+1+1+1+1) 0),(4,.func (.func 308) [] [.ptr (T.length+1+1+1+1+1) 0,.ptr (T.length+1+1+1+1) 0]),(17,.int .i64 dn.length),(18,.int .i64 (dn.length+k:Nat))] fr) (m:=td.length+1) (by simp at hlen;omega) ⟨0,5::td,by simp,by omega,rfl,rfl,by simp⟩ ?_;rintro m fr H ⟨k,rest,hg,_,rfl,rfl,hs⟩;obtain⟨j,rfl⟩:=hs.ex;clear hs;have z2:k+rest.length=td.length+1:=by have:=congrArg List.length hg;simp at this;omega
   simp only[Lp]at hlen;have hh:=hk c' _ hW (dn.length+k:Nat) (by omega) [];have k5:wkS (dn++5::td) (dn.length+k:Nat)=rest.headD (-1):=by
    rw[hg];rcases rest with _|⟨y,rest⟩
    ·exact uF (by simp)
    ·refine nO ?_;rw[Lg (by omega),MU,Lg (by simp)];simp
   rw[k5]at hh;simp at hh;by_cases hm:rest.headD (-1)=5
   ·obtain⟨rest,rfl⟩:∃ r',rest=5::r':=by
     rcases rest with _|⟨y,rest⟩
     ·simp at hm
     ·simp at hm;exact⟨rest,by rw[hm]⟩
    simp at hh;simp(disch:=omega)[hh,wrap64,-getElem?_pos];refine ae (m':=rest.length) (by simp) ⟨k+1,rest,?_,by omega,rfl,rfl,by simp(disch:=omega);omega⟩;rw[hg,Mx];simp
   ·obtain⟨k,rfl⟩:∃ k',k=k'+1:=by
     rcases k with _|k
     ·simp at hg;rw[<- hg]at hm;simp at hm
     ·exact⟨k,rfl⟩
    have h7:=hk c' _ hW ((dn.length:Int)-1) (by omega) [];rw[xu]at h7;have hy:¬ rest.head?.getD (-1)=5:=by simpa using hm
    have hz:=EY (lo1 dn) 0 (k+1) rest;rw[<- hg,LU]at hz;rw[hz]at hF;simp at hh;have h9:∀ v,(if lo1 dn=3\/rest.headD (-1)=3 then (3:Int) else 5)=v->w5 (-1) 0 s4=(dn++List.replicate (k+1) v)++w5 (lo1 (dn++List.replicate (k+1) v)) 0 rest:=by
     rintro v rfl;rw[hF,J1 (lo1 dn) (lo1 (dn++List.replicate (k+1) (if lo1 dn=3\/rest.headD (-1)=3 then (3:Int) else 5))) (k+1) rest hm];simp
    rw[List.headD_eq_head?_getD]at h9;generalize hY:rest.head?.getD (-1)=Y at *;by_cases hE:lo1 dn=3\/Y=3
    ·have h9:=h9 3 (by rw[if_pos hE]);have n3:lo1 dn=3\/(¬ lo1 dn=3/\Y=3):=by omega
     rcases n3 with h3|⟨h3,hQ⟩
     case' inl=>simp(disch:=omega)[hh,hy,h7,h3,wrap64,-getElem?_pos]
     case' inr=>simp(disch:=omega)[hh,h7,h3,hQ,wrap64,-getElem?_pos]
     all_goals
      refine ah (fun m fr H=>∃ (q:Nat) (c':List Int),q<=k+1/\m=k+1-q/\WB c l (dn++(List.replicate q 3++List.replicate (k+1-q) 5)++rest) c'/\H=none::some (c'.map (V.int .i64))::some (y2.map (V.int .i64))::some (pcs t o M n e)::(T++[some [.ptr 3 0],some [il l,.int .i64 lv,.int .i64 st,.int .i64 en]])/\Slots 292 [(2,.ptr (T.length+1+1+1+1) 0),(3,.ptr (T.length+1+1+1+1+1) 0),(4,.func (.func 308) [] [.ptr (T.length+1+1+1+1+1) 0,.ptr (T.length+1+1+1+1) 0]),(17,.int .i64 dn.length),(18,.int .i64 (dn.length+(k+1):Nat)),(19,.int .i64 (dn.length+q:Nat))] fr) (m:=k+1) (by omega) ⟨0,_,by omega,by omega,by rw[hg]at hW;simpa using hW,rfl,by simp;try omega⟩ ?_;rintro m fr H ⟨q,c',hq,rfl,hR,rfl,hs⟩;obtain⟨j,rfl⟩:=hs.ex;clear hs;by_cases z3:q<k+1
      ·obtain⟨r,hr⟩:∃ r,k+1-q=r+1:=⟨k-q,by omega⟩;obtain⟨i,hi,ht⟩:=hl.at_ (k:=dn.length+q) (by omega);have hu:=hR.len;have hle:i+1<=c'.length:=by omega
       have hH:=hR.set (by rw[hn];exact hl) hi 3;have e1:dn++(List.replicate q (3:Int)++List.replicate (k+1-q) 5)++rest=(dn++List.replicate q 3)++5::(List.replicate r 5++rest):=by rw[hr,MK];simp
       have e2:dn.length+q=(dn++List.replicate q (3:Int)).length:=by simp
       rw[e1]at hH
       conv at hH=>lhs;rw[e2]
       rw[dZ]at hH;have hS:(dn.length:Int)+q<(dn.length:Int)+(k+1):=by omega
       have k6:((dn.length:Int)+q).toNat=dn.length+q:=by omega
       simp(disch:=omega)[hS,-getElem?_pos];refine ai 9 (by kernel_rfl) ?_;simp(disch:=omega)[k6,hi,hle,b4,wrap64,-getElem?_pos];refine ae (m':=k+1-(q+1)) (by omega) ⟨q+1,c'.set i 3,by omega,rfl,?_,by simp,by simp(disch:=omega);try omega⟩;rw[show k+1-(q+1)=r by omega,Mx];simpa using hH
      ·obtain rfl:q=k+1:=by omega
       have nlt:¬ (dn.length:Int)+(k+1)<(dn.length:Int)+(k+1):=by omega
       simp(disch:=omega)[wrap64];refine ae (m':=rest.length) (by simp;omega) ⟨dn++List.replicate (k+1) 3,rest,c',rfl,h9,by simpa using hR,rfl,by simp(disch:=omega)⟩
    ·have h9:=h9 5 (by rw[if_neg hE]);have h3:¬ lo1 dn=3:=fun h=>hE (.inl h);have hQ:¬ Y=3:=fun h=>hE (.inr h);simp(disch:=omega)[hh,hy,h7,h3,hQ,wrap64,-getElem?_pos];refine ae (m':=rest.length) (by simp;omega) ⟨dn++List.replicate (k+1) 5,rest,c',rfl,h9,by rw[hg]at hW;simpa using hW,rfl,by simp(disch:=omega)⟩
  ·have k7:w5 (lo1 dn) 0 (x::td)=x::w5 x 0 td:=by rw[w5,if_neg x5];simp
   rw[k7]at hF;simp(disch:=omega)[h6,hO,x5,wrap64,-getElem?_pos];exact ae (m':=td.length) (by simp) ⟨dn++[x],td,c',rfl,by rw[hF,dW];simp,same,rfl,by simp(disch:=omega)⟩
 obtain⟨s5,k8,hz,k9⟩:∃ s,s=w5 (-1) 0 s4/\WB c l s c'/\s.length=l.length:=⟨dn,by simpa[w5]using hF.symm,by simpa using hW,by simpa using hlen⟩;have h0:dn.length=l.length:=by simpa using hlen
 simp[h0];clear hF hW hlen h0 g1;refine ah (fun m fr H=>∃ (dn td c':List Int) (lst:Int),m=td.length/\w6 st s5=dn++w6 lst td/\WB c l (dn++td) c'/\H=none::some (c'.map (V.int .i64))::some (y2.map (V.int .i64))::some (pcs t o M n e)::(T++[some [.ptr 3 0],some [il l,.int .i64 lv,.int .i64 st,.int .i64 en]])/\Slots 292 [(2,.ptr (T.length+1+1+1+1) 0),(3,.ptr (T.length+1+1+1+1+1) 0),(4,.func (.func 308) [] [.ptr (T.length+1+1+1+1+1) 0,.ptr (T.length+1+1+1+1) 0]),(8,.int .i64 lst),(248,il l),(249,.int .i64 l.length),(250,.int .i64 dn.length)] fr) (m:=s5.length) (by omega) ⟨[],s5,_,st,rfl,rfl,hz,rfl,by simp⟩ ?_;rintro m fr H ⟨dn,td,c',lst,rfl,hF,hW,rfl,hs⟩;obtain⟨j,rfl⟩:=hs.ex;clear hs;have hlen:dn.length+td.length=l.length:=by have:=hW.sl;simpa using this
 rcases td with _|⟨x,td⟩
 rotate_left
 ·have h6:dn.length<l.length:=by simp at hlen;omega
  obtain⟨i,hi,ht⟩:=hl.at_ h6;have hc:=hW.at_ _ i hi;rw[nf,Lr]at hc;have hu:=hW.len;have hle:i+1<=c'.length:=by omega
  have same:WB c l ((dn++[x])++td) c':=by simpa using hW
  have step:∀ y,WB c l ((dn++[y])++td) (c'.set i y):=by
   intro y;have:=hW.set (by rw[hn];exact hl) hi y;rw[dZ]at this;simpa using this
  
  rw[w6]at hF;by_cases hd:x=4\/x=5\/x=7
  ·rw[if_pos hd]at hF;rcases hd with hx|hx|hx
   all_goals
    simp(disch:=omega)[h6,hi,hc,hle,hx,b4,wrap64,-getElem?_pos];exact ae (m':=td.length) (by simp) ⟨dn++[13],td,_,lst,rfl,by rw[hF];simp,step 13,by simp,by simp(disch:=omega)⟩
  ·rw[if_neg hd]at hF;simp only[not_or]at hd;by_cases hA:x=0\/x=1
   ·rw[if_pos hA]at hF;rcases hA with hx|hx
    all_goals
     simp(disch:=omega)[h6,hi,hc,hx,b4,wrap64,-getElem?_pos];exact ae (m':=td.length) (by simp) ⟨dn++[x],td,c',x,rfl,by rw[hF];simp,same,rfl,by simp(disch:=omega)[hx]⟩
   ·rw[if_neg hA]at hF;simp only[not_or]at hA;by_cases h3:x=3
    ·subst h3;by_cases h2:lst=0
     ·rw[if_pos ⟨rfl,h2⟩]at hF;subst h2;simp(disch:=omega)[h6,hi,hc,hle,b4,wrap64,-getElem?_pos];exact ae (m':=td.length) (by simp) ⟨dn++[0],td,_,0,rfl,by rw[hF];simp,step 0,by simp,by simp(disch:=omega)⟩
     ·rw[if_neg (fun h=>h2 h.2)]at hF;simp(disch:=omega)[h6,hi,hc,h2,b4,wrap64,-getElem?_pos];exact ae (m':=td.length) (by simp) ⟨dn++[3],td,c',lst,rfl,by rw[hF];simp,same,rfl,by simp(disch:=omega)⟩
    ·rw[if_neg (fun h=>h3 h.1)]at hF;simp(disch:=omega)[h6,hi,hc,hd,hA,h3,b4,wrap64,-getElem?_pos];exact ae (m':=td.length) (by simp) ⟨dn++[x],td,c',lst,rfl,by rw[hF];simp,same,rfl,by simp(disch:=omega)⟩
 obtain⟨s6,w7,w8,w9⟩:∃ s,s=w6 st s5/\WB c l s c'/\s.length=l.length:=⟨dn,by simpa[w6]using hF.symm,by simpa using hW,by simpa using hlen⟩;have h0:dn.length=l.length:=by simpa using hlen
 simp[h0];clear hF hW hlen h0 hz;exact⟨c',rfl,by unfold AL;rw[<- g6,<- g8,<- k1,<- k3,<- k8,<- w7];exact w8⟩
end
end Bi
end Go.Ab
