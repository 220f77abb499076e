/- The weak rules: the program. -/
import Derived.Test.YtldfgkjmficliaaGreatPiK
import Derived.Test.YtldfgkjmficliaaGreatPiSpec4
set_option linter.unusedSimpArgs false
set_option linter.unusedVariables false
namespace Go.Ab
open Go.Proofs
namespace Bi
section
variable {P:Program}{md':FuncId→Nat}{n:Nat}{prim:FuncId→Option Prim}{cfg:Cfg}
theorem wj{d:Nat}{f:FuncId}{fn:Func}{c:Code}{k:Nat}{rs:List ResultVar}{args:List V}{h h2:Heap}{r:V}(hm:md' f=0)(hp:prim f=none)(hf:P.funcs[f]?=some fn)(hb:fn.body=some c)(hk:fn.ntmps=k)
  (hr:fn.results.toList=rs) (ha:args.all V.noref=false)
  (hw:@wC P md' (aI P md' prim n d) ⟨h.length,[],h.length⟩ n ⟨c⟩ (args++List.replicate (k-args.length) .no) h ⟨@kFn P ⟨rs⟩ ⟨fun r' h'=>frz h' h.length 6 r'=some r∧h'.take h.length=h2⟩⟩):
  af md' (aI P md' prim n (d+1)) cfg f args h=some (r,h2):=by
 obtain⟨r',h',h1,h2,h3⟩:=cx hp hf hb hk hr hw
 simp only[af,hm,ha,Bool.false_eq_true,if_false,h1,h2,h3]
end
def wkS(s:List Int)(k:Int):Int:=if 0≤k∧k<s.length then s.getD k.toNat 0 else -1
theorem tw{s:List Int}{k:Int}(h:k<0):wkS s k=-1:=by unfold wkS;rw[if_neg (by omega)]
theorem mO{s:List Int}{k:Nat}{x:Int}(h:s[k]?=some x):wkS s k=x:=by
 have:=(List.getElem?_eq_some_iff.1 h).1
 unfold wkS
 rw[if_pos (by omega)]
 simp[h]
theorem tx{s:List Int}{k:Int}(h:s.length≤k):wkS s k=-1:=by unfold wkS;rw[if_neg (by omega)]
section
variable {prim:FuncId→Option Prim}(d:Nat) (cfg:Cfg)
theorem wk_ok(hp:prim 146=none)(t o M:List Int)(n:Nat)(e:Int)(c l s c':List Int)(hn:c.length=n)(hn2:n≤2000)(hl:Pl n l)(hW:WB c l s c')(y2:Option (List V))(T T':Heap)(a b g k:Int)(hk:-5≤k∧k≤5000):
  af md (K prim (d+1)) cfg 146 [.int .i64 k,.ptr (T.length+1+1+1+1+1) 0,.ptr (T.length+1+1+1+1) 0] (none::some (c'.map (V.int .i64))::y2::some (pcs t o M n e)::(T++some [.ptr 3 0]::some [il l,.int .i64 a,.int .i64 b,.int .i64 g]::T')) =
   some (.int .i64 (wkS s k),none::some (c'.map (V.int .i64))::y2::some (pcs t o M n e)::(T++some [.ptr 3 0]::some [il l,.int .i64 a,.int .i64 b,.int .i64 g]::T')):=by
 refine wj rfl hp Tryz.func146 rfl rfl rfl (by simp) ?_
 have hsl:=hW.sl
 have b4:ab (T++some [V.ptr 3 0]::some [il l,.int .i64 a,.int .i64 b,.int .i64 g]::T') T.length=some [.ptr 3 0]:=by
  simp
 have b5:ab (T++some [V.ptr 3 0]::some [il l,.int .i64 a,.int .i64 b,.int .i64 g]::T') (T.length+1)=some [il l,.int .i64 a,.int .i64 b,.int .i64 g]:=by
  simp
 by_cases h0:k<0
 ·rw[tw h0]
  simp[h0]
  exact List.take_of_length_le (by simp)
 ·obtain⟨q,rfl⟩:=Int.eq_ofNat_of_zero_le (by omega:0≤k)
  have n0:¬ (q:Int)<0:=by omega
  by_cases h1:l.length≤q
  ·rw[tx (by omega)]
   simp[n0,b5,h1]
   exact List.take_of_length_le (by simp)
  ·obtain⟨i,hi,hin⟩:=hl.at_ (k:=q) (by omega)
   obtain⟨x,hx⟩:∃ x,s[q]?=some x:=⟨_,List.getElem?_eq_getElem (by omega)⟩
   have hc:=hW.at_ q i hi
   rw[hx,Int.toNat_natCast]at hc
   rw[mO hx]
   simp[n0,b5,h1]
   refine ai 9 (by kernel_rfl) ?_
   simp(disch:=omega)[b4,b5,hi,hc,-getElem?_pos]
   exact List.take_of_length_le (by simp)
def p1(st:Int)(dn:List Int):Int:=match dn.getLast? with
 | some y=>nx y
 | none=>st
theorem lH(st:Int)(dn:List Int)(y:Int):p1 st (dn++[y])=nx y:=by simp[p1]
def lo1(dn:List Int):Int:=dn.getLast?.getD (-1)
theorem dT(dn:List Int)(y:Int):lo1 (dn++[y])=y:=by simp[lo1]
theorem vY{dn td:List Int}{x:Int}:wkS (dn++x::td) ((dn.length:Int)-1)=lo1 dn:=by
 rcases List.eq_nil_or_concat dn with rfl|⟨dn',y,rfl⟩
 ·exact tw (by simp)
 ·rw[show (((dn'.concat y).length:Nat):Int)-1=(dn'.length:Nat) by simp]
  rw[List.concat_eq_append,dT]
  exact mO (by simp)
theorem F3{dn td:List Int}{x:Int}:wkS (dn++x::td) dn.length=x:=mO (by simp)
theorem DX{dn td:List Int}{x:Int}:wkS (dn++x::td) ((dn.length:Int)+1)=td.headD (-1):=by
 rcases td with _|⟨y,td⟩
 ·exact tx (by simp)
 ·rw[show (dn.length:Int)+1=(dn.length+1:Nat) by simp]
  exact mO (by rw[List.getElem?_append_right (by omega)];simp)
theorem lZ{dn td:List Int}{x:Int}:(dn++x::td)[dn.length]?=some x:=by simp
set_option maxRecDepth 100000 in
set_option maxHeartbeats 8000000 in
theorem F2(hp:∀ f,Np2 f→prim f=none)(t o M:List Int)(n:Nat)(e:Int)(c l:List Int)(hn:c.length=n)(hn2:n≤2000)(hl:Pl n l)(hll:l.length≤2000)(y2:List Int)(T:Heap)(lv st en:Int)(q:Nat):
  ∃ c',WB c l (zq st (l.map (lvl c))) c'∧af md (K prim (d+2)) ⟨0,[],q⟩ 107 [.ptr 3 0,.agg [il l,.int .i64 lv,.int .i64 st,.int .i64 en]] (none::some (c.map (V.int .i64))::some (y2.map (V.int .i64))::some (pcs t o M n e)::T) =
   some (.tup [],none::some (c'.map (V.int .i64))::some (y2.map (V.int .i64))::some (pcs t o M n e)::T):=by
 suffices H:∃ r h2,af md (K prim (d+2)) ⟨0,[],q⟩ 107 [.ptr 3 0,.agg [il l,.int .i64 lv,.int .i64 st,.int .i64 en]] (none::some (c.map (V.int .i64))::some (y2.map (V.int .i64))::some (pcs t o M n e)::T)=some (r,h2) ∧
   ∃ c',r=.tup []∧h2=(none::some (c'.map (V.int .i64))::some (y2.map (V.int .i64))::some (pcs t o M n e)::T)∧WB c l (zq st (l.map (lvl c))) c' by
  obtain⟨r,h2,h3,c',rfl,rfl,h4⟩:=H
  exact⟨c',h4,h3⟩
 refine sr rfl (hp 107 (by decide)) Tryz.func107 rfl rfl rfl ?_
 have hk:=fun c' s hW k hk T'=>wk_ok (prim:=prim) d ⟨0,[],T.length+1+1+1+1⟩ (hp 146 (by decide)) t o M n e c l s c' hn hn2 hl hW (some (y2.map (V.int .i64))) T T' lv st en k hk
 have hI:=fun cfg h x=>kD (prim:=prim) d cfg h (hp 142 (by decide)) x
 have b4:∀ x T',ab (T++some [V.ptr 3 0]::some x::T') T.length=some [.ptr 3 0]:=fun x T'=>by
  have:=bD (h:=T) (r:=some [V.ptr 3 0]::some x::T') (k:=0)
  simp
 have b5:∀ x T',isMap x=false→ab (T++some [V.ptr 3 0]::some x::T') (T.length+1)=some x:=fun x T' hx=>by
  have:=bD (h:=T) (r:=some [V.ptr 3 0]::some x::T') (k:=1)
  simp[hx]
 generalize hs0:l.map (lvl c)=s0
 have hW0:WB c l s0 c:=by rw[← hs0];exact WB.start (by rw[hn];exact hl)
 have hsl0:=hW0.sl
 simp(disch:=omega)
 refine aj (fun m fr H=>∃ (dn td c':List Int),m=td.length∧w1 st s0=dn++w1 (p1 st dn) td∧WB c l (dn++td) c'∧H=none::some (c'.map (V.int .i64))::some (y2.map (V.int .i64))::some (pcs t o M n e)::(T++[some [.ptr 3 0],some [il l,.int .i64 lv,.int .i64 st,.int .i64 en]])∧Slots 292 [(2,.ptr (T.length+1+1+1+1) 0),(3,.ptr (T.length+1+1+1+1+1) 0),(4,.func (.func 146) [] [.ptr (T.length+1+1+1+1+1) 0,.ptr (T.length+1+1+1+1) 0]),(24,il l),(25,.int .i64 l.length),(26,.int .i64 dn.length)] fr) (m:=s0.length) (by omega) ⟨[],s0,_,rfl,rfl,hW0,rfl,by simp⟩ ?_
 rintro m fr H ⟨dn,td,c',rfl,hF,hW,rfl,hs⟩
 obtain⟨j,rfl⟩:=hs.ex
 clear hs
 have hlen:dn.length+td.length=l.length:=by have:=hW.sl;simpa using this
 rcases td with _|⟨x,td⟩
 rotate_left
 ·have hlt:dn.length<l.length:=by simp at hlen;omega
  obtain⟨i,hi,hin⟩:=hl.at_ hlt
  have hc:=hW.at_ _ i hi
  rw[lZ,Int.toNat_natCast]at hc
  have hcl:=hW.len
  have hle:i+1≤c'.length:=by omega
  have same:WB c l ((dn++[x])++td) c':=by simpa using hW
  have step:∀ y,WB c l ((dn++[y])++td) (c'.set i y):=by
   intro y
   have:=hW.set (by rw[hn];exact hl) hi y
   rw[dW]at this
   simpa using this
  
  by_cases h8:x=8
  ·subst h8
   rw[w1,if_pos rfl]at hF
   have hkk:=hk c' _ hW ((dn.length:Int)-1) (by omega) []
   rcases List.eq_nil_or_concat dn with rfl|⟨dn',y,rfl⟩
   ·rw[tw (by simp)]at hkk
    simp at hkk hi hlt
    simp(disch:=omega)[hlt,hi,hc,hkk,b4,wrap64,-getElem?_pos]
    refine ai 7 (by kernel_rfl) ?_
    simp(disch:=omega)[hle,b4,wrap64,-getElem?_pos]
    exact ae (m':=td.length) (by simp) ⟨[st],td,_,rfl,by simpa[p1]using hF,by simpa using step st,by simp,by simp(disch:=omega)⟩
   ·have hye:wkS (dn'.concat y++8::td) ((dn'.concat y).length-1)=y:=by
     rw[show (((dn'.concat y).length:Nat):Int)-1=(dn'.length:Nat) by simp]
     exact mO (by simp)
    rw[hye]at hkk
    simp only[List.concat_eq_append]at *
    simp at hkk hi hlt
    have n0:¬ (dn'.length:Int)+1=0:=by omega
    have hp1:=lH st dn' y
    have hltI:(dn'.length:Int)+1<l.length:=by omega
    have hc1:((dn'.length:Int)+1).toNat=dn'.length+1:=by omega
    by_cases hiy:ini y=true∨y=22
    ·have hnx:nx y=13:=by unfold nx;rw[if_pos hiy]
     rw[hp1,hnx]at hF
     have hfl:(ini y||decide (y=22))=true:=by simpa using hiy
     by_cases hiy1:ini y=true
     ·simp(disch:=omega)[hltI,hc1,hi,hc,hle,hkk,n0,hI,hiy1,b4,wrap64,-getElem?_pos]
      exact ae (m':=td.length) (by simp) ⟨dn'++[y]++[13],td,_,rfl,by rw[lH,hF];simp,step 13,by simp,by simp(disch:=omega);omega⟩
     ·have hy22:=hiy.resolve_left hiy1
      subst hy22
      have h22:ini 22=false:=rfl
      simp(disch:=omega)[hltI,hc1,hi,hc,hle,hkk,n0,hI,h22,b4,wrap64,-getElem?_pos]
      exact ae (m':=td.length) (by simp) ⟨dn'++[22]++[13],td,_,rfl,by rw[lH,hF];simp,step 13,by simp,by simp(disch:=omega);omega⟩
    ·have hnx:nx y=y:=by unfold nx;rw[if_neg hiy]
     rw[hp1,hnx]at hF
     have h22:¬ y=22:=fun e=>hiy (.inr e)
     have hini:ini y=false:=by
      cases hq:ini y
      ·rfl
      ·exact absurd (.inl hq) hiy
     simp(disch:=omega)[hltI,hc1,hi,hc,hle,hkk,n0,hI,hini,h22,b4,wrap64,-getElem?_pos]
     exact ae (m':=td.length) (by simp) ⟨dn'++[y]++[y],td,_,rfl,by rw[lH,hF,hnx];simp,step y,by simp,by simp(disch:=omega);omega⟩
  ·rw[w1,if_neg h8]at hF
   simp(disch:=omega)[hlt,hi,hc,h8,b4,wrap64,-getElem?_pos]
   exact ae (m':=td.length) (by simp) ⟨dn++[x],td,c',rfl,by rw[lH,hF];simp,same,rfl,by simp(disch:=omega)⟩
 obtain⟨s1,hs1,hW1,hsl1⟩:∃ s,s=w1 st s0∧WB c l s c'∧s.length=l.length:=⟨dn,by simpa[w1]using hF.symm,by simpa using hW,by simpa using hlen⟩
 have hlen':dn.length=l.length:=by simpa using hlen
 simp[hlen']
 clear hF hW hlen hlen' hW0
 refine aj (fun m fr H=>∃ (dn td c':List Int) (lst:Int),m=td.length∧w2 st s1=dn++w2 lst td∧WB c l (dn++td) c'∧H=none::some (c'.map (V.int .i64))::some (y2.map (V.int .i64))::some (pcs t o M n e)::(T++[some [.ptr 3 0],some [il l,.int .i64 lv,.int .i64 st,.int .i64 en]])∧Slots 292 [(2,.ptr (T.length+1+1+1+1) 0),(3,.ptr (T.length+1+1+1+1+1) 0),(4,.func (.func 146) [] [.ptr (T.length+1+1+1+1+1) 0,.ptr (T.length+1+1+1+1) 0]),(8,.int .i64 lst),(78,il l),(79,.int .i64 l.length),(80,.int .i64 dn.length)] fr) (m:=s1.length) (by omega) ⟨[],s1,_,st,rfl,rfl,hW1,rfl,by simp⟩ ?_
 rintro m fr H ⟨dn,td,c',lst,rfl,hF,hW,rfl,hs⟩
 obtain⟨j,rfl⟩:=hs.ex
 clear hs
 have hlen:dn.length+td.length=l.length:=by have:=hW.sl;simpa using this
 rcases td with _|⟨x,td⟩
 rotate_left
 ·have hlt:dn.length<l.length:=by simp at hlen;omega
  obtain⟨i,hi,hin⟩:=hl.at_ hlt
  have hc:=hW.at_ _ i hi
  rw[lZ,Int.toNat_natCast]at hc
  have hcl:=hW.len
  have hle:i+1≤c'.length:=by omega
  have same:WB c l ((dn++[x])++td) c':=by simpa using hW
  have step:∀ y,WB c l ((dn++[y])++td) (c'.set i y):=by
   intro y
   have:=hW.set (by rw[hn];exact hl) hi y
   rw[dW]at this
   simpa using this
  
  rw[w2]at hF
  by_cases h012:x=0∨x=1∨x=2
  ·rw[if_pos h012]at hF
   rcases h012 with hx|hx|hx
   all_goals
    simp(disch:=omega)[hlt,hi,hc,hx,b4,wrap64,-getElem?_pos]
    exact ae (m':=td.length) (by simp) ⟨dn++[x],td,c',x,rfl,by rw[hF];simp,same,rfl,by simp(disch:=omega)[hx]⟩
  ·rw[if_neg h012]at hF
   simp only[not_or]at h012
   by_cases h3:x=3
   ·subst h3
    by_cases h2:lst=2
    ·rw[if_pos ⟨rfl,h2⟩]at hF
     subst h2
     simp(disch:=omega)[hlt,hi,hc,hle,b4,wrap64,-getElem?_pos]
     exact ae (m':=td.length) (by simp) ⟨dn++[6],td,_,2,rfl,by rw[hF];simp,step 6,by simp,by simp(disch:=omega)⟩
    ·rw[if_neg (fun h=>h2 h.2)]at hF
     simp(disch:=omega)[hlt,hi,hc,h2,b4,wrap64,-getElem?_pos]
     exact ae (m':=td.length) (by simp) ⟨dn++[3],td,c',lst,rfl,by rw[hF];simp,same,rfl,by simp(disch:=omega)⟩
   ·rw[if_neg (fun h=>h3 h.1)]at hF
    simp(disch:=omega)[hlt,hi,hc,h012,h3,b4,wrap64,-getElem?_pos]
    exact ae (m':=td.length) (by simp) ⟨dn++[x],td,c',lst,rfl,by rw[hF];simp,same,rfl,by simp(disch:=omega)⟩
 obtain⟨s2,hs2,hW2,hsl2⟩:∃ s,s=w2 st s1∧WB c l s c'∧s.length=l.length:=⟨dn,by simpa[w2]using hF.symm,by simpa using hW,by simpa using hlen⟩
 have hlen':dn.length=l.length:=by simpa using hlen
 simp[hlen']
 clear hF hW hlen hlen' hW1
 refine aj (fun m fr H=>∃ (dn td c':List Int),m=td.length∧w3 s2=dn++w3 td∧WB c l (dn++td) c'∧H=none::some (c'.map (V.int .i64))::some (y2.map (V.int .i64))::some (pcs t o M n e)::(T++[some [.ptr 3 0],some [il l,.int .i64 lv,.int .i64 st,.int .i64 en]])∧Slots 292 [(2,.ptr (T.length+1+1+1+1) 0),(3,.ptr (T.length+1+1+1+1+1) 0),(4,.func (.func 146) [] [.ptr (T.length+1+1+1+1+1) 0,.ptr (T.length+1+1+1+1) 0]),(114,il l),(115,.int .i64 l.length),(116,.int .i64 dn.length)] fr) (m:=s2.length) (by omega) ⟨[],s2,_,rfl,rfl,hW2,rfl,by simp⟩ ?_
 rintro m fr H ⟨dn,td,c',rfl,hF,hW,rfl,hs⟩
 obtain⟨j,rfl⟩:=hs.ex
 clear hs
 have hlen:dn.length+td.length=l.length:=by have:=hW.sl;simpa using this
 rcases td with _|⟨x,td⟩
 rotate_left
 ·have hlt:dn.length<l.length:=by simp at hlen;omega
  obtain⟨i,hi,hin⟩:=hl.at_ hlt
  have hc:=hW.at_ _ i hi
  rw[lZ,Int.toNat_natCast]at hc
  have hcl:=hW.len
  have hle:i+1≤c'.length:=by omega
  have same:WB c l ((dn++[x])++td) c':=by simpa using hW
  have step:∀ y,WB c l ((dn++[y])++td) (c'.set i y):=by
   intro y
   have:=hW.set (by rw[hn];exact hl) hi y
   rw[dW]at this
   simpa using this
  
  have h3c:w3 (x::td)=(if x=2 then 1 else x)::w3 td:=rfl
  rw[h3c]at hF
  by_cases h2:x=2
  ·subst h2
   rw[if_pos rfl]at hF
   simp(disch:=omega)[hlt,hi,hc,hle,b4,wrap64,-getElem?_pos]
   exact ae (m':=td.length) (by simp) ⟨dn++[1],td,_,rfl,by rw[hF];simp,step 1,by simp,by simp(disch:=omega)⟩
  ·rw[if_neg h2]at hF
   simp(disch:=omega)[hlt,hi,hc,h2,b4,wrap64,-getElem?_pos]
   exact ae (m':=td.length) (by simp) ⟨dn++[x],td,c',rfl,by rw[hF];simp,same,rfl,by simp(disch:=omega)⟩
 obtain⟨s3,hs3,hW3,hsl3⟩:∃ s,s=w3 s2∧WB c l s c'∧s.length=l.length:=⟨dn,by simpa[w3]using hF.symm,by simpa using hW,by simpa using hlen⟩
 have hlen':dn.length=l.length:=by simpa using hlen
 simp[hlen']
 clear hF hW hlen hlen' hW2
 refine aj (fun m fr H=>∃ (dn td c':List Int),m=td.length∧w4 (-1) s3=dn++w4 (lo1 dn) td∧WB c l (dn++td) c'∧H=none::some (c'.map (V.int .i64))::some (y2.map (V.int .i64))::some (pcs t o M n e)::(T++[some [.ptr 3 0],some [il l,.int .i64 lv,.int .i64 st,.int .i64 en]])∧Slots 292 [(2,.ptr (T.length+1+1+1+1) 0),(3,.ptr (T.length+1+1+1+1+1) 0),(4,.func (.func 146) [] [.ptr (T.length+1+1+1+1+1) 0,.ptr (T.length+1+1+1+1) 0]),(136,il l),(137,.int .i64 l.length),(138,.int .i64 dn.length)] fr) (m:=s3.length) (by omega) ⟨[],s3,_,rfl,rfl,hW3,rfl,by simp⟩ ?_
 rintro m fr H ⟨dn,td,c',rfl,hF,hW,rfl,hs⟩
 obtain⟨j,rfl⟩:=hs.ex
 clear hs
 have hlen:dn.length+td.length=l.length:=by have:=hW.sl;simpa using this
 rcases td with _|⟨x,td⟩
 rotate_left
 ·have hlt:dn.length<l.length:=by simp at hlen;omega
  obtain⟨i,hi,hin⟩:=hl.at_ hlt
  have hc:=hW.at_ _ i hi
  rw[lZ,Int.toNat_natCast]at hc
  have hcl:=hW.len
  have hle:i+1≤c'.length:=by omega
  have same:WB c l ((dn++[x])++td) c':=by simpa using hW
  have step:∀ y,WB c l ((dn++[y])++td) (c'.set i y):=by
   intro y
   have:=hW.set (by rw[hn];exact hl) hi y
   rw[dW]at this
   simpa using this
  
  have hkp:=hk c' _ hW ((dn.length:Int)-1) (by omega) []
  have hkn:=hk c' _ hW ((dn.length:Int)+1) (by omega) []
  rw[vY]at hkp
  rw[DX]at hkn
  rw[w4]at hF
  generalize hP:lo1 dn=P at hF hkp
  generalize td.headD (-1)=Y at hF hkn
  by_cases x4:x=4
  ·by_cases p3:P=3
   ·by_cases y3:Y=3
    ·have CC:w4c P x Y=P:=by unfold w4c;rw[if_pos (.inl ⟨x4,p3,y3⟩)]
     simp(disch:=omega)[hlt,hi,hc,hle,hkp,hkn,x4,p3,y3,b4,wrap64,-getElem?_pos]
     exact ae (m':=td.length) (by simp) ⟨dn++[P],td,_,rfl,by rw[hF,CC,dT];simp,step P,by simp[p3],by simp(disch:=omega)⟩
    ·have CC:w4c P x Y=x:=by unfold w4c;rw[if_neg (by omega)]
     simp(disch:=omega)[hlt,hi,hc,hkp,hkn,x4,p3,y3,b4,wrap64,-getElem?_pos]
     exact ae (m':=td.length) (by simp) ⟨dn++[x],td,c',rfl,by rw[hF,CC,dT];simp,same,rfl,by simp(disch:=omega)⟩
   ·have CC:w4c P x Y=x:=by unfold w4c;rw[if_neg (by omega)]
    simp(disch:=omega)[hlt,hi,hc,hkp,hkn,x4,p3,b4,wrap64,-getElem?_pos]
    exact ae (m':=td.length) (by simp) ⟨dn++[x],td,c',rfl,by rw[hF,CC,dT];simp,same,rfl,by simp(disch:=omega)⟩
  ·by_cases x7:x=7
   ·by_cases py:P=Y
    ·subst py
     by_cases p3:P=3
     ·have CC:w4c P x P=P:=by unfold w4c;rw[if_pos (by omega)]
      simp(disch:=omega)[hlt,hi,hc,hle,hkp,hkn,x7,p3,b4,wrap64,-getElem?_pos]
      exact ae (m':=td.length) (by simp) ⟨dn++[P],td,_,rfl,by rw[hF,CC,dT];simp,step P,by simp[p3],by simp(disch:=omega)⟩
     ·by_cases p6:P=6
      ·have CC:w4c P x P=P:=by unfold w4c;rw[if_pos (by omega)]
       simp(disch:=omega)[hlt,hi,hc,hle,hkp,hkn,x7,p6,b4,wrap64,-getElem?_pos]
       exact ae (m':=td.length) (by simp) ⟨dn++[P],td,_,rfl,by rw[hF,CC,dT];simp,step P,by simp[p6],by simp(disch:=omega)⟩
      ·have CC:w4c P x P=x:=by unfold w4c;rw[if_neg (by omega)]
       simp(disch:=omega)[hlt,hi,hc,hkp,hkn,x7,p3,p6,b4,wrap64,-getElem?_pos]
       exact ae (m':=td.length) (by simp) ⟨dn++[x],td,c',rfl,by rw[hF,CC,dT];simp,same,rfl,by simp(disch:=omega)⟩
    ·have CC:w4c P x Y=x:=by unfold w4c;rw[if_neg (by omega)]
     simp(disch:=omega)[hlt,hi,hc,hkp,hkn,x7,py,b4,wrap64,-getElem?_pos]
     exact ae (m':=td.length) (by simp) ⟨dn++[x],td,c',rfl,by rw[hF,CC,dT];simp,same,rfl,by simp(disch:=omega)⟩
   ·have CC:w4c P x Y=x:=by unfold w4c;rw[if_neg (by omega)]
    simp(disch:=omega)[hlt,hi,hc,hkp,hkn,x4,x7,b4,wrap64,-getElem?_pos]
    exact ae (m':=td.length) (by simp) ⟨dn++[x],td,c',rfl,by rw[hF,CC,dT];simp,same,rfl,by simp(disch:=omega)⟩
 obtain⟨s4,hs4,hW4,hsl4⟩:∃ s,s=w4 (-1) s3∧WB c l s c'∧s.length=l.length:=⟨dn,by simpa[w4]using hF.symm,by simpa using hW,by simpa using hlen⟩
 have hlen':dn.length=l.length:=by simpa using hlen
 simp[hlen']
 clear hF hW hlen hlen' hW3
 refine aj (fun m fr H=>∃ (dn td c':List Int),m=td.length∧w5 (-1) 0 s4=dn++w5 (lo1 dn) 0 td∧WB c l (dn++td) c'∧H=none::some (c'.map (V.int .i64))::some (y2.map (V.int .i64))::some (pcs t o M n e)::(T++[some [.ptr 3 0],some [il l,.int .i64 lv,.int .i64 st,.int .i64 en]])∧Slots 292 [(2,.ptr (T.length+1+1+1+1) 0),(3,.ptr (T.length+1+1+1+1+1) 0),(4,.func (.func 146) [] [.ptr (T.length+1+1+1+1+1) 0,.ptr (T.length+1+1+1+1) 0]),(17,.int .i64 dn.length)] fr) (m:=s4.length) (by omega) ⟨[],s4,_,rfl,rfl,hW4,rfl,by simp⟩ ?_
 rintro m fr H ⟨dn,td,c',rfl,hF,hW,rfl,hs⟩
 obtain⟨j,rfl⟩:=hs.ex
 clear hs
 have hlen:dn.length+td.length=l.length:=by have:=hW.sl;simpa using this
 rcases td with _|⟨x,td⟩
 rotate_left
 ·have hlt:dn.length<l.length:=by simp at hlen;omega
  obtain⟨i,hi,hin⟩:=hl.at_ hlt
  have hc:=hW.at_ _ i hi
  rw[lZ,Int.toNat_natCast]at hc
  have hcl:=hW.len
  have hle:i+1≤c'.length:=by omega
  have same:WB c l ((dn++[x])++td) c':=by simpa using hW
  have step:∀ y,WB c l ((dn++[y])++td) (c'.set i y):=by
   intro y
   have:=hW.set (by rw[hn];exact hl) hi y
   rw[dW]at this
   simpa using this
  
  have hkc:=hk c' _ hW dn.length (by omega) []
  rw[F3]at hkc
  by_cases x5:x=5
  ·subst x5
   simp(disch:=omega)[hlt,hkc,-getElem?_pos]
   refine aj (fun m fr H=>∃ (k:Nat) (rest:List Int),5::td=List.replicate k 5++rest∧0<k+1∧m=rest.length∧H=none::some (c'.map (V.int .i64))::some (y2.map (V.int .i64))::some (pcs t o M n e)::(T++[some [.ptr 3 0],some [il l,.int .i64 lv,.int .i64 st,.int .i64 en]])∧Slots 292 [(2,.ptr (T.length+1+1+1+1) 0),(3,.ptr (T.length+1+1+1+1+1) 0),(4,.func (.func 146) [] [.ptr (T.length+1+1+1+1+1) 0,.ptr (T.length+1+1+1+1) 0]),(17,.int .i64 dn.length),(18,.int .i64 (dn.length+k:Nat))] fr) (m:=td.length+1) (by simp at hlen;omega) ⟨0,5::td,by simp,by omega,rfl,rfl,by simp⟩ ?_
   rintro m fr H ⟨k,rest,htd,_,rfl,rfl,hs⟩
   obtain⟨j,rfl⟩:=hs.ex
   clear hs
   have hkl:k+rest.length=td.length+1:=by have:=congrArg List.length htd;simp at this;omega
   simp only[List.length_cons]at hlen
   have hkr:=hk c' _ hW (dn.length+k:Nat) (by omega) []
   have hkw:wkS (dn++5::td) (dn.length+k:Nat)=rest.headD (-1):=by
    rw[htd]
    rcases rest with _|⟨y,rest⟩
    ·exact tx (by simp)
    ·refine mO ?_
     rw[List.getElem?_append_right (by omega),Nat.add_sub_cancel_left,List.getElem?_append_right (by simp)]
     simp
   rw[hkw]at hkr
   simp at hkr
   by_cases hr5:rest.headD (-1)=5
   ·obtain⟨rest,rfl⟩:∃ r',rest=5::r':=by
     rcases rest with _|⟨y,rest⟩
     ·simp at hr5
     ·simp at hr5;exact⟨rest,by rw[hr5]⟩
    simp at hkr
    simp(disch:=omega)[hkr,wrap64,-getElem?_pos]
    refine ae (m':=rest.length) (by simp) ⟨k+1,rest,?_,by omega,rfl,rfl,by simp(disch:=omega);omega⟩
    rw[htd,List.replicate_succ']
    simp
   ·obtain⟨k,rfl⟩:∃ k',k=k'+1:=by
     rcases k with _|k
     ·simp at htd;rw[← htd]at hr5;simp at hr5
     ·exact⟨k,rfl⟩
    have hkp:=hk c' _ hW ((dn.length:Int)-1) (by omega) []
    rw[vY]at hkp
    have hr5':¬ rest.head?.getD (-1)=5:=by simpa using hr5
    have hW5:=DQ (lo1 dn) 0 (k+1) rest
    rw[← htd,Nat.zero_add]at hW5
    rw[hW5]at hF
    simp at hkr
    have hend:∀ v,(if lo1 dn=3∨rest.headD (-1)=3 then (3:Int) else 5)=v→w5 (-1) 0 s4=(dn++List.replicate (k+1) v)++w5 (lo1 (dn++List.replicate (k+1) v)) 0 rest:=by
     rintro v rfl
     rw[hF,Ja (lo1 dn) (lo1 (dn++List.replicate (k+1) (if lo1 dn=3∨rest.headD (-1)=3 then (3:Int) else 5))) (k+1) rest hr5]
     simp
    rw[List.headD_eq_head?_getD]at hend
    generalize hY:rest.head?.getD (-1)=Y at *
    by_cases h33:lo1 dn=3∨Y=3
    ·have hend:=hend 3 (by rw[if_pos h33])
     have n3:lo1 dn=3∨(¬ lo1 dn=3∧Y=3):=by omega
     rcases n3 with h3|⟨h3,hy3⟩
     case' inl=>simp(disch:=omega)[hkr,hr5',hkp,h3,wrap64,-getElem?_pos]
     case' inr=>simp(disch:=omega)[hkr,hkp,h3,hy3,wrap64,-getElem?_pos]
     all_goals
      refine aj (fun m fr H=>∃ (q:Nat) (c':List Int),q≤k+1∧m=k+1-q∧WB c l (dn++(List.replicate q 3++List.replicate (k+1-q) 5)++rest) c'∧H=none::some (c'.map (V.int .i64))::some (y2.map (V.int .i64))::some (pcs t o M n e)::(T++[some [.ptr 3 0],some [il l,.int .i64 lv,.int .i64 st,.int .i64 en]])∧Slots 292 [(2,.ptr (T.length+1+1+1+1) 0),(3,.ptr (T.length+1+1+1+1+1) 0),(4,.func (.func 146) [] [.ptr (T.length+1+1+1+1+1) 0,.ptr (T.length+1+1+1+1) 0]),(17,.int .i64 dn.length),(18,.int .i64 (dn.length+(k+1):Nat)),(19,.int .i64 (dn.length+q:Nat))] fr) (m:=k+1) (by omega) ⟨0,_,by omega,by omega,by rw[htd]at hW;simpa using hW,rfl,by simp;try omega⟩ ?_
      rintro m fr H ⟨q,c',hq,rfl,hWq,rfl,hs⟩
      obtain⟨j,rfl⟩:=hs.ex
      clear hs
      by_cases hqk:q<k+1
      ·obtain⟨r,hr⟩:∃ r,k+1-q=r+1:=⟨k-q,by omega⟩
       obtain⟨i,hi,hin⟩:=hl.at_ (k:=dn.length+q) (by omega)
       have hcl:=hWq.len
       have hle:i+1≤c'.length:=by omega
       have hst:=hWq.set (by rw[hn];exact hl) hi 3
       have e1:dn++(List.replicate q (3:Int)++List.replicate (k+1-q) 5)++rest=(dn++List.replicate q 3)++5::(List.replicate r 5++rest):=by rw[hr,List.replicate_succ];simp
       have e2:dn.length+q=(dn++List.replicate q (3:Int)).length:=by simp
       rw[e1]at hst
       conv at hst=>lhs;rw[e2]
       rw[dW]at hst
       have hlt2:(dn.length:Int)+q<(dn.length:Int)+(k+1):=by omega
       have hc2:((dn.length:Int)+q).toNat=dn.length+q:=by omega
       simp(disch:=omega)[hlt2,-getElem?_pos]
       refine ai 9 (by kernel_rfl) ?_
       simp(disch:=omega)[hc2,hi,hle,b4,wrap64,-getElem?_pos]
       refine ae (m':=k+1-(q+1)) (by omega) ⟨q+1,c'.set i 3,by omega,rfl,?_,by simp,by simp(disch:=omega);try omega⟩
       rw[show k+1-(q+1)=r by omega,List.replicate_succ']
       simpa using hst
      ·obtain rfl:q=k+1:=by omega
       have nlt:¬ (dn.length:Int)+(k+1)<(dn.length:Int)+(k+1):=by omega
       simp(disch:=omega)[wrap64]
       refine ae (m':=rest.length) (by simp;omega) ⟨dn++List.replicate (k+1) 3,rest,c',rfl,hend,by simpa using hWq,rfl,by simp(disch:=omega)⟩
    ·have hend:=hend 5 (by rw[if_neg h33])
     have h3:¬ lo1 dn=3:=fun h=>h33 (.inl h)
     have hy3:¬ Y=3:=fun h=>h33 (.inr h)
     simp(disch:=omega)[hkr,hr5',hkp,h3,hy3,wrap64,-getElem?_pos]
     refine ae (m':=rest.length) (by simp;omega) ⟨dn++List.replicate (k+1) 5,rest,c',rfl,hend,by rw[htd]at hW;simpa using hW,rfl,by simp(disch:=omega)⟩
  ·have hF5:w5 (lo1 dn) 0 (x::td)=x::w5 x 0 td:=by rw[w5,if_neg x5];simp
   rw[hF5]at hF
   simp(disch:=omega)[hlt,hkc,x5,wrap64,-getElem?_pos]
   exact ae (m':=td.length) (by simp) ⟨dn++[x],td,c',rfl,by rw[hF,dT];simp,same,rfl,by simp(disch:=omega)⟩
 obtain⟨s5,hs5,hW5,hsl5⟩:∃ s,s=w5 (-1) 0 s4∧WB c l s c'∧s.length=l.length:=⟨dn,by simpa[w5]using hF.symm,by simpa using hW,by simpa using hlen⟩
 have hlen':dn.length=l.length:=by simpa using hlen
 simp[hlen']
 clear hF hW hlen hlen' hW4
 refine aj (fun m fr H=>∃ (dn td c':List Int) (lst:Int),m=td.length∧w6 st s5=dn++w6 lst td∧WB c l (dn++td) c'∧H=none::some (c'.map (V.int .i64))::some (y2.map (V.int .i64))::some (pcs t o M n e)::(T++[some [.ptr 3 0],some [il l,.int .i64 lv,.int .i64 st,.int .i64 en]])∧Slots 292 [(2,.ptr (T.length+1+1+1+1) 0),(3,.ptr (T.length+1+1+1+1+1) 0),(4,.func (.func 146) [] [.ptr (T.length+1+1+1+1+1) 0,.ptr (T.length+1+1+1+1) 0]),(8,.int .i64 lst),(248,il l),(249,.int .i64 l.length),(250,.int .i64 dn.length)] fr) (m:=s5.length) (by omega) ⟨[],s5,_,st,rfl,rfl,hW5,rfl,by simp⟩ ?_
 rintro m fr H ⟨dn,td,c',lst,rfl,hF,hW,rfl,hs⟩
 obtain⟨j,rfl⟩:=hs.ex
 clear hs
 have hlen:dn.length+td.length=l.length:=by have:=hW.sl;simpa using this
 rcases td with _|⟨x,td⟩
 rotate_left
 ·have hlt:dn.length<l.length:=by simp at hlen;omega
  obtain⟨i,hi,hin⟩:=hl.at_ hlt
  have hc:=hW.at_ _ i hi
  rw[lZ,Int.toNat_natCast]at hc
  have hcl:=hW.len
  have hle:i+1≤c'.length:=by omega
  have same:WB c l ((dn++[x])++td) c':=by simpa using hW
  have step:∀ y,WB c l ((dn++[y])++td) (c'.set i y):=by
   intro y
   have:=hW.set (by rw[hn];exact hl) hi y
   rw[dW]at this
   simpa using this
  
  rw[w6]at hF
  by_cases h457:x=4∨x=5∨x=7
  ·rw[if_pos h457]at hF
   rcases h457 with hx|hx|hx
   all_goals
    simp(disch:=omega)[hlt,hi,hc,hle,hx,b4,wrap64,-getElem?_pos]
    exact ae (m':=td.length) (by simp) ⟨dn++[13],td,_,lst,rfl,by rw[hF];simp,step 13,by simp,by simp(disch:=omega)⟩
  ·rw[if_neg h457]at hF
   simp only[not_or]at h457
   by_cases h01:x=0∨x=1
   ·rw[if_pos h01]at hF
    rcases h01 with hx|hx
    all_goals
     simp(disch:=omega)[hlt,hi,hc,hx,b4,wrap64,-getElem?_pos]
     exact ae (m':=td.length) (by simp) ⟨dn++[x],td,c',x,rfl,by rw[hF];simp,same,rfl,by simp(disch:=omega)[hx]⟩
   ·rw[if_neg h01]at hF
    simp only[not_or]at h01
    by_cases h3:x=3
    ·subst h3
     by_cases h2:lst=0
     ·rw[if_pos ⟨rfl,h2⟩]at hF
      subst h2
      simp(disch:=omega)[hlt,hi,hc,hle,b4,wrap64,-getElem?_pos]
      exact ae (m':=td.length) (by simp) ⟨dn++[0],td,_,0,rfl,by rw[hF];simp,step 0,by simp,by simp(disch:=omega)⟩
     ·rw[if_neg (fun h=>h2 h.2)]at hF
      simp(disch:=omega)[hlt,hi,hc,h2,b4,wrap64,-getElem?_pos]
      exact ae (m':=td.length) (by simp) ⟨dn++[3],td,c',lst,rfl,by rw[hF];simp,same,rfl,by simp(disch:=omega)⟩
    ·rw[if_neg (fun h=>h3 h.1)]at hF
     simp(disch:=omega)[hlt,hi,hc,h457,h01,h3,b4,wrap64,-getElem?_pos]
     exact ae (m':=td.length) (by simp) ⟨dn++[x],td,c',lst,rfl,by rw[hF];simp,same,rfl,by simp(disch:=omega)⟩
 obtain⟨s6,hs6,hW6,hsl6⟩:∃ s,s=w6 st s5∧WB c l s c'∧s.length=l.length:=⟨dn,by simpa[w6]using hF.symm,by simpa using hW,by simpa using hlen⟩
 have hlen':dn.length=l.length:=by simpa using hlen
 simp[hlen']
 clear hF hW hlen hlen' hW5
 exact⟨c',rfl,by unfold zq;rw[← hs1,← hs2,← hs3,← hs4,← hs5,← hs6];exact hW6⟩
end
end Bi
end Go.Ab
