/- Several texts of this proof in one. -/
import Derived.Test.YtldfgkjmficliaaGreatAbW
set_option linter.all false
namespace Go.Ab
def Da(o:Option (List V))(h:Heap)[R:Hid (V->Heap->Prop)]:Prop:=∃ vs,o=some vs/\R.val (oneOf vs) h
def kFn(P:Program)[rs:Hid (List ResultVar)][R:Hid (V->Heap->Prop)](e:Ex)(fr:List V)(h:Heap):Prop:=
 match e with
 | .exit _=>False
 | _=>@Da (je P fr h rs.val) h R
section
variable {P:Program}{md:FuncId->Nat}{call:aW}{cfg:Cfg}{n:Nat}{prim:FuncId->Option Prim}
@[simp] theorem kFn_ret{rs:List ResultVar}{R:V->Heap->Prop}{fr:List V}{h:Heap}:@kFn P ⟨rs⟩ ⟨R⟩ .ret fr h↔@Da (je P fr h rs) h ⟨R⟩:=ME
@[simp] theorem I1{rs:List ResultVar}{R:V->Heap->Prop}{fr:List V}{h:Heap}:@kFn P ⟨rs⟩ ⟨R⟩ .normal fr h↔@Da (je P fr h rs) h ⟨R⟩:=ME
@[simp] theorem Kz{vs:List V}{h:Heap}{R:V->Heap->Prop}:@Da (some vs) h ⟨R⟩↔R (oneOf vs) h:=by simp[Da]
@[simp] theorem KO{v:V}:oneOf [v]=v:=rfl
@[simp] theorem KP{v u:V}{r:List V}:oneOf (v::u::r)=.tup (v::u::r):=rfl
@[simp] theorem KN:oneOf []=.tup []:=rfl
@[simp] theorem resV_nil{fr:List V}{h:Heap}:je P fr h []=some []:=rfl
@[simp] theorem resV_tmp{fr:List V}{h:Heap}{t:Tmp}{r:List ResultVar}:je P fr h (.tmp t::r)=(slot fr t).bind fun v=>(je P fr h r).map (v::·):=by
 simp only[je,slot];cases fr[t]? with
 | none=>rfl
 | some v=>cases je P fr h r<;>rfl
@[simp] theorem KZ{fr:List V}{h:Heap}{a:Tmp}{t:TypeId}{r:List ResultVar}:je P fr h (.cell a t::r)=(slot fr a).bind fun p=>(fE P h t p).bind fun v=>(je P fr h r).map (v::·):=by
 simp only[je,slot];cases fr[a]? with
 | none=>rfl
 | some p =>
  simp only[Mb];cases fE P h t p with
  | none=>rfl
  | some v=>cases je P fr h r<;>rfl
theorem cw{d:Nat}{f:FuncId}{fn:Func}{c:Code}{k:Nat}{rs:List ResultVar}{args:List V}{h:Heap}{R:V->Heap->Prop}(hp:prim f=none)(hf:P.funcs[f]?=some fn)(hb:fn.body=some c)(hk:fn.ntmps=k)
  (hr:fn.results.toList=rs) (hw:@wC P md (aN P md prim n d) cfg n ⟨c⟩ (args++List.replicate (k-args.length) .no) h ⟨@kFn P ⟨rs⟩ ⟨R⟩⟩):
  ∃ r h',aN P md prim n (d+1) cfg f args h=some (r,h')/\R r h':=by
 subst hk;subst hr;obtain⟨⟨e,fr,h'⟩,h1,h2⟩:=hw;replace h1:code P md (aN P md prim n d) (fC P md (aN P md prim n d)) cfg n c (args++List.replicate (fn.ntmps-args.length) V.no) h=some (e,fr,h'):=h1;simp only[aN,hp,hf,Pj,hb,h1];cases e with
 | exit i=>exact h2.elim
 | normal =>
  obtain⟨vs,h3,h4⟩:=h2;exact⟨_,_,by simp only at h3 ⊢;rw[h3],h4⟩
 | ret =>
  obtain⟨vs,h3,h4⟩:=h2;exact⟨_,_,by simp only at h3 ⊢;rw[h3],h4⟩
theorem aU{d:Nat}{f:FuncId}{fn:Func}{c:Code}{k:Nat}{rs:List ResultVar}{args:List V}{h:Heap}{r:V}(hm:md f=0)(hp:prim f=none)(hf:P.funcs[f]?=some fn)(hb:fn.body=some c)(hk:fn.ntmps=k)
  (hr:fn.results.toList=rs) (ha:args.all V.noref=true)
  (hw:@wC P md (aN P md prim n d) ⟨0,[],0⟩ n ⟨c⟩ (args++List.replicate (k-args.length) .no) [] ⟨@kFn P ⟨rs⟩ ⟨fun r' h'=>frz h' 0 6 r'=some r⟩⟩):
  af md (aN P md prim n (d+1)) cfg f args h=some (r,h):=by
 obtain⟨r',h',h1,h2⟩:=cw hp hf hb hk hr hw;simp only[af,hm,ha,if_true,h1,h2]
theorem call1{d:Nat}{f:FuncId}{fn:Func}{c:Code}{k:Nat}{rs:List ResultVar}{args:List V}{h h2:Heap}{r:V}(hm:md f=1)(hp:prim f=none)(hf:P.funcs[f]?=some fn)(hb:fn.body=some c)(hk:fn.ntmps=k)
  (hr:fn.results.toList=rs)
  (hw:@wC P md (aN P md prim n d) ⟨cfg.lo,cfg.ex,h.length⟩ n ⟨c⟩ (args++List.replicate (k-args.length) .no) h ⟨@kFn P ⟨rs⟩ ⟨fun r' h'=>frz h' h.length 6 r'=some r/\h'.take h.length=h2⟩⟩):
  af md (aN P md prim n (d+1)) cfg f args h=some (r,h2):=by
 obtain⟨r',h',h1,h2,h3⟩:=cw hp hf hb hk hr hw;simp only[af,hm,h1,h2,h3]
theorem call2{d:Nat}{f:FuncId}{fn:Func}{c:Code}{k:Nat}{rs:List ResultVar}{args:List V}{h h2:Heap}{r:V}(hm:md f=2)(hp:prim f=none)(hf:P.funcs[f]?=some fn)(hb:fn.body=some c)(hk:fn.ntmps=k)
  (hr:fn.results.toList=rs)
  (hw:@wC P md (aN P md prim n d) cfg n ⟨c⟩ (args++List.replicate (k-args.length) .no) h ⟨@kFn P ⟨rs⟩ ⟨fun r' h'=>r'=r/\h'=h2⟩⟩):
  af md (aN P md prim n (d+1)) cfg f args h=some (r,h2):=by
 obtain⟨r',h',h1,rfl,rfl⟩:=cw hp hf hb hk hr hw;simp only[af,hm,h1]
theorem call3{d:Nat}{f:FuncId}{fn:Func}{c:Code}{k:Nat}{rs:List ResultVar}{args args':List V}{h:Heap}{r:V}(hm:md f=3)(hp:prim f=none)(hf:P.funcs[f]?=some fn)(hb:fn.body=some c)(hk:fn.ntmps=k)
  (hr:fn.results.toList=rs) (ha:args.mapM (frzA h)=some args')
  (hw:@wC P md (aN P md prim n d) ⟨0,[],0⟩ n ⟨c⟩ (args'++List.replicate (k-args'.length) .no) [] ⟨@kFn P ⟨rs⟩ ⟨fun r' h'=>own h' 6 r'=true/\frz h' 0 6 r'=some r⟩⟩):
  af md (aN P md prim n (d+1)) cfg f args h=some (r,h):=by
 obtain⟨r',h',h1,h2,h3⟩:=cw hp hf hb hk hr hw;simp only[af,hm,ha,h1,h2,h3,if_true]
def stat(P:Program)(ops:Array Oper):Option Nat:=
 if sN ops||sOK P ops then none else if vX P ops (ju [] ops.toList) (jY (eW P 0 ops.toList) (ju [] ops.toList) ops.size) then some (jY (eW P 0 ops.toList) (ju [] ops.toList) ops.size) else none
def bE(P:Program)(md:FuncId->Nat)(call:aW)(cfg:Cfg)(n0:Nat)(fr:List V)(h:Heap)(x:List Nat)(ld:List Nat)(op:Op):Option (V×Heap×List Nat×List Nat):=
  match op with
  | .call { callee:=.value f,args,argTypes:=_ }=>match ev fr f,cS fr args.toList with
   | some (.func (.func g) first captured),some vs =>
    match md g with
    | 0=>match af md call ⟨h.length,[],h.length⟩ g ((first++vs)++captured) h with
     | some (v,h')=>some (v,h',x,ld)
     | none=>none
    | 3=>match af md call ⟨h.length,[],h.length⟩ g ((first++vs)++captured) h with
     | some (v,h')=>some (v,h',x,ld)
     | none=>none
    | 1=>match (first++vs)++captured with
     | .ptr b _::_ =>
      if cfg.wr b&&decide (b<n0) then
       match af md call ⟨h.length,[b],h.length⟩ g ((first++vs)++captured) h with
       | some (v,h')=>some (v,h',b::x,ld)
       | none=>none
      else none
     | _=>none
    | 2=>match af md call ⟨h.length,[],h.length⟩ g ((first++vs)++captured) h with
     | some (v,h')=>some (v,h',x,ld)
     | none=>none
    | m =>
     if (decide (m=4)||decide (m=5))&&((mapsIn h).all fun b=>cfg.wr b&&decide (b<n0)) then
      match af md call ⟨h.length,mapsIn h,h.length⟩ g ((first++vs)++captured) h with
      | some (v,h')=>some (v,h',mapsIn h++x,ld)
      | none=>none
     else none
   | _,_=>none
  | .store t p y=>match ev fr p with
   | some (.ptr b _) =>
    if cfg.wr b then
     match opV P ⟨h.length,[b],h.length⟩ fr h (.store t p y) with
     | some (v,h')=>some (v,h',b::x,ld)
     | none=>none
    else none
   | _=>none
  | op=>if eY P op then
    match opV P cfg fr h op with
    | some (v,h')=>some (v,h',x,match eQ fr op with
     | some b=>b::ld
     | none=>ld)
    | none=>none
   else none
theorem nU{n0:Nat}{ops:Array Oper}{o:Oper}{fr:List V}{h:Heap}{x:List Nat}{ld:List Nat}(hw:cY ops fr o=some true):ei P md call cfg n0 ops o fr h x ld=bE P md call cfg n0 fr h x ld o.op:=by
 simp only[ei,hw];rfl
theorem nV{n0:Nat}{ops:Array Oper}{o:Oper}{fr:List V}{h:Heap}{x:List Nat}{ld:List Nat}(hw:cY ops fr o=some false):ei P md call cfg n0 ops o fr h x ld=some (.no,h,x,ld):=by
 simp only[ei,hw]
end
section
variable (P:Program) (md:FuncId->Nat) (call:aW) (cfg:Cfg) (n:Nat)
def wHd[ops:Hid (Array Oper)][l:Hid (List Oper)][tl:Hid (List Oper)](fr:List V)(h:Heap)[n0:Hid Nat][x:Hid (List Nat)][ld:Hid (List Nat)][Q:Hid bR]:Prop:=
 ∃ st,eO P md call cfg n0.val ops.val l.val fr h x.val ld.val=some st/\oE st.2.2.2 st.2.2.1=true/\@wO P md call cfg ops tl st.1 st.2.1 Q
def wHS[dst:Hid (Option Tmp)][fr:Hid (List V)](r:Option (V×Heap×List Nat×List Nat))[ops:Hid (Array Oper)][l:Hid (List Oper)][tl:Hid (List Oper)][n0:Hid Nat][Q:Hid bR]:Prop:=
 ∃ st,r=some st/\@wHd P md call cfg ops l tl (put fr.val dst.val st.1) st.2.1 n0 ⟨st.2.2.1⟩ ⟨st.2.2.2⟩ Q
def wHG(g:Option V)[want:Hid Bool][dst:Hid (Option Tmp)][op:Hid Op][ops:Hid (Array Oper)][l:Hid (List Oper)][tl:Hid (List Oper)][fr:Hid (List V)][h:Hid Heap][n0:Hid Nat][x:Hid (List Nat)][ld:Hid (List Nat)][Q:Hid bR]:Prop:=
 match g with
 | some (.bool b)=>@wIf (b==want.val) ⟨@wHS P md call cfg dst fr (bE P md call cfg n0.val fr.val h.val x.val ld.val op.val) ops l tl n0 Q⟩ ⟨@wHd P md call cfg ops l tl (put fr.val dst.val .no) h.val n0 x ld Q⟩
 | some .no=>@wHd P md call cfg ops l tl (put fr.val dst.val .no) h.val n0 x ld Q
 | _=>False
end
section
variable {P:Program}{md:FuncId->Nat}{call:aW}{cfg:Cfg}{n:Nat}
theorem ah{id:Nat}{ops:Array Oper}{fr:List V}{h:Heap}{Q:dV}(N:Nat)(hs:stat P ops=some N)(hw:@wHd P md call cfg ⟨ops⟩ ⟨ops.toList.take N⟩ ⟨ops.toList.drop N⟩ fr h ⟨h.length⟩ ⟨[]⟩ ⟨[]⟩ ⟨Q .normal⟩):
  @wC P md call cfg n ⟨.region id ops true⟩ fr h ⟨Q⟩:=by
 unfold stat at hs;split at hs
 ·cases hs
 split at hs
 ·rename_i h3 h4;simp only[Md,not_or,Bool.not_eq_true]at h3;obtain⟨h0,h6⟩:=h3;cases hs;obtain⟨⟨fr1,h1,x,ld⟩,hr,hl,⟨fr2,h2⟩,ho,hq⟩:=hw;refine⟨(.normal,fr2,h2),?_,hq⟩;simp only at hl ho;replace hr:eO P md call cfg h.length ops (ops.toList.take (jY (eW P 0 ops.toList) (ju [] ops.toList) ops.size)) fr h [] []=some (fr1,h1,x,ld):=hr;replace ho:dE P md call cfg ops (ops.toList.drop (jY (eW P 0 ops.toList) (ju [] ops.toList) ops.size)) fr1 h1=some (fr2,h2):=ho;show code P md call (fC P md call) cfg n (.region id ops true) fr h=some (.normal,fr2,h2);simp only[code,fC,pX,h0,h6,LH,h4,if_true,if_false,hr,hl,ho]
 ·cases hs
def HG(P:Program)(ops:Array Oper):Option Nat:=
 if sN ops then stat P ops.toList.dropLast.toArray else none
theorem Ez{id:Nat}{ops:Array Oper}{fr:List V}{h:Heap}{Q:dV}(N:Nat)(hs:HG P ops=some N){l0:List Oper}(h6:ops.toList.dropLast=l0){o:Oper}{x:Operand}{v:V}(h0:ops.toList.getLast?=some o)(h7:o.op=.move x)(hv:ev fr x=some v)
  (hw:@wHd P md call cfg ⟨l0.toArray⟩ ⟨l0.take N⟩ ⟨l0.drop N⟩ (put fr o.dst v) h ⟨h.length⟩ ⟨[]⟩ ⟨[]⟩ ⟨Q .normal⟩):@wC P md call cfg n ⟨.region id ops true⟩ fr h ⟨Q⟩:=by
 subst h6;unfold HG at hs;split at hs
 ·rename_i h4;obtain⟨st,h1,h2⟩:=ah (id:=id) (n:=n) (ops:=ops.toList.dropLast.toArray) (Q:=Q) N hs hw;refine⟨st,?_,h2⟩;replace h1:code P md call (fC P md call) cfg n (.region id ops.toList.dropLast.toArray true) (put fr o.dst v) h=some st:=h1;have h3:sN ops.toList.dropLast.toArray=false/\sOK P ops.toList.dropLast.toArray=false:=by
   unfold stat at hs;split at hs
   ·cases hs
   ·rename_i h3;simpa using h3
  show code P md call (fC P md call) cfg n (.region id ops true) fr h=some st;simp only[code,fC,h4,h3.1,h3.2,LH,if_true,if_false,h0,h7,hv]at h1 ⊢;exact h1
 ·cases hs
@[simp] theorem wHd_take{ops:Array Oper}{o:Oper}{l tl:List Oper}{k:Nat}{fr:List V}{h:Heap}{n0:Nat}{x:List Nat}{ld:List Nat}{Q:bR}:@wHd P md call cfg ⟨ops⟩ ⟨(o::l).take (k+1)⟩ ⟨(o::tl).drop (k+1)⟩ fr h ⟨n0⟩ ⟨x⟩ ⟨ld⟩ ⟨Q⟩↔@wHd P md call cfg ⟨ops⟩ ⟨o::l.take k⟩ ⟨tl.drop k⟩ fr h ⟨n0⟩ ⟨x⟩ ⟨ld⟩ ⟨Q⟩:=ME
@[simp] theorem Lb{ops:Array Oper}{l tl:List Oper}{fr:List V}{h:Heap}{n0:Nat}{x:List Nat}{ld:List Nat}{Q:bR}:@wHd P md call cfg ⟨ops⟩ ⟨l.take 0⟩ ⟨tl.drop 0⟩ fr h ⟨n0⟩ ⟨x⟩ ⟨ld⟩ ⟨Q⟩↔@wHd P md call cfg ⟨ops⟩ ⟨[]⟩ ⟨tl⟩ fr h ⟨n0⟩ ⟨x⟩ ⟨ld⟩ ⟨Q⟩:=ME
@[simp] theorem wHd_nil{ops:Array Oper}{tl:List Oper}{fr:List V}{h:Heap}{n0:Nat}{x:List Nat}{ld:List Nat}{Q:bR}:@wHd P md call cfg ⟨ops⟩ ⟨[]⟩ ⟨tl⟩ fr h ⟨n0⟩ ⟨x⟩ ⟨ld⟩ ⟨Q⟩↔oE ld x=true/\@wO P md call cfg ⟨ops⟩ ⟨tl⟩ fr h ⟨Q⟩:=by simp[wHd,eO]
@[simp] theorem wHd_cons{ops:Array Oper}{dst:Option Tmp}{op:Op}{ty:TypeId}{pos:String}{after:Array Edge}{l tl:List Oper}{fr:List V}{h:Heap}{n0:Nat}{x:List Nat}{ld:List Nat}{Q:bR}:
  @wHd P md call cfg ⟨ops⟩ ⟨{ dst:=dst,op:=op,type:=ty,pos:=pos,after:=after,guard:=none }::l⟩ ⟨tl⟩ fr h ⟨n0⟩ ⟨x⟩ ⟨ld⟩ ⟨Q⟩↔@wHS P md call cfg ⟨dst⟩ ⟨fr⟩ (bE P md call cfg n0 fr h x ld op) ⟨ops⟩ ⟨l⟩ ⟨tl⟩ ⟨n0⟩ ⟨Q⟩:=by
 unfold wHd wHS;simp only[eO];rw[nU (by rfl)];cases ha:bE P md call cfg n0 fr h x ld op with
 | none=>simp
 | some y=>obtain⟨v,h',x',ld'⟩:=y;simp[wHd]
@[simp] theorem La{ops:Array Oper}{dst:Option Tmp}{op:Op}{ty:TypeId}{pos:String}{after:Array Edge}{j:Nat}{want:Bool}{l tl:List Oper}{fr:List V}{h:Heap}{n0:Nat}{x:List Nat}{ld:List Nat}{Q:bR}:
  @wHd P md call cfg ⟨ops⟩ ⟨{ dst:=dst,op:=op,type:=ty,pos:=pos,after:=after,guard:=some (j,want) }::l⟩ ⟨tl⟩ fr h ⟨n0⟩ ⟨x⟩ ⟨ld⟩ ⟨Q⟩↔@wHG P md call cfg (AY ops fr j) ⟨want⟩ ⟨dst⟩ ⟨op⟩ ⟨ops⟩ ⟨l⟩ ⟨tl⟩ ⟨fr⟩ ⟨h⟩ ⟨n0⟩ ⟨x⟩ ⟨ld⟩ ⟨Q⟩:=by
 have h0:∀ o:Oper,cY ops fr o=none->ei P md call cfg n0 ops o fr h x ld=none:=fun o ho=>by simp only[ei,ho]
 unfold wHd wHG AY;simp only[eO];cases hj:ops[j]? with
 | none=>simp[h0 _ (show cY ops fr { dst:=dst,op:=op,type:=ty,pos:=pos,after:=after,guard:=some (j,want) }=none by simp[cY,hj])]
 | some p =>
  cases hd:p.dst with
  | none=>simp[hd,h0 _ (show cY ops fr { dst:=dst,op:=op,type:=ty,pos:=pos,after:=after,guard:=some (j,want) }=none by simp[cY,hj,hd])]
  | some d =>
   simp only[hd];cases hf:fr[d]? with
   | none=>simp[h0 _ (show cY ops fr { dst:=dst,op:=op,type:=ty,pos:=pos,after:=after,guard:=some (j,want) }=none by simp[cY,hj,hd,hf])]
   | some v =>
    by_cases hb:∃ b,v=.bool b
    ·obtain⟨b,rfl⟩:=hb;have hw:cY ops fr { dst:=dst,op:=op,type:=ty,pos:=pos,after:=after,guard:=some (j,want) }=some (b==want):=by simp[cY,hj,hd,hf]
     cases h3:(b==want)
     ·rw[h3]at hw;rw[nV hw];simp only[h3,BK];simp[wHd]
     ·rw[h3]at hw;rw[nU hw];simp only[h3,ED,wHS,wHd];cases ha:bE P md call cfg n0 fr h x ld op with
      | none=>simp
      | some y=>obtain⟨v,h',x',ld'⟩:=y;simp
    ·by_cases h4:v=.no
     ·subst h4;have hw:cY ops fr { dst:=dst,op:=op,type:=ty,pos:=pos,after:=after,guard:=some (j,want) }=some false:=by simp[cY,hj,hd,hf]
      rw[nV hw];simp[wHd]
     ·have hw:cY ops fr { dst:=dst,op:=op,type:=ty,pos:=pos,after:=after,guard:=some (j,want) }=none:=by
       simp only[cY,hj,hd,hf];cases v<;>first|rfl|exact absurd ⟨_,rfl⟩ hb|exact absurd rfl h4
      rw[h0 _ hw];cases v<;>first|(exact absurd ⟨_,rfl⟩ hb)|(exact absurd rfl h4)|simp
@[simp] theorem wHG_bool{b want:Bool}{dst:Option Tmp}{op:Op}{ops:Array Oper}{l tl:List Oper}{fr:List V}{h:Heap}{n0:Nat}{x:List Nat}{ld:List Nat}{Q:bR}:
  @wHG P md call cfg (some (.bool b)) ⟨want⟩ ⟨dst⟩ ⟨op⟩ ⟨ops⟩ ⟨l⟩ ⟨tl⟩ ⟨fr⟩ ⟨h⟩ ⟨n0⟩ ⟨x⟩ ⟨ld⟩ ⟨Q⟩↔@wIf (b==want) ⟨@wHS P md call cfg ⟨dst⟩ ⟨fr⟩ (bE P md call cfg n0 fr h x ld op) ⟨ops⟩ ⟨l⟩ ⟨tl⟩ ⟨n0⟩ ⟨Q⟩⟩ ⟨@wHd P md call cfg ⟨ops⟩ ⟨l⟩ ⟨tl⟩ (put fr dst .no) h ⟨n0⟩ ⟨x⟩ ⟨ld⟩ ⟨Q⟩⟩:=ME
@[simp] theorem wHG_no{want:Bool}{dst:Option Tmp}{op:Op}{ops:Array Oper}{l tl:List Oper}{fr:List V}{h:Heap}{n0:Nat}{x:List Nat}{ld:List Nat}{Q:bR}:
  @wHG P md call cfg (some .no) ⟨want⟩ ⟨dst⟩ ⟨op⟩ ⟨ops⟩ ⟨l⟩ ⟨tl⟩ ⟨fr⟩ ⟨h⟩ ⟨n0⟩ ⟨x⟩ ⟨ld⟩ ⟨Q⟩↔@wHd P md call cfg ⟨ops⟩ ⟨l⟩ ⟨tl⟩ (put fr dst .no) h ⟨n0⟩ ⟨x⟩ ⟨ld⟩ ⟨Q⟩:=ME
@[simp] theorem wHS_some{dst:Option Tmp}{fr:List V}{v:V}{h:Heap}{x:List Nat}{ld:List Nat}{ops:Array Oper}{l tl:List Oper}{n0:Nat}{Q:bR}:
  @wHS P md call cfg ⟨dst⟩ ⟨fr⟩ (some (v,h,x,ld)) ⟨ops⟩ ⟨l⟩ ⟨tl⟩ ⟨n0⟩ ⟨Q⟩↔@wHd P md call cfg ⟨ops⟩ ⟨l⟩ ⟨tl⟩ (put fr dst v) h ⟨n0⟩ ⟨x⟩ ⟨ld⟩ ⟨Q⟩:=by simp[wHS]
@[simp] theorem KB{ld:List Nat}:oE ld []=true:=rfl
@[simp] theorem KC{ld x:List Nat}{b:Nat}:oE ld (b::x)=(!ld.contains b&&oE ld x):=rfl
@[simp] theorem ldOK_app{ld x y:List Nat}:oE ld (x++y)=(oE ld x&&oE ld y):=List.all_append
def nP(p:Option V)(ld:List Nat):List Nat:=
 match p with
 | some (.ptr b _)=>b::ld
 | _=>ld
@[simp] theorem Kh{b off:Nat}{ld:List Nat}:nP (some (.ptr b off)) ld=b::ld:=rfl
@[simp] theorem HQ{cs:List V}{off:Nat}{ld:List Nat}:nP (some (.lptr cs off)) ld=ld:=rfl
@[simp] theorem Kg{cs:List (List V)}{ld:List Nat}:nP (some (.lst cs)) ld=ld:=rfl
@[simp] theorem addLd_sl{a b c d e:Nat}{ld:List Nat}:nP (some (.sl a b c d e)) ld=ld:=rfl
@[simp] theorem HR{ld:List Nat}:nP (some .nils) ld=ld:=rfl
@[simp] theorem Ki{s:ByteArray}{ld:List Nat}:nP (some (.str s)) ld=ld:=rfl
theorem aM{n0:Nat}{fr:List V}{h:Heap}{x:List Nat}{ld:List Nat}{op:Op}(h1:∀ f a t,op≠.call { callee:=.value f,args:=a,argTypes:=t })(h2:∀ t p y,op≠.store t p y)(h3:eY P op=true)(h4:eQ fr op=none):
  bE P md call cfg n0 fr h x ld op=(aH P md call cfg fr h op).map fun r=>(r.1,r.2,x,ld):=by
 have he:aH P md call cfg fr h op=opV P cfg fr h op:=by
  unfold aH;split
  ·exact absurd rfl (h1 _ _ _)
  ·rfl
 rw[he];unfold bE;split
 ·exact absurd rfl (h1 _ _ _)
 ·exact absurd rfl (h2 _ _ _)
 ·simp only[h3,if_true,h4];cases opV P cfg fr h op<;>rfl
@[simp] theorem Hi{n0:Nat}{fr:List V}{h:Heap}{x:List Nat}{ld:List Nat}{a:Operand}:bE P md call cfg n0 fr h x ld (.move a)=(aH P md call cfg fr h (.move a)).map fun r=>(r.1,r.2,x,ld):=aM (by simp) (by simp) rfl rfl
@[simp] theorem EK{n0:Nat}{fr:List V}{h:Heap}{x:List Nat}{ld:List Nat}{a:Operand}:bE P md call cfg n0 fr h x ld (.assign a)=(aH P md call cfg fr h (.assign a)).map fun r=>(r.1,r.2,x,ld):=aM (by simp) (by simp) rfl rfl
@[simp] theorem Hj{n0:Nat}{fr:List V}{h:Heap}{x:List Nat}{ld:List Nat}{a b c:Operand}:bE P md call cfg n0 fr h x ld (.pick a b c)=(aH P md call cfg fr h (.pick a b c)).map fun r=>(r.1,r.2,x,ld):=aM (by simp) (by simp) rfl rfl
@[simp] theorem FF{n0:Nat}{fr:List V}{h:Heap}{x:List Nat}{ld:List Nat}{t:TypeId}{p:Array (Nat×Operand)}:bE P md call cfg n0 fr h x ld (.build t p)=(aH P md call cfg fr h (.build t p)).map fun r=>(r.1,r.2,x,ld):=aM (by simp) (by simp) rfl rfl
@[simp] theorem BM{n0:Nat}{fr:List V}{h:Heap}{x:List Nat}{ld:List Nat}{a:Operand}:bE P md call cfg n0 fr h x ld (.nilCheck a)=(aH P md call cfg fr h (.nilCheck a)).map fun r=>(r.1,r.2,x,ld):=aM (by simp) (by simp) rfl rfl
@[simp] theorem FE{n0:Nat}{fr:List V}{h:Heap}{x:List Nat}{ld:List Nat}{o:BinOp}{t u:TypeId}{a b:Operand}:bE P md call cfg n0 fr h x ld (.binOp o t a b u)=(aH P md call cfg fr h (.binOp o t a b u)).map fun r=>(r.1,r.2,x,ld):=aM (by simp) (by simp) rfl rfl
@[simp] theorem Hl{n0:Nat}{fr:List V}{h:Heap}{x:List Nat}{ld:List Nat}{o:UnOp}{t:TypeId}{a:Operand}:bE P md call cfg n0 fr h x ld (.unOp o t a)=(aH P md call cfg fr h (.unOp o t a)).map fun r=>(r.1,r.2,x,ld):=aM (by simp) (by simp) rfl rfl
@[simp] theorem BL{n0:Nat}{fr:List V}{h:Heap}{x:List Nat}{ld:List Nat}{f:Fn}{a b:Array Operand}:bE P md call cfg n0 fr h x ld (.makeFunc f a b)=(aH P md call cfg fr h (.makeFunc f a b)).map fun r=>(r.1,r.2,x,ld):=aM (by simp) (by simp) rfl rfl
@[simp] theorem AZ{n0:Nat}{fr:List V}{h:Heap}{x:List Nat}{ld:List Nat}{t:TypeId}{a:Operand}{i:Nat}:bE P md call cfg n0 fr h x ld (.fieldAddr t a i)=(aH P md call cfg fr h (.fieldAddr t a i)).map fun r=>(r.1,r.2,x,ld):=aM (by simp) (by simp) rfl rfl
@[simp] theorem FG{n0:Nat}{fr:List V}{h:Heap}{x:List Nat}{ld:List Nat}{t:TypeId}{a:Operand}{i:Nat}:bE P md call cfg n0 fr h x ld (.field t a i)=(aH P md call cfg fr h (.field t a i)).map fun r=>(r.1,r.2,x,ld):=aM (by simp) (by simp) rfl rfl
@[simp] theorem A0{n0:Nat}{fr:List V}{h:Heap}{x:List Nat}{ld:List Nat}{t:TypeId}{a i:Operand}:bE P md call cfg n0 fr h x ld (.indexAddr t a i)=(aH P md call cfg fr h (.indexAddr t a i)).map fun r=>(r.1,r.2,x,ld):=aM (by simp) (by simp) rfl rfl
@[simp] theorem FH{n0:Nat}{fr:List V}{h:Heap}{x:List Nat}{ld:List Nat}{t:TypeId}{a i:Operand}:bE P md call cfg n0 fr h x ld (.index t a i)=(aH P md call cfg fr h (.index t a i)).map fun r=>(r.1,r.2,x,ld):=aM (by simp) (by simp) rfl rfl
@[simp] theorem CW{n0:Nat}{fr:List V}{h:Heap}{x:List Nat}{ld:List Nat}{a:Operand}{i:Nat}:bE P md call cfg n0 fr h x ld (.extract a i)=(aH P md call cfg fr h (.extract a i)).map fun r=>(r.1,r.2,x,ld):=aM (by simp) (by simp) rfl rfl
@[simp] theorem FD{n0:Nat}{fr:List V}{h:Heap}{x:List Nat}{ld:List Nat}{t:TypeId}:bE P md call cfg n0 fr h x ld (.alloc t)=(aH P md call cfg fr h (.alloc t)).map fun r=>(r.1,r.2,x,ld):=aM (by simp) (by simp) rfl rfl
@[simp] theorem Ix{n0:Nat}{fr:List V}{h:Heap}{x:List Nat}{ld:List Nat}{t:TypeId}{a:Operand}:bE P md call cfg n0 fr h x ld (.box t a)=(aH P md call cfg fr h (.box t a)).map fun r=>(r.1,r.2,x,ld):=aM (by simp) (by simp) rfl rfl
@[simp] theorem zi{n0:Nat}{fr:List V}{h:Heap}{x:List Nat}{ld:List Nat}{t:TypeId}{k:Nat}{p:Array (Nat×Operand)}:bE P md call cfg n0 fr h x ld (.buildSlice t k p)=(aH P md call cfg fr h (.buildSlice t k p)).map fun r=>(r.1,r.2,x,ld):=aM (by simp) (by simp) rfl rfl
@[simp] theorem CX{n0:Nat}{fr:List V}{h:Heap}{x:List Nat}{ld:List Nat}{t:TypeId}:bE P md call cfg n0 fr h x ld (.makeMap t none)=(aH P md call cfg fr h (.makeMap t none)).map fun r=>(r.1,r.2,x,ld):=aM (by simp) (by simp) rfl rfl
@[simp] theorem A1{n0:Nat}{fr:List V}{h:Heap}{x:List Nat}{ld:List Nat}{t:TypeId}{a b:Operand}:bE P md call cfg n0 fr h x ld (.makeSlice t a b)=(aH P md call cfg fr h (.makeSlice t a b)).map fun r=>(r.1,r.2,x,ld):=aM (by simp) (by simp) rfl rfl
@[simp] theorem Iy{n0:Nat}{fr:List V}{h:Heap}{x:List Nat}{ld:List Nat}{a:Array Operand}{t:Array TypeId}:bE P md call cfg n0 fr h x ld (.call { callee:=.builtin .len,args:=a,argTypes:=t })=(aH P md call cfg fr h (.call { callee:=.builtin .len,args:=a,argTypes:=t })).map fun r=>(r.1,r.2,x,ld):=aM (by simp) (by simp) rfl rfl
@[simp] theorem IA{n0:Nat}{fr:List V}{h:Heap}{x:List Nat}{ld:List Nat}{a:Array Operand}{t:Array TypeId}:bE P md call cfg n0 fr h x ld (.call { callee:=.builtin .min,args:=a,argTypes:=t })=(aH P md call cfg fr h (.call { callee:=.builtin .min,args:=a,argTypes:=t })).map fun r=>(r.1,r.2,x,ld):=aM (by simp) (by simp) rfl rfl
@[simp] theorem Iz{n0:Nat}{fr:List V}{h:Heap}{x:List Nat}{ld:List Nat}{a:Array Operand}{t:Array TypeId}:bE P md call cfg n0 fr h x ld (.call { callee:=.builtin .max,args:=a,argTypes:=t })=(aH P md call cfg fr h (.call { callee:=.builtin .max,args:=a,argTypes:=t })).map fun r=>(r.1,r.2,x,ld):=aM (by simp) (by simp) rfl rfl
@[simp] theorem Hh{n0:Nat}{fr:List V}{h:Heap}{x:List Nat}{ld:List Nat}{t:TypeId}{a:Operand}:bE P md call cfg n0 fr h x ld (.load t a)=(aH P md call cfg fr h (.load t a)).map fun r=>(r.1,r.2,x,nP (ev fr a) ld):=by
 simp only[bE,aH,eY,if_true,eQ];cases hv:opV P cfg fr h (.load t a) with
 | none=>rfl
 | some y =>
  cases ha:ev fr a with
  | none=>rfl
  | some v=>cases v<;>rfl
@[simp] theorem FI{n0:Nat}{fr:List V}{h:Heap}{x:List Nat}{ld:List Nat}{t:TypeId}{a:Operand}{lo hi:Option Operand}:bE P md call cfg n0 fr h x ld (.slice t a lo hi none)=(aH P md call cfg fr h (.slice t a lo hi none)).map fun r=>(r.1,r.2,x,nP (ev fr a) ld):=by
 simp only[bE,aH,eY,if_true,eQ];cases hv:opV P cfg fr h (.slice t a lo hi none) with
 | none=>rfl
 | some y =>
  cases ha:ev fr a with
  | none=>rfl
  | some v=>cases v<;>rfl
@[simp] theorem CV{n0:Nat}{fr:List V}{h:Heap}{x:List Nat}{ld:List Nat}{s d:TypeId}{a:Operand}:bE P md call cfg n0 fr h x ld (.convert s d a)=if eY P (.convert s d a) then (aH P md call cfg fr h (.convert s d a)).map fun r=>(r.1,r.2,x,ld) else none:=by
 simp only[bE,aH,eQ];split
 ·cases hv:opV P cfg fr h (.convert s d a)<;>rfl
 ·rfl
def iT(md:FuncId->Nat)(call:aW)(cfg:Cfg)(n0:Nat)(h:Heap)(x:List Nat)(ld:List Nat)(m:Nat)(g:FuncId)(vs:List V):Option (V×Heap×List Nat×List Nat):=
 match m with
 | 0=>(af md call ⟨h.length,[],h.length⟩ g vs h).map fun r=>(r.1,r.2,x,ld)
 | 3=>(af md call ⟨h.length,[],h.length⟩ g vs h).map fun r=>(r.1,r.2,x,ld)
 | 1=>match vs with
  | .ptr b _::_=>if cfg.wr b&&decide (b<n0) then (af md call ⟨h.length,[b],h.length⟩ g vs h).map fun r=>(r.1,r.2,b::x,ld) else none
  | _=>none
 | 2=>(af md call ⟨h.length,[],h.length⟩ g vs h).map fun r=>(r.1,r.2,x,ld)
 | m=>if (decide (m=4)||decide (m=5))&&((mapsIn h).all fun b=>cfg.wr b&&decide (b<n0)) then (af md call ⟨h.length,mapsIn h,h.length⟩ g vs h).map fun r=>(r.1,r.2,mapsIn h++x,ld) else none
def qw(md:FuncId->Nat)(call:aW)(cfg:Cfg)(n0:Nat)(h:Heap)(x:List Nat)(ld:List Nat)(f:Option V)(vs:Option (List V)):Option (V×Heap×List Nat×List Nat):=
 match f,vs with
 | some (.func (.func g) first captured),some vs=>iT md call cfg n0 h x ld (md g) g ((first++vs)++captured)
 | _,_=>none
@[simp] theorem Hg{n0:Nat}{fr:List V}{h:Heap}{x:List Nat}{ld:List Nat}{f:Operand}{a:Array Operand}{t:Array TypeId}:bE P md call cfg n0 fr h x ld (.call { callee:=.value f,args:=a,argTypes:=t })=qw md call cfg n0 h x ld (ev fr f) (cS fr a.toList):=by
 simp only[bE,qw];split
 ·rename_i g first captured vs hf h0
  unfold iT;split<;>rename_i hm
  ·cases af md call ⟨h.length,[],h.length⟩ g (first++vs++captured) h<;>rfl
  ·cases af md call ⟨h.length,[],h.length⟩ g (first++vs++captured) h<;>rfl
  ·split
   ·rename_i b off rest has;split
    ·cases af md call ⟨h.length,[b],h.length⟩ g (first++vs++captured) h<;>rfl
    ·rfl
   ·rfl
  ·cases af md call ⟨h.length,[],h.length⟩ g (first++vs++captured) h<;>rfl
  ·split
   ·cases af md call ⟨h.length,mapsIn h,h.length⟩ g (first++vs++captured) h<;>rfl
   ·rfl
 ·rfl
@[simp] theorem EJ{n0:Nat}{h:Heap}{x:List Nat}{ld:List Nat}{g:FuncId}{first captured vs:List V}:qw md call cfg n0 h x ld (some (.func (.func g) first captured)) (some vs)=iT md call cfg n0 h x ld (md g) g ((first++vs)++captured):=rfl
@[simp] theorem hdCall_0{n0:Nat}{h:Heap}{x:List Nat}{ld:List Nat}{g:FuncId}{vs:List V}:iT md call cfg n0 h x ld 0 g vs=(af md call ⟨h.length,[],h.length⟩ g vs h).map fun r=>(r.1,r.2,x,ld):=rfl
@[simp] theorem hdCall_3{n0:Nat}{h:Heap}{x:List Nat}{ld:List Nat}{g:FuncId}{vs:List V}:iT md call cfg n0 h x ld 3 g vs=(af md call ⟨h.length,[],h.length⟩ g vs h).map fun r=>(r.1,r.2,x,ld):=rfl
@[simp] theorem hdCall_2{n0:Nat}{h:Heap}{x:List Nat}{ld:List Nat}{g:FuncId}{vs:List V}:iT md call cfg n0 h x ld 2 g vs=(af md call ⟨h.length,[],h.length⟩ g vs h).map fun r=>(r.1,r.2,x,ld):=rfl
@[simp] theorem hdCall_1{n0:Nat}{h:Heap}{x:List Nat}{ld:List Nat}{g:FuncId}{b off:Nat}{vs:List V}:iT md call cfg n0 h x ld 1 g (.ptr b off::vs)=if cfg.wr b&&decide (b<n0) then (af md call ⟨h.length,[b],h.length⟩ g (.ptr b off::vs) h).map fun r=>(r.1,r.2,b::x,ld) else none:=rfl
@[simp] theorem hdCall_4{n0:Nat}{h:Heap}{x:List Nat}{ld:List Nat}{g:FuncId}{vs:List V}:iT md call cfg n0 h x ld 4 g vs=if ((mapsIn h).all fun b=>cfg.wr b&&decide (b<n0)) then (af md call ⟨h.length,mapsIn h,h.length⟩ g vs h).map fun r=>(r.1,r.2,mapsIn h++x,ld) else none:=rfl
@[simp] theorem hdCall_5{n0:Nat}{h:Heap}{x:List Nat}{ld:List Nat}{g:FuncId}{vs:List V}:iT md call cfg n0 h x ld 5 g vs=if ((mapsIn h).all fun b=>cfg.wr b&&decide (b<n0)) then (af md call ⟨h.length,mapsIn h,h.length⟩ g vs h).map fun r=>(r.1,r.2,mapsIn h++x,ld) else none:=rfl
def tC(P:Program)(cfg:Cfg)(h:Heap)(x:List Nat)(ld:List Nat)(t:TypeId)(p v:Option V):Option (V×Heap×List Nat×List Nat):=
 match p with
 | some (.ptr b off)=>if cfg.wr b then (v.bind fun v=>aQ P ⟨h.length,[b],h.length⟩ h t (.ptr b off) v).map fun h'=>(.no,h',b::x,ld) else none
 | _=>none
@[simp] theorem FJ{n0:Nat}{fr:List V}{h:Heap}{x:List Nat}{ld:List Nat}{t:TypeId}{p y:Operand}:bE P md call cfg n0 fr h x ld (.store t p y)=tC P cfg h x ld t (ev fr p) (ev fr y):=by
 simp only[bE,tC,opV];split
 ·rename_i b off hp;simp only[hp];split
  ·cases ev fr y with
   | none=>simp
   | some v=>simp only[Mb];cases aQ P ⟨h.length,[b],h.length⟩ h t (.ptr b off) v<;>rfl
  ·rfl
 ·rfl
@[simp] theorem FC{h:Heap}{x:List Nat}{ld:List Nat}{t:TypeId}{b off:Nat}{v:Option V}:tC P cfg h x ld t (some (.ptr b off)) v=if cfg.wr b then (v.bind fun v=>aQ P ⟨h.length,[b],h.length⟩ h t (.ptr b off) v).map fun h'=>(.no,h',b::x,ld) else none:=rfl
end
end Go.Ab
namespace Go.Ab
def jo(s:Nat)(xs:List (List V))(i:Int):Option V:=
 if 0<=i then match xs[i.toNat]? with
  | some e=>if e.length=s then some (.lptr e 0) else none
  | none=>none
 else none
def lA(s b off len c:Nat)(i:Int):Option V:=
 if 0<=i then if i.toNat<len&&s==c then some (.ptr b (off+i.toNat*c)) else none else none
def yr(s:Nat)(xs:List (List V))(lo hi:Option Nat):Option V:=
 match lo,hi with
 | some l,some r=>if decide (l<=r)&&decide (r<=xs.length)&&(l==r||(xs[l]?).map List.length==some s) then some (.lst ((xs.take r).drop l)) else none
 | _,_=>none
def wJ(s b off len cap k:Nat)(lo hi:Option Nat):Option V:=
 match lo,hi with
 | some l,some r =>
  if s=k&&decide (l<=r)&&decide (r<=len)&&decide (len<=cap) then
   if l=0 then some (.sl b off r cap k)
   else if l=r then some (.lst [])
   else some (.sl b (off+l*k) (r-l) (cap-l) k)
  else none
 | _,_=>none
def slcN(lo hi:Option Nat):Option V:=
 match lo,hi with
 | some 0,some 0=>some .nils
 | _,_=>none
def mkS(h:Heap)(s y:Nat)(z:List V)(n m:Int):Option (V×Heap):=
 if 0<=n&&n<=m&&roomy m.toNat y then some (.sl h.length 0 n.toNat m.toNat s,h++[some (br z m.toNat)]) else none
def fP(cfg:Cfg)(h:Heap)(s y:Nat)(d:V)(n:Nat)(new:List V):Option (V×Heap):=
 match d with
 | .nils=>if roomy n y then
   if n=0 then some (.nils,h) else some (.sl h.length 0 n n s,h++[some new])
  else none
 | .sl b off len cap k =>
  if k=s&&roomy (len+n) y then
   if len+n<=cap then
    match aP cfg h b (off+len*s) new with
    | some h'=>some (.sl b off (len+n) cap k,h')
    | none=>none
   else match ab h b with
    | some cs=>if off=0&&cfg.wr b&&decide (len*s<=cs.length) then
      some (.sl h.length 0 (len+n) (len+n) k,(h.set b none)++[some (cs.take (len*s)++new)])
     else none
    | none=>none
  else none
 | _=>none
def gX(cfg:Cfg)(h:Heap)(s y:Nat)(d:V)(src:Option (Nat×List V)):Option (V×Heap):=
 match src with
 | some (n,new)=>if new.all V.leaf then fP cfg h s y d n new else none
 | none=>none
def stv(cfg:Cfg)(h:Heap)(b off s:Nat)(vs:Option (List V)):Option Heap:=
 match vs with
 | some vs=>if vs.length=s then aP cfg h b off vs else none
 | none=>none
section
variable {P:Program}{cfg:Cfg}{h:Heap}{t e:TypeId}{s y:Nat}
theorem dC(hu:P.underlying t=some (.slice e))(hs:cz P e=some s){xs:List (List V)}{k:IntKind}{i:Int}:ay P t (.lst xs) (.int k i)=jo s xs i:=by
 simp only[ay,hu,hs,jo];split<;>rfl
theorem eP(hu:P.underlying t=some (.slice e))(hs:cz P e=some s){b off len cap c:Nat}{k:IntKind}{i:Int}:ay P t (.sl b off len cap c) (.int k i)=lA s b off len c i:=by
 simp only[ay,hu,hs,lA]
@[simp] theorem FK{xs:List (List V)}{i:Int}(hi:0<=i):jo s xs i=(xs[i.toNat]?).bind fun e=>if e.length=s then some (.lptr e 0) else none:=by
 simp only[jo,hi,if_true];cases xs[i.toNat]?<;>rfl
@[simp] theorem idxS_of{b off len:Nat}{i:Int}(hi:0<=i)(hl:i.toNat<len):lA s b off len s i=some (.ptr b (off+i.toNat*s)):=by
 simp[lA,hi,hl]
theorem zk{n:Nat}(hu:P.underlying t=some (.array n e))(hs:cz P e=some s){b off:Nat}{k:IntKind}{i:Int}:ay P t (.ptr b off) (.int k i)=if 0<=i then (if i.toNat<n then some (.ptr b (off+i.toNat*s)) else none) else none:=by
 simp only[ay,hu,hs]
theorem FL{n:Nat}(hu:P.underlying t=some (.array n e))(hs:cz P e=some s){cs:List V}{k:IntKind}{i:Int}:lB P t (.agg cs) (.int k i)=if 0<=i then (if i.toNat<n then part P e cs (i.toNat*s) else none) else none:=by
 simp only[lB,hu,hs]
theorem zX(hu:P.underlying t=some (.slice e))(hs:cz P e=some s){xs:List (List V)}{lo hi:Option (Option V)}:dz P h t (.lst xs) lo hi=yr s xs (bZ 0 lo) (bZ xs.length hi):=by
 simp only[dz,hu,hs,yr];cases bZ 0 lo<;>cases bZ xs.length hi<;>rfl
theorem uc(hu:P.underlying t=some (.slice e))(hs:cz P e=some s){b off len cap k:Nat}{lo hi:Option (Option V)}:dz P h t (.sl b off len cap k) lo hi=wJ s b off len cap k (bZ 0 lo) (bZ len hi):=by
 simp only[dz,hu,hs,wJ];cases bZ 0 lo<;>cases bZ len hi<;>rfl
@[simp] theorem GY{d:Nat}:bZ d none=some d:=rfl
@[simp] theorem GZ{d:Nat}{k:IntKind}{i:Int}(hi:0<=i):bZ d (some (some (.int k i)))=some i.toNat:=by simp[bZ,hi]
theorem Gx{xs:List (List V)}{l r:Nat}(h1:l<=r)(h2:r<=xs.length)(hk:∀ e∈xs,e.length=s):yr s xs (some l) (some r)=some (.lst ((xs.take r).drop l)):=by
 simp only[yr];rw[if_pos];simp only[h1,h2,decide_true,Bool.true_and,Md,beq_iff_eq];by_cases h0:l=r
 ·exact .inl h0
 ·right;have:l<xs.length:=by omega
  rw[Lc this];simp[hk _ (MG this)]
@[simp] theorem K4{k:IntKind}{l:List Int}{a b:Nat}(h1:a<=b)(h2:b<=l.length):yr 1 (l.map fun n=>[V.int k n]) (some a) (some b)=some (.lst (((l.take b).drop a).map fun n=>[V.int k n])):=by
 rw[Gx h1 (by simpa using h2) (by simp)];simp[NN,NO]
@[simp] theorem ud{b off len cap l r:Nat}(h1:l<=r)(h2:r<=len)(h3:len<=cap):wJ s b off len cap s (some l) (some r)=if l=0 then some (.sl b off r cap s) else if l=r then some (.lst []) else some (.sl b (off+l*s) (r-l) (cap-l) s):=by
 simp[wJ,h1,h2,h3]
@[simp] theorem slcN_of:slcN (some 0) (some 0)=some .nils:=rfl
theorem ya(hu:P.underlying t=some (.slice e))(hs:cz P e=some s)(hy:bytesOf P e=some y){z:V}{zc:List V}(hz:zeroOf P e=some z)(h0:cR z=zc)(hl:(zc.length==s)=true)(hp:decide (0<s)=true){n m:Int}:
  cE P h t (.int .i64 n) (.int .i64 m)=mkS h s y zc n m:=by
 subst h0;simp only[cE,hu,hs,hy,hz,mkS,hl,hp,M3]
@[simp] theorem mkS_of{z:List V}{n m:Int}(h1:0<=n)(h2:n<=m)(h3:m*y<=1099511627776)(h4:m<=1099511627776):mkS h s y z n m=some (.sl h.length 0 n.toNat m.toNat s,h++[some (br z m.toNat)]):=by
 have e1:m.toNat*y<=1099511627776:=by
  have hm:(m.toNat:Int)=m:=MX (by omega);have:((m.toNat*y:Nat):Int)=m*y:=by rw[OI,hm]
  omega
 have hr:roomy m.toNat y=true:=by simp[roomy,e1];omega
 simp[mkS,hr,h1,h2]
theorem dg(hu:P.underlying t=some (.slice e))(hs:cz P e=some s)(hy:bytesOf P e=some y)(hz:ru P e s=true)(hp:decide (0<s)=true){d x:V}:cb P cfg h t t d x=gX cfg h s y d (aZ h s x):=by
 simp only[cb,hu,hs,hy,gX];cases aZ h s x with
 | none=>rfl
 | some p =>
  obtain⟨n,new⟩:=p;simp only[hp,hz,decide_true,M3];split
  ·unfold fP;rfl
  ·rfl
@[simp] theorem Kk{d:V}{n:Nat}{new:List V}:gX cfg h s y d (some (n,new))=if new.all V.leaf then fP cfg h s y d n new else none:=rfl
theorem jT{n:Nat}{new:List V}(h1:n*y<=1099511627776)(h2:n<=1099511627776)(h3:0<n):fP cfg h s y .nils n new=some (.sl h.length 0 n n s,h++[some new]):=by
 have hr:roomy n y=true:=by simp[roomy];omega
 simp only[fP,hr,if_true];rw[if_neg (by omega)]
theorem fU{b len cap n:Nat}{cs new:List V}(hb:ab h b=some cs)(hw:cfg.wr b=true)(h1:(len+n)*y<=1099511627776)(h2:len+n<=1099511627776)(h3:cap<len+n)(h4:len*s<=cs.length):
  fP cfg h s y (.sl b 0 len cap s) n new=some (.sl h.length 0 (len+n) (len+n) s,(h.set b none)++[some (cs.take (len*s)++new)]):=by
 have hr:roomy (len+n) y=true:=by simp[roomy];omega
 simp only[fP,hr,hb,hw,h4,decide_true,M3,if_true];rw[if_neg (by omega)]
theorem dJ(hu:P.underlying t=some (.slice e)){xs:List (List V)}:dy P t (.lst xs)=some (.int .i64 xs.length):=by simp only[dy,hu]
theorem gL(hu:P.underlying t=some (.slice e)){b off len cap k:Nat}:dy P t (.sl b off len cap k)=some (.int .i64 len):=by simp only[dy,hu]
theorem ml(hu:P.underlying t=some (.slice e)):dy P t .nils=some (.int .i64 0):=by simp only[dy,hu]
theorem bM(ha:oC P t=some false){cs:List V}{off:Nat}:part P t cs off=slot cs off:=by simp only[part,ha,slot]
theorem cj(ha:oC P t=some true)(hs:cz P t=some s){cs:List V}{off:Nat}:part P t cs off=if off+s<=cs.length then some (.agg ((cs.drop off).take s)) else none:=by simp only[part,ha,hs]
@[simp] theorem KH{b off:Nat}:fE P h t (.ptr b off)=(ab h b).bind fun cs=>part P t cs off:=by
 simp only[fE];cases ab h b<;>rfl
@[simp] theorem Ja{cs:List V}{off:Nat}:fE P h t (.lptr cs off)=part P t cs off:=rfl
theorem aR(hs:cz P t=some s){b off:Nat}{v:V}:aQ P cfg h t (.ptr b off) v=stv cfg h b off s (cellsOf v):=by
 simp only[aQ,hs,stv];cases cellsOf v<;>rfl
@[simp] theorem Ed{b off:Nat}{vs:List V}:stv cfg h b off s (some vs)=if vs.length=s then aP cfg h b off vs else none:=rfl
@[simp] theorem gT{b off:Nat}{vs:List V}:aP cfg h b off vs=(ab h b).bind fun cs=>if off+vs.length<=cs.length&&cfg.wr b&&(decide (cfg.thr<=b)||vs.all V.rf) then some (h.set b (some (putAt cs off vs))) else none:=by
 simp only[aP];cases ab h b<;>rfl
@[simp] theorem KY{cs:List V}{off:Nat}:putAt cs off []=cs:=rfl
@[simp] theorem yl{cs r:List V}{off:Nat}{v:V}:putAt cs off (v::r)=putAt (bz cs off v) (off+1) r:=rfl
@[simp] theorem G2{k:IntKind}{i:Int}:cellsOf (.int k i)=some [.int k i]:=rfl
@[simp] theorem E5{b:Bool}:cellsOf (.bool b)=some [.bool b]:=rfl
@[simp] theorem G5{x:ByteArray}:cellsOf (.str x)=some [.str x]:=rfl
@[simp] theorem G3{xs:List (List V)}:cellsOf (.lst xs)=some [.lst xs]:=rfl
@[simp] theorem E8:cellsOf .nils=some [.nils]:=rfl
@[simp] theorem E7:cellsOf .nilp=some [.nilp]:=rfl
@[simp] theorem G4{b off:Nat}:cellsOf (.ptr b off)=some [.ptr b off]:=rfl
@[simp] theorem Ib{a b c d e:Nat}:cellsOf (.sl a b c d e)=some [.sl a b c d e]:=rfl
@[simp] theorem E6{f:Fn}{a b:List V}:cellsOf (.func f a b)=some [.func f a b]:=rfl
@[simp] theorem G1{cs:List V}:cellsOf (.agg cs)=if cs.all V.leaf then some cs else none:=rfl
@[simp] theorem leaf_int{k:IntKind}{i:Int}:(V.int k i).leaf=true:=rfl
@[simp] theorem KD{b:Bool}:(V.bool b).leaf=true:=rfl
@[simp] theorem leaf_str{x:ByteArray}:(V.str x).leaf=true:=rfl
@[simp] theorem leaf_lst{xs:List (List V)}:(V.lst xs).leaf=true:=rfl
@[simp] theorem KG:V.nils.leaf=true:=rfl
@[simp] theorem KF:V.nilp.leaf=true:=rfl
@[simp] theorem leaf_ptr{b off:Nat}:(V.ptr b off).leaf=true:=rfl
@[simp] theorem leaf_sl{a b c d e:Nat}:(V.sl a b c d e).leaf=true:=rfl
@[simp] theorem KE{f:Fn}{a b:List V}:(V.func f a b).leaf=true:=rfl
@[simp] theorem rf_int{k:IntKind}{i:Int}:(V.int k i).rf=true:=rfl
@[simp] theorem rf_bool{b:Bool}:(V.bool b).rf=true:=rfl
@[simp] theorem rf_str{x:ByteArray}:(V.str x).rf=true:=rfl
@[simp] theorem rf_lst{xs:List (List V)}:(V.lst xs).rf=true:=rfl
@[simp] theorem rf_nils:V.nils.rf=true:=rfl
@[simp] theorem rf_nilp:V.nilp.rf=true:=rfl
@[simp] theorem rf_ptr{b off:Nat}:(V.ptr b off).rf=false:=rfl
@[simp] theorem rf_sl{a b c d e:Nat}:(V.sl a b c d e).rf=false:=rfl
@[simp] theorem KJ{k:IntKind}{i:Int}:(V.int k i).noref=true:=rfl
@[simp] theorem Ji{b:Bool}:(V.bool b).noref=true:=rfl
@[simp] theorem KM{x:ByteArray}:(V.str x).noref=true:=rfl
@[simp] theorem KK{xs:List (List V)}:(V.lst xs).noref=true:=rfl
@[simp] theorem Jj:V.nils.noref=true:=rfl
@[simp] theorem KI{cs:List V}:(V.agg cs).noref=cs.all V.rf:=rfl
@[simp] theorem KL{b off:Nat}:(V.ptr b off).noref=false:=rfl
@[simp] theorem noref_sl{a b c d e:Nat}:(V.sl a b c d e).noref=false:=rfl
@[simp] theorem J7{cs:List V}:cR (.agg cs)=cs:=rfl
@[simp] theorem J8{k:IntKind}{i:Int}:cR (.int k i)=[.int k i]:=rfl
@[simp] theorem HI{b:Bool}:cR (.bool b)=[.bool b]:=rfl
@[simp] theorem J9{x:ByteArray}:cR (.str x)=[.str x]:=rfl
@[simp] theorem HM:cR .nils=[.nils]:=rfl
@[simp] theorem HK:cR .nilp=[.nilp]:=rfl
@[simp] theorem HJ:cR .nilf=[.nilf]:=rfl
@[simp] theorem wr_pure{b:Nat}:(Cfg.wr ⟨0,[],0⟩ b)=true:=by simp[Cfg.wr]
theorem bq{lo b thr:Nat}{ex:List Nat}(hb:lo<=b):(Cfg.wr ⟨lo,ex,thr⟩ b)=true:=by simp[Cfg.wr,hb]
theorem jn{lo b thr:Nat}:(Cfg.wr ⟨lo,[b],thr⟩ b)=true:=by simp[Cfg.wr]
@[simp] theorem GX{b:Nat}:ab [] b=none:=rfl
@[simp] theorem Ku:isMap []=false:=rfl
@[simp] theorem Ks{k:IntKind}{i:Int}{r:List V}:isMap (.int k i::r)=false:=rfl
@[simp] theorem IQ{b:Bool}{r:List V}:isMap (.bool b::r)=false:=rfl
@[simp] theorem Kw{x:ByteArray}{r:List V}:isMap (.str x::r)=false:=rfl
@[simp] theorem Kt{xs:List (List V)}{r:List V}:isMap (.lst xs::r)=false:=rfl
@[simp] theorem IV{r:List V}:isMap (.nils::r)=false:=rfl
@[simp] theorem IU{r:List V}:isMap (.nilp::r)=false:=rfl
@[simp] theorem isMap_sl{a b c d e:Nat}{r:List V}:isMap (.sl a b c d e::r)=false:=rfl
@[simp] theorem Kv{a b:Nat}{r:List V}:isMap (.ptr a b::r)=false:=rfl
@[simp] theorem IT{f:Fn}{a b r:List V}:isMap (.func f a b::r)=false:=rfl
@[simp] theorem dN{k:IntKind}{l:List Int}:isMap (l.map (V.int k))=false:=by cases l<;>rfl
@[simp] theorem vI{l:List Bool}:isMap (l.map V.bool)=false:=by cases l<;>rfl
@[simp] theorem nX{k:IntKind}{l:List Int}{r:List V}(h:isMap r=false):isMap (l.map (V.int k)++r)=false:=by cases l<;>first|exact h|rfl
@[simp] theorem isMap_mp{k e:IntKind}{l:List (Int×Int)}{r:List V}:isMap (.mp k e l::r)=true:=rfl
@[simp] theorem lR{cs:List V}{r:Heap}:ab (some cs::r) 0=if isMap cs then none else some cs:=rfl
@[simp] theorem dW{x:Option (List V)}{r:Heap}{b:Nat}:ab (x::r) (b+1)=ab r b:=by simp[ab]
@[simp] theorem uF{h:Heap}{cs:List V}{r:Heap}:ab (h++some cs::r) h.length=if isMap cs then none else some cs:=by simp[ab]
@[simp] theorem bx{h r:Heap}{k:Nat}:ab (h++r) (h.length+k)=ab r k:=by simp[ab,Lk]
@[simp] theorem aj{h r:Heap}{b:Nat}(hb:b<h.length):ab (h++r) b=ab h b:=by simp[ab,Lf hb]
@[simp] theorem du{h:Heap}{b:Nat}{cs:List V}(hb:b<h.length):ab (h.set b (some cs)) b=if isMap cs then none else some cs:=by simp[ab,hb]
@[simp] theorem ak{h:Heap}{b c:Nat}{x:Option (List V)}(hb:b≠c):ab (h.set b x) c=ab h c:=by simp[ab,Li hb]
theorem al{h:Heap}{b:Nat}{cs:List V}(hb:ab h b=some cs):b<h.length:=(Ld.1 (aB hb)).1
@[simp] theorem Gw{h r:Heap}{x y:Option (List V)}:(h++x::r).set h.length y=h++y::r:=by rw[LU _ _ (Lh _)];simp
@[simp] theorem HF{h r:Heap}{y:Option (List V)}{k:Nat}:(h++r).set (h.length+k) y=h++r.set k y:=by rw[LU _ _ (by omega)];simp
@[simp] theorem bw{h:Heap}{cs:List V}{r:Heap}{b:Nat}(hb:b=h.length):ab (h++some cs::r) b=if isMap cs then none else some cs:=by subst hb;simp
@[simp] theorem set_len'{h r:Heap}{x y:Option (List V)}{b:Nat}(hb:b=h.length):(h++x::r).set b y=h++y::r:=by subst hb;simp
@[simp] theorem set_left{h r:Heap}{y:Option (List V)}{b:Nat}(hb:b<h.length):(h++r).set b y=h.set b y++r:=L5 _ _ hb
theorem dF{k:IntKind}{i:Int}:∀ n:Nat,br [V.int k i] n=(List.replicate n i).map (V.int k)
 | 0=>rfl
 | n+1=>by simp[br,dF n,MH]
@[simp] theorem K0{k:IntKind}{l:List Int}{i:Nat}{v:Int}:bz (l.map (V.int k)) i (.int k v)=(l.set i v).map (V.int k):=by simp[bz,MB]
@[simp] theorem K5{k:IntKind}{l:List Int}{i:Nat}:slot (l.map (V.int k)) i=(l[i]?).map (V.int k):=by simp[slot]
@[simp] theorem Hs{l:List V}{i:Nat}{v:V}:(bz l i v).length=l.length:=by simp[bz]
theorem ints_set{k:IntKind}{l:List Int}{i:Nat}{v:Int}:(l.map (V.int k)).set i (.int k v)=(l.set i v).map (V.int k):=by simp[MB]
@[simp] theorem Gz{xs:List (List V)}:aZ h s (.lst xs)=if xs.all (fun e=>e.length==s) then some (xs.length,xs.flatten) else none:=rfl
@[simp] theorem EP:aZ h s .nils=some (0,[]):=rfl
def srcO(s off len:Nat):Option (List V)->Option (Nat×List V)
 | some cs=>if off+len*s<=cs.length then some (len,(cs.drop off).take (len*s)) else none
 | none=>if len=0 then some (0,[]) else none
@[simp] theorem K8{off len:Nat}{cs:List V}:srcO s off len (some cs)=if off+len*s<=cs.length then some (len,(cs.drop off).take (len*s)) else none:=rfl
@[simp] theorem wU{b off len cap:Nat}:aZ h s (.sl b off len cap s)=srcO s off len (ab h b):=by
 simp only[aZ];cases ab h b with
 | none=>rfl
 | some cs=>simp
@[simp] theorem G9{fr:List V}:dh fr []=some []:=rfl
@[simp] theorem Fh{fr:List V}{j:Nat}{x:Operand}{r:List (Nat×Operand)}:dh fr ((j,x)::r)=(ev fr x).bind fun v=>(dh fr r).map ((j,v)::·):=by
 simp only[dh];cases ev fr x with
 | none=>rfl
 | some v=>cases dh fr r<;>rfl
@[simp] theorem HA{fr:List V}{i:Nat}:bc fr i []=some []:=rfl
@[simp] theorem Gg{fr:List V}{i j:Nat}{x:Operand}{r:List (Nat×Operand)}:bc fr i ((j,x)::r)=if i=j then (ev fr x).bind fun v=>(bc fr (i+1) r).map (v::·) else none:=by
 simp only[bc];split
 ·cases ev fr x with
  | none=>rfl
  | some v=>cases bc fr (i+1) r<;>rfl
 ·rfl
theorem aY(hu:P.underlying t=some (.slice e))(hs:cz P e=some s)(hz:(zeroOf P e).isSome=true)(hp:decide (0<s)=true){len:Nat}{vs:List V}:aI P h t len vs=(bf s vs).bind fun cs=>if vs.length=len&&decide (len*s<=16777216) then some (.sl h.length 0 len len s,h++[some cs]) else none:=by
 simp only[aI,hu,hs];cases bf s vs with
 | none=>rfl
 | some cs =>
  simp only[Mb,hz,hp,M3]
@[simp] theorem E4:bf s []=some []:=rfl
@[simp] theorem EH{v:V}{r:List V}:bf s (v::r)=(cellsOf v).bind fun cs=>if cs.length=s then (bf s r).map (cs++·) else none:=by
 simp only[bf];cases cellsOf v with
 | none=>rfl
 | some cs =>
  simp only[Mb];split
  ·cases bf s r<;>rfl
  ·rfl
@[simp] theorem Kn{pl:Nat->Option (Nat×Nat)}{cs:List V}:cI pl cs []=some cs:=rfl
@[simp] theorem Iq{pl:Nat->Option (Nat×Nat)}{cs:List V}{i:Nat}{v:V}{r:List (Nat×V)}:cI pl cs ((i,v)::r)=(pl i).bind fun q=>(cellsOf v).bind fun vs=>if vs.length=q.2&&decide (q.1+q.2<=cs.length) then cI pl (putAt cs q.1 vs) r else none:=by
 simp only[cI];cases pl i with
 | none=>rfl
 | some q =>
  obtain⟨off,s⟩:=q;cases cellsOf v with
  | none=>rfl
  | some vs=>rfl
theorem bU{fields:Array Field}{z:List V}{pl:Nat->Option (Nat×Nat)}(hz:zeroOf P t=some (.agg z))(hu:P.underlying t=some (.struct fields))(ha:pA P fields=true)(h0:∀ i,placesOf P fields i=pl i){ps:List (Nat×V)}:cp P t ps=(cI pl z ps).map .agg:=by
 obtain rfl:placesOf P fields=pl:=funext h0;simp only[cp,hz,hu,ha,if_true]
theorem AB{n:Nat}{z:List V}(hz:zeroOf P t=some (.agg z))(hu:P.underlying t=some (.array n e))(hs:cz P e=some s){ps:List (Nat×V)}:cp P t ps=(cI (fun i=>some (i*s,s)) z ps).map .agg:=by
 simp only[cp,hz,hu,hs]
@[simp] theorem binV_add{k:IntKind}{a b:Int}:cJ P .add t (.int k a) (.int k b)=bO .add k a b:=by simp[cJ]
@[simp] theorem binV_sub{k:IntKind}{a b:Int}:cJ P .sub t (.int k a) (.int k b)=bO .sub k a b:=by simp[cJ]
@[simp] theorem binV_mul{k:IntKind}{a b:Int}:cJ P .mul t (.int k a) (.int k b)=bO .mul k a b:=by simp[cJ]
@[simp] theorem binV_quo{k:IntKind}{a b:Int}:cJ P .quo t (.int k a) (.int k b)=bO .quo k a b:=by simp[cJ]
@[simp] theorem binV_rem{k:IntKind}{a b:Int}:cJ P .rem t (.int k a) (.int k b)=bO .rem k a b:=by simp[cJ]
@[simp] theorem binV_and{k:IntKind}{a b:Int}:cJ P .and t (.int k a) (.int k b)=bO .and k a b:=by simp[cJ]
@[simp] theorem binV_or{k:IntKind}{a b:Int}:cJ P .or t (.int k a) (.int k b)=bO .or k a b:=by simp[cJ]
@[simp] theorem binV_xor{k:IntKind}{a b:Int}:cJ P .xor t (.int k a) (.int k b)=bO .xor k a b:=by simp[cJ]
@[simp] theorem GU{k:IntKind}{a b:Int}:cJ P .andNot t (.int k a) (.int k b)=bO .andNot k a b:=by simp[cJ]
@[simp] theorem binV_eql{k:IntKind}{a b:Int}:cJ P .eql t (.int k a) (.int k b)=bO .eql k a b:=by simp[cJ]
@[simp] theorem binV_neq{k:IntKind}{a b:Int}:cJ P .neq t (.int k a) (.int k b)=bO .neq k a b:=by simp[cJ]
@[simp] theorem binV_lss{k:IntKind}{a b:Int}:cJ P .lss t (.int k a) (.int k b)=bO .lss k a b:=by simp[cJ]
@[simp] theorem binV_leq{k:IntKind}{a b:Int}:cJ P .leq t (.int k a) (.int k b)=bO .leq k a b:=by simp[cJ]
@[simp] theorem binV_gtr{k:IntKind}{a b:Int}:cJ P .gtr t (.int k a) (.int k b)=bO .gtr k a b:=by simp[cJ]
@[simp] theorem binV_geq{k:IntKind}{a b:Int}:cJ P .geq t (.int k a) (.int k b)=bO .geq k a b:=by simp[cJ]
@[simp] theorem binV_shl{k k':IntKind}{a b:Int}(hb:¬ b<0):cJ P .shl t (.int k a) (.int k' b)=some (.int k (k.wrap (a*2 ^ (min b.toNat k.bits)))):=by simp[cJ,hb]
@[simp] theorem binV_shr{k k':IntKind}{a b:Int}(hb:¬ b<0):cJ P .shr t (.int k a) (.int k' b)=some (.int k (a.fdiv (2 ^ (min b.toNat k.bits)))):=by simp[cJ,hb]
@[simp] theorem IC{k:IntKind}{a b:Int}:bO .add k a b=some (.int k (k.wrap (a+b))):=rfl
@[simp] theorem IP{k:IntKind}{a b:Int}:bO .sub k a b=some (.int k (k.wrap (a-b))):=rfl
@[simp] theorem IJ{k:IntKind}{a b:Int}:bO .mul k a b=some (.int k (k.wrap (a*b))):=rfl
@[simp] theorem IL{k:IntKind}{a b:Int}(hb:¬ b=0):bO .quo k a b=some (.int k (k.wrap (a.tdiv b))):=by simp[bO,hb]
@[simp] theorem IM{k:IntKind}{a b:Int}(hb:¬ b=0):bO .rem k a b=some (.int k (a.tmod b)):=by simp[bO,hb]
@[simp] theorem ID{k:IntKind}{a b:Int}:bO .eql k a b=some (.bool (decide (a=b))):=by simp[bO];rw[Bool.eq_iff_iff];simp
@[simp] theorem IK{k:IntKind}{a b:Int}:bO .neq k a b=some (.bool (!decide (a=b))):=by simp[bO];rw[Bool.eq_iff_iff];simp
@[simp] theorem II{k:IntKind}{a b:Int}:bO .lss k a b=some (.bool (decide (a<b))):=rfl
@[simp] theorem IH{k:IntKind}{a b:Int}:bO .leq k a b=some (.bool (decide (a<=b))):=rfl
@[simp] theorem IG{k:IntKind}{a b:Int}:bO .gtr k a b=some (.bool (decide (b<a))):=rfl
@[simp] theorem IE{k:IntKind}{a b:Int}:bO .geq k a b=some (.bool (decide (b<=a))):=rfl
@[simp] theorem unV_not{b:Bool}:unV .not (.bool b)=some (.bool !b):=rfl
@[simp] theorem unV_neg{k:IntKind}{a:Int}:unV .neg (.int k a)=some (.int k (k.wrap (0-a))):=rfl
@[simp] theorem Fi{vs:List V}{i:Nat}:ie (.tup vs) i=slot vs i:=rfl
@[simp] theorem EM{b off:Nat}:fh (.ptr b off)=some (.ptr b off):=rfl
@[simp] theorem Du{cs:List V}{off:Nat}:fh (.lptr cs off)=some (.lptr cs off):=rfl
@[simp] theorem Dt{f:FuncId}{a c:List V}:fh (.func (.func f) a c)=some (.func (.func f) a c):=rfl
@[simp] theorem get_zero{α:Type}{a:α}{l:List α}:(a::l)[0]?=some a:=rfl
@[simp] theorem Ee{a b:Nat}:((a:Int)+(b:Int)).toNat=a+b:=by omega
@[simp] theorem yE{a b:Nat}:((a:Int)+(no_index (OfNat.ofNat b):Int)).toNat=a+(no_index (OfNat.ofNat b):Nat):=by
 show ((a:Int)+(b:Int)).toNat=a+b;omega
@[simp] theorem cast_eq{a b:Nat}:((a:Int)=(b:Int))↔a=b:=Int.ofNat_inj
theorem wrap64{x:Int}(h1:-9223372036854775808<=x)(h2:x<=9223372036854775807):IntKind.i64.wrap x=x:=by
 have:=IntWalk.i64_in x ⟨h1,h2⟩;exact this
inductive LK where
 | int
 | bool
 | str
def flatK:List LK->List V->List V->Option Bool
 | [],[],[]=>some true
 | .int::ks,.int k a::x,.int k' b::y=>if k=k' then (if a==b then flatK ks x y else some false) else none
 | .bool::ks,.bool a::x,.bool b::y=>if a==b then flatK ks x y else some false
 | .str::ks,.str a::x,.str b::y=>if a.toList==b.toList then flatK ks x y else some false
 | _,_,_=>none
def chk(P:Program):Nat->List Field->List LK->Bool
 | _,[],[]=>true
 | i, f :: fs, k :: ks => (f.offset == i) && !(f.name == "_") && (match P.underlying f.type, k with
  | some (.int _),.int=>true
  | some .bool,.bool=>true
  | some .string,.str=>true
  | _,_=>false)&&chk P (i+1) fs ks
 | _,_,_=>false
theorem zd:∀ (fs:List Field) (ks:List LK) (i:Nat) (xs ys:List V),chk P i fs ks=true->gu P i fs xs ys=flatK ks xs ys
 | [],[],i,xs,ys,_=>by
  cases xs<;>cases ys<;>rfl
 | [],_::_,i,xs,ys,hc=>by simp[chk]at hc
 | f::fs,[],i,xs,ys,hc=>by simp[chk]at hc
 | f::fs,k::ks,i,xs,ys,hc=>by
  simp only[chk,Lq,beq_iff_eq,Mx]at hc;obtain⟨⟨⟨h1,h2⟩,h3⟩,h4⟩:=hc;have ih:=zd fs ks (i+1);cases xs with
  | nil=>cases k<;>rfl
  | cons a x =>
   cases ys with
   | nil=>cases k<;>cases a<;>rfl
   | cons b y =>
    have ih:=ih x y h4;simp only[gu,h1,h2,decide_true,Bool.not_false,M3,if_true];cases hu:P.underlying f.type with
    | none=>simp[hu]at h3
    | some d =>
     rw[hu]at h3;cases d<;>cases k<;>simp only[LH]at h3
     all_goals
      simp only[qC,hu];cases a<;>cases b<;>simp only[flatK]<;>try rfl
     ·rename_i a1 b1;cases h0:(a1==b1)<;>simp[ih]
     ·rename_i k1 a1 k2 b1;by_cases hk:k1=k2
      ·simp only[hk,if_true];cases h0:(a1==b1)<;>simp[ih]
      ·simp only[hk,if_false]
     ·rename_i a1 b1;cases h0:(a1.toList==b1.toList)<;>simp[ih]
theorem uL{fields:Array Field}{ks:List LK}(hu:P.underlying t=some (.struct fields))(h1:P.stoodInHeld t=false)(h2:P.eqGuardType P.depth t=false)(hc:chk P 0 fields.toList ks=true){xs ys:List V}:eqV P t (.agg xs) (.agg ys)=flatK ks xs ys:=by
 simp only[eqV,hu,h1,h2,Bool.not_false,OG,if_true];exact zd _ _ _ _ _ hc
@[simp] theorem Ko:flatK [] [] []=some true:=rfl
@[simp] theorem flatK_1{k:IntKind}{a b:Int}:flatK [.int] [.int k a] [.int k b]=some (decide (a=b)):=by
 by_cases h:a=b<;>simp[flatK,h]
@[simp] theorem flatK_2{k k2:IntKind}{a b a2 b2:Int}:flatK [.int,.int] [.int k a,.int k2 a2] [.int k b,.int k2 b2]=some (decide (a=b)&&decide (a2=b2)):=by
 by_cases h:a=b<;>by_cases h2:a2=b2<;>simp[flatK,h,h2]
@[simp] theorem flatK_3{k k2 k3:IntKind}{a b a2 b2 a3 b3:Int}:flatK [.int,.int,.int] [.int k a,.int k2 a2,.int k3 a3] [.int k b,.int k2 b2,.int k3 b3]=some (decide (a=b)&&(decide (a2=b2)&&decide (a3=b3))):=by
 by_cases h:a=b<;>by_cases h2:a2=b2<;>by_cases h3:a3=b3<;>simp[flatK,h,h2,h3]
@[simp] theorem flatK_4{k k2 k3 k4:IntKind}{a b a2 b2 a3 b3 a4 b4:Int}:flatK [.int,.int,.int,.int] [.int k a,.int k2 a2,.int k3 a3,.int k4 a4] [.int k b,.int k2 b2,.int k3 b3,.int k4 b4]=some (decide (a=b)&&(decide (a2=b2)&&(decide (a3=b3)&&decide (a4=b4)))):=by
 by_cases h:a=b<;>by_cases h2:a2=b2<;>by_cases h3:a3=b3<;>by_cases h4:a4=b4<;>simp[flatK,h,h2,h3,h4]
@[simp] theorem HW{xs ys:List V}:cJ P .eql t (.agg xs) (.agg ys)=(eqV P t (.agg xs) (.agg ys)).map .bool:=by
 simp only[cJ];cases eqV P t (.agg xs) (.agg ys)<;>rfl
@[simp] theorem GW{xs ys:List V}:cJ P .neq t (.agg xs) (.agg ys)=(eqV P t (.agg xs) (.agg ys)).map fun b=>.bool !b:=by
 simp only[cJ];cases eqV P t (.agg xs) (.agg ys)<;>rfl
theorem AN(hu:P.underlying t=some .bool){a b:Bool}:eqV P t (.bool a) (.bool b)=some (a==b):=by simp only[eqV,hu]
@[simp] theorem GV{a b:Bool}:cJ P .eql t (.bool a) (.bool b)=(eqV P t (.bool a) (.bool b)).map .bool:=by
 simp only[cJ];cases eqV P t (.bool a) (.bool b)<;>rfl
@[simp] theorem EV{a b:Bool}:cJ P .neq t (.bool a) (.bool b)=(eqV P t (.bool a) (.bool b)).map fun b=>.bool !b:=by
 simp only[cJ];cases eqV P t (.bool a) (.bool b)<;>rfl
@[simp] theorem frz_int{n d:Nat}{k:IntKind}{i:Int}:frz h n (d+1) (.int k i)=some (.int k i):=rfl
@[simp] theorem frz_bool{n d:Nat}{b:Bool}:frz h n (d+1) (.bool b)=some (.bool b):=rfl
@[simp] theorem frz_str{n d:Nat}{x:ByteArray}:frz h n (d+1) (.str x)=some (.str x):=rfl
@[simp] theorem frz_lst{n d:Nat}{xs:List (List V)}:frz h n (d+1) (.lst xs)=some (.lst xs):=rfl
@[simp] theorem frz_nils{n d:Nat}:frz h n (d+1) .nils=some (.lst []):=rfl
@[simp] theorem frz_nilp{n d:Nat}:frz h n (d+1) .nilp=some .nilp:=rfl
@[simp] theorem frz_no{n d:Nat}:frz h n (d+1) .no=some .no:=rfl
@[simp] theorem Fv{n d:Nat}{cs:List V}:frz h n (d+1) (.agg cs)=(cs.mapM (frz h n d)).map .agg:=by
 simp only[frz];cases cs.mapM (frz h n d)<;>rfl
@[simp] theorem frz_tup{n d:Nat}{cs:List V}:frz h n (d+1) (.tup cs)=(cs.mapM (frz h n d)).map .tup:=by
 simp only[frz];cases cs.mapM (frz h n d)<;>rfl
theorem fy{n d:Nat}{k:IntKind}:∀ (l:List Int),(l.map (V.int k)).mapM (frz h n (d+1))=some (l.map (V.int k))
 | []=>rfl
 | x::l=>by simp[MC,fy l]
theorem ia:∀ (l:List V),chunk 1 l.length l=l.map fun v=>[v]
 | []=>rfl
 | x::l=>by simp[chunk,ia l]
theorem iR{n d b off len cap k:Nat}:frz h n (d+1) (.sl b off len cap k)=if b<n then some (.sl b off len cap k)
   else match ab h b with
    | some cs=>if off+len*k<=cs.length then
      match ((cs.drop off).take (len*k)).mapM (frz h n d) with
      | some cs'=>if cs'.all V.rf then some (.lst (chunk k len cs')) else none
      | none=>none
     else none
    | none=>none:=by simp only[frz];rfl
theorem dx{n d b len cap:Nat}{k:IntKind}{l:List Int}(hb:ab h b=some (l.map (V.int k)))(hn:n<=b)(hl:l.length=len):frz h n (d+2) (.sl b 0 len cap 1)=some (.lst (l.map fun x=>[.int k x])):=by
 subst hl;have e:¬ b<n:=by omega
 have e2:List.take (l.length*1) (l.map (V.int k))=l.map (V.int k):=Lu (by simp);have e3:chunk 1 l.length (l.map (V.int k))=l.map fun x=>[V.int k x]:=by
  have:=ia (l.map (V.int k));simp only[MQ,Oe]at this;exact this
 have e4:(l.map (V.int k)).all V.rf=true:=by simp[Lp]
 rw[iR];simp only[e,if_false,hb,ML,e2,fy,e3,e4,if_true];rw[if_pos (by simp)]
theorem we{d b len cap:Nat}{k:IntKind}{l:List Int}(hb:ab h b=some (l.map (V.int k))):own h (d+2) (.sl b 0 len cap 1)=true:=by
 simp only[own,hb,ML];rw[Lp];intro c hc;obtain⟨x,_,rfl⟩:=Mp.1 (Mz hc);rfl
end
end Go.Ab
