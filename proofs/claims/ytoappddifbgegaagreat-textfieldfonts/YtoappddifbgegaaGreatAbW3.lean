/- Several texts of this proof in one. -/
import Derived.Test.YtoappddifbgegaaGreatAbW
set_option linter.all false
namespace Go.Ab
def Dx(o:Option (List V))(h:Heap)[R:Hid (V->Heap->Prop)]:Prop:=∃ vs,o=some vs/\R.val (oneOf vs) h
def kFn(P:Program)[rs:Hid (List ResultVar)][R:Hid (V->Heap->Prop)](e:Ex)(fr:List V)(h:Heap):Prop:=
 match e with
 | .exit _=>False
 | _=>@Dx (gH P fr h rs.val) h R
section
variable {P:Program}{md:FuncId->Nat}{call:aF}{cfg:Cfg}{n:Nat}{prim:FuncId->Option Prim}
@[simp] theorem kFn_ret{rs:List ResultVar}{R:V->Heap->Prop}{fr:List V}{h:Heap}:@kFn P ⟨rs⟩ ⟨R⟩ .ret fr h↔@Dx (gH P fr h rs) h ⟨R⟩:=Mt
@[simp] theorem Jb{rs:List ResultVar}{R:V->Heap->Prop}{fr:List V}{h:Heap}:@kFn P ⟨rs⟩ ⟨R⟩ .normal fr h↔@Dx (gH P fr h rs) h ⟨R⟩:=Mt
@[simp] theorem Kr{vs:List V}{h:Heap}{R:V->Heap->Prop}:@Dx (some vs) h ⟨R⟩↔R (oneOf vs) h:=by simp[Dx]
@[simp] theorem KH{v:V}:oneOf [v]=v:=rfl
@[simp] theorem KI{v u:V}{r:List V}:oneOf (v::u::r)=.tup (v::u::r):=rfl
@[simp] theorem KG:oneOf []=.tup []:=rfl
@[simp] theorem resV_nil{fr:List V}{h:Heap}:gH P fr h []=some []:=rfl
@[simp] theorem resV_tmp{fr:List V}{h:Heap}{t:Tmp}{r:List ResultVar}:gH P fr h (.tmp t::r)=(slot fr t).bind fun v=>(gH P fr h r).map (v::·):=by
 simp only[gH,slot];cases fr[t]? with
 | none=>rfl
 | some v=>cases gH P fr h r<;>rfl
@[simp] theorem KQ{fr:List V}{h:Heap}{a:Tmp}{t:TypeId}{r:List ResultVar}:gH P fr h (.cell a t::r)=(slot fr a).bind fun p=>(ej P h t p).bind fun v=>(gH P fr h r).map (v::·):=by
 simp only[gH,slot];cases fr[a]? with
 | none=>rfl
 | some p =>
  simp only[Md];cases ej P h t p with
  | none=>rfl
  | some v=>cases gH P fr h r<;>rfl
theorem cn{d:Nat}{f:FuncId}{fn:Func}{c:Code}{k:Nat}{rs:List ResultVar}{args:List V}{h:Heap}{R:V->Heap->Prop}(hp:prim f=none)(hf:P.funcs[f]?=some fn)(hb:fn.body=some c)(hk:fn.ntmps=k)
  (hr:fn.results.toList=rs) (hw:@wC P md (aH P md prim n d) cfg n ⟨c⟩ (args++List.replicate (k-args.length) .no) h ⟨@kFn P ⟨rs⟩ ⟨R⟩⟩):
  ∃ r h',aH P md prim n (d+1) cfg f args h=some (r,h')/\R r h':=by
 subst hk;subst hr;obtain⟨⟨e,fr,h'⟩,h1,h2⟩:=hw;replace h1:code P md (aH P md prim n d) (ez P md (aH P md prim n d)) cfg n c (args++List.replicate (fn.ntmps-args.length) V.no) h=some (e,fr,h'):=h1;simp only[aH,hp,hf,xZ,hb,h1];cases e with
 | exit i=>exact h2.elim
 | normal =>
  obtain⟨vs,h3,h4⟩:=h2
  grind
 | ret =>
  obtain⟨vs,h3,h4⟩:=h2
  grind
theorem aP{d:Nat}{f:FuncId}{fn:Func}{c:Code}{k:Nat}{rs:List ResultVar}{args:List V}{h:Heap}{r:V}(hm:md f=0)(hp:prim f=none)(hf:P.funcs[f]?=some fn)(hb:fn.body=some c)(hk:fn.ntmps=k)
  (hr:fn.results.toList=rs) (ha:args.all V.noref=true)
  (hw:@wC P md (aH P md prim n d) ⟨0,[],0⟩ n ⟨c⟩ (args++List.replicate (k-args.length) .no) [] ⟨@kFn P ⟨rs⟩ ⟨fun r' h'=>frz h' 0 6 r'=some r⟩⟩):
  af md (aH P md prim n (d+1)) cfg f args h=some (r,h):=by
 obtain⟨r',h',h1,h2⟩:=cn hp hf hb hk hr hw;simp_all[af,if_true]
theorem call1{d:Nat}{f:FuncId}{fn:Func}{c:Code}{k:Nat}{rs:List ResultVar}{args:List V}{h h2:Heap}{r:V}(hm:md f=1)(hp:prim f=none)(hf:P.funcs[f]?=some fn)(hb:fn.body=some c)(hk:fn.ntmps=k)
  (hr:fn.results.toList=rs)
  (hw:@wC P md (aH P md prim n d) ⟨cfg.lo,cfg.ex,h.length⟩ n ⟨c⟩ (args++List.replicate (k-args.length) .no) h ⟨@kFn P ⟨rs⟩ ⟨fun r' h'=>frz h' h.length 6 r'=some r/\h'.take h.length=h2⟩⟩):
  af md (aH P md prim n (d+1)) cfg f args h=some (r,h2):=by
 obtain⟨r',h',h1,h2,h3⟩:=cn hp hf hb hk hr hw
 grind[af]
theorem call2{d:Nat}{f:FuncId}{fn:Func}{c:Code}{k:Nat}{rs:List ResultVar}{args:List V}{h h2:Heap}{r:V}(hm:md f=2)(hp:prim f=none)(hf:P.funcs[f]?=some fn)(hb:fn.body=some c)(hk:fn.ntmps=k)
  (hr:fn.results.toList=rs)
  (hw:@wC P md (aH P md prim n d) cfg n ⟨c⟩ (args++List.replicate (k-args.length) .no) h ⟨@kFn P ⟨rs⟩ ⟨fun r' h'=>r'=r/\h'=h2⟩⟩):
  af md (aH P md prim n (d+1)) cfg f args h=some (r,h2):=by
 obtain⟨r',h',h1,rfl,rfl⟩:=cn hp hf hb hk hr hw
 grind[af]
theorem call3{d:Nat}{f:FuncId}{fn:Func}{c:Code}{k:Nat}{rs:List ResultVar}{args args':List V}{h:Heap}{r:V}(hm:md f=3)(hp:prim f=none)(hf:P.funcs[f]?=some fn)(hb:fn.body=some c)(hk:fn.ntmps=k)
  (hr:fn.results.toList=rs) (ha:args.mapM (frzA h)=some args')
  (hw:@wC P md (aH P md prim n d) ⟨0,[],0⟩ n ⟨c⟩ (args'++List.replicate (k-args'.length) .no) [] ⟨@kFn P ⟨rs⟩ ⟨fun r' h'=>own h' 6 r'=true/\frz h' 0 6 r'=some r⟩⟩):
  af md (aH P md prim n (d+1)) cfg f args h=some (r,h):=by
 obtain⟨r',h',h1,h2,h3⟩:=cn hp hf hb hk hr hw;simp_all[af,if_true]
def stat(P:Program)(ops:Array Oper):Option Nat:=
 if Ah ops||sOK P ops then none else if sS P ops (gC [] ops.toList) (iI (ei P 0 ops.toList) (gC [] ops.toList) ops.size) then some (iI (ei P 0 ops.toList) (gC [] ops.toList) ops.size) else none
def bk(P:Program)(md:FuncId->Nat)(call:aF)(cfg:Cfg)(n0:Nat)(fr:List V)(h:Heap)(x:List Nat)(ld:List Nat)(op:Op):Option (V×Heap×List Nat×List Nat):=
  match op with
  | .call { callee:=.value f,args,argTypes:=_ }=>match ev fr f,cH fr args.toList with
   | some (.func (.func g) first captured),some vs =>
    match md g with
    | 0=>match af md call ⟨h.length,[],h.length⟩ g ((first++vs)++captured) h with
     | some (v,h')=>some (v,h',x,ld)
     | none=>none
    | 3=>match af md call ⟨h.length,[],h.length⟩ g ((first++vs)++captured) h with
     | some (v,h')=>some (v,h',x,ld)
     | none=>none
    | 1=>match (first++vs)++captured with
     | .ptr b _::_ =>
      if cfg.wr b&&decide (b<n0) then
       match af md call ⟨h.length,[b],h.length⟩ g ((first++vs)++captured) h with
       | some (v,h')=>some (v,h',b::x,ld)
       | none=>none
      else none
     | _=>none
    | 2=>match af md call ⟨h.length,[],h.length⟩ g ((first++vs)++captured) h with
     | some (v,h')=>some (v,h',x,ld)
     | none=>none
    | m =>
     if (decide (m=4)||decide (m=5))&&((mapsIn h).all fun b=>cfg.wr b&&decide (b<n0)) then
      match af md call ⟨h.length,mapsIn h,h.length⟩ g ((first++vs)++captured) h with
      | some (v,h')=>some (v,h',mapsIn h++x,ld)
      | none=>none
     else none
   | _,_=>none
  | .store t p y=>match ev fr p with
   | some (.ptr b _) =>
    if cfg.wr b then
     match opV P ⟨h.length,[b],h.length⟩ fr h (.store t p y) with
     | some (v,h')=>some (v,h',b::x,ld)
     | none=>none
    else none
   | _=>none
  | op=>if eF P op then
    match opV P cfg fr h op with
    | some (v,h')=>some (v,h',x,match eJ fr op with
     | some b=>b::ld
     | none=>ld)
    | none=>none
   else none
theorem nZ{n0:Nat}{ops:Array Oper}{o:Oper}{fr:List V}{h:Heap}{x:List Nat}{ld:List Nat}(hw:cy ops fr o=some true):cL P md call cfg n0 ops o fr h x ld=bk P md call cfg n0 fr h x ld o.op:=by
 simp only[cL,hw];rfl
theorem oa{n0:Nat}{ops:Array Oper}{o:Oper}{fr:List V}{h:Heap}{x:List Nat}{ld:List Nat}(hw:cy ops fr o=some false):cL P md call cfg n0 ops o fr h x ld=some (.no,h,x,ld):=by
 grind[cL]
end
section
variable (P:Program) (md:FuncId->Nat) (call:aF) (cfg:Cfg) (n:Nat)
def wHd[ops:Hid (Array Oper)][l:Hid (List Oper)][tl:Hid (List Oper)](fr:List V)(h:Heap)[n0:Hid Nat][x:Hid (List Nat)][ld:Hid (List Nat)][Q:Hid ca]:Prop:=
 ∃ st,cW P md call cfg n0.val ops.val l.val fr h x.val ld.val=some st/\nu st.2.2.2 st.2.2.1=true/\@wO P md call cfg ops tl st.1 st.2.1 Q
def wHS[dst:Hid (Option Tmp)][fr:Hid (List V)](r:Option (V×Heap×List Nat×List Nat))[ops:Hid (Array Oper)][l:Hid (List Oper)][tl:Hid (List Oper)][n0:Hid Nat][Q:Hid ca]:Prop:=
 ∃ st,r=some st/\@wHd P md call cfg ops l tl (put fr.val dst.val st.1) st.2.1 n0 ⟨st.2.2.1⟩ ⟨st.2.2.2⟩ Q
def wHG(g:Option V)[want:Hid Bool][dst:Hid (Option Tmp)][op:Hid Op][ops:Hid (Array Oper)][l:Hid (List Oper)][tl:Hid (List Oper)][fr:Hid (List V)][h:Hid Heap][n0:Hid Nat][x:Hid (List Nat)][ld:Hid (List Nat)][Q:Hid ca]:Prop:=
 match g with
 | some (.bool b)=>@wIf (b==want.val) ⟨@wHS P md call cfg dst fr (bk P md call cfg n0.val fr.val h.val x.val ld.val op.val) ops l tl n0 Q⟩ ⟨@wHd P md call cfg ops l tl (put fr.val dst.val .no) h.val n0 x ld Q⟩
 | some .no=>@wHd P md call cfg ops l tl (put fr.val dst.val .no) h.val n0 x ld Q
 | _=>False
end
section
variable {P:Program}{md:FuncId->Nat}{call:aF}{cfg:Cfg}{n:Nat}
theorem CU{ops:Array Oper}{fr:List V}{h:Heap}{Q:dI}{N:Nat}(hs:stat P ops=some N)(hw:@wHd P md call cfg ⟨ops⟩ ⟨ops.toList.take N⟩ ⟨ops.toList.drop N⟩ fr h ⟨h.length⟩ ⟨[]⟩ ⟨[]⟩ ⟨Q .normal⟩):
  Ah ops=false/\sOK P ops=false/\∃ fr2 h2,fC P md call cfg ops fr h=some (fr2,h2)/\Q .normal fr2 h2:=by
 unfold stat at hs;split at hs
 ·cases hs
 split at hs
 ·rename_i h3 h6;simp only[LP,not_or,Bool.not_eq_true]at h3;obtain⟨h0,h4⟩:=h3;cases hs;obtain⟨⟨fr1,h1,x,ld⟩,hr,hl,⟨fr2,h2⟩,ho,hq⟩:=hw;refine⟨h0,h4,fr2,h2,?_,hq⟩;simp_all[cW,iI,ei,gC,cm,fC,if_true]
 grind
theorem ai{id:Nat}{ops:Array Oper}{fr:List V}{h:Heap}{Q:dI}(N:Nat)(hs:stat P ops=some N)(hw:@wHd P md call cfg ⟨ops⟩ ⟨ops.toList.take N⟩ ⟨ops.toList.drop N⟩ fr h ⟨h.length⟩ ⟨[]⟩ ⟨[]⟩ ⟨Q .normal⟩):
  @wC P md call cfg n ⟨.region id ops true⟩ fr h ⟨Q⟩:=by
 obtain⟨h0,h3,fr2,h2,hr,hq⟩:=CU hs hw;refine⟨(.normal,fr2,h2),?_,hq⟩;simp_all[code,ez,Lv,if_false]
@[simp] theorem wHd_take{ops:Array Oper}{o:Oper}{l tl:List Oper}{k:Nat}{fr:List V}{h:Heap}{n0:Nat}{x:List Nat}{ld:List Nat}{Q:ca}:@wHd P md call cfg ⟨ops⟩ ⟨(o::l).take (k+1)⟩ ⟨(o::tl).drop (k+1)⟩ fr h ⟨n0⟩ ⟨x⟩ ⟨ld⟩ ⟨Q⟩↔@wHd P md call cfg ⟨ops⟩ ⟨o::l.take k⟩ ⟨tl.drop k⟩ fr h ⟨n0⟩ ⟨x⟩ ⟨ld⟩ ⟨Q⟩:=Mt
@[simp] theorem K3{ops:Array Oper}{l tl:List Oper}{fr:List V}{h:Heap}{n0:Nat}{x:List Nat}{ld:List Nat}{Q:ca}:@wHd P md call cfg ⟨ops⟩ ⟨l.take 0⟩ ⟨tl.drop 0⟩ fr h ⟨n0⟩ ⟨x⟩ ⟨ld⟩ ⟨Q⟩↔@wHd P md call cfg ⟨ops⟩ ⟨[]⟩ ⟨tl⟩ fr h ⟨n0⟩ ⟨x⟩ ⟨ld⟩ ⟨Q⟩:=Mt
@[simp] theorem wHd_nil{ops:Array Oper}{tl:List Oper}{fr:List V}{h:Heap}{n0:Nat}{x:List Nat}{ld:List Nat}{Q:ca}:@wHd P md call cfg ⟨ops⟩ ⟨[]⟩ ⟨tl⟩ fr h ⟨n0⟩ ⟨x⟩ ⟨ld⟩ ⟨Q⟩↔nu ld x=true/\@wO P md call cfg ⟨ops⟩ ⟨tl⟩ fr h ⟨Q⟩:=by simp[wHd,cW]
@[simp] theorem wHd_cons{ops:Array Oper}{dst:Option Tmp}{op:Op}{ty:TypeId}{pos:String}{after:Array Edge}{l tl:List Oper}{fr:List V}{h:Heap}{n0:Nat}{x:List Nat}{ld:List Nat}{Q:ca}:
  @wHd P md call cfg ⟨ops⟩ ⟨{ dst:=dst,op:=op,type:=ty,pos:=pos,after:=after,guard:=none }::l⟩ ⟨tl⟩ fr h ⟨n0⟩ ⟨x⟩ ⟨ld⟩ ⟨Q⟩↔@wHS P md call cfg ⟨dst⟩ ⟨fr⟩ (bk P md call cfg n0 fr h x ld op) ⟨ops⟩ ⟨l⟩ ⟨tl⟩ ⟨n0⟩ ⟨Q⟩:=by
 unfold wHd wHS;simp only[cW];rw[nZ (by rfl)];cases ha:bk P md call cfg n0 fr h x ld op with
 | none=>simp
 | some y=>obtain⟨v,h',x',ld'⟩:=y;simp[wHd]
@[simp] theorem K2{ops:Array Oper}{dst:Option Tmp}{op:Op}{ty:TypeId}{pos:String}{after:Array Edge}{j:Nat}{want:Bool}{l tl:List Oper}{fr:List V}{h:Heap}{n0:Nat}{x:List Nat}{ld:List Nat}{Q:ca}:
  @wHd P md call cfg ⟨ops⟩ ⟨{ dst:=dst,op:=op,type:=ty,pos:=pos,after:=after,guard:=some (j,want) }::l⟩ ⟨tl⟩ fr h ⟨n0⟩ ⟨x⟩ ⟨ld⟩ ⟨Q⟩↔@wHG P md call cfg (Bg ops fr j) ⟨want⟩ ⟨dst⟩ ⟨op⟩ ⟨ops⟩ ⟨l⟩ ⟨tl⟩ ⟨fr⟩ ⟨h⟩ ⟨n0⟩ ⟨x⟩ ⟨ld⟩ ⟨Q⟩:=by
 have h0:∀ o:Oper,cy ops fr o=none->cL P md call cfg n0 ops o fr h x ld=none:=fun o ho=>by simp only[cL,ho]
 unfold wHd wHG Bg;simp only[cW];cases hj:ops[j]? with
 | none=>simp[h0 _ (show cy ops fr { dst:=dst,op:=op,type:=ty,pos:=pos,after:=after,guard:=some (j,want) }=none by simp[cy,hj])]
 | some p =>
  cases hd:p.dst with
  | none=>simp[hd,h0 _ (show cy ops fr { dst:=dst,op:=op,type:=ty,pos:=pos,after:=after,guard:=some (j,want) }=none by simp[cy,hj,hd])]
  | some d =>
   simp only[hd];cases hf:fr[d]? with
   | none=>simp[h0 _ (show cy ops fr { dst:=dst,op:=op,type:=ty,pos:=pos,after:=after,guard:=some (j,want) }=none by simp[cy,hj,hd,hf])]
   | some v =>
    by_cases hb:∃ b,v=.bool b
    ·obtain⟨b,rfl⟩:=hb;have hw:cy ops fr { dst:=dst,op:=op,type:=ty,pos:=pos,after:=after,guard:=some (j,want) }=some (b==want):=by simp[cy,hj,hd,hf]
     cases h3:(b==want)
     ·rw[h3]at hw;rw[oa hw];simp only[h3,Cd];simp[wHd]
     ·rw[h3]at hw;rw[nZ hw];simp only[h3,E0,wHS,wHd];cases ha:bk P md call cfg n0 fr h x ld op with
      | none=>simp
      | some y=>obtain⟨v,h',x',ld'⟩:=y;simp
    ·by_cases h4:v=.no
     ·subst h4;have hw:cy ops fr { dst:=dst,op:=op,type:=ty,pos:=pos,after:=after,guard:=some (j,want) }=some false:=by simp[cy,hj,hd,hf]
      rw[oa hw];simp[wHd]
     ·have hw:cy ops fr { dst:=dst,op:=op,type:=ty,pos:=pos,after:=after,guard:=some (j,want) }=none:=by
       simp only[cy,hj,hd,hf];cases v<;>first|rfl|exact absurd ⟨_,rfl⟩ hb|exact absurd rfl h4
      rw[h0 _ hw];cases v<;>first|(exact absurd ⟨_,rfl⟩ hb)|(exact absurd rfl h4)|simp
@[simp] theorem wHG_bool{b want:Bool}{dst:Option Tmp}{op:Op}{ops:Array Oper}{l tl:List Oper}{fr:List V}{h:Heap}{n0:Nat}{x:List Nat}{ld:List Nat}{Q:ca}:
  @wHG P md call cfg (some (.bool b)) ⟨want⟩ ⟨dst⟩ ⟨op⟩ ⟨ops⟩ ⟨l⟩ ⟨tl⟩ ⟨fr⟩ ⟨h⟩ ⟨n0⟩ ⟨x⟩ ⟨ld⟩ ⟨Q⟩↔@wIf (b==want) ⟨@wHS P md call cfg ⟨dst⟩ ⟨fr⟩ (bk P md call cfg n0 fr h x ld op) ⟨ops⟩ ⟨l⟩ ⟨tl⟩ ⟨n0⟩ ⟨Q⟩⟩ ⟨@wHd P md call cfg ⟨ops⟩ ⟨l⟩ ⟨tl⟩ (put fr dst .no) h ⟨n0⟩ ⟨x⟩ ⟨ld⟩ ⟨Q⟩⟩:=Mt
@[simp] theorem wHG_no{want:Bool}{dst:Option Tmp}{op:Op}{ops:Array Oper}{l tl:List Oper}{fr:List V}{h:Heap}{n0:Nat}{x:List Nat}{ld:List Nat}{Q:ca}:
  @wHG P md call cfg (some .no) ⟨want⟩ ⟨dst⟩ ⟨op⟩ ⟨ops⟩ ⟨l⟩ ⟨tl⟩ ⟨fr⟩ ⟨h⟩ ⟨n0⟩ ⟨x⟩ ⟨ld⟩ ⟨Q⟩↔@wHd P md call cfg ⟨ops⟩ ⟨l⟩ ⟨tl⟩ (put fr dst .no) h ⟨n0⟩ ⟨x⟩ ⟨ld⟩ ⟨Q⟩:=Mt
@[simp] theorem wHS_some{dst:Option Tmp}{fr:List V}{v:V}{h:Heap}{x:List Nat}{ld:List Nat}{ops:Array Oper}{l tl:List Oper}{n0:Nat}{Q:ca}:
  @wHS P md call cfg ⟨dst⟩ ⟨fr⟩ (some (v,h,x,ld)) ⟨ops⟩ ⟨l⟩ ⟨tl⟩ ⟨n0⟩ ⟨Q⟩↔@wHd P md call cfg ⟨ops⟩ ⟨l⟩ ⟨tl⟩ (put fr dst v) h ⟨n0⟩ ⟨x⟩ ⟨ld⟩ ⟨Q⟩:=by simp[wHS]
@[simp] theorem Kt{ld:List Nat}:nu ld []=true:=rfl
@[simp] theorem Ku{ld x:List Nat}{b:Nat}:nu ld (b::x)=(!ld.contains b&&nu ld x):=rfl
@[simp] theorem ldOK_app{ld x y:List Nat}:nu ld (x++y)=(nu ld x&&nu ld y):=List.all_append
def nQ(p:Option V)(ld:List Nat):List Nat:=
 match p with
 | some (.ptr b _)=>b::ld
 | _=>ld
@[simp] theorem J9{b off:Nat}{ld:List Nat}:nQ (some (.ptr b off)) ld=b::ld:=rfl
@[simp] theorem Ii{cs:List V}{off:Nat}{ld:List Nat}:nQ (some (.lptr cs off)) ld=ld:=rfl
@[simp] theorem J8{cs:List (List V)}{ld:List Nat}:nQ (some (.lst cs)) ld=ld:=rfl
@[simp] theorem addLd_sl{a b c d e:Nat}{ld:List Nat}:nQ (some (.sl a b c d e)) ld=ld:=rfl
@[simp] theorem Ij{ld:List Nat}:nQ (some .nils) ld=ld:=rfl
@[simp] theorem Ka{s:ByteArray}{ld:List Nat}:nQ (some (.str s)) ld=ld:=rfl
theorem aL{n0:Nat}{fr:List V}{h:Heap}{x:List Nat}{ld:List Nat}{op:Op}(h1:∀ f a t,op≠.call { callee:=.value f,args:=a,argTypes:=t })(h2:∀ t p y,op≠.store t p y)(h3:eF P op=true)(h4:eJ fr op=none):
  bk P md call cfg n0 fr h x ld op=(aB P md call cfg fr h op).map fun r=>(r.1,r.2,x,ld):=by
 have he:aB P md call cfg fr h op=opV P cfg fr h op:=by
  unfold aB;split
  ·exact absurd rfl (h1 _ _ _)
  ·rfl
 rw[he];unfold bk
 grind
@[simp] theorem HD{n0:Nat}{fr:List V}{h:Heap}{x:List Nat}{ld:List Nat}{a:Operand}:bk P md call cfg n0 fr h x ld (.move a)=(aB P md call cfg fr h (.move a)).map fun r=>(r.1,r.2,x,ld):=aL (by simp) (by simp) rfl rfl
@[simp] theorem E7{n0:Nat}{fr:List V}{h:Heap}{x:List Nat}{ld:List Nat}{a:Operand}:bk P md call cfg n0 fr h x ld (.assign a)=(aB P md call cfg fr h (.assign a)).map fun r=>(r.1,r.2,x,ld):=aL (by simp) (by simp) rfl rfl
@[simp] theorem HE{n0:Nat}{fr:List V}{h:Heap}{x:List Nat}{ld:List Nat}{a b c:Operand}:bk P md call cfg n0 fr h x ld (.pick a b c)=(aB P md call cfg fr h (.pick a b c)).map fun r=>(r.1,r.2,x,ld):=aL (by simp) (by simp) rfl rfl
@[simp] theorem FV{n0:Nat}{fr:List V}{h:Heap}{x:List Nat}{ld:List Nat}{t:TypeId}{p:Array (Nat×Operand)}:bk P md call cfg n0 fr h x ld (.build t p)=(aB P md call cfg fr h (.build t p)).map fun r=>(r.1,r.2,x,ld):=aL (by simp) (by simp) rfl rfl
@[simp] theorem Cf{n0:Nat}{fr:List V}{h:Heap}{x:List Nat}{ld:List Nat}{a:Operand}:bk P md call cfg n0 fr h x ld (.nilCheck a)=(aB P md call cfg fr h (.nilCheck a)).map fun r=>(r.1,r.2,x,ld):=aL (by simp) (by simp) rfl rfl
@[simp] theorem FU{n0:Nat}{fr:List V}{h:Heap}{x:List Nat}{ld:List Nat}{o:BinOp}{t u:TypeId}{a b:Operand}:bk P md call cfg n0 fr h x ld (.binOp o t a b u)=(aB P md call cfg fr h (.binOp o t a b u)).map fun r=>(r.1,r.2,x,ld):=aL (by simp) (by simp) rfl rfl
@[simp] theorem HF{n0:Nat}{fr:List V}{h:Heap}{x:List Nat}{ld:List Nat}{o:UnOp}{t:TypeId}{a:Operand}:bk P md call cfg n0 fr h x ld (.unOp o t a)=(aB P md call cfg fr h (.unOp o t a)).map fun r=>(r.1,r.2,x,ld):=aL (by simp) (by simp) rfl rfl
@[simp] theorem Ce{n0:Nat}{fr:List V}{h:Heap}{x:List Nat}{ld:List Nat}{f:Fn}{a b:Array Operand}:bk P md call cfg n0 fr h x ld (.makeFunc f a b)=(aB P md call cfg fr h (.makeFunc f a b)).map fun r=>(r.1,r.2,x,ld):=aL (by simp) (by simp) rfl rfl
@[simp] theorem Bh{n0:Nat}{fr:List V}{h:Heap}{x:List Nat}{ld:List Nat}{t:TypeId}{a:Operand}{i:Nat}:bk P md call cfg n0 fr h x ld (.fieldAddr t a i)=(aB P md call cfg fr h (.fieldAddr t a i)).map fun r=>(r.1,r.2,x,ld):=aL (by simp) (by simp) rfl rfl
@[simp] theorem FW{n0:Nat}{fr:List V}{h:Heap}{x:List Nat}{ld:List Nat}{t:TypeId}{a:Operand}{i:Nat}:bk P md call cfg n0 fr h x ld (.field t a i)=(aB P md call cfg fr h (.field t a i)).map fun r=>(r.1,r.2,x,ld):=aL (by simp) (by simp) rfl rfl
@[simp] theorem Bj{n0:Nat}{fr:List V}{h:Heap}{x:List Nat}{ld:List Nat}{t:TypeId}{a i:Operand}:bk P md call cfg n0 fr h x ld (.indexAddr t a i)=(aB P md call cfg fr h (.indexAddr t a i)).map fun r=>(r.1,r.2,x,ld):=aL (by simp) (by simp) rfl rfl
@[simp] theorem FX{n0:Nat}{fr:List V}{h:Heap}{x:List Nat}{ld:List Nat}{t:TypeId}{a i:Operand}:bk P md call cfg n0 fr h x ld (.index t a i)=(aB P md call cfg fr h (.index t a i)).map fun r=>(r.1,r.2,x,ld):=aL (by simp) (by simp) rfl rfl
@[simp] theorem Dg{n0:Nat}{fr:List V}{h:Heap}{x:List Nat}{ld:List Nat}{a:Operand}{i:Nat}:bk P md call cfg n0 fr h x ld (.extract a i)=(aB P md call cfg fr h (.extract a i)).map fun r=>(r.1,r.2,x,ld):=aL (by simp) (by simp) rfl rfl
@[simp] theorem FT{n0:Nat}{fr:List V}{h:Heap}{x:List Nat}{ld:List Nat}{t:TypeId}:bk P md call cfg n0 fr h x ld (.alloc t)=(aB P md call cfg fr h (.alloc t)).map fun r=>(r.1,r.2,x,ld):=aL (by simp) (by simp) rfl rfl
@[simp] theorem IL{n0:Nat}{fr:List V}{h:Heap}{x:List Nat}{ld:List Nat}{t:TypeId}{a:Operand}:bk P md call cfg n0 fr h x ld (.box t a)=(aB P md call cfg fr h (.box t a)).map fun r=>(r.1,r.2,x,ld):=aL (by simp) (by simp) rfl rfl
@[simp] theorem zI{n0:Nat}{fr:List V}{h:Heap}{x:List Nat}{ld:List Nat}{t:TypeId}{k:Nat}{p:Array (Nat×Operand)}:bk P md call cfg n0 fr h x ld (.buildSlice t k p)=(aB P md call cfg fr h (.buildSlice t k p)).map fun r=>(r.1,r.2,x,ld):=aL (by simp) (by simp) rfl rfl
@[simp] theorem Dh{n0:Nat}{fr:List V}{h:Heap}{x:List Nat}{ld:List Nat}{t:TypeId}:bk P md call cfg n0 fr h x ld (.makeMap t none)=(aB P md call cfg fr h (.makeMap t none)).map fun r=>(r.1,r.2,x,ld):=aL (by simp) (by simp) rfl rfl
@[simp] theorem Bk{n0:Nat}{fr:List V}{h:Heap}{x:List Nat}{ld:List Nat}{t:TypeId}{a b:Operand}:bk P md call cfg n0 fr h x ld (.makeSlice t a b)=(aB P md call cfg fr h (.makeSlice t a b)).map fun r=>(r.1,r.2,x,ld):=aL (by simp) (by simp) rfl rfl
@[simp] theorem IM{n0:Nat}{fr:List V}{h:Heap}{x:List Nat}{ld:List Nat}{a:Array Operand}{t:Array TypeId}:bk P md call cfg n0 fr h x ld (.call { callee:=.builtin .len,args:=a,argTypes:=t })=(aB P md call cfg fr h (.call { callee:=.builtin .len,args:=a,argTypes:=t })).map fun r=>(r.1,r.2,x,ld):=aL (by simp) (by simp) rfl rfl
@[simp] theorem IQ{n0:Nat}{fr:List V}{h:Heap}{x:List Nat}{ld:List Nat}{a:Array Operand}{t:Array TypeId}:bk P md call cfg n0 fr h x ld (.call { callee:=.builtin .min,args:=a,argTypes:=t })=(aB P md call cfg fr h (.call { callee:=.builtin .min,args:=a,argTypes:=t })).map fun r=>(r.1,r.2,x,ld):=aL (by simp) (by simp) rfl rfl
@[simp] theorem IP{n0:Nat}{fr:List V}{h:Heap}{x:List Nat}{ld:List Nat}{a:Array Operand}{t:Array TypeId}:bk P md call cfg n0 fr h x ld (.call { callee:=.builtin .max,args:=a,argTypes:=t })=(aB P md call cfg fr h (.call { callee:=.builtin .max,args:=a,argTypes:=t })).map fun r=>(r.1,r.2,x,ld):=aL (by simp) (by simp) rfl rfl
@[simp] theorem HC{n0:Nat}{fr:List V}{h:Heap}{x:List Nat}{ld:List Nat}{t:TypeId}{a:Operand}:bk P md call cfg n0 fr h x ld (.load t a)=(aB P md call cfg fr h (.load t a)).map fun r=>(r.1,r.2,x,nQ (ev fr a) ld):=by
 simp only[bk,aB,eF,if_true,eJ];cases hv:opV P cfg fr h (.load t a) with
 | none=>rfl
 | some y =>
  cases ha:ev fr a with
  | none=>rfl
  | some v=>cases v<;>rfl
@[simp] theorem FY{n0:Nat}{fr:List V}{h:Heap}{x:List Nat}{ld:List Nat}{t:TypeId}{a:Operand}{lo hi:Option Operand}:bk P md call cfg n0 fr h x ld (.slice t a lo hi none)=(aB P md call cfg fr h (.slice t a lo hi none)).map fun r=>(r.1,r.2,x,nQ (ev fr a) ld):=by
 simp only[bk,aB,eF,if_true,eJ];cases hv:opV P cfg fr h (.slice t a lo hi none) with
 | none=>rfl
 | some y =>
  cases ha:ev fr a with
  | none=>rfl
  | some v=>cases v<;>rfl
@[simp] theorem Df{n0:Nat}{fr:List V}{h:Heap}{x:List Nat}{ld:List Nat}{s d:TypeId}{a:Operand}:bk P md call cfg n0 fr h x ld (.convert s d a)=if eF P (.convert s d a) then (aB P md call cfg fr h (.convert s d a)).map fun r=>(r.1,r.2,x,ld) else none:=by
 simp only[bk,aB,eJ];split
 ·cases hv:opV P cfg fr h (.convert s d a)<;>rfl
 ·rfl
def iH(md:FuncId->Nat)(call:aF)(cfg:Cfg)(n0:Nat)(h:Heap)(x:List Nat)(ld:List Nat)(m:Nat)(g:FuncId)(vs:List V):Option (V×Heap×List Nat×List Nat):=
 match m with
 | 0=>(af md call ⟨h.length,[],h.length⟩ g vs h).map fun r=>(r.1,r.2,x,ld)
 | 3=>(af md call ⟨h.length,[],h.length⟩ g vs h).map fun r=>(r.1,r.2,x,ld)
 | 1=>match vs with
  | .ptr b _::_=>if cfg.wr b&&decide (b<n0) then (af md call ⟨h.length,[b],h.length⟩ g vs h).map fun r=>(r.1,r.2,b::x,ld) else none
  | _=>none
 | 2=>(af md call ⟨h.length,[],h.length⟩ g vs h).map fun r=>(r.1,r.2,x,ld)
 | m=>if (decide (m=4)||decide (m=5))&&((mapsIn h).all fun b=>cfg.wr b&&decide (b<n0)) then (af md call ⟨h.length,mapsIn h,h.length⟩ g vs h).map fun r=>(r.1,r.2,mapsIn h++x,ld) else none
def qA(md:FuncId->Nat)(call:aF)(cfg:Cfg)(n0:Nat)(h:Heap)(x:List Nat)(ld:List Nat)(f:Option V)(vs:Option (List V)):Option (V×Heap×List Nat×List Nat):=
 match f,vs with
 | some (.func (.func g) first captured),some vs=>iH md call cfg n0 h x ld (md g) g ((first++vs)++captured)
 | _,_=>none
@[simp] theorem HB{n0:Nat}{fr:List V}{h:Heap}{x:List Nat}{ld:List Nat}{f:Operand}{a:Array Operand}{t:Array TypeId}:bk P md call cfg n0 fr h x ld (.call { callee:=.value f,args:=a,argTypes:=t })=qA md call cfg n0 h x ld (ev fr f) (cH fr a.toList):=by
 simp only[bk,qA];split
 ·rename_i g first captured vs hf h0
  unfold iH;split<;>rename_i hm
  ·cases af md call ⟨h.length,[],h.length⟩ g (first++vs++captured) h<;>rfl
  ·cases af md call ⟨h.length,[],h.length⟩ g (first++vs++captured) h<;>rfl
  ·split
   ·rename_i b off rest has;split
    ·cases af md call ⟨h.length,[b],h.length⟩ g (first++vs++captured) h<;>rfl
    ·rfl
   ·rfl
  ·cases af md call ⟨h.length,[],h.length⟩ g (first++vs++captured) h<;>rfl
  ·split
   ·cases af md call ⟨h.length,mapsIn h,h.length⟩ g (first++vs++captured) h<;>rfl
   ·rfl
 ·rfl
@[simp] theorem E6{n0:Nat}{h:Heap}{x:List Nat}{ld:List Nat}{g:FuncId}{first captured vs:List V}:qA md call cfg n0 h x ld (some (.func (.func g) first captured)) (some vs)=iH md call cfg n0 h x ld (md g) g ((first++vs)++captured):=rfl
@[simp] theorem hdCall_0{n0:Nat}{h:Heap}{x:List Nat}{ld:List Nat}{g:FuncId}{vs:List V}:iH md call cfg n0 h x ld 0 g vs=(af md call ⟨h.length,[],h.length⟩ g vs h).map fun r=>(r.1,r.2,x,ld):=rfl
@[simp] theorem hdCall_3{n0:Nat}{h:Heap}{x:List Nat}{ld:List Nat}{g:FuncId}{vs:List V}:iH md call cfg n0 h x ld 3 g vs=(af md call ⟨h.length,[],h.length⟩ g vs h).map fun r=>(r.1,r.2,x,ld):=rfl
@[simp] theorem hdCall_2{n0:Nat}{h:Heap}{x:List Nat}{ld:List Nat}{g:FuncId}{vs:List V}:iH md call cfg n0 h x ld 2 g vs=(af md call ⟨h.length,[],h.length⟩ g vs h).map fun r=>(r.1,r.2,x,ld):=rfl
@[simp] theorem hdCall_1{n0:Nat}{h:Heap}{x:List Nat}{ld:List Nat}{g:FuncId}{b off:Nat}{vs:List V}:iH md call cfg n0 h x ld 1 g (.ptr b off::vs)=if cfg.wr b&&decide (b<n0) then (af md call ⟨h.length,[b],h.length⟩ g (.ptr b off::vs) h).map fun r=>(r.1,r.2,b::x,ld) else none:=rfl
@[simp] theorem hdCall_4{n0:Nat}{h:Heap}{x:List Nat}{ld:List Nat}{g:FuncId}{vs:List V}:iH md call cfg n0 h x ld 4 g vs=if ((mapsIn h).all fun b=>cfg.wr b&&decide (b<n0)) then (af md call ⟨h.length,mapsIn h,h.length⟩ g vs h).map fun r=>(r.1,r.2,mapsIn h++x,ld) else none:=rfl
@[simp] theorem hdCall_5{n0:Nat}{h:Heap}{x:List Nat}{ld:List Nat}{g:FuncId}{vs:List V}:iH md call cfg n0 h x ld 5 g vs=if ((mapsIn h).all fun b=>cfg.wr b&&decide (b<n0)) then (af md call ⟨h.length,mapsIn h,h.length⟩ g vs h).map fun r=>(r.1,r.2,mapsIn h++x,ld) else none:=rfl
def tQ(P:Program)(cfg:Cfg)(h:Heap)(x:List Nat)(ld:List Nat)(t:TypeId)(p v:Option V):Option (V×Heap×List Nat×List Nat):=
 match p with
 | some (.ptr b off)=>if cfg.wr b then (v.bind fun v=>aN P ⟨h.length,[b],h.length⟩ h t (.ptr b off) v).map fun h'=>(.no,h',b::x,ld) else none
 | _=>none
@[simp] theorem FZ{n0:Nat}{fr:List V}{h:Heap}{x:List Nat}{ld:List Nat}{t:TypeId}{p y:Operand}:bk P md call cfg n0 fr h x ld (.store t p y)=tQ P cfg h x ld t (ev fr p) (ev fr y):=by
 simp only[bk,tQ,opV];split
 ·rename_i b off hp;simp only[hp];split
  ·cases ev fr y with
   | none=>simp
   | some v=>simp only[Md];cases aN P ⟨h.length,[b],h.length⟩ h t (.ptr b off) v<;>rfl
  ·rfl
 ·rfl
@[simp] theorem FQ{h:Heap}{x:List Nat}{ld:List Nat}{t:TypeId}{b off:Nat}{v:Option V}:tQ P cfg h x ld t (some (.ptr b off)) v=if cfg.wr b then (v.bind fun v=>aN P ⟨h.length,[b],h.length⟩ h t (.ptr b off) v).map fun h'=>(.no,h',b::x,ld) else none:=rfl
end
end Go.Ab
namespace Go.Ab
def kH(s:Nat)(xs:List (List V))(i:Int):Option V:=
 if 0<=i then match xs[i.toNat]? with
  | some e=>if e.length=s then some (.lptr e 0) else none
  | none=>none
 else none
def kI(s b off len c:Nat)(i:Int):Option V:=
 if 0<=i then if i.toNat<len&&s==c then some (.ptr b (off+i.toNat*c)) else none else none
def yL(s:Nat)(xs:List (List V))(lo hi:Option Nat):Option V:=
 match lo,hi with
 | some l,some r=>if decide (l<=r)&&decide (r<=xs.length)&&(l==r||(xs[l]?).map List.length==some s) then some (.lst ((xs.take r).drop l)) else none
 | _,_=>none
def wY(s b off len cap k:Nat)(lo hi:Option Nat):Option V:=
 match lo,hi with
 | some l,some r =>
  if s=k&&decide (l<=r)&&decide (r<=len)&&decide (len<=cap) then
   if l=0 then some (.sl b off r cap k)
   else if l=r then some (.lst [])
   else some (.sl b (off+l*k) (r-l) (cap-l) k)
  else none
 | _,_=>none
def slcN(lo hi:Option Nat):Option V:=
 match lo,hi with
 | some 0,some 0=>some .nils
 | _,_=>none
def mkS(h:Heap)(s y:Nat)(z:List V)(n m:Int):Option (V×Heap):=
 if 0<=n&&n<=m&&roomy m.toNat y then some (.sl h.length 0 n.toNat m.toNat s,h++[some (bj z m.toNat)]) else none
def fX(cfg:Cfg)(h:Heap)(s y:Nat)(d:V)(n:Nat)(new:List V):Option (V×Heap):=
 match d with
 | .nils=>if roomy n y then
   if n=0 then some (.nils,h) else some (.sl h.length 0 n n s,h++[some new])
  else none
 | .sl b off len cap k =>
  if k=s&&roomy (len+n) y then
   if len+n<=cap then
    match aJ cfg h b (off+len*s) new with
    | some h'=>some (.sl b off (len+n) cap k,h')
    | none=>none
   else match ab h b with
    | some cs=>if off=0&&cfg.wr b&&decide (len*s<=cs.length) then
      some (.sl h.length 0 (len+n) (len+n) k,(h.set b none)++[some (cs.take (len*s)++new)])
     else none
    | none=>none
  else none
 | _=>none
def kD(cfg:Cfg)(h:Heap)(s y:Nat)(d:V)(src:Option (Nat×List V)):Option (V×Heap):=
 match src with
 | some (n,new)=>if new.all V.leaf then fX cfg h s y d n new else none
 | none=>none
def stv(cfg:Cfg)(h:Heap)(b off s:Nat)(vs:Option (List V)):Option Heap:=
 match vs with
 | some vs=>if vs.length=s then aJ cfg h b off vs else none
 | none=>none
section
variable {P:Program}{cfg:Cfg}{h:Heap}{t e:TypeId}{s y:Nat}
theorem dP(hu:P.underlying t=some (.slice e))(hs:cj P e=some s){xs:List (List V)}{k:IntKind}{i:Int}:ax P t (.lst xs) (.int k i)=kH s xs i:=by
 grind[ax,kH]
theorem dY(hu:P.underlying t=some (.slice e))(hs:cj P e=some s){b off len cap c:Nat}{k:IntKind}{i:Int}:ax P t (.sl b off len cap c) (.int k i)=kI s b off len c i:=by
 grind[ax,kI]
@[simp] theorem F1{xs:List (List V)}{i:Int}(hi:0<=i):kH s xs i=(xs[i.toNat]?).bind fun e=>if e.length=s then some (.lptr e 0) else none:=by
 simp only[kH,hi,if_true];cases xs[i.toNat]?<;>rfl
@[simp] theorem idxS_of{b off len:Nat}{i:Int}(hi:0<=i)(hl:i.toNat<len):kI s b off len s i=some (.ptr b (off+i.toNat*s)):=by
 simp[kI,hi,hl]
theorem zK{n:Nat}(hu:P.underlying t=some (.array n e))(hs:cj P e=some s){b off:Nat}{k:IntKind}{i:Int}:ax P t (.ptr b off) (.int k i)=if 0<=i then (if i.toNat<n then some (.ptr b (off+i.toNat*s)) else none) else none:=by
 grind[ax]
theorem F2{n:Nat}(hu:P.underlying t=some (.array n e))(hs:cj P e=some s){cs:List V}{k:IntKind}{i:Int}:lC P t (.agg cs) (.int k i)=if 0<=i then (if i.toNat<n then part P e cs (i.toNat*s) else none) else none:=by
 simp_all[lC]
theorem Au(hu:P.underlying t=some (.slice e))(hs:cj P e=some s){xs:List (List V)}{lo hi:Option (Option V)}:cN P h t (.lst xs) lo hi=yL s xs (bI 0 lo) (bI xs.length hi):=by
 simp only[cN,hu,hs,yL];cases bI 0 lo<;>cases bI xs.length hi<;>rfl
theorem uu(hu:P.underlying t=some (.slice e))(hs:cj P e=some s){b off len cap k:Nat}{lo hi:Option (Option V)}:cN P h t (.sl b off len cap k) lo hi=wY s b off len cap k (bI 0 lo) (bI len hi):=by
 simp only[cN,hu,hs,wY];cases bI 0 lo<;>cases bI len hi<;>rfl
@[simp] theorem Hl{d:Nat}:bI d none=some d:=rfl
@[simp] theorem Hm{d:Nat}{k:IntKind}{i:Int}(hi:0<=i):bI d (some (some (.int k i)))=some i.toNat:=by simp[bI,hi]
theorem GR{xs:List (List V)}{l r:Nat}(h1:l<=r)(h2:r<=xs.length)(hk:∀ e∈xs,e.length=s):yL s xs (some l) (some r)=some (.lst ((xs.take r).drop l)):=by
 simp only[yL];rw[if_pos]
 grind
@[simp] theorem KW{k:IntKind}{l:List Int}{a b:Nat}(h1:a<=b)(h2:b<=l.length):yL 1 (l.map fun n=>[V.int k n]) (some a) (some b)=some (.lst (((l.take b).drop a).map fun n=>[V.int k n])):=by
 rw[GR h1 (by simpa using h2) (by simp)];simp[Om,On]
@[simp] theorem ux{b off len cap l r:Nat}(h1:l<=r)(h2:r<=len)(h3:len<=cap):wY s b off len cap s (some l) (some r)=if l=0 then some (.sl b off r cap s) else if l=r then some (.lst []) else some (.sl b (off+l*s) (r-l) (cap-l) s):=by
 simp[wY,h1,h2,h3]
@[simp] theorem slcN_of:slcN (some 0) (some 0)=some .nils:=rfl
theorem DI(hu:P.underlying t=some (.slice e))(hs:cj P e=some s)(hy:bytesOf P e=some y){z:V}{zc:List V}(hz:zeroOf P e=some z)(h0:cG z=zc)(hl:(zc.length==s)=true)(hp:decide (0<s)=true){n m:Int}:
  cB P h t (.int .i64 n) (.int .i64 m)=mkS h s y zc n m:=by
 simp_all[cB,mkS,M1]
@[simp] theorem mkS_of{z:List V}{n m:Int}(h1:0<=n)(h2:n<=m)(h3:m*y<=1099511627776)(h4:m<=1099511627776):mkS h s y z n m=some (.sl h.length 0 n.toNat m.toNat s,h++[some (bj z m.toNat)]):=by
 grind[Int.toNat_of_nonneg,Int.natCast_mul,roomy,mkS]
theorem dJ(hu:P.underlying t=some (.slice e))(hs:cj P e=some s)(hy:bytesOf P e=some y)(hz:rJ P e s=true)(hp:decide (0<s)=true){d x:V}:bV P cfg h t t d x=kD cfg h s y d (bc h s x):=by
 simp only[bV,hu,hs,hy,kD];cases bc h s x with
 | none=>rfl
 | some p =>
  obtain⟨n,new⟩:=p;simp only[hp,hz,decide_true,M1];rfl
@[simp] theorem Kc{d:V}{n:Nat}{new:List V}:kD cfg h s y d (some (n,new))=if new.all V.leaf then fX cfg h s y d n new else none:=rfl
theorem gL{n:Nat}{new:List V}(h1:n*y<=1099511627776)(h2:n<=1099511627776)(h3:0<n):fX cfg h s y .nils n new=some (.sl h.length 0 n n s,h++[some new]):=by
 have hr:roomy n y=true:=by grind[roomy]
 simp only[fX,hr,if_true]
 grind
theorem eN{b len cap n:Nat}{cs new:List V}(hb:ab h b=some cs)(hw:cfg.wr b=true)(h1:(len+n)*y<=1099511627776)(h2:len+n<=1099511627776)(h3:cap<len+n)(h4:len*s<=cs.length):
  fX cfg h s y (.sl b 0 len cap s) n new=some (.sl h.length 0 (len+n) (len+n) s,(h.set b none)++[some (cs.take (len*s)++new)]):=by
 simp_all[roomy,fX,decide_true,M1,if_true,if_neg]
theorem dQ(hu:P.underlying t=some (.slice e)){xs:List (List V)}:dc P t (.lst xs)=some (.int .i64 xs.length):=by simp_all[dc]
theorem fg(hu:P.underlying t=some (.slice e)){b off len cap k:Nat}:dc P t (.sl b off len cap k)=some (.int .i64 len):=by simp_all[dc]
theorem mh(hu:P.underlying t=some (.slice e)):dc P t .nils=some (.int .i64 0):=by simp_all[dc]
theorem bD(ha:oL P t=some false){cs:List V}{off:Nat}:part P t cs off=slot cs off:=by grind[part,slot]
theorem bN(ha:oL P t=some true)(hs:cj P t=some s){cs:List V}{off:Nat}:part P t cs off=if off+s<=cs.length then some (.agg ((cs.drop off).take s)) else none:=by grind[part]
@[simp] theorem Kz{b off:Nat}:ej P h t (.ptr b off)=(ab h b).bind fun cs=>part P t cs off:=by
 simp only[ej];cases ab h b<;>rfl
@[simp] theorem Jh{cs:List V}{off:Nat}:ej P h t (.lptr cs off)=part P t cs off:=rfl
theorem aQ(hs:cj P t=some s){b off:Nat}{v:V}:aN P cfg h t (.ptr b off) v=stv cfg h b off s (cellsOf v):=by
 simp only[aN,hs,stv];cases cellsOf v<;>rfl
@[simp] theorem EB{b off:Nat}{vs:List V}:stv cfg h b off s (some vs)=if vs.length=s then aJ cfg h b off vs else none:=rfl
@[simp] theorem gI{b off:Nat}{vs:List V}:aJ cfg h b off vs=(ab h b).bind fun cs=>if off+vs.length<=cs.length&&cfg.wr b&&(decide (cfg.thr<=b)||vs.all V.rf) then some (h.set b (some (putAt cs off vs))) else none:=by
 simp only[aJ];cases ab h b<;>rfl
@[simp] theorem KP{cs:List V}{off:Nat}:putAt cs off []=cs:=rfl
@[simp] theorem JF{cs r:List V}{off:Nat}{v:V}:putAt cs off (v::r)=putAt (bR cs off v) (off+1) r:=rfl
@[simp] theorem Hq{k:IntKind}{i:Int}:cellsOf (.int k i)=some [.int k i]:=rfl
@[simp] theorem Fm{b:Bool}:cellsOf (.bool b)=some [.bool b]:=rfl
@[simp] theorem Ht{x:ByteArray}:cellsOf (.str x)=some [.str x]:=rfl
@[simp] theorem Hr{xs:List (List V)}:cellsOf (.lst xs)=some [.lst xs]:=rfl
@[simp] theorem Fq:cellsOf .nils=some [.nils]:=rfl
@[simp] theorem Fp:cellsOf .nilp=some [.nilp]:=rfl
@[simp] theorem Hs{b off:Nat}:cellsOf (.ptr b off)=some [.ptr b off]:=rfl
@[simp] theorem Ix{a b c d e:Nat}:cellsOf (.sl a b c d e)=some [.sl a b c d e]:=rfl
@[simp] theorem Fo{f:Fn}{a b:List V}:cellsOf (.func f a b)=some [.func f a b]:=rfl
@[simp] theorem Ho{cs:List V}:cellsOf (.agg cs)=if cs.all V.leaf then some cs else none:=rfl
@[simp] theorem leaf_int{k:IntKind}{i:Int}:(V.int k i).leaf=true:=rfl
@[simp] theorem Kv{b:Bool}:(V.bool b).leaf=true:=rfl
@[simp] theorem leaf_str{x:ByteArray}:(V.str x).leaf=true:=rfl
@[simp] theorem leaf_lst{xs:List (List V)}:(V.lst xs).leaf=true:=rfl
@[simp] theorem Ky:V.nils.leaf=true:=rfl
@[simp] theorem Kx:V.nilp.leaf=true:=rfl
@[simp] theorem leaf_ptr{b off:Nat}:(V.ptr b off).leaf=true:=rfl
@[simp] theorem leaf_sl{a b c d e:Nat}:(V.sl a b c d e).leaf=true:=rfl
@[simp] theorem Kw{f:Fn}{a b:List V}:(V.func f a b).leaf=true:=rfl
@[simp] theorem rf_int{k:IntKind}{i:Int}:(V.int k i).rf=true:=rfl
@[simp] theorem rf_bool{b:Bool}:(V.bool b).rf=true:=rfl
@[simp] theorem rf_str{x:ByteArray}:(V.str x).rf=true:=rfl
@[simp] theorem rf_lst{xs:List (List V)}:(V.lst xs).rf=true:=rfl
@[simp] theorem rf_nils:V.nils.rf=true:=rfl
@[simp] theorem rf_nilp:V.nilp.rf=true:=rfl
@[simp] theorem rf_ptr{b off:Nat}:(V.ptr b off).rf=false:=rfl
@[simp] theorem rf_sl{a b c d e:Nat}:(V.sl a b c d e).rf=false:=rfl
@[simp] theorem KB{k:IntKind}{i:Int}:(V.int k i).noref=true:=rfl
@[simp] theorem Jl{b:Bool}:(V.bool b).noref=true:=rfl
@[simp] theorem KE{x:ByteArray}:(V.str x).noref=true:=rfl
@[simp] theorem KC{xs:List (List V)}:(V.lst xs).noref=true:=rfl
@[simp] theorem Jm:V.nils.noref=true:=rfl
@[simp] theorem KA{cs:List V}:(V.agg cs).noref=cs.all V.rf:=rfl
@[simp] theorem KD{b off:Nat}:(V.ptr b off).noref=false:=rfl
@[simp] theorem noref_sl{a b c d e:Nat}:(V.sl a b c d e).noref=false:=rfl
@[simp] theorem JX{cs:List V}:cG (.agg cs)=cs:=rfl
@[simp] theorem JY{k:IntKind}{i:Int}:cG (.int k i)=[.int k i]:=rfl
@[simp] theorem Ia{b:Bool}:cG (.bool b)=[.bool b]:=rfl
@[simp] theorem JZ{x:ByteArray}:cG (.str x)=[.str x]:=rfl
@[simp] theorem Ie:cG .nils=[.nils]:=rfl
@[simp] theorem Ic:cG .nilp=[.nilp]:=rfl
@[simp] theorem Ib:cG .nilf=[.nilf]:=rfl
@[simp] theorem wr_pure{b:Nat}:(Cfg.wr ⟨0,[],0⟩ b)=true:=by rfl
theorem bH{lo b thr:Nat}{ex:List Nat}(hb:lo<=b):(Cfg.wr ⟨lo,ex,thr⟩ b)=true:=by simp[Cfg.wr,hb]
@[simp] theorem Hj{b:Nat}:ab [] b=none:=rfl
@[simp] theorem Km:isMap []=false:=rfl
@[simp] theorem Kk{k:IntKind}{i:Int}{r:List V}:isMap (.int k i::r)=false:=rfl
@[simp] theorem I4{b:Bool}{r:List V}:isMap (.bool b::r)=false:=rfl
@[simp] theorem Ko{x:ByteArray}{r:List V}:isMap (.str x::r)=false:=rfl
@[simp] theorem Kl{xs:List (List V)}{r:List V}:isMap (.lst xs::r)=false:=rfl
@[simp] theorem I7{r:List V}:isMap (.nils::r)=false:=rfl
@[simp] theorem I6{r:List V}:isMap (.nilp::r)=false:=rfl
@[simp] theorem isMap_sl{a b c d e:Nat}{r:List V}:isMap (.sl a b c d e::r)=false:=rfl
@[simp] theorem Kn{a b:Nat}{r:List V}:isMap (.ptr a b::r)=false:=rfl
@[simp] theorem I5{f:Fn}{a b r:List V}:isMap (.func f a b::r)=false:=rfl
@[simp] theorem gk{k:IntKind}{l:List Int}:isMap (l.map (V.int k))=false:=by cases l<;>rfl
@[simp] theorem vQ{l:List Bool}:isMap (l.map V.bool)=false:=by cases l<;>rfl
@[simp] theorem oh{k:IntKind}{l:List Int}{r:List V}(h:isMap r=false):isMap (l.map (V.int k)++r)=false:=by cases l<;>first|exact h|rfl
@[simp] theorem isMap_mp{k e:IntKind}{l:List (Int×Int)}{r:List V}:isMap (.mp k e l::r)=true:=rfl
@[simp] theorem lS{cs:List V}{r:Heap}:ab (some cs::r) 0=if isMap cs then none else some cs:=rfl
@[simp] theorem de{x:Option (List V)}{r:Heap}{b:Nat}:ab (x::r) (b+1)=ab r b:=by rfl
@[simp] theorem uS{h:Heap}{cs:List V}{r:Heap}:ab (h++some cs::r) h.length=if isMap cs then none else some cs:=by simp[ab]
@[simp] theorem bn{h r:Heap}{k:Nat}:ab (h++r) (h.length+k)=ab r k:=by simp[ab,Lg]
@[simp] theorem aj{h r:Heap}{b:Nat}(hb:b<h.length):ab (h++r) b=ab h b:=by simp[ab,K8 hb]
@[simp] theorem gM{h:Heap}{b:Nat}{cs:List V}(hb:b<h.length):ab (h.set b (some cs)) b=if isMap cs then none else some cs:=by simp[ab,hb]
@[simp] theorem ak{h:Heap}{b c:Nat}{x:Option (List V)}(hb:b≠c):ab (h.set b x) c=ab h c:=by simp[ab,Lb hb]
theorem ao{h:Heap}{b:Nat}{cs:List V}(hb:ab h b=some cs):b<h.length:=(K5.1 (aA hb)).1
@[simp] theorem GQ{h r:Heap}{x y:Option (List V)}:(h++x::r).set h.length y=h++y::r:=by simp
@[simp] theorem H8{h r:Heap}{y:Option (List V)}{k:Nat}:(h++r).set (h.length+k) y=h++r.set k y:=by simp
@[simp] theorem dK{h:Heap}{cs:List V}{r:Heap}{b:Nat}(hb:b=h.length):ab (h++some cs::r) b=if isMap cs then none else some cs:=by simp_all
@[simp] theorem set_len'{h r:Heap}{x y:Option (List V)}{b:Nat}(hb:b=h.length):(h++x::r).set b y=h++y::r:=by simp_all
@[simp] theorem set_left{h r:Heap}{y:Option (List V)}{b:Nat}(hb:b<h.length):(h++r).set b y=h.set b y++r:=LY _ _ hb
theorem di{k:IntKind}{i:Int}:∀ n:Nat,bj [V.int k i] n=(List.replicate n i).map (V.int k)
 | 0=>rfl
 | n+1=>by simp[bj,di n,MK]
@[simp] theorem KR{k:IntKind}{l:List Int}{i:Nat}{v:Int}:bR (l.map (V.int k)) i (.int k v)=(l.set i v).map (V.int k):=by simp[bR,MZ]
@[simp] theorem KX{k:IntKind}{l:List Int}{i:Nat}:slot (l.map (V.int k)) i=(l[i]?).map (V.int k):=by simp[slot]
@[simp] theorem HN{l:List V}{i:Nat}{v:V}:(bR l i v).length=l.length:=by simp[bR]
theorem ints_set{k:IntKind}{l:List Int}{i:Nat}{v:Int}:(l.map (V.int k)).set i (.int k v)=(l.set i v).map (V.int k):=by simp
@[simp] theorem GW{xs:List (List V)}:bc h s (.lst xs)=if xs.all (fun e=>e.length==s) then some (xs.length,xs.flatten) else none:=rfl
@[simp] theorem Fc:bc h s .nils=some (0,[]):=rfl
def srcO(s off len:Nat):Option (List V)->Option (Nat×List V)
 | some cs=>if off+len*s<=cs.length then some (len,(cs.drop off).take (len*s)) else none
 | none=>if len=0 then some (0,[]) else none
@[simp] theorem K0{off len:Nat}{cs:List V}:srcO s off len (some cs)=if off+len*s<=cs.length then some (len,(cs.drop off).take (len*s)) else none:=rfl
@[simp] theorem xh{b off len cap:Nat}:bc h s (.sl b off len cap s)=srcO s off len (ab h b):=by
 simp only[bc];cases ab h b with
 | none=>rfl
 | some cs=>simp
@[simp] theorem Hy{fr:List V}:cU fr []=some []:=rfl
@[simp] theorem Fy{fr:List V}{j:Nat}{x:Operand}{r:List (Nat×Operand)}:cU fr ((j,x)::r)=(ev fr x).bind fun v=>(cU fr r).map ((j,v)::·):=by
 simp only[cU];cases ev fr x with
 | none=>rfl
 | some v=>cases cU fr r<;>rfl
@[simp] theorem HV{fr:List V}{i:Nat}:aV fr i []=some []:=rfl
@[simp] theorem Gy{fr:List V}{i j:Nat}{x:Operand}{r:List (Nat×Operand)}:aV fr i ((j,x)::r)=if i=j then (ev fr x).bind fun v=>(aV fr (i+1) r).map (v::·) else none:=by
 simp only[aV];split
 ·cases ev fr x with
  | none=>rfl
  | some v=>cases aV fr (i+1) r<;>rfl
 ·rfl
theorem br(hu:P.underlying t=some (.slice e))(hs:cj P e=some s)(hz:(zeroOf P e).isSome=true)(hp:decide (0<s)=true){len:Nat}{vs:List V}:aI P h t len vs=(bu s vs).bind fun cs=>if vs.length=len&&decide (len*s<=16777216) then some (.sl h.length 0 len len s,h++[some cs]) else none:=by
 simp only[aI,hu,hs]
 grind
@[simp] theorem Fl:bu s []=some []:=rfl
@[simp] theorem E5{v:V}{r:List V}:bu s (v::r)=(cellsOf v).bind fun cs=>if cs.length=s then (bu s r).map (cs++·) else none:=by
 simp only[bu];cases cellsOf v with
 | none=>rfl
 | some cs =>
  simp only[Md];split
  ·cases bu s r<;>rfl
  ·rfl
@[simp] theorem Kf{pl:Nat->Option (Nat×Nat)}{cs:List V}:cD pl cs []=some cs:=rfl
@[simp] theorem IH{pl:Nat->Option (Nat×Nat)}{cs:List V}{i:Nat}{v:V}{r:List (Nat×V)}:cD pl cs ((i,v)::r)=(pl i).bind fun q=>(cellsOf v).bind fun vs=>if vs.length=q.2&&decide (q.1+q.2<=cs.length) then cD pl (putAt cs q.1 vs) r else none:=by
 simp only[cD];cases pl i with
 | none=>rfl
 | some q =>
  obtain⟨off,s⟩:=q;cases cellsOf v with
  | none=>rfl
  | some vs=>rfl
theorem bS{fields:Array Field}{z:List V}{pl:Nat->Option (Nat×Nat)}(hz:zeroOf P t=some (.agg z))(hu:P.underlying t=some (.struct fields))(ha:pJ P fields=true)(h0:∀ i,placesOf P fields i=pl i){ps:List (Nat×V)}:bW P t ps=(cD pl z ps).map .agg:=by
 obtain rfl:placesOf P fields=pl:=funext h0;simp_all[bW,if_true]
theorem AW{n:Nat}{z:List V}(hz:zeroOf P t=some (.agg z))(hu:P.underlying t=some (.array n e))(hs:cj P e=some s){ps:List (Nat×V)}:bW P t ps=(cD (fun i=>some (i*s,s)) z ps).map .agg:=by
 grind[bW]
@[simp] theorem binV_add{k:IntKind}{a b:Int}:cw P .add t (.int k a) (.int k b)=bx .add k a b:=by simp[cw]
@[simp] theorem binV_sub{k:IntKind}{a b:Int}:cw P .sub t (.int k a) (.int k b)=bx .sub k a b:=by simp[cw]
@[simp] theorem binV_mul{k:IntKind}{a b:Int}:cw P .mul t (.int k a) (.int k b)=bx .mul k a b:=by simp[cw]
@[simp] theorem binV_quo{k:IntKind}{a b:Int}:cw P .quo t (.int k a) (.int k b)=bx .quo k a b:=by simp[cw]
@[simp] theorem binV_rem{k:IntKind}{a b:Int}:cw P .rem t (.int k a) (.int k b)=bx .rem k a b:=by simp[cw]
@[simp] theorem binV_and{k:IntKind}{a b:Int}:cw P .and t (.int k a) (.int k b)=bx .and k a b:=by simp[cw]
@[simp] theorem binV_or{k:IntKind}{a b:Int}:cw P .or t (.int k a) (.int k b)=bx .or k a b:=by simp[cw]
@[simp] theorem binV_xor{k:IntKind}{a b:Int}:cw P .xor t (.int k a) (.int k b)=bx .xor k a b:=by simp[cw]
@[simp] theorem Hg{k:IntKind}{a b:Int}:cw P .andNot t (.int k a) (.int k b)=bx .andNot k a b:=by simp[cw]
@[simp] theorem binV_eql{k:IntKind}{a b:Int}:cw P .eql t (.int k a) (.int k b)=bx .eql k a b:=by simp[cw]
@[simp] theorem binV_neq{k:IntKind}{a b:Int}:cw P .neq t (.int k a) (.int k b)=bx .neq k a b:=by simp[cw]
@[simp] theorem binV_lss{k:IntKind}{a b:Int}:cw P .lss t (.int k a) (.int k b)=bx .lss k a b:=by simp[cw]
@[simp] theorem binV_leq{k:IntKind}{a b:Int}:cw P .leq t (.int k a) (.int k b)=bx .leq k a b:=by simp[cw]
@[simp] theorem binV_gtr{k:IntKind}{a b:Int}:cw P .gtr t (.int k a) (.int k b)=bx .gtr k a b:=by simp[cw]
@[simp] theorem binV_geq{k:IntKind}{a b:Int}:cw P .geq t (.int k a) (.int k b)=bx .geq k a b:=by simp[cw]
@[simp] theorem binV_shl{k k':IntKind}{a b:Int}(hb:¬ b<0):cw P .shl t (.int k a) (.int k' b)=some (.int k (k.wrap (a*2 ^ (min b.toNat k.bits)))):=by simp[cw,hb]
@[simp] theorem binV_shr{k k':IntKind}{a b:Int}(hb:¬ b<0):cw P .shr t (.int k a) (.int k' b)=some (.int k (a.fdiv (2 ^ (min b.toNat k.bits)))):=by simp[cw,hb]
@[simp] theorem IT{k:IntKind}{a b:Int}:bx .add k a b=some (.int k (k.wrap (a+b))):=rfl
@[simp] theorem I3{k:IntKind}{a b:Int}:bx .sub k a b=some (.int k (k.wrap (a-b))):=rfl
@[simp] theorem IZ{k:IntKind}{a b:Int}:bx .mul k a b=some (.int k (k.wrap (a*b))):=rfl
@[simp] theorem I1{k:IntKind}{a b:Int}(hb:¬ b=0):bx .quo k a b=some (.int k (k.wrap (a.tdiv b))):=by simp[bx,hb]
@[simp] theorem I2{k:IntKind}{a b:Int}(hb:¬ b=0):bx .rem k a b=some (.int k (a.tmod b)):=by simp[bx,hb]
@[simp] theorem IU{k:IntKind}{a b:Int}:bx .eql k a b=some (.bool (decide (a=b))):=by rfl
@[simp] theorem I0{k:IntKind}{a b:Int}:bx .neq k a b=some (.bool (!decide (a=b))):=by rfl
@[simp] theorem IY{k:IntKind}{a b:Int}:bx .lss k a b=some (.bool (decide (a<b))):=rfl
@[simp] theorem IX{k:IntKind}{a b:Int}:bx .leq k a b=some (.bool (decide (a<=b))):=rfl
@[simp] theorem IW{k:IntKind}{a b:Int}:bx .gtr k a b=some (.bool (decide (b<a))):=rfl
@[simp] theorem IV{k:IntKind}{a b:Int}:bx .geq k a b=some (.bool (decide (b<=a))):=rfl
@[simp] theorem unV_not{b:Bool}:unV .not (.bool b)=some (.bool !b):=rfl
@[simp] theorem unV_neg{k:IntKind}{a:Int}:unV .neg (.int k a)=some (.int k (k.wrap (0-a))):=rfl
@[simp] theorem Fz{vs:List V}{i:Nat}:gS (.tup vs) i=slot vs i:=rfl
@[simp] theorem E9{b off:Nat}:eV (.ptr b off)=some (.ptr b off):=rfl
@[simp] theorem DN{cs:List V}{off:Nat}:eV (.lptr cs off)=some (.lptr cs off):=rfl
@[simp] theorem DM{f:FuncId}{a c:List V}:eV (.func (.func f) a c)=some (.func (.func f) a c):=rfl
@[simp] theorem get_zero{α:Type}{a:α}{l:List α}:(a::l)[0]?=some a:=rfl
@[simp] theorem EC{a b:Nat}:((a:Int)+(b:Int)).toNat=a+b:=by omega
@[simp] theorem za{a b:Nat}:((a:Int)+(no_index (OfNat.ofNat b):Int)).toNat=a+(no_index (OfNat.ofNat b):Nat):=by
 rfl
@[simp] theorem cast_eq{a b:Nat}:((a:Int)=(b:Int))↔a=b:=Int.ofNat_inj
theorem wrap64{x:Int}(h1:-9223372036854775808<=x)(h2:x<=9223372036854775807):IntKind.i64.wrap x=x:=by
 grind[IntWalk.i64_in]
inductive LK where
 | int
 | bool
 | str
def flatK:List LK->List V->List V->Option Bool
 | [],[],[]=>some true
 | .int::ks,.int k a::x,.int k' b::y=>if k=k' then (if a==b then flatK ks x y else some false) else none
 | .bool::ks,.bool a::x,.bool b::y=>if a==b then flatK ks x y else some false
 | .str::ks,.str a::x,.str b::y=>if a.toList==b.toList then flatK ks x y else some false
 | _,_,_=>none
def chk(P:Program):Nat->List Field->List LK->Bool
 | _,[],[]=>true
 | i, f :: fs, k :: ks => (f.offset == i) && !(f.name == "_") && (match P.underlying f.type, k with
  | some (.int _),.int=>true
  | some .bool,.bool=>true
  | some .string,.str=>true
  | _,_=>false)&&chk P (i+1) fs ks
 | _,_,_=>false
theorem zD:∀ (fs:List Field) (ks:List LK) (i:Nat) (xs ys:List V),chk P i fs ks=true->gg P i fs xs ys=flatK ks xs ys
 | [],[],i,xs,ys,_=>by
  cases xs<;>cases ys<;>rfl
 | [],_::_,i,xs,ys,hc=>by simp[chk]at hc
 | f::fs,[],i,xs,ys,hc=>by simp[chk]at hc
 | f::fs,k::ks,i,xs,ys,hc=>by
  simp only[chk,Ld,beq_iff_eq,Mq]at hc;obtain⟨⟨⟨h1,h2⟩,h3⟩,h4⟩:=hc;have ih:=zD fs ks (i+1);cases xs with
  | nil=>cases k<;>rfl
  | cons a x =>
   cases ys with
   | nil=>cases k<;>cases a<;>rfl
   | cons b y =>
    have ih:=ih x y h4;simp only[gg,h1,h2,decide_true,Bool.not_false,M1,if_true];cases hu:P.underlying f.type with
    | none=>simp_all
    | some d =>
     rw[hu]at h3;cases d<;>cases k<;>simp only[Lv]at h3
     all_goals
      simp only[qG,hu];cases a<;>cases b<;>simp only[flatK]<;>try rfl
     ·grind
     ·grind
     grind
theorem CY{fields:Array Field}{ks:List LK}(hu:P.underlying t=some (.struct fields))(h1:P.stoodInHeld t=false)(h2:P.eqGuardType P.depth t=false)(hc:chk P 0 fields.toList ks=true){xs ys:List V}:eqV P t (.agg xs) (.agg ys)=flatK ks xs ys:=by
 simp only[eqV,hu,h1,h2,Bool.not_false,Oo,if_true]
 grind[zD]
@[simp] theorem Kg:flatK [] [] []=some true:=rfl
@[simp] theorem flatK_1{k:IntKind}{a b:Int}:flatK [.int] [.int k a] [.int k b]=some (decide (a=b)):=by
 by_cases h:a=b<;>simp[flatK,h]
@[simp] theorem flatK_2{k k2:IntKind}{a b a2 b2:Int}:flatK [.int,.int] [.int k a,.int k2 a2] [.int k b,.int k2 b2]=some (decide (a=b)&&decide (a2=b2)):=by
 by_cases h:a=b<;>by_cases h2:a2=b2<;>simp[flatK,h,h2]
@[simp] theorem flatK_3{k k2 k3:IntKind}{a b a2 b2 a3 b3:Int}:flatK [.int,.int,.int] [.int k a,.int k2 a2,.int k3 a3] [.int k b,.int k2 b2,.int k3 b3]=some (decide (a=b)&&(decide (a2=b2)&&decide (a3=b3))):=by
 by_cases h:a=b<;>by_cases h2:a2=b2<;>by_cases h3:a3=b3<;>simp[flatK,h,h2,h3]
@[simp] theorem flatK_4{k k2 k3 k4:IntKind}{a b a2 b2 a3 b3 a4 b4:Int}:flatK [.int,.int,.int,.int] [.int k a,.int k2 a2,.int k3 a3,.int k4 a4] [.int k b,.int k2 b2,.int k3 b3,.int k4 b4]=some (decide (a=b)&&(decide (a2=b2)&&(decide (a3=b3)&&decide (a4=b4)))):=by
 by_cases h:a=b<;>by_cases h2:a2=b2<;>by_cases h3:a3=b3<;>by_cases h4:a4=b4<;>simp[flatK,h,h2,h3,h4]
@[simp] theorem Ip{xs ys:List V}:cw P .eql t (.agg xs) (.agg ys)=(eqV P t (.agg xs) (.agg ys)).map .bool:=by
 simp only[cw];cases eqV P t (.agg xs) (.agg ys)<;>rfl
@[simp] theorem Hi{xs ys:List V}:cw P .neq t (.agg xs) (.agg ys)=(eqV P t (.agg xs) (.agg ys)).map fun b=>.bool !b:=by
 simp only[cw];cases eqV P t (.agg xs) (.agg ys)<;>rfl
theorem A6(hu:P.underlying t=some .bool){a b:Bool}:eqV P t (.bool a) (.bool b)=some (a==b):=by grind[eqV]
@[simp] theorem Hh{a b:Bool}:cw P .eql t (.bool a) (.bool b)=(eqV P t (.bool a) (.bool b)).map .bool:=by
 simp only[cw];cases eqV P t (.bool a) (.bool b)<;>rfl
@[simp] theorem Fi{a b:Bool}:cw P .neq t (.bool a) (.bool b)=(eqV P t (.bool a) (.bool b)).map fun b=>.bool !b:=by
 simp only[cw];cases eqV P t (.bool a) (.bool b)<;>rfl
@[simp] theorem frz_int{n d:Nat}{k:IntKind}{i:Int}:frz h n (d+1) (.int k i)=some (.int k i):=rfl
@[simp] theorem frz_bool{n d:Nat}{b:Bool}:frz h n (d+1) (.bool b)=some (.bool b):=rfl
@[simp] theorem frz_str{n d:Nat}{x:ByteArray}:frz h n (d+1) (.str x)=some (.str x):=rfl
@[simp] theorem frz_lst{n d:Nat}{xs:List (List V)}:frz h n (d+1) (.lst xs)=some (.lst xs):=rfl
@[simp] theorem frz_nils{n d:Nat}:frz h n (d+1) .nils=some (.lst []):=rfl
@[simp] theorem frz_nilp{n d:Nat}:frz h n (d+1) .nilp=some .nilp:=rfl
@[simp] theorem frz_no{n d:Nat}:frz h n (d+1) .no=some .no:=rfl
@[simp] theorem FI{n d:Nat}{cs:List V}:frz h n (d+1) (.agg cs)=(cs.mapM (frz h n d)).map .agg:=by
 simp only[frz];cases cs.mapM (frz h n d)<;>rfl
@[simp] theorem frz_tup{n d:Nat}{cs:List V}:frz h n (d+1) (.tup cs)=(cs.mapM (frz h n d)).map .tup:=by
 simp only[frz];cases cs.mapM (frz h n d)<;>rfl
theorem fk{n d:Nat}{k:IntKind}:∀ (l:List Int),(l.map (V.int k)).mapM (frz h n (d+1))=some (l.map (V.int k))
 | []=>rfl
 | x::l=>by simp[Mn,fk l]
theorem gP:∀ (l:List V),chunk 1 l.length l=l.map fun v=>[v]
 | []=>rfl
 | x::l=>by simp[chunk,gP l]
theorem jA{n d b off len cap k:Nat}:frz h n (d+1) (.sl b off len cap k)=if b<n then some (.sl b off len cap k)
   else match ab h b with
    | some cs=>if off+len*k<=cs.length then
      match ((cs.drop off).take (len*k)).mapM (frz h n d) with
      | some cs'=>if cs'.all V.rf then some (.lst (chunk k len cs')) else none
      | none=>none
     else none
    | none=>none:=by rfl
theorem cK{n d b len cap:Nat}{k:IntKind}{l:List Int}(hb:ab h b=some (l.map (V.int k)))(hn:n<=b)(hl:l.length=len):frz h n (d+2) (.sl b 0 len cap 1)=some (.lst (l.map fun x=>[.int k x])):=by
 subst hl;have e:¬ b<n:=by omega
 have e2:List.take (l.length*1) (l.map (V.int k))=l.map (V.int k):=Li (by simp);have e3:chunk 1 l.length (l.map (V.int k))=l.map fun x=>[V.int k x]:=by
  have:=gP (l.map (V.int k));simp_all
 have e4:(l.map (V.int k)).all V.rf=true:=by simp
 rw[jA];simp only[e,if_false,hb,Mo,e2,fk,e3,e4,if_true];simp
theorem qV{d b len cap:Nat}{k:IntKind}{l:List Int}(hb:ab h b=some (l.map (V.int k))):own h (d+2) (.sl b 0 len cap 1)=true:=by
 simp only[own,hb,Mo]
 grind
end
end Go.Ab
