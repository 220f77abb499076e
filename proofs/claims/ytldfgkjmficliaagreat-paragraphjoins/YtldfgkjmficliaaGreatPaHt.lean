/- Several texts of this proof in one. -/
import Derived.Test.YtldfgkjmficliaaGreatAbW2
import Derived.IntWalk
import Derived.RangeFuncBox
import Derived.RangeFuncLeaves
import Derived.RangeFuncNested
import Derived.Shelf.Abstract
import Derived.Shelf.RegionOpen
import Derived.WalkKit
import Derived.OwnWalkIn
import Derived.TacticsInMore
import Derived.LoopNIn
import Derived.LoopIn
import Derived.Test.YtldfgkjmficliaaGreatProg
set_option linter.unusedSimpArgs false
set_option linter.unusedVariables false
namespace Go.Ab
def jP(s:Nat)(xs:List (List V))(i:Int):Option V:=
 if 0≤i then match xs[i.toNat]? with
  | some e=>if e.length=s then some (.lptr e 0) else none
  | none=>none
 else none
def lp(s b off len c:Nat)(i:Int):Option V:=
 if 0≤i then if i.toNat<len&&s==c then some (.ptr b (off+i.toNat*c)) else none else none
def ti(s:Nat)(xs:List (List V))(lo hi:Option Nat):Option V:=
 match lo,hi with
 | some l,some r=>if decide (l≤r)&&decide (r≤xs.length)&&(l==r||(xs[l]?).map List.length==some s) then some (.lst ((xs.take r).drop l)) else none
 | _,_=>none
def vH(s b off len cap k:Nat)(lo hi:Option Nat):Option V:=
 match lo,hi with
 | some l,some r =>
  if s=k&&decide (l≤r)&&decide (r≤len)&&decide (len≤cap) then
   if l=0 then some (.sl b off r cap k)
   else if l=r then some (.lst [])
   else some (.sl b (off+l*k) (r-l) (cap-l) k)
  else none
 | _,_=>none
def slcN(lo hi:Option Nat):Option V:=
 match lo,hi with
 | some 0,some 0=>some .nils
 | _,_=>none
def mkS(h:Heap)(s y:Nat)(z:List V)(n m:Int):Option (V×Heap):=
 if 0≤n&&n≤m&&roomy m.toNat y then some (.sl h.length 0 n.toNat m.toNat s,h++[some (bm z m.toNat)]) else none
def gj(cfg:Cfg)(h:Heap)(s y:Nat)(d:V)(n:Nat)(new:List V):Option (V×Heap):=
 match d with
 | .nils=>if roomy n y then
   if n=0 then some (.nils,h) else some (.sl h.length 0 n n s,h++[some new])
  else none
 | .sl b off len cap k =>
  if k=s&&roomy (len+n) y then
   if len+n≤cap then
    match aO cfg h b (off+len*s) new with
    | some h'=>some (.sl b off (len+n) cap k,h')
    | none=>none
   else match ab h b with
    | some cs=>if off=0&&cfg.wr b&&decide (len*s≤cs.length) then
      some (.sl h.length 0 (len+n) (len+n) k,(h.set b none)++[some (cs.take (len*s)++new)])
     else none
    | none=>none
  else none
 | _=>none
def kQ(cfg:Cfg)(h:Heap)(s y:Nat)(d:V)(src:Option (Nat×List V)):Option (V×Heap):=
 match src with
 | some (n,new)=>if new.all V.leaf then gj cfg h s y d n new else none
 | none=>none
def stv(cfg:Cfg)(h:Heap)(b off s:Nat)(vs:Option (List V)):Option Heap:=
 match vs with
 | some vs=>if vs.length=s then aO cfg h b off vs else none
 | none=>none
section
variable {P:Program}{cfg:Cfg}{h:Heap}{t e:TypeId}{s y:Nat}
theorem dK(hu:P.underlying t=some (.slice e))(hs:cq P e=some s){xs:List (List V)}{k:IntKind}{i:Int}:ay P t (.lst xs) (.int k i)=jP s xs i:=by
 simp only[ay,hu,hs,jP]
 split<;>rfl
theorem eV(hu:P.underlying t=some (.slice e))(hs:cq P e=some s){b off len cap c:Nat}{k:IntKind}{i:Int}:ay P t (.sl b off len cap c) (.int k i)=lp s b off len c i:=by
 simp only[ay,hu,hs,lp]
@[simp] theorem EZ{xs:List (List V)}{i:Int}(hi:0≤i):jP s xs i=(xs[i.toNat]?).bind fun e=>if e.length=s then some (.lptr e 0) else none:=by
 simp only[jP,hi,if_true]
 cases xs[i.toNat]?<;>rfl
@[simp] theorem idxS_of{b off len:Nat}{i:Int}(hi:0≤i)(hl:i.toNat<len):lp s b off len s i=some (.ptr b (off+i.toNat*s)):=by
 simp[lp,hi,hl]
theorem yy{n:Nat}(hu:P.underlying t=some (.array n e))(hs:cq P e=some s){b off:Nat}{k:IntKind}{i:Int}:ay P t (.ptr b off) (.int k i)=if 0≤i then (if i.toNat<n then some (.ptr b (off+i.toNat*s)) else none) else none:=by
 simp only[ay,hu,hs]
theorem E0{n:Nat}(hu:P.underlying t=some (.array n e))(hs:cq P e=some s){cs:List V}{k:IntKind}{i:Int}:kC P t (.agg cs) (.int k i)=if 0≤i then (if i.toNat<n then part P e cs (i.toNat*s) else none) else none:=by
 simp only[kC,hu,hs]
theorem tj(hu:P.underlying t=some (.slice e))(hs:cq P e=some s){xs:List (List V)}{lo hi:Option (Option V)}:da P h t (.lst xs) lo hi=ti s xs (bA 0 lo) (bA xs.length hi):=by
 simp only[da,hu,hs,ti]
 cases bA 0 lo<;>cases bA xs.length hi<;>rfl
theorem tk(hu:P.underlying t=some (.slice e))(hs:cq P e=some s){b off len cap k:Nat}{lo hi:Option (Option V)}:da P h t (.sl b off len cap k) lo hi=vH s b off len cap k (bA 0 lo) (bA len hi):=by
 simp only[da,hu,hs,vH]
 cases bA 0 lo<;>cases bA len hi<;>rfl
@[simp] theorem Ga{d:Nat}:bA d none=some d:=rfl
@[simp] theorem Gb{d:Nat}{k:IntKind}{i:Int}(hi:0≤i):bA d (some (some (.int k i)))=some i.toNat:=by simp[bA,hi]
theorem zd{xs:List (List V)}{l r:Nat}(h1:l≤r)(h2:r≤xs.length)(hk:∀ e∈xs,e.length=s):ti s xs (some l) (some r)=some (.lst ((xs.take r).drop l)):=by
 simp only[ti]
 rw[if_pos]
 simp only[h1,h2,decide_true,Bool.true_and,Bool.or_eq_true,beq_iff_eq]
 by_cases hlr:l=r
 ·exact .inl hlr
 ·right
  have:l<xs.length:=by omega
  rw[List.getElem?_eq_getElem this]
  simp[hk _ (List.getElem_mem this)]
@[simp] theorem J7{k:IntKind}{l:List Int}{a b:Nat}(h1:a≤b)(h2:b≤l.length):ti 1 (l.map fun n=>[V.int k n]) (some a) (some b)=some (.lst (((l.take b).drop a).map fun n=>[V.int k n])):=by
 rw[zd h1 (by simpa using h2) (by simp)]
 simp[List.map_drop,List.map_take]
@[simp] theorem tm{b off len cap l r:Nat}(h1:l≤r)(h2:r≤len)(h3:len≤cap):vH s b off len cap s (some l) (some r)=if l=0 then some (.sl b off r cap s) else if l=r then some (.lst []) else some (.sl b (off+l*s) (r-l) (cap-l) s):=by
 simp[vH,h1,h2,h3]
@[simp] theorem slcN_of:slcN (some 0) (some 0)=some .nils:=rfl
theorem Cu(hu:P.underlying t=some (.slice e))(hs:cq P e=some s)(hy:bytesOf P e=some y){z:V}{zc:List V}(hz:zeroOf P e=some z)(hzc:cJ z=zc)(hl:(zc.length==s)=true)(hp:decide (0<s)=true){n m:Int}:
  cE P h t (.int .i64 n) (.int .i64 m)=mkS h s y zc n m:=by
 subst hzc
 simp only[cE,hu,hs,hy,hz,mkS,hl,hp,Bool.and_true]
@[simp] theorem mkS_of{z:List V}{n m:Int}(h1:0≤n)(h2:n≤m)(h3:m*y≤1099511627776)(h4:m≤1099511627776):mkS h s y z n m=some (.sl h.length 0 n.toNat m.toNat s,h++[some (bm z m.toNat)]):=by
 have e1:m.toNat*y≤1099511627776:=by
  have hm:(m.toNat:Int)=m:=Int.toNat_of_nonneg (by omega)
  have:((m.toNat*y:Nat):Int)=m*y:=by rw[Int.natCast_mul,hm]
  omega
 have hr:roomy m.toNat y=true:=by simp[roomy,e1];omega
 simp[mkS,hr,h1,h2]
theorem ec(hu:P.underlying t=some (.slice e))(hs:cq P e=some s)(hy:bytesOf P e=some y)(hz:qy P e s=true)(hp:decide (0<s)=true){d x:V}:cA P cfg h t t d x=kQ cfg h s y d (bu h s x):=by
 simp only[cA,hu,hs,hy,kQ]
 cases bu h s x with
 | none=>rfl
 | some p =>
  obtain⟨n,new⟩:=p
  simp only[hp,hz,decide_true,Bool.and_true]
  split
  ·unfold gj;rfl
  ·rfl
@[simp] theorem Jj{d:V}{n:Nat}{new:List V}:kQ cfg h s y d (some (n,new))=if new.all V.leaf then gj cfg h s y d n new else none:=rfl
theorem qV{n:Nat}{new:List V}(h1:n*y≤1099511627776)(h2:n≤1099511627776)(h3:0<n):gj cfg h s y .nils n new=some (.sl h.length 0 n n s,h++[some new]):=by
 have hr:roomy n y=true:=by simp[roomy];omega
 simp only[gj,hr,if_true]
 rw[if_neg (by omega)]
theorem js{b len cap n:Nat}{cs new:List V}(hb:ab h b=some cs)(hw:cfg.wr b=true)(h1:(len+n)*y≤1099511627776)(h2:len+n≤1099511627776)(h3:cap<len+n)(h4:len*s≤cs.length):
  gj cfg h s y (.sl b 0 len cap s) n new=some (.sl h.length 0 (len+n) (len+n) s,(h.set b none)++[some (cs.take (len*s)++new)]):=by
 have hr:roomy (len+n) y=true:=by simp[roomy];omega
 simp only[gj,hr,hb,hw,h4,decide_true,Bool.and_true,if_true]
 rw[if_neg (by omega)]
theorem dL(hu:P.underlying t=some (.slice e)){xs:List (List V)}:dk P t (.lst xs)=some (.int .i64 xs.length):=by simp only[dk,hu]
theorem fB(hu:P.underlying t=some (.slice e)){b off len cap k:Nat}:dk P t (.sl b off len cap k)=some (.int .i64 len):=by simp only[dk,hu]
theorem lr(hu:P.underlying t=some (.slice e)):dk P t .nils=some (.int .i64 0):=by simp only[dk,hu]
theorem bR(ha:pC P t=some false){cs:List V}{off:Nat}:part P t cs off=slot cs off:=by simp only[part,ha,slot]
theorem cp(ha:pC P t=some true)(hs:cq P t=some s){cs:List V}{off:Nat}:part P t cs off=if off+s≤cs.length then some (.agg ((cs.drop off).take s)) else none:=by simp only[part,ha,hs]
@[simp] theorem JI{b off:Nat}:gp P h t (.ptr b off)=(ab h b).bind fun cs=>part P t cs off:=by
 simp only[gp];cases ab h b<;>rfl
@[simp] theorem HV{cs:List V}{off:Nat}:gp P h t (.lptr cs off)=part P t cs off:=rfl
theorem bk(hs:cq P t=some s){b off:Nat}{v:V}:bf P cfg h t (.ptr b off) v=stv cfg h b off s (cellsOf v):=by
 simp only[bf,hs,stv];cases cellsOf v<;>rfl
@[simp] theorem Dw{b off:Nat}{vs:List V}:stv cfg h b off s (some vs)=if vs.length=s then aO cfg h b off vs else none:=rfl
@[simp] theorem gB{b off:Nat}{vs:List V}:aO cfg h b off vs=(ab h b).bind fun cs=>if off+vs.length≤cs.length&&cfg.wr b&&(decide (cfg.thr≤b)||vs.all V.rf) then some (h.set b (some (putAt cs off vs))) else none:=by
 simp only[aO];cases ab h b<;>rfl
@[simp] theorem J0{cs:List V}{off:Nat}:putAt cs off []=cs:=rfl
@[simp] theorem xx{cs r:List V}{off:Nat}{v:V}:putAt cs off (v::r)=putAt (bV cs off v) (off+1) r:=rfl
@[simp] theorem Ge{k:IntKind}{i:Int}:cellsOf (.int k i)=some [.int k i]:=rfl
@[simp] theorem Ee{b:Bool}:cellsOf (.bool b)=some [.bool b]:=rfl
@[simp] theorem Gh{x:ByteArray}:cellsOf (.str x)=some [.str x]:=rfl
@[simp] theorem Gf{xs:List (List V)}:cellsOf (.lst xs)=some [.lst xs]:=rfl
@[simp] theorem Eh:cellsOf .nils=some [.nils]:=rfl
@[simp] theorem Eg:cellsOf .nilp=some [.nilp]:=rfl
@[simp] theorem Gg{b off:Nat}:cellsOf (.ptr b off)=some [.ptr b off]:=rfl
@[simp] theorem G7{a b c d e:Nat}:cellsOf (.sl a b c d e)=some [.sl a b c d e]:=rfl
@[simp] theorem Ef{f:Fn}{a b:List V}:cellsOf (.func f a b)=some [.func f a b]:=rfl
@[simp] theorem Gd{cs:List V}:cellsOf (.agg cs)=if cs.all V.leaf then some cs else none:=rfl
@[simp] theorem leaf_int{k:IntKind}{i:Int}:(V.int k i).leaf=true:=rfl
@[simp] theorem JD{b:Bool}:(V.bool b).leaf=true:=rfl
@[simp] theorem leaf_str{x:ByteArray}:(V.str x).leaf=true:=rfl
@[simp] theorem leaf_lst{xs:List (List V)}:(V.lst xs).leaf=true:=rfl
@[simp] theorem JG:V.nils.leaf=true:=rfl
@[simp] theorem JF:V.nilp.leaf=true:=rfl
@[simp] theorem leaf_ptr{b off:Nat}:(V.ptr b off).leaf=true:=rfl
@[simp] theorem leaf_sl{a b c d e:Nat}:(V.sl a b c d e).leaf=true:=rfl
@[simp] theorem JE{f:Fn}{a b:List V}:(V.func f a b).leaf=true:=rfl
@[simp] theorem rf_int{k:IntKind}{i:Int}:(V.int k i).rf=true:=rfl
@[simp] theorem rf_bool{b:Bool}:(V.bool b).rf=true:=rfl
@[simp] theorem rf_str{x:ByteArray}:(V.str x).rf=true:=rfl
@[simp] theorem rf_lst{xs:List (List V)}:(V.lst xs).rf=true:=rfl
@[simp] theorem rf_nils:V.nils.rf=true:=rfl
@[simp] theorem rf_nilp:V.nilp.rf=true:=rfl
@[simp] theorem rf_ptr{b off:Nat}:(V.ptr b off).rf=false:=rfl
@[simp] theorem rf_sl{a b c d e:Nat}:(V.sl a b c d e).rf=false:=rfl
@[simp] theorem JN{k:IntKind}{i:Int}:(V.int k i).noref=true:=rfl
@[simp] theorem HZ{b:Bool}:(V.bool b).noref=true:=rfl
@[simp] theorem JQ{x:ByteArray}:(V.str x).noref=true:=rfl
@[simp] theorem JO{xs:List (List V)}:(V.lst xs).noref=true:=rfl
@[simp] theorem H7:V.nils.noref=true:=rfl
@[simp] theorem JM{cs:List V}:(V.agg cs).noref=cs.all V.rf:=rfl
@[simp] theorem JP{b off:Nat}:(V.ptr b off).noref=false:=rfl
@[simp] theorem noref_sl{a b c d e:Nat}:(V.sl a b c d e).noref=false:=rfl
@[simp] theorem I7{cs:List V}:cJ (.agg cs)=cs:=rfl
@[simp] theorem I8{k:IntKind}{i:Int}:cJ (.int k i)=[.int k i]:=rfl
@[simp] theorem GM{b:Bool}:cJ (.bool b)=[.bool b]:=rfl
@[simp] theorem I9{x:ByteArray}:cJ (.str x)=[.str x]:=rfl
@[simp] theorem GP:cJ .nils=[.nils]:=rfl
@[simp] theorem GO:cJ .nilp=[.nilp]:=rfl
@[simp] theorem GN:cJ .nilf=[.nilf]:=rfl
@[simp] theorem wr_pure{b:Nat}:(Cfg.wr ⟨0,[],0⟩ b)=true:=by simp[Cfg.wr]
theorem bE{lo b thr:Nat}{ex:List Nat}(hb:lo≤b):(Cfg.wr ⟨lo,ex,thr⟩ b)=true:=by simp[Cfg.wr,hb]
@[simp] theorem F9{b:Nat}:ab [] b=none:=rfl
@[simp] theorem Jt:isMap []=false:=rfl
@[simp] theorem Jr{k:IntKind}{i:Int}{r:List V}:isMap (.int k i::r)=false:=rfl
@[simp] theorem HF{b:Bool}{r:List V}:isMap (.bool b::r)=false:=rfl
@[simp] theorem Jv{x:ByteArray}{r:List V}:isMap (.str x::r)=false:=rfl
@[simp] theorem Js{xs:List (List V)}{r:List V}:isMap (.lst xs::r)=false:=rfl
@[simp] theorem HJ{r:List V}:isMap (.nils::r)=false:=rfl
@[simp] theorem HI{r:List V}:isMap (.nilp::r)=false:=rfl
@[simp] theorem isMap_sl{a b c d e:Nat}{r:List V}:isMap (.sl a b c d e::r)=false:=rfl
@[simp] theorem Ju{a b:Nat}{r:List V}:isMap (.ptr a b::r)=false:=rfl
@[simp] theorem HG{f:Fn}{a b r:List V}:isMap (.func f a b::r)=false:=rfl
@[simp] theorem eH{k:IntKind}{l:List Int}:isMap (l.map (V.int k))=false:=by cases l<;>rfl
@[simp] theorem uJ{l:List Bool}:isMap (l.map V.bool)=false:=by cases l<;>rfl
@[simp] theorem Gt{k:IntKind}{l:List Int}{r:List V}(h:isMap r=false):isMap (l.map (V.int k)++r)=false:=by cases l<;>first|exact h|rfl
@[simp] theorem isMap_mp{k e:IntKind}{l:List (Int×Int)}{r:List V}:isMap (.mp k e l::r)=true:=rfl
@[simp] theorem kT{cs:List V}{r:Heap}:ab (some cs::r) 0=if isMap cs then none else some cs:=rfl
@[simp] theorem dH{x:Option (List V)}{r:Heap}{b:Nat}:ab (x::r) (b+1)=ab r b:=by simp[ab]
@[simp] theorem tJ{h:Heap}{cs:List V}{r:Heap}:ab (h++some cs::r) h.length=if isMap cs then none else some cs:=by simp[ab]
@[simp] theorem bD{h r:Heap}{k:Nat}:ab (h++r) (h.length+k)=ab r k:=by simp[ab,List.getElem?_append_right]
@[simp] theorem al{h r:Heap}{b:Nat}(hb:b<h.length):ab (h++r) b=ab h b:=by simp[ab,List.getElem?_append_left hb]
@[simp] theorem eC{h:Heap}{b:Nat}{cs:List V}(hb:b<h.length):ab (h.set b (some cs)) b=if isMap cs then none else some cs:=by simp[ab,hb]
@[simp] theorem ar{h:Heap}{b c:Nat}{x:Option (List V)}(hb:b≠c):ab (h.set b x) c=ab h c:=by simp[ab,List.getElem?_set_ne hb]
theorem aw{h:Heap}{b:Nat}{cs:List V}(hb:ab h b=some cs):b<h.length:=(List.getElem?_eq_some_iff.1 (aA hb)).1
@[simp] theorem FM{h r:Heap}{x y:Option (List V)}:(h++x::r).set h.length y=h++y::r:=by rw[List.set_append_right _ _ (Nat.le_refl _)];simp
@[simp] theorem GL{h r:Heap}{y:Option (List V)}{k:Nat}:(h++r).set (h.length+k) y=h++r.set k y:=by rw[List.set_append_right _ _ (by omega)];simp
@[simp] theorem dG{h:Heap}{cs:List V}{r:Heap}{b:Nat}(hb:b=h.length):ab (h++some cs::r) b=if isMap cs then none else some cs:=by subst hb;simp
@[simp] theorem set_len'{h r:Heap}{x y:Option (List V)}{b:Nat}(hb:b=h.length):(h++x::r).set b y=h++y::r:=by subst hb;simp
@[simp] theorem set_left{h r:Heap}{y:Option (List V)}{b:Nat}(hb:b<h.length):(h++r).set b y=h.set b y++r:=List.set_append_left _ _ hb
theorem dm{k:IntKind}{i:Int}:∀ n:Nat,bm [V.int k i] n=(List.replicate n i).map (V.int k)
 | 0=>rfl
 | n+1=>by simp[bm,dm n,List.replicate_succ]
@[simp] theorem J4{k:IntKind}{l:List Int}{i:Nat}{v:Int}:bV (l.map (V.int k)) i (.int k v)=(l.set i v).map (V.int k):=by simp[bV,List.map_set]
@[simp] theorem J8{k:IntKind}{l:List Int}{i:Nat}:slot (l.map (V.int k)) i=(l[i]?).map (V.int k):=by simp[slot]
@[simp] theorem Gz{l:List V}{i:Nat}{v:V}:(bV l i v).length=l.length:=by simp[bV]
theorem ints_set{k:IntKind}{l:List Int}{i:Nat}{v:Int}:(l.map (V.int k)).set i (.int k v)=(l.set i v).map (V.int k):=by simp[List.map_set]
@[simp] theorem FO{xs:List (List V)}:bu h s (.lst xs)=if xs.all (fun e=>e.length==s) then some (xs.length,xs.flatten) else none:=rfl
@[simp] theorem D5:bu h s .nils=some (0,[]):=rfl
def srcO(s off len:Nat):Option (List V)→Option (Nat×List V)
 | some cs=>if off+len*s≤cs.length then some (len,(cs.drop off).take (len*s)) else none
 | none=>if len=0 then some (0,[]) else none
@[simp] theorem Kb{off len:Nat}{cs:List V}:srcO s off len (some cs)=if off+len*s≤cs.length then some (len,(cs.drop off).take (len*s)) else none:=rfl
@[simp] theorem vO{b off len cap:Nat}:bu h s (.sl b off len cap s)=srcO s off len (ab h b):=by
 simp only[bu];cases ab h b with
 | none=>rfl
 | some cs=>simp
@[simp] theorem Gk{fr:List V}:cW fr []=some []:=rfl
@[simp] theorem Eo{fr:List V}{j:Nat}{x:Operand}{r:List (Nat×Operand)}:cW fr ((j,x)::r)=(ev fr x).bind fun v=>(cW fr r).map ((j,v)::·):=by
 simp only[cW]
 cases ev fr x with
 | none=>rfl
 | some v=>cases cW fr r<;>rfl
@[simp] theorem GH{fr:List V}{i:Nat}:aQ fr i []=some []:=rfl
@[simp] theorem Fw{fr:List V}{i j:Nat}{x:Operand}{r:List (Nat×Operand)}:aQ fr i ((j,x)::r)=if i=j then (ev fr x).bind fun v=>(aQ fr (i+1) r).map (v::·) else none:=by
 simp only[aQ]
 split
 ·cases ev fr x with
  | none=>rfl
  | some v=>cases aQ fr (i+1) r<;>rfl
 ·rfl
theorem bw(hu:P.underlying t=some (.slice e))(hs:cq P e=some s)(hz:(zeroOf P e).isSome=true)(hp:decide (0<s)=true){len:Nat}{vs:List V}:aM P h t len vs=(bq s vs).bind fun cs=>if vs.length=len&&decide (len*s≤16777216) then some (.sl h.length 0 len len s,h++[some cs]) else none:=by
 simp only[aM,hu,hs]
 cases bq s vs with
 | none=>rfl
 | some cs =>
  simp only[Option.bind_some,hz,hp,Bool.and_true]
@[simp] theorem Ed:bq s []=some []:=rfl
@[simp] theorem DY{v:V}{r:List V}:bq s (v::r)=(cellsOf v).bind fun cs=>if cs.length=s then (bq s r).map (cs++·) else none:=by
 simp only[bq]
 cases cellsOf v with
 | none=>rfl
 | some cs =>
  simp only[Option.bind_some]
  split
  ·cases bq s r<;>rfl
  ·rfl
@[simp] theorem Jm{pl:Nat→Option (Nat×Nat)}{cs:List V}:cN pl cs []=some cs:=rfl
@[simp] theorem Hi{pl:Nat→Option (Nat×Nat)}{cs:List V}{i:Nat}{v:V}{r:List (Nat×V)}:cN pl cs ((i,v)::r)=(pl i).bind fun q=>(cellsOf v).bind fun vs=>if vs.length=q.2&&decide (q.1+q.2≤cs.length) then cN pl (putAt cs q.1 vs) r else none:=by
 simp only[cN]
 cases pl i with
 | none=>rfl
 | some q =>
  obtain⟨off,s⟩:=q
  cases cellsOf v with
  | none=>rfl
  | some vs=>rfl
theorem cm{fields:Array Field}{z:List V}{pl:Nat→Option (Nat×Nat)}(hz:zeroOf P t=some (.agg z))(hu:P.underlying t=some (.struct fields))(ha:oC P fields=true)(hpl:∀ i,placesOf P fields i=pl i){ps:List (Nat×V)}:cr P t ps=(cN pl z ps).map .agg:=by
 obtain rfl:placesOf P fields=pl:=funext hpl
 simp only[cr,hz,hu,ha,if_true]
theorem zD{n:Nat}{z:List V}(hz:zeroOf P t=some (.agg z))(hu:P.underlying t=some (.array n e))(hs:cq P e=some s){ps:List (Nat×V)}:cr P t ps=(cN (fun i=>some (i*s,s)) z ps).map .agg:=by
 simp only[cr,hz,hu,hs]
@[simp] theorem binV_add{k:IntKind}{a b:Int}:cz P .add t (.int k a) (.int k b)=bz .add k a b:=by simp[cz]
@[simp] theorem binV_sub{k:IntKind}{a b:Int}:cz P .sub t (.int k a) (.int k b)=bz .sub k a b:=by simp[cz]
@[simp] theorem binV_mul{k:IntKind}{a b:Int}:cz P .mul t (.int k a) (.int k b)=bz .mul k a b:=by simp[cz]
@[simp] theorem binV_quo{k:IntKind}{a b:Int}:cz P .quo t (.int k a) (.int k b)=bz .quo k a b:=by simp[cz]
@[simp] theorem binV_rem{k:IntKind}{a b:Int}:cz P .rem t (.int k a) (.int k b)=bz .rem k a b:=by simp[cz]
@[simp] theorem binV_and{k:IntKind}{a b:Int}:cz P .and t (.int k a) (.int k b)=bz .and k a b:=by simp[cz]
@[simp] theorem binV_or{k:IntKind}{a b:Int}:cz P .or t (.int k a) (.int k b)=bz .or k a b:=by simp[cz]
@[simp] theorem binV_xor{k:IntKind}{a b:Int}:cz P .xor t (.int k a) (.int k b)=bz .xor k a b:=by simp[cz]
@[simp] theorem F6{k:IntKind}{a b:Int}:cz P .andNot t (.int k a) (.int k b)=bz .andNot k a b:=by simp[cz]
@[simp] theorem binV_eql{k:IntKind}{a b:Int}:cz P .eql t (.int k a) (.int k b)=bz .eql k a b:=by simp[cz]
@[simp] theorem binV_neq{k:IntKind}{a b:Int}:cz P .neq t (.int k a) (.int k b)=bz .neq k a b:=by simp[cz]
@[simp] theorem binV_lss{k:IntKind}{a b:Int}:cz P .lss t (.int k a) (.int k b)=bz .lss k a b:=by simp[cz]
@[simp] theorem binV_leq{k:IntKind}{a b:Int}:cz P .leq t (.int k a) (.int k b)=bz .leq k a b:=by simp[cz]
@[simp] theorem binV_gtr{k:IntKind}{a b:Int}:cz P .gtr t (.int k a) (.int k b)=bz .gtr k a b:=by simp[cz]
@[simp] theorem binV_geq{k:IntKind}{a b:Int}:cz P .geq t (.int k a) (.int k b)=bz .geq k a b:=by simp[cz]
@[simp] theorem binV_shl{k k':IntKind}{a b:Int}(hb:¬ b<0):cz P .shl t (.int k a) (.int k' b)=some (.int k (k.wrap (a*2 ^ (min b.toNat k.bits)))):=by simp[cz,hb]
@[simp] theorem binV_shr{k k':IntKind}{a b:Int}(hb:¬ b<0):cz P .shr t (.int k a) (.int k' b)=some (.int k (a.fdiv (2 ^ (min b.toNat k.bits)))):=by simp[cz,hb]
@[simp] theorem Hs{k:IntKind}{a b:Int}:bz .add k a b=some (.int k (k.wrap (a+b))):=rfl
@[simp] theorem HE{k:IntKind}{a b:Int}:bz .sub k a b=some (.int k (k.wrap (a-b))):=rfl
@[simp] theorem HA{k:IntKind}{a b:Int}:bz .mul k a b=some (.int k (k.wrap (a*b))):=rfl
@[simp] theorem HC{k:IntKind}{a b:Int}(hb:¬ b=0):bz .quo k a b=some (.int k (k.wrap (a.tdiv b))):=by simp[bz,hb]
@[simp] theorem HD{k:IntKind}{a b:Int}(hb:¬ b=0):bz .rem k a b=some (.int k (a.tmod b)):=by simp[bz,hb]
@[simp] theorem Hu{k:IntKind}{a b:Int}:bz .eql k a b=some (.bool (decide (a=b))):=by simp[bz];rw[Bool.eq_iff_iff];simp
@[simp] theorem HB{k:IntKind}{a b:Int}:bz .neq k a b=some (.bool (!decide (a=b))):=by simp[bz];rw[Bool.eq_iff_iff];simp
@[simp] theorem Hz{k:IntKind}{a b:Int}:bz .lss k a b=some (.bool (decide (a<b))):=rfl
@[simp] theorem Hy{k:IntKind}{a b:Int}:bz .leq k a b=some (.bool (decide (a≤b))):=rfl
@[simp] theorem Hw{k:IntKind}{a b:Int}:bz .gtr k a b=some (.bool (decide (b<a))):=rfl
@[simp] theorem Hv{k:IntKind}{a b:Int}:bz .geq k a b=some (.bool (decide (b≤a))):=rfl
@[simp] theorem unV_not{b:Bool}:unV .not (.bool b)=some (.bool !b):=rfl
@[simp] theorem unV_neg{k:IntKind}{a:Int}:unV .neg (.int k a)=some (.int k (k.wrap (0-a))):=rfl
@[simp] theorem Ep{vs:List V}{i:Nat}:gI (.tup vs) i=slot vs i:=rfl
@[simp] theorem D2{b off:Nat}:eN (.ptr b off)=some (.ptr b off):=rfl
@[simp] theorem Cy{cs:List V}{off:Nat}:eN (.lptr cs off)=some (.lptr cs off):=rfl
@[simp] theorem Cx{f:FuncId}{a c:List V}:eN (.func (.func f) a c)=some (.func (.func f) a c):=rfl
@[simp] theorem get_zero{α:Type}{a:α}{l:List α}:(a::l)[0]?=some a:=rfl
@[simp] theorem Dy{a b:Nat}:((a:Int)+(b:Int)).toNat=a+b:=by omega
@[simp] theorem xO{a b:Nat}:((a:Int)+(no_index (OfNat.ofNat b):Int)).toNat=a+(no_index (OfNat.ofNat b):Nat):=by
 show ((a:Int)+(b:Int)).toNat=a+b
 omega
@[simp] theorem cast_eq{a b:Nat}:((a:Int)=(b:Int))↔a=b:=Int.ofNat_inj
theorem wrap64{x:Int}(h1:-9223372036854775808≤x)(h2:x≤9223372036854775807):IntKind.i64.wrap x=x:=by
 have:=IntWalk.i64_in x ⟨h1,h2⟩
 exact this
inductive LK where
 | int
 | bool
 | str
def flatK:List LK→List V→List V→Option Bool
 | [],[],[]=>some true
 | .int::ks,.int k a::x,.int k' b::y=>if k=k' then (if a==b then flatK ks x y else some false) else none
 | .bool::ks,.bool a::x,.bool b::y=>if a==b then flatK ks x y else some false
 | .str::ks,.str a::x,.str b::y=>if a.toList==b.toList then flatK ks x y else some false
 | _,_,_=>none
def chk(P:Program):Nat→List Field→List LK→Bool
 | _,[],[]=>true
 | i, f :: fs, k :: ks => (f.offset == i) && !(f.name == "_") && (match P.underlying f.type, k with
  | some (.int _),.int=>true
  | some .bool,.bool=>true
  | some .string,.str=>true
  | _,_=>false)&&chk P (i+1) fs ks
 | _,_,_=>false
theorem yn:∀ (fs:List Field) (ks:List LK) (i:Nat) (xs ys:List V),chk P i fs ks=true→fO P i fs xs ys=flatK ks xs ys
 | [],[],i,xs,ys,_=>by
  cases xs<;>cases ys<;>rfl
 | [],_::_,i,xs,ys,hc=>by simp[chk]at hc
 | f::fs,[],i,xs,ys,hc=>by simp[chk]at hc
 | f::fs,k::ks,i,xs,ys,hc=>by
  simp only[chk,Bool.and_eq_true,beq_iff_eq,Bool.not_eq_true']at hc
  obtain⟨⟨⟨h1,h2⟩,h3⟩,h4⟩:=hc
  have ih:=yn fs ks (i+1)
  cases xs with
  | nil=>cases k<;>rfl
  | cons a x =>
   cases ys with
   | nil=>cases k<;>cases a<;>rfl
   | cons b y =>
    have ih:=ih x y h4
    simp only[fO,h1,h2,decide_true,Bool.not_false,Bool.and_true,if_true]
    cases hu:P.underlying f.type with
    | none=>simp[hu]at h3
    | some d =>
     rw[hu]at h3
     cases d<;>cases k<;>simp only[Bool.false_eq_true]at h3
     all_goals
      simp only[pG,hu]
      cases a<;>cases b<;>simp only[flatK]<;>try rfl
     ·rename_i a1 b1
      cases hab:(a1==b1)<;>simp[ih]
     ·rename_i k1 a1 k2 b1
      by_cases hk:k1=k2
      ·simp only[hk,if_true]
       cases hab:(a1==b1)<;>simp[ih]
      ·simp only[hk,if_false]
     ·rename_i a1 b1
      cases hab:(a1.toList==b1.toList)<;>simp[ih]
theorem BH{fields:Array Field}{ks:List LK}(hu:P.underlying t=some (.struct fields))(h1:P.stoodInHeld t=false)(h2:P.eqGuardType P.depth t=false)(hc:chk P 0 fields.toList ks=true){xs ys:List V}:eqV P t (.agg xs) (.agg ys)=flatK ks xs ys:=by
 simp only[eqV,hu,h1,h2,Bool.not_false,Bool.and_self,if_true]
 exact yn _ _ _ _ _ hc
@[simp] theorem Jn:flatK [] [] []=some true:=rfl
@[simp] theorem flatK_1{k:IntKind}{a b:Int}:flatK [.int] [.int k a] [.int k b]=some (decide (a=b)):=by
 by_cases h:a=b<;>simp[flatK,h]
@[simp] theorem flatK_2{k k2:IntKind}{a b a2 b2:Int}:flatK [.int,.int] [.int k a,.int k2 a2] [.int k b,.int k2 b2]=some (decide (a=b)&&decide (a2=b2)):=by
 by_cases h:a=b<;>by_cases h2:a2=b2<;>simp[flatK,h,h2]
@[simp] theorem flatK_3{k k2 k3:IntKind}{a b a2 b2 a3 b3:Int}:flatK [.int,.int,.int] [.int k a,.int k2 a2,.int k3 a3] [.int k b,.int k2 b2,.int k3 b3]=some (decide (a=b)&&(decide (a2=b2)&&decide (a3=b3))):=by
 by_cases h:a=b<;>by_cases h2:a2=b2<;>by_cases h3:a3=b3<;>simp[flatK,h,h2,h3]
@[simp] theorem flatK_4{k k2 k3 k4:IntKind}{a b a2 b2 a3 b3 a4 b4:Int}:flatK [.int,.int,.int,.int] [.int k a,.int k2 a2,.int k3 a3,.int k4 a4] [.int k b,.int k2 b2,.int k3 b3,.int k4 b4]=some (decide (a=b)&&(decide (a2=b2)&&(decide (a3=b3)&&decide (a4=b4)))):=by
 by_cases h:a=b<;>by_cases h2:a2=b2<;>by_cases h3:a3=b3<;>by_cases h4:a4=b4<;>simp[flatK,h,h2,h3,h4]
@[simp] theorem G2{xs ys:List V}:cz P .eql t (.agg xs) (.agg ys)=(eqV P t (.agg xs) (.agg ys)).map .bool:=by
 simp only[cz];cases eqV P t (.agg xs) (.agg ys)<;>rfl
@[simp] theorem F8{xs ys:List V}:cz P .neq t (.agg xs) (.agg ys)=(eqV P t (.agg xs) (.agg ys)).map fun b=>.bool !b:=by
 simp only[cz];cases eqV P t (.agg xs) (.agg ys)<;>rfl
theorem zM(hu:P.underlying t=some .bool){a b:Bool}:eqV P t (.bool a) (.bool b)=some (a==b):=by simp only[eqV,hu]
@[simp] theorem F7{a b:Bool}:cz P .eql t (.bool a) (.bool b)=(eqV P t (.bool a) (.bool b)).map .bool:=by
 simp only[cz];cases eqV P t (.bool a) (.bool b)<;>rfl
@[simp] theorem Eb{a b:Bool}:cz P .neq t (.bool a) (.bool b)=(eqV P t (.bool a) (.bool b)).map fun b=>.bool !b:=by
 simp only[cz];cases eqV P t (.bool a) (.bool b)<;>rfl
@[simp] theorem frz_int{n d:Nat}{k:IntKind}{i:Int}:frz h n (d+1) (.int k i)=some (.int k i):=rfl
@[simp] theorem frz_bool{n d:Nat}{b:Bool}:frz h n (d+1) (.bool b)=some (.bool b):=rfl
@[simp] theorem frz_str{n d:Nat}{x:ByteArray}:frz h n (d+1) (.str x)=some (.str x):=rfl
@[simp] theorem frz_lst{n d:Nat}{xs:List (List V)}:frz h n (d+1) (.lst xs)=some (.lst xs):=rfl
@[simp] theorem frz_nils{n d:Nat}:frz h n (d+1) .nils=some (.lst []):=rfl
@[simp] theorem frz_nilp{n d:Nat}:frz h n (d+1) .nilp=some .nilp:=rfl
@[simp] theorem frz_no{n d:Nat}:frz h n (d+1) .no=some .no:=rfl
@[simp] theorem EA{n d:Nat}{cs:List V}:frz h n (d+1) (.agg cs)=(cs.mapM (frz h n d)).map .agg:=by
 simp only[frz];cases cs.mapM (frz h n d)<;>rfl
@[simp] theorem frz_tup{n d:Nat}{cs:List V}:frz h n (d+1) (.tup cs)=(cs.mapM (frz h n d)).map .tup:=by
 simp only[frz];cases cs.mapM (frz h n d)<;>rfl
theorem eY{n d:Nat}{k:IntKind}:∀ (l:List Int),(l.map (V.int k)).mapM (frz h n (d+1))=some (l.map (V.int k))
 | []=>rfl
 | x::l=>by simp[List.mapM_cons,eY l]
theorem gE:∀ (l:List V),chunk 1 l.length l=l.map fun v=>[v]
 | []=>rfl
 | x::l=>by simp[chunk,gE l]
theorem iu{n d b off len cap k:Nat}:frz h n (d+1) (.sl b off len cap k)=if b<n then some (.sl b off len cap k)
   else match ab h b with
    | some cs=>if off+len*k≤cs.length then
      match ((cs.drop off).take (len*k)).mapM (frz h n d) with
      | some cs'=>if cs'.all V.rf then some (.lst (chunk k len cs')) else none
      | none=>none
     else none
    | none=>none:=by simp only[frz];rfl
theorem ek{n d b len cap:Nat}{k:IntKind}{l:List Int}(hb:ab h b=some (l.map (V.int k)))(hn:n≤b)(hl:l.length=len):frz h n (d+2) (.sl b 0 len cap 1)=some (.lst (l.map fun x=>[.int k x])):=by
 subst hl
 have e:¬ b<n:=by omega
 have e2:List.take (l.length*1) (l.map (V.int k))=l.map (V.int k):=List.take_of_length_le (by simp)
 have e3:chunk 1 l.length (l.map (V.int k))=l.map fun x=>[V.int k x]:=by
  have:=gE (l.map (V.int k))
  simp only[List.length_map,List.map_map]at this
  exact this
 have e4:(l.map (V.int k)).all V.rf=true:=by simp[List.all_eq_true]
 rw[iu]
 simp only[e,if_false,hb,List.drop_zero,e2,eY,e3,e4,if_true]
 rw[if_pos (by simp)]
theorem vg{d b len cap:Nat}{k:IntKind}{l:List Int}(hb:ab h b=some (l.map (V.int k))):own h (d+2) (.sl b 0 len cap 1)=true:=by
 simp only[own,hb,List.drop_zero]
 rw[List.all_eq_true]
 intro c hc
 obtain⟨x,_,rfl⟩:=List.mem_map.1 (List.mem_of_mem_take hc)
 rfl
end
end Go.Ab
namespace Go.Proofs
open Go.RowKit Go.Shelf
attribute [local go_sem] Oper.semAt_some
namespace Ht
def upto{α:Type}(f:Nat→α)(k:Nat):List α:=(List.range k).map f
theorem rY{α:Type}(f:Nat→α)(k:Nat):upto f (k+1)=upto f k++[f k]:=by simp[upto,List.range_succ]
theorem vQ{α:Type}(f:Nat→α)(k:Nat):(upto f k).length=k:=by simp[upto]
structure L10 where
 a0:Int
 a1:Int
 a2:Int
 a3:Int
 a4:Int
 a5:Int
 a6:Int
 a7:Int
 h:Int
 g:Option Addr
 gl:Nat
 gc:Nat
def L10.enc(x:L10):Array Value:=#[.int .i64 x.a0,.int .i64 x.a1,.int .i64 x.a2,.int .i64 x.a3,.int .i64 x.a4,.int .i64 x.a5,.int .i64 x.a6,.int .i64 x.a7,.int .i64 x.h,.slice x.g x.gl x.gc]
def Lie(W:World)(b o:Nat)(x:L10):Prop:=
 (W.cell? ⟨b,o,none⟩=some (.int .i64 x.a0)∧W.cell? ⟨b,o+1,none⟩=some (.int .i64 x.a1)∧W.cell? ⟨b,o+2,none⟩=some (.int .i64 x.a2)∧W.cell? ⟨b,o+3,none⟩=some (.int .i64 x.a3)∧W.cell? ⟨b,o+4,none⟩=some (.int .i64 x.a4)) ∧
 (W.cell? ⟨b,o+5,none⟩=some (.int .i64 x.a5)∧W.cell? ⟨b,o+6,none⟩=some (.int .i64 x.a6)∧W.cell? ⟨b,o+7,none⟩=some (.int .i64 x.a7)∧W.cell? ⟨b,o+8,none⟩=some (.int .i64 x.h)∧W.cell? ⟨b,o+9,none⟩=some (.slice x.g x.gl x.gc))
theorem Lie.below{n₀:Nat}{A B:World}(h:Below n₀ A B){b o:Nat}(hb:b<n₀){x:L10}(hl:Lie A b o x):Lie B b o x:=by
 obtain⟨⟨h0,h1,h2,h3,h4⟩,h5,h6,h7,h8,h9⟩:=hl
 have c:=fun q=>h.cell (p:=⟨b,q,none⟩) hb
 exact⟨⟨(c _).trans h0,(c _).trans h1,(c _).trans h2,(c _).trans h3,(c _).trans h4⟩,(c _).trans h5,(c _).trans h6,(c _).trans h7,(c _).trans h8,(c _).trans h9⟩
set_option maxRecDepth 100000 in
set_option maxHeartbeats 4000000 in
theorem D8(F:Fence)(n:Nat)(h7:F.fn 63)(hro:F.round=none)(hn:1≤n)(l Bs n₀ b off len cap:Nat)(zs:Nat→L10)(hreach:len*96≤140737488351232)(hb:b<n₀)(J Jx:List (Nat×L10)→World→Prop)
  (W:World) (hW:n₀≤W.heap.size) (hJ:AbidesFrom W.heap.size J) (hJx:AbidesFrom W.heap.size Jx)
  (hY:∀ pre x W,J pre W→pre.length<len→YieldAt F (n-1) Tryz.prog l #[.int .i64 (x.1:Int),.agg x.2.enc] W fun e W' =>
   (e=.returned (.bool true)∧J (pre++[x]) W'∧Below n₀ W W')∨(e=.returned (.bool false)∧Jx (pre++[x]) W'))
  (hBs:W.cell? ⟨Bs,0,none⟩=some (.slice (some ⟨b,off,none⟩) len cap)) (hc:∀ j,j<len→Lie W b (off+j*10) (zs j)) (h0:J [] W):
  CallsIn F n Tryz.prog 63 #[.func (.yield l) #[] #[],.pointer (some ⟨Bs,0,none⟩)] W fun e W'=>(∃ v,e=.returned v) ∧
   ((∃ ys,ys=upto (fun j=>(j,zs j)) len∧J ys W')∨(∃ pre,(∃ k,k≤len∧pre=upto (fun j=>(j,zs j)) k)∧Jx pre W')):=by
 refine callsIn_of_wp Tryz.func63 rfl h7 ?_ hro
 simp only[Tryz.ntmps63,List.size_toArray,List.length_cons,List.length_nil,Nat.reduceAdd,Nat.reduceSub,Array.replicate_succ,Array.replicate_zero,List.push_toArray,List.append_toArray,List.nil_append,List.cons_append]
 gi_wp2
 gi_loopw [7] (fun i wr=>∃ k:Nat,k≤len∧i=.int .i64 k∧J (upto (fun j=>(j,zs j)) k) wr∧Below n₀ W wr∧W.heap.size≤wr.heap.size)
  (fun i _=>len-(intOf i).toNat)
 case atStart=>exact⟨0,Nat.zero_le _,rfl,h0,Below.refl _ _,Nat.le_refl _⟩
 case round =>
  obtain⟨k,hk,rfl,hJs,hnx,hsz⟩:=hrel
  by_cases hlt:k<len
  ·obtain⟨⟨g0,g1,g2,g3,g4⟩,g5,g6,g7,g8,g9⟩:=(hc k hlt).below hnx hb
   have hA:J (upto (fun j=>(j,zs j)) k) (wr.alloc (.cells (zs k).enc 41)):=hJ _ wr _ none hJs (World.grownBy_alloc wr _ none) (fun r e=>by cases e)
   obtain⟨fn,tmps,assign,body,hy,hR⟩:=hY _ (k,zs k) _ hA (by rw[vQ];exact hlt)
   dsimp only[L10.enc]at hy
   have hnx2:Below n₀ wr (wr.alloc (.cells (zs k).enc 41)):=(Below.refl n₀ wr).alloc (by omega) _
   gi_wp2
   refine hR.mono ?_
   rintro e W3 (⟨rfl,hJ3,hk3⟩|⟨rfl,hJx3⟩)
   ·gi_wp2
    go_roundw
    case rel=>exact⟨k+1,by omega,by simp,by rw[rY];exact hJ3,(hnx.trans hnx2).trans hk3,by have:=hnx2.size;have:=hk3.size;omega⟩
    case measure=>simp[intOf];omega
   ·gi_wp2
    refine bodyPost_ret (results_none rfl _ _ _) rfl ?_
    exact⟨⟨_,rfl⟩,.inr ⟨_,⟨k+1,by omega,(rY _ _).symm⟩,hJx3⟩⟩
  ·obtain rfl:k=len:=by omega
   gi_wp2
   go_end0
   exact⟨⟨_,rfl⟩,.inl ⟨_,rfl,hJs⟩⟩
set_option maxRecDepth 100000 in
set_option maxHeartbeats 1000000 in
theorem tF(F:Fence)(n:Nat)(h7:F.fn 63)(hro:F.round=none)(l Bs:Nat)(J:List (Nat×L10)→World→Prop)(W:World)(hBs:W.cell? ⟨Bs,0,none⟩=some (.slice none 0 0))(h0:J [] W):
  CallsIn F n Tryz.prog 63 #[.func (.yield l) #[] #[],.pointer (some ⟨Bs,0,none⟩)] W fun e W'=>(∃ v,e=.returned v)∧J [] W':=by
 refine callsIn_of_wp Tryz.func63 rfl h7 ?_ hro
 simp only[Tryz.ntmps63,List.size_toArray,List.length_cons,List.length_nil,Nat.reduceAdd,Nat.reduceSub,Array.replicate_succ,Array.replicate_zero,List.push_toArray,List.append_toArray,List.nil_append,List.cons_append]
 gi_wp2
 gi_loopw [7] (fun i wr=>i=.int .i64 0∧J [] wr) (fun _ _=>0)
 case atStart=>exact⟨rfl,h0⟩
 case round =>
  obtain⟨rfl,hJs⟩:=hrel
  gi_wp2
  go_end0
  exact⟨⟨_,rfl⟩,hJs⟩
set_option maxHeartbeats 1000000 in
theorem GX(F:Fence)(n:Nat)(h5:F.fn 28)(hro:F.round=none)(a:Option Addr)(len cap:Nat)(w:World):
  CallsIn F n Tryz.prog 28 #[.slice a len cap] w fun e w'=>e=.returned (.func (.func 63) #[] #[.pointer (some ⟨w.heap.size,0,none⟩)])∧w'=w.alloc (.cells #[.slice a len cap] 31):=by
 refine callsIn_of_wp Tryz.func28 rfl h5 ?_ hro
 simp only[Tryz.ntmps28,List.size_toArray,List.length_cons,List.length_nil,Nat.reduceAdd,Nat.reduceSub,Array.replicate_succ,Array.replicate_zero,List.push_toArray,List.append_toArray,List.nil_append,List.cons_append]
 gi_wp2
 go_ret
 exact⟨rfl,rfl⟩
def Lns(n₀:Nat)(W:World)(sv:Value)(zs:Nat→L10)(len:Nat):Prop:=
 (sv=.slice none 0 0∧len=0)∨∃ b off cap,sv=.slice (some ⟨b,off,none⟩) len cap∧b<n₀∧∀ j,j<len→Lie W b (off+j*10) (zs j)
theorem Lns.below{n₀:Nat}{A B:World}(h:Below n₀ A B){sv:Value}{zs:Nat→L10}{len:Nat}:Lns n₀ A sv zs len→Lns n₀ B sv zs len
 | .inl e=>.inl e
 | .inr ⟨b,off,cap,e,hb,hc⟩=>.inr ⟨b,off,cap,e,hb,fun j hj=>(hc j hj).below h hb⟩
theorem zw(F:Fence)(n:Nat)(h7:F.fn 63)(hro:F.round=none)(hn:1≤n)(Bs n₀:Nat)(sv:Value)(zs:Nat→L10)(len:Nat)(hreach:len*96≤140737488351232)(w:World)(hBs:Bs<w.heap.size)(hn₀:n₀≤w.heap.size)
  (hc:w.cell? ⟨Bs,0,none⟩=some sv) (hI:Lns n₀ w sv zs len):
  SeqStopsK F n Tryz.prog 63 #[.pointer (some ⟨Bs,0,none⟩)] (fun x:Nat×L10=>#[Value.int .i64 (x.1:Int),.agg x.2.enc]) (Below n₀) (fun ys=>ys=upto (fun j=>(j,zs j)) len)
   (fun pre=>∃ k,k≤len∧pre=upto (fun j=>(j,zs j)) k) len w:=fun l J Jx W hW hJ hJx hY h0=>by
 have hc':=(hW.cell (p:=⟨Bs,0,none⟩) hBs).trans hc
 rcases hI.below (hW.mono hn₀) with⟨rfl,rfl⟩|⟨b,off,cap,rfl,hb,hcs⟩
 ·exact (tF F n h7 hro l Bs J W hc' h0).mono fun e W' ⟨he,hj⟩=>⟨he,.inl ⟨_,rfl,hj⟩⟩
 ·exact D8 F n h7 hro hn l Bs n₀ b off len cap zs hreach hb J Jx W (by have:=hW.size;omega) hJ hJx hY hc' hcs h0
def run(l:List (Nat×L10)):Int:=l.foldl (fun s x=>IntKind.i64.wrap (s+x.2.h)) 0
theorem Dg(l:List (Nat×L10))(x:Nat×L10):run (l++[x])=IntKind.i64.wrap (run l+x.2.h):=by simp[run]
set_option maxRecDepth 100000 in
set_option maxHeartbeats 4000000 in
theorem height_in(F:Fence)(n:Nat)(h3:F.fn 9)(h5:F.fn 28)(h7:F.fn 63)(hro:F.round=none)(hn:3≤n)(s:Option Addr)(len cap:Nat)(zs:Nat→L10)(hreach:len≤1000000)(w:World)(hI:Lns w.heap.size w (.slice s len cap) zs len):
  CallsIn F n Tryz.prog 9 #[.slice s len cap] w fun e W'=>e=.returned (.int .i64 (run (upto (fun j=>(j,zs j)) len)))∧Below w.heap.size w W':=by
 have h1:1≤n:=by omega
 refine callsIn_of_wp_marks Tryz.func9 rfl h3 ?_ hro
 simp only[Tryz.ntmps9,List.size_toArray,List.length_cons,List.length_nil,Nat.reduceAdd,Nat.reduceSub,Array.replicate_succ,Array.replicate_zero,List.push_toArray,List.append_toArray,List.nil_append,List.cons_append]
 gi_wp2_with (gi_at_call 28;refine (GX F (n-1) h5 hro _ _ _ _).mono ?_;rintro e w' ⟨rfl,rfl⟩)
 have bN:=Boxed.new w 3 (.int .i64 0)
 have bS:=Boxed.new (w.alloc (.cells #[.int .i64 0] 3)) 31 (.slice s len cap)
 simp only[World.size_alloc]at bN bS
 have hB0:Below w.heap.size w ((w.alloc (.cells #[.int .i64 0] 3)).alloc (.cells #[.slice s len cap] 31)):=((Below.refl _ w).alloc (Nat.le_refl _) _).alloc (by simp) _
 have bN':=bN.alloc (.cells #[.slice s len cap] 31)
 have hsz:((w.alloc (.cells #[.int .i64 0] 3)).alloc (.cells #[.slice s len cap] 31)).heap.size=w.heap.size+2:=by simp
 generalize ((w.alloc (.cells #[.int .i64 0] 3)).alloc (.cells #[.slice s len cap] 31))=W4 at *
 refine wpIn_rangeFunc_ownH hro h1 (gf:=63) (lb:=#[.pointer (some ⟨w.heap.size+1,0,none⟩)]) rfl h7 (enters_of Tryz.func63 (by kernel_rfl) rfl)
  (zw F (n-1) h7 hro (by omega) (w.heap.size+1) (w.heap.size) _ zs len (by omega) W4 (by omega) (by omega) bS.cell (hI.below hB0)) belowK_t (belowK_b (by omega)) (Below.refl _ _) (fun _=>rfl)
  (fun pre W=>Boxed W w.heap.size 3 (.int .i64 (run pre))∧Below w.heap.size w W)
  (fun _ _ _=>False)
  (OwnFrom.and (Own.from (boxed_own _ _ fun pre=>.int .i64 (run pre)) _) (ownFrom_below (Nat.le_refl _) (by omega)))
  (fun _ _ _ _ _ hs _ _=>hs)
  ⟨bN',hB0⟩
  (fun x a' W=>∃ Bx,w.heap.size<Bx∧W.cell? ⟨Bx,8,none⟩=some (.int .i64 x.2.h)∧a'={ tmps:=#[.slice s len cap,undef,.int .i64 0,.pointer (some ⟨w.heap.size,0,none⟩),undef,.pointer (some ⟨Bx,0,none⟩),.slice s len cap,.func (.func 63) #[] #[.pointer (some ⟨w.heap.size+1,0,none⟩)],.int .i64 (x.1:Int),.agg x.2.enc,undef,undef,undef,undef,undef],defers:=[] })
  (fun x a' s A B row hs hg hr=>by
   obtain⟨Bx,e1,e2,e3⟩:=hs
   exact⟨Bx,e1,cell_kept e2 hg (fun r e=>(hr r e).2),e3⟩) ?assign ?body ?done ?stop
 case assign =>
  rintro l pre x W K hi hK
  dsimp only[L10.enc]
  gi_wp2
  exact hK _ _ ((KeepsOthers.alloc _ _).from _) ((Below.refl _ W).alloc hi.2.size _) ⟨hi.1.alloc _,hi.2.trans ((Below.refl _ W).alloc hi.2.size _)⟩ ⟨W.heap.size,hi.1.lt,by simp only[World.cell?,World.alloc_heap_new];rfl,rfl⟩
 case body =>
  rintro l pre x a' W hl ⟨r,hr⟩ ⟨hb,hB⟩ ⟨Bx,hBx,hc8,rfl⟩ hlt
  have c1:=hb.cell
  have c2:=hb.frozen
  have e:=Dg pre x
  gi_wp2
  refine⟨(KeepsOthers.setCell _ _ _).from _,(Below.refl _ W).setCell (p:=⟨w.heap.size,0,none⟩) (Nat.le_refl _) _,?_,hB.trans ((Below.refl _ W).setCell (p:=⟨w.heap.size,0,none⟩) (Nat.le_refl _) _)⟩
  have ew:wrap64 (run pre+x.snd.h)=IntKind.i64.wrap (run pre+x.snd.h):=by rw[IntKind.wrap_i64];unfold wrap64;rfl
  rw[e,ew]
  exact hb.set _
 case done =>
  rintro D ys W hD rfl ⟨hb,hB⟩ hK
  have c1:=hb.cell
  gi_wp2
  refine⟨by simp,.inl ⟨_,_,rfl,run_takeDeferred hK,?_⟩⟩
  refine⟨.int .i64 (run (upto (fun j=>(j,zs j)) len)),by simp[results,Tryz.f9,go_sem],rfl,?_⟩
  exact hB.trans (belowK_b (w:=w) (Nat.le_refl _) W D _ _ (by omega) hK rfl rfl)
 case stop =>
  rintro D c pre W _ _ h _
  exact h.elim
end Ht
end Go.Proofs
