/- What each operation does at a type whose description is known: the forms that simp goes by. -/
import Derived.Test.YteddnfbjjbcmgaaGreatAbW2
import Derived.IntWalk
set_option linter.unusedSimpArgs false
set_option linter.unusedVariables false
namespace Go.Ab
def jt(s:Nat)(xs:List (List V))(i:Int):Option V:=
 if 0≤i then match xs[i.toNat]? with
  | some e=>if e.length=s then some (.lptr e 0) else none
  | none=>none
 else none
def lO(s b off len c:Nat)(i:Int):Option V:=
 if 0≤i then if i.toNat<len&&s==c then some (.ptr b (off+i.toNat*c)) else none else none
def yr(s:Nat)(xs:List (List V))(lo hi:Option Nat):Option V:=
 match lo,hi with
 | some l,some r=>if decide (l≤r)&&decide (r≤xs.length)&&(l==r||(xs[l]?).map List.length==some s) then some (.lst ((xs.take r).drop l)) else none
 | _,_=>none
def wK(s b off len cap k:Nat)(lo hi:Option Nat):Option V:=
 match lo,hi with
 | some l,some r =>
  if s=k&&decide (l≤r)&&decide (r≤len)&&decide (len≤cap) then
   if l=0 then some (.sl b off r cap k)
   else if l=r then some (.lst [])
   else some (.sl b (off+l*k) (r-l) (cap-l) k)
  else none
 | _,_=>none
def slcN(lo hi:Option Nat):Option V:=
 match lo,hi with
 | some 0,some 0=>some .nils
 | _,_=>none
def mkS(h:Heap)(s y:Nat)(z:List V)(n m:Int):Option (V×Heap):=
 if 0≤n&&n≤m&&roomy m.toNat y then some (.sl h.length 0 n.toNat m.toNat s,h++[some (bH z m.toNat)]) else none
def fN(cfg:Cfg)(h:Heap)(s y:Nat)(d:V)(n:Nat)(new:List V):Option (V×Heap):=
 match d with
 | .nils=>if roomy n y then
   if n=0 then some (.nils,h) else some (.sl h.length 0 n n s,h++[some new])
  else none
 | .sl b off len cap k =>
  if k=s&&roomy (len+n) y then
   if len+n≤cap then
    match aR cfg h b (off+len*s) new with
    | some h'=>some (.sl b off (len+n) cap k,h')
    | none=>none
   else match ab h b with
    | some cs=>if off=0&&cfg.wr b&&decide (len*s≤cs.length) then
      some (.sl h.length 0 (len+n) (len+n) k,(h.set b none)++[some (cs.take (len*s)++new)])
     else none
    | none=>none
  else none
 | _=>none
def iB(cfg:Cfg)(h:Heap)(s y:Nat)(d:V)(src:Option (Nat×List V)):Option (V×Heap):=
 match src with
 | some (n,new)=>if new.all V.leaf then fN cfg h s y d n new else none
 | none=>none
def stv(cfg:Cfg)(h:Heap)(b off s:Nat)(vs:Option (List V)):Option Heap:=
 match vs with
 | some vs=>if vs.length=s then aR cfg h b off vs else none
 | none=>none
section
variable {P:Program}{cfg:Cfg}{h:Heap}{t e:TypeId}{s y:Nat}
theorem dD(hu:P.underlying t=some (.slice e))(hs:cD P e=some s){xs:List (List V)}{k:IntKind}{i:Int}:az P t (.lst xs) (.int k i)=jt s xs i:=by
 simp only[az,hu,hs,jt]
 split<;>rfl
theorem fq(hu:P.underlying t=some (.slice e))(hs:cD P e=some s){b off len cap c:Nat}{k:IntKind}{i:Int}:az P t (.sl b off len cap c) (.int k i)=lO s b off len c i:=by
 simp only[az,hu,hs,lO]
@[simp] theorem Fw{xs:List (List V)}{i:Int}(hi:0≤i):jt s xs i=(xs[i.toNat]?).bind fun e=>if e.length=s then some (.lptr e 0) else none:=by
 simp only[jt,hi,if_true]
 cases xs[i.toNat]?<;>rfl
@[simp] theorem idxS_of{b off len:Nat}{i:Int}(hi:0≤i)(hl:i.toNat<len):lO s b off len s i=some (.ptr b (off+i.toNat*s)):=by
 simp[lO,hi,hl]
theorem zg{n:Nat}(hu:P.underlying t=some (.array n e))(hs:cD P e=some s){b off:Nat}{k:IntKind}{i:Int}:az P t (.ptr b off) (.int k i)=if 0≤i then (if i.toNat<n then some (.ptr b (off+i.toNat*s)) else none) else none:=by
 simp only[az,hu,hs]
theorem Fx{n:Nat}(hu:P.underlying t=some (.array n e))(hs:cD P e=some s){cs:List V}{k:IntKind}{i:Int}:kS P t (.agg cs) (.int k i)=if 0≤i then (if i.toNat<n then part P e cs (i.toNat*s) else none) else none:=by
 simp only[kS,hu,hs]
theorem zM(hu:P.underlying t=some (.slice e))(hs:cD P e=some s){xs:List (List V)}{lo hi:Option (Option V)}:dp P h t (.lst xs) lo hi=yr s xs (cg 0 lo) (cg xs.length hi):=by
 simp only[dp,hu,hs,yr]
 cases cg 0 lo<;>cases cg xs.length hi<;>rfl
theorem tX(hu:P.underlying t=some (.slice e))(hs:cD P e=some s){b off len cap k:Nat}{lo hi:Option (Option V)}:dp P h t (.sl b off len cap k) lo hi=wK s b off len cap k (cg 0 lo) (cg len hi):=by
 simp only[dp,hu,hs,wK]
 cases cg 0 lo<;>cases cg len hi<;>rfl
@[simp] theorem GN{d:Nat}:cg d none=some d:=rfl
@[simp] theorem GO{d:Nat}{k:IntKind}{i:Int}(hi:0≤i):cg d (some (some (.int k i)))=some i.toNat:=by simp[cg,hi]
theorem Gm{xs:List (List V)}{l r:Nat}(h1:l≤r)(h2:r≤xs.length)(hk:∀ e∈xs,e.length=s):yr s xs (some l) (some r)=some (.lst ((xs.take r).drop l)):=by
 simp only[yr]
 rw[if_pos]
 simp only[h1,h2,decide_true,Bool.true_and,Bool.or_eq_true,beq_iff_eq]
 by_cases hlr:l=r
 ·exact .inl hlr
 ·right
  have:l<xs.length:=by omega
  rw[List.getElem?_eq_getElem this]
  simp[hk _ (List.getElem_mem this)]
@[simp] theorem Kz{k:IntKind}{l:List Int}{a b:Nat}(h1:a≤b)(h2:b≤l.length):yr 1 (l.map fun n=>[V.int k n]) (some a) (some b)=some (.lst (((l.take b).drop a).map fun n=>[V.int k n])):=by
 rw[Gm h1 (by simpa using h2) (by simp)]
 simp[List.map_drop,List.map_take]
@[simp] theorem tY{b off len cap l r:Nat}(h1:l≤r)(h2:r≤len)(h3:len≤cap):wK s b off len cap s (some l) (some r)=if l=0 then some (.sl b off r cap s) else if l=r then some (.lst []) else some (.sl b (off+l*s) (r-l) (cap-l) s):=by
 simp[wK,h1,h2,h3]
@[simp] theorem slcN_of:slcN (some 0) (some 0)=some .nils:=rfl
theorem C6(hu:P.underlying t=some (.slice e))(hs:cD P e=some s)(hy:bytesOf P e=some y){z:V}{zc:List V}(hz:zeroOf P e=some z)(hzc:cO z=zc)(hl:(zc.length==s)=true)(hp:decide (0<s)=true){n m:Int}:
  cK P h t (.int .i64 n) (.int .i64 m)=mkS h s y zc n m:=by
 subst hzc
 simp only[cK,hu,hs,hy,hz,mkS,hl,hp,Bool.and_true]
@[simp] theorem mkS_of{z:List V}{n m:Int}(h1:0≤n)(h2:n≤m)(h3:m*y≤1099511627776)(h4:m≤1099511627776):mkS h s y z n m=some (.sl h.length 0 n.toNat m.toNat s,h++[some (bH z m.toNat)]):=by
 have e1:m.toNat*y≤1099511627776:=by
  have hm:(m.toNat:Int)=m:=Int.toNat_of_nonneg (by omega)
  have:((m.toNat*y:Nat):Int)=m*y:=by rw[Int.natCast_mul,hm]
  omega
 have hr:roomy m.toNat y=true:=by simp[roomy,e1];omega
 simp[mkS,hr,h1,h2]
theorem dg(hu:P.underlying t=some (.slice e))(hs:cD P e=some s)(hy:bytesOf P e=some y)(hz:qU P e s=true)(hp:decide (0<s)=true){d x:V}:cp P cfg h t t d x=iB cfg h s y d (bc h s x):=by
 simp only[cp,hu,hs,hy,iB]
 cases bc h s x with
 | none=>rfl
 | some p =>
  obtain⟨n,new⟩:=p
  simp only[hp,hz,decide_true,Bool.and_true]
  split
  ·unfold fN;rfl
  ·rfl
@[simp] theorem JQ{d:V}{n:Nat}{new:List V}:iB cfg h s y d (some (n,new))=if new.all V.leaf then fN cfg h s y d n new else none:=rfl
theorem jJ{n:Nat}{new:List V}(h1:n*y≤1099511627776)(h2:n≤1099511627776)(h3:0<n):fN cfg h s y .nils n new=some (.sl h.length 0 n n s,h++[some new]):=by
 have hr:roomy n y=true:=by simp[roomy];omega
 simp only[fN,hr,if_true]
 rw[if_neg (by omega)]
theorem fQ{b len cap n:Nat}{cs new:List V}(hb:ab h b=some cs)(hw:cfg.wr b=true)(h1:(len+n)*y≤1099511627776)(h2:len+n≤1099511627776)(h3:cap<len+n)(h4:len*s≤cs.length):
  fN cfg h s y (.sl b 0 len cap s) n new=some (.sl h.length 0 (len+n) (len+n) s,(h.set b none)++[some (cs.take (len*s)++new)]):=by
 have hr:roomy (len+n) y=true:=by simp[roomy];omega
 simp only[fN,hr,hb,hw,h4,decide_true,Bool.and_true,if_true]
 rw[if_neg (by omega)]
theorem dT(hu:P.underlying t=some (.slice e)){xs:List (List V)}:dt P t (.lst xs)=some (.int .i64 xs.length):=by simp only[dt,hu]
theorem gB(hu:P.underlying t=some (.slice e)){b off len cap k:Nat}:dt P t (.sl b off len cap k)=some (.int .i64 len):=by simp only[dt,hu]
theorem lQ(hu:P.underlying t=some (.slice e)):dt P t .nils=some (.int .i64 0):=by simp only[dt,hu]
theorem ck(ha:pU P t=some false){cs:List V}{off:Nat}:part P t cs off=slot cs off:=by simp only[part,ha,slot]
theorem cz(ha:pU P t=some true)(hs:cD P t=some s){cs:List V}{off:Nat}:part P t cs off=if off+s≤cs.length then some (.agg ((cs.drop off).take s)) else none:=by simp only[part,ha,hs]
@[simp] theorem Kf{b off:Nat}:gC P h t (.ptr b off)=(ab h b).bind fun cs=>part P t cs off:=by
 simp only[gC];cases ab h b<;>rfl
@[simp] theorem ID{cs:List V}{off:Nat}:gC P h t (.lptr cs off)=part P t cs off:=rfl
theorem aU(hs:cD P t=some s){b off:Nat}{v:V}:aW P cfg h t (.ptr b off) v=stv cfg h b off s (cellsOf v):=by
 simp only[aW,hs,stv];cases cellsOf v<;>rfl
@[simp] theorem wW{b off:Nat}{vs:List V}:stv cfg h b off s (some vs)=if vs.length=s then aR cfg h b off vs else none:=rfl
@[simp] theorem fA{b off:Nat}{vs:List V}:aR cfg h b off vs=(ab h b).bind fun cs=>if off+vs.length≤cs.length&&cfg.wr b&&(decide (cfg.thr≤b)||vs.all V.rf) then some (h.set b (some (putAt cs off vs))) else none:=by
 simp only[aR];cases ab h b<;>rfl
@[simp] theorem Ku{cs:List V}{off:Nat}:putAt cs off []=cs:=rfl
@[simp] theorem yj{cs r:List V}{off:Nat}{v:V}:putAt cs off (v::r)=putAt (ca cs off v) (off+1) r:=rfl
@[simp] theorem GR{k:IntKind}{i:Int}:cellsOf (.int k i)=some [.int k i]:=rfl
@[simp] theorem EJ{b:Bool}:cellsOf (.bool b)=some [.bool b]:=rfl
@[simp] theorem GV{x:ByteArray}:cellsOf (.str x)=some [.str x]:=rfl
@[simp] theorem GS{xs:List (List V)}:cellsOf (.lst xs)=some [.lst xs]:=rfl
@[simp] theorem EM:cellsOf .nils=some [.nils]:=rfl
@[simp] theorem EL:cellsOf .nilp=some [.nilp]:=rfl
@[simp] theorem GU{b off:Nat}:cellsOf (.ptr b off)=some [.ptr b off]:=rfl
@[simp] theorem HM{a b c d e:Nat}:cellsOf (.sl a b c d e)=some [.sl a b c d e]:=rfl
@[simp] theorem EK{f:Fn}{a b:List V}:cellsOf (.func f a b)=some [.func f a b]:=rfl
@[simp] theorem GQ{cs:List V}:cellsOf (.agg cs)=if cs.all V.leaf then some cs else none:=rfl
@[simp] theorem leaf_int{k:IntKind}{i:Int}:(V.int k i).leaf=true:=rfl
@[simp] theorem Kb{b:Bool}:(V.bool b).leaf=true:=rfl
@[simp] theorem leaf_str{x:ByteArray}:(V.str x).leaf=true:=rfl
@[simp] theorem leaf_lst{xs:List (List V)}:(V.lst xs).leaf=true:=rfl
@[simp] theorem Ke:V.nils.leaf=true:=rfl
@[simp] theorem Kd:V.nilp.leaf=true:=rfl
@[simp] theorem leaf_ptr{b off:Nat}:(V.ptr b off).leaf=true:=rfl
@[simp] theorem leaf_sl{a b c d e:Nat}:(V.sl a b c d e).leaf=true:=rfl
@[simp] theorem Kc{f:Fn}{a b:List V}:(V.func f a b).leaf=true:=rfl
@[simp] theorem rf_int{k:IntKind}{i:Int}:(V.int k i).rf=true:=rfl
@[simp] theorem rf_bool{b:Bool}:(V.bool b).rf=true:=rfl
@[simp] theorem rf_str{x:ByteArray}:(V.str x).rf=true:=rfl
@[simp] theorem rf_lst{xs:List (List V)}:(V.lst xs).rf=true:=rfl
@[simp] theorem rf_nils:V.nils.rf=true:=rfl
@[simp] theorem rf_nilp:V.nilp.rf=true:=rfl
@[simp] theorem rf_ptr{b off:Nat}:(V.ptr b off).rf=false:=rfl
@[simp] theorem rf_sl{a b c d e:Nat}:(V.sl a b c d e).rf=false:=rfl
@[simp] theorem Kh{k:IntKind}{i:Int}:(V.int k i).noref=true:=rfl
@[simp] theorem II{b:Bool}:(V.bool b).noref=true:=rfl
@[simp] theorem Kk{x:ByteArray}:(V.str x).noref=true:=rfl
@[simp] theorem Ki{xs:List (List V)}:(V.lst xs).noref=true:=rfl
@[simp] theorem IJ:V.nils.noref=true:=rfl
@[simp] theorem Kg{cs:List V}:(V.agg cs).noref=cs.all V.rf:=rfl
@[simp] theorem Kj{b off:Nat}:(V.ptr b off).noref=false:=rfl
@[simp] theorem noref_sl{a b c d e:Nat}:(V.sl a b c d e).noref=false:=rfl
@[simp] theorem JA{cs:List V}:cO (.agg cs)=cs:=rfl
@[simp] theorem JB{k:IntKind}{i:Int}:cO (.int k i)=[.int k i]:=rfl
@[simp] theorem Hr{b:Bool}:cO (.bool b)=[.bool b]:=rfl
@[simp] theorem JC{x:ByteArray}:cO (.str x)=[.str x]:=rfl
@[simp] theorem Hv:cO .nils=[.nils]:=rfl
@[simp] theorem Hu:cO .nilp=[.nilp]:=rfl
@[simp] theorem Hs:cO .nilf=[.nilf]:=rfl
@[simp] theorem wr_pure{b:Nat}:(Cfg.wr ⟨0,[],0⟩ b)=true:=by simp[Cfg.wr]
theorem aP{lo b thr:Nat}{ex:List Nat}(hb:lo≤b):(Cfg.wr ⟨lo,ex,thr⟩ b)=true:=by simp[Cfg.wr,hb]
theorem jf{lo b thr:Nat}:(Cfg.wr ⟨lo,[b],thr⟩ b)=true:=by simp[Cfg.wr]
@[simp] theorem GL{b:Nat}:ab [] b=none:=rfl
@[simp] theorem J0:isMap []=false:=rfl
@[simp] theorem JY{k:IntKind}{i:Int}{r:List V}:isMap (.int k i::r)=false:=rfl
@[simp] theorem Ip{b:Bool}{r:List V}:isMap (.bool b::r)=false:=rfl
@[simp] theorem J4{x:ByteArray}{r:List V}:isMap (.str x::r)=false:=rfl
@[simp] theorem JZ{xs:List (List V)}{r:List V}:isMap (.lst xs::r)=false:=rfl
@[simp] theorem It{r:List V}:isMap (.nils::r)=false:=rfl
@[simp] theorem Ir{r:List V}:isMap (.nilp::r)=false:=rfl
@[simp] theorem isMap_sl{a b c d e:Nat}{r:List V}:isMap (.sl a b c d e::r)=false:=rfl
@[simp] theorem J1{a b:Nat}{r:List V}:isMap (.ptr a b::r)=false:=rfl
@[simp] theorem Iq{f:Fn}{a b r:List V}:isMap (.func f a b::r)=false:=rfl
@[simp] theorem iM{k:IntKind}{l:List Int}:isMap (l.map (V.int k))=false:=by cases l<;>rfl
@[simp] theorem vI{l:List Bool}:isMap (l.map V.bool)=false:=by cases l<;>rfl
@[simp] theorem nG{k:IntKind}{l:List Int}{r:List V}(h:isMap r=false):isMap (l.map (V.int k)++r)=false:=by cases l<;>first|exact h|rfl
@[simp] theorem isMap_mp{k e:IntKind}{l:List (Int×Int)}{r:List V}:isMap (.mp k e l::r)=true:=rfl
@[simp] theorem lz{cs:List V}{r:Heap}:ab (some cs::r) 0=if isMap cs then none else some cs:=rfl
@[simp] theorem dR{x:Option (List V)}{r:Heap}{b:Nat}:ab (x::r) (b+1)=ab r b:=by simp[ab]
@[simp] theorem uA{h:Heap}{cs:List V}{r:Heap}:ab (h++some cs::r) h.length=if isMap cs then none else some cs:=by simp[ab]
@[simp] theorem br{h r:Heap}{k:Nat}:ab (h++r) (h.length+k)=ab r k:=by simp[ab,List.getElem?_append_right]
@[simp] theorem aq{h r:Heap}{b:Nat}(hb:b<h.length):ab (h++r) b=ab h b:=by simp[ab,List.getElem?_append_left hb]
@[simp] theorem eO{h:Heap}{b:Nat}{cs:List V}(hb:b<h.length):ab (h.set b (some cs)) b=if isMap cs then none else some cs:=by simp[ab,hb]
@[simp] theorem ar{h:Heap}{b c:Nat}{x:Option (List V)}(hb:b≠c):ab (h.set b x) c=ab h c:=by simp[ab,List.getElem?_set_ne hb]
theorem au{h:Heap}{b:Nat}{cs:List V}(hb:ab h b=some cs):b<h.length:=(List.getElem?_eq_some_iff.1 (aI hb)).1
@[simp] theorem Gl{h r:Heap}{x y:Option (List V)}:(h++x::r).set h.length y=h++y::r:=by rw[List.set_append_right _ _ (Nat.le_refl _)];simp
@[simp] theorem Hq{h r:Heap}{y:Option (List V)}{k:Nat}:(h++r).set (h.length+k) y=h++r.set k y:=by rw[List.set_append_right _ _ (by omega)];simp
@[simp] theorem cy{h:Heap}{cs:List V}{r:Heap}{b:Nat}(hb:b=h.length):ab (h++some cs::r) b=if isMap cs then none else some cs:=by subst hb;simp
@[simp] theorem set_len'{h r:Heap}{x y:Option (List V)}{b:Nat}(hb:b=h.length):(h++x::r).set b y=h++y::r:=by subst hb;simp
@[simp] theorem set_left{h r:Heap}{y:Option (List V)}{b:Nat}(hb:b<h.length):(h++r).set b y=h.set b y++r:=List.set_append_left _ _ hb
theorem dq{k:IntKind}{i:Int}:∀ n:Nat,bH [V.int k i] n=(List.replicate n i).map (V.int k)
 | 0=>rfl
 | n+1=>by simp[bH,dq n,List.replicate_succ]
@[simp] theorem Kw{k:IntKind}{l:List Int}{i:Nat}{v:Int}:ca (l.map (V.int k)) i (.int k v)=(l.set i v).map (V.int k):=by simp[ca,List.map_set]
@[simp] theorem KA{k:IntKind}{l:List Int}{i:Nat}:slot (l.map (V.int k)) i=(l[i]?).map (V.int k):=by simp[slot]
@[simp] theorem Ha{l:List V}{i:Nat}{v:V}:(ca l i v).length=l.length:=by simp[ca]
theorem ints_set{k:IntKind}{l:List Int}{i:Nat}{v:Int}:(l.map (V.int k)).set i (.int k v)=(l.set i v).map (V.int k):=by simp[List.map_set]
@[simp] theorem Gq{xs:List (List V)}:bc h s (.lst xs)=if xs.all (fun e=>e.length==s) then some (xs.length,xs.flatten) else none:=rfl
@[simp] theorem Ew:bc h s .nils=some (0,[]):=rfl
def srcO(s off len:Nat):Option (List V)→Option (Nat×List V)
 | some cs=>if off+len*s≤cs.length then some (len,(cs.drop off).take (len*s)) else none
 | none=>if len=0 then some (0,[]) else none
@[simp] theorem KD{off len:Nat}{cs:List V}:srcO s off len (some cs)=if off+len*s≤cs.length then some (len,(cs.drop off).take (len*s)) else none:=rfl
@[simp] theorem wU{b off len cap:Nat}:bc h s (.sl b off len cap s)=srcO s off len (ab h b):=by
 simp only[bc];cases ab h b with
 | none=>rfl
 | some cs=>simp
@[simp] theorem GY{fr:List V}:cE fr []=some []:=rfl
@[simp] theorem EZ{fr:List V}{j:Nat}{x:Operand}{r:List (Nat×Operand)}:cE fr ((j,x)::r)=(ev fr x).bind fun v=>(cE fr r).map ((j,v)::·):=by
 simp only[cE]
 cases ev fr x with
 | none=>rfl
 | some v=>cases cE fr r<;>rfl
@[simp] theorem Hm{fr:List V}{i:Nat}:aY fr i []=some []:=rfl
@[simp] theorem F4{fr:List V}{i j:Nat}{x:Operand}{r:List (Nat×Operand)}:aY fr i ((j,x)::r)=if i=j then (ev fr x).bind fun v=>(aY fr (i+1) r).map (v::·) else none:=by
 simp only[aY]
 split
 ·cases ev fr x with
  | none=>rfl
  | some v=>cases aY fr (i+1) r<;>rfl
 ·rfl
theorem ba(hu:P.underlying t=some (.slice e))(hs:cD P e=some s)(hz:(zeroOf P e).isSome=true)(hp:decide (0<s)=true){len:Nat}{vs:List V}:aK P h t len vs=(bk s vs).bind fun cs=>if vs.length=len&&decide (len*s≤16777216) then some (.sl h.length 0 len len s,h++[some cs]) else none:=by
 simp only[aK,hu,hs]
 cases bk s vs with
 | none=>rfl
 | some cs =>
  simp only[Option.bind_some,hz,hp,Bool.and_true]
@[simp] theorem EH:bk s []=some []:=rfl
@[simp] theorem Eo{v:V}{r:List V}:bk s (v::r)=(cellsOf v).bind fun cs=>if cs.length=s then (bk s r).map (cs++·) else none:=by
 simp only[bk]
 cases cellsOf v with
 | none=>rfl
 | some cs =>
  simp only[Option.bind_some]
  split
  ·cases bk s r<;>rfl
  ·rfl
@[simp] theorem JT{pl:Nat→Option (Nat×Nat)}{cs:List V}:cM pl cs []=some cs:=rfl
@[simp] theorem HV{pl:Nat→Option (Nat×Nat)}{cs:List V}{i:Nat}{v:V}{r:List (Nat×V)}:cM pl cs ((i,v)::r)=(pl i).bind fun q=>(cellsOf v).bind fun vs=>if vs.length=q.2&&decide (q.1+q.2≤cs.length) then cM pl (putAt cs q.1 vs) r else none:=by
 simp only[cM]
 cases pl i with
 | none=>rfl
 | some q =>
  obtain⟨off,s⟩:=q
  cases cellsOf v with
  | none=>rfl
  | some vs=>rfl
theorem cr{fields:Array Field}{z:List V}{pl:Nat→Option (Nat×Nat)}(hz:zeroOf P t=some (.agg z))(hu:P.underlying t=some (.struct fields))(ha:oV P fields=true)(hpl:∀ i,placesOf P fields i=pl i){ps:List (Nat×V)}:cq P t ps=(cM pl z ps).map .agg:=by
 obtain rfl:placesOf P fields=pl:=funext hpl
 simp only[cq,hz,hu,ha,if_true]
theorem Aj{n:Nat}{z:List V}(hz:zeroOf P t=some (.agg z))(hu:P.underlying t=some (.array n e))(hs:cD P e=some s){ps:List (Nat×V)}:cq P t ps=(cM (fun i=>some (i*s,s)) z ps).map .agg:=by
 simp only[cq,hz,hu,hs]
@[simp] theorem binV_add{k:IntKind}{a b:Int}:cF P .add t (.int k a) (.int k b)=bK .add k a b:=by simp[cF]
@[simp] theorem binV_sub{k:IntKind}{a b:Int}:cF P .sub t (.int k a) (.int k b)=bK .sub k a b:=by simp[cF]
@[simp] theorem binV_mul{k:IntKind}{a b:Int}:cF P .mul t (.int k a) (.int k b)=bK .mul k a b:=by simp[cF]
@[simp] theorem binV_quo{k:IntKind}{a b:Int}:cF P .quo t (.int k a) (.int k b)=bK .quo k a b:=by simp[cF]
@[simp] theorem binV_rem{k:IntKind}{a b:Int}:cF P .rem t (.int k a) (.int k b)=bK .rem k a b:=by simp[cF]
@[simp] theorem binV_and{k:IntKind}{a b:Int}:cF P .and t (.int k a) (.int k b)=bK .and k a b:=by simp[cF]
@[simp] theorem binV_or{k:IntKind}{a b:Int}:cF P .or t (.int k a) (.int k b)=bK .or k a b:=by simp[cF]
@[simp] theorem binV_xor{k:IntKind}{a b:Int}:cF P .xor t (.int k a) (.int k b)=bK .xor k a b:=by simp[cF]
@[simp] theorem GI{k:IntKind}{a b:Int}:cF P .andNot t (.int k a) (.int k b)=bK .andNot k a b:=by simp[cF]
@[simp] theorem binV_eql{k:IntKind}{a b:Int}:cF P .eql t (.int k a) (.int k b)=bK .eql k a b:=by simp[cF]
@[simp] theorem binV_neq{k:IntKind}{a b:Int}:cF P .neq t (.int k a) (.int k b)=bK .neq k a b:=by simp[cF]
@[simp] theorem binV_lss{k:IntKind}{a b:Int}:cF P .lss t (.int k a) (.int k b)=bK .lss k a b:=by simp[cF]
@[simp] theorem binV_leq{k:IntKind}{a b:Int}:cF P .leq t (.int k a) (.int k b)=bK .leq k a b:=by simp[cF]
@[simp] theorem binV_gtr{k:IntKind}{a b:Int}:cF P .gtr t (.int k a) (.int k b)=bK .gtr k a b:=by simp[cF]
@[simp] theorem binV_geq{k:IntKind}{a b:Int}:cF P .geq t (.int k a) (.int k b)=bK .geq k a b:=by simp[cF]
@[simp] theorem binV_shl{k k':IntKind}{a b:Int}(hb:¬ b<0):cF P .shl t (.int k a) (.int k' b)=some (.int k (k.wrap (a*2 ^ (min b.toNat k.bits)))):=by simp[cF,hb]
@[simp] theorem binV_shr{k k':IntKind}{a b:Int}(hb:¬ b<0):cF P .shr t (.int k a) (.int k' b)=some (.int k (a.fdiv (2 ^ (min b.toNat k.bits)))):=by simp[cF,hb]
@[simp] theorem Ib{k:IntKind}{a b:Int}:bK .add k a b=some (.int k (k.wrap (a+b))):=rfl
@[simp] theorem Io{k:IntKind}{a b:Int}:bK .sub k a b=some (.int k (k.wrap (a-b))):=rfl
@[simp] theorem Ij{k:IntKind}{a b:Int}:bK .mul k a b=some (.int k (k.wrap (a*b))):=rfl
@[simp] theorem Il{k:IntKind}{a b:Int}(hb:¬ b=0):bK .quo k a b=some (.int k (k.wrap (a.tdiv b))):=by simp[bK,hb]
@[simp] theorem Im{k:IntKind}{a b:Int}(hb:¬ b=0):bK .rem k a b=some (.int k (a.tmod b)):=by simp[bK,hb]
@[simp] theorem Ic{k:IntKind}{a b:Int}:bK .eql k a b=some (.bool (decide (a=b))):=by simp[bK];rw[Bool.eq_iff_iff];simp
@[simp] theorem Ik{k:IntKind}{a b:Int}:bK .neq k a b=some (.bool (!decide (a=b))):=by simp[bK];rw[Bool.eq_iff_iff];simp
@[simp] theorem Ii{k:IntKind}{a b:Int}:bK .lss k a b=some (.bool (decide (a<b))):=rfl
@[simp] theorem Ih{k:IntKind}{a b:Int}:bK .leq k a b=some (.bool (decide (a≤b))):=rfl
@[simp] theorem Ig{k:IntKind}{a b:Int}:bK .gtr k a b=some (.bool (decide (b<a))):=rfl
@[simp] theorem Ie{k:IntKind}{a b:Int}:bK .geq k a b=some (.bool (decide (b≤a))):=rfl
@[simp] theorem unV_not{b:Bool}:unV .not (.bool b)=some (.bool !b):=rfl
@[simp] theorem unV_neg{k:IntKind}{a:Int}:unV .neg (.int k a)=some (.int k (k.wrap (0-a))):=rfl
@[simp] theorem E0{vs:List V}{i:Nat}:gT (.tup vs) i=slot vs i:=rfl
@[simp] theorem Et{b off:Nat}:eY (.ptr b off)=some (.ptr b off):=rfl
@[simp] theorem Da{cs:List V}{off:Nat}:eY (.lptr cs off)=some (.lptr cs off):=rfl
@[simp] theorem C9{f:FuncId}{a c:List V}:eY (.func (.func f) a c)=some (.func (.func f) a c):=rfl
@[simp] theorem get_zero{α:Type}{a:α}{l:List α}:(a::l)[0]?=some a:=rfl
@[simp] theorem D0{a b:Nat}:((a:Int)+(b:Int)).toNat=a+b:=by omega
@[simp] theorem yB{a b:Nat}:((a:Int)+(no_index (OfNat.ofNat b):Int)).toNat=a+(no_index (OfNat.ofNat b):Nat):=by
 show ((a:Int)+(b:Int)).toNat=a+b
 omega
@[simp] theorem cast_eq{a b:Nat}:((a:Int)=(b:Int))↔a=b:=Int.ofNat_inj
theorem wrap64{x:Int}(h1:-9223372036854775808≤x)(h2:x≤9223372036854775807):IntKind.i64.wrap x=x:=by
 have:=IntWalk.i64_in x ⟨h1,h2⟩
 exact this
inductive LK where
 | int
 | bool
 | str
def flatK:List LK→List V→List V→Option Bool
 | [],[],[]=>some true
 | .int::ks,.int k a::x,.int k' b::y=>if k=k' then (if a==b then flatK ks x y else some false) else none
 | .bool::ks,.bool a::x,.bool b::y=>if a==b then flatK ks x y else some false
 | .str::ks,.str a::x,.str b::y=>if a.toList==b.toList then flatK ks x y else some false
 | _,_,_=>none
def chk(P:Program):Nat→List Field→List LK→Bool
 | _,[],[]=>true
 | i, f :: fs, k :: ks => (f.offset == i) && !(f.name == "_") && (match P.underlying f.type, k with
  | some (.int _),.int=>true
  | some .bool,.bool=>true
  | some .string,.str=>true
  | _,_=>false)&&chk P (i+1) fs ks
 | _,_,_=>false
theorem yY:∀ (fs:List Field) (ks:List LK) (i:Nat) (xs ys:List V),chk P i fs ks=true→ga P i fs xs ys=flatK ks xs ys
 | [],[],i,xs,ys,_=>by
  cases xs<;>cases ys<;>rfl
 | [],_::_,i,xs,ys,hc=>by simp[chk]at hc
 | f::fs,[],i,xs,ys,hc=>by simp[chk]at hc
 | f::fs,k::ks,i,xs,ys,hc=>by
  simp only[chk,Bool.and_eq_true,beq_iff_eq,Bool.not_eq_true']at hc
  obtain⟨⟨⟨h1,h2⟩,h3⟩,h4⟩:=hc
  have ih:=yY fs ks (i+1)
  cases xs with
  | nil=>cases k<;>rfl
  | cons a x =>
   cases ys with
   | nil=>cases k<;>cases a<;>rfl
   | cons b y =>
    have ih:=ih x y h4
    simp only[ga,h1,h2,decide_true,Bool.not_false,Bool.and_true,if_true]
    cases hu:P.underlying f.type with
    | none=>simp[hu]at h3
    | some d =>
     rw[hu]at h3
     cases d<;>cases k<;>simp only[Bool.false_eq_true]at h3
     all_goals
      simp only[pX,hu]
      cases a<;>cases b<;>simp only[flatK]<;>try rfl
     ·rename_i a1 b1
      cases hab:(a1==b1)<;>simp[ih]
     ·rename_i k1 a1 k2 b1
      by_cases hk:k1=k2
      ·simp only[hk,if_true]
       cases hab:(a1==b1)<;>simp[ih]
      ·simp only[hk,if_false]
     ·rename_i a1 b1
      cases hab:(a1.toList==b1.toList)<;>simp[ih]
theorem Cr{fields:Array Field}{ks:List LK}(hu:P.underlying t=some (.struct fields))(h1:P.stoodInHeld t=false)(h2:P.eqGuardType P.depth t=false)(hc:chk P 0 fields.toList ks=true){xs ys:List V}:eqV P t (.agg xs) (.agg ys)=flatK ks xs ys:=by
 simp only[eqV,hu,h1,h2,Bool.not_false,Bool.and_self,if_true]
 exact yY _ _ _ _ _ hc
@[simp] theorem JU:flatK [] [] []=some true:=rfl
@[simp] theorem flatK_1{k:IntKind}{a b:Int}:flatK [.int] [.int k a] [.int k b]=some (decide (a=b)):=by
 by_cases h:a=b<;>simp[flatK,h]
@[simp] theorem flatK_2{k k2:IntKind}{a b a2 b2:Int}:flatK [.int,.int] [.int k a,.int k2 a2] [.int k b,.int k2 b2]=some (decide (a=b)&&decide (a2=b2)):=by
 by_cases h:a=b<;>by_cases h2:a2=b2<;>simp[flatK,h,h2]
@[simp] theorem flatK_3{k k2 k3:IntKind}{a b a2 b2 a3 b3:Int}:flatK [.int,.int,.int] [.int k a,.int k2 a2,.int k3 a3] [.int k b,.int k2 b2,.int k3 b3]=some (decide (a=b)&&(decide (a2=b2)&&decide (a3=b3))):=by
 by_cases h:a=b<;>by_cases h2:a2=b2<;>by_cases h3:a3=b3<;>simp[flatK,h,h2,h3]
@[simp] theorem flatK_4{k k2 k3 k4:IntKind}{a b a2 b2 a3 b3 a4 b4:Int}:flatK [.int,.int,.int,.int] [.int k a,.int k2 a2,.int k3 a3,.int k4 a4] [.int k b,.int k2 b2,.int k3 b3,.int k4 b4]=some (decide (a=b)&&(decide (a2=b2)&&(decide (a3=b3)&&decide (a4=b4)))):=by
 by_cases h:a=b<;>by_cases h2:a2=b2<;>by_cases h3:a3=b3<;>by_cases h4:a4=b4<;>simp[flatK,h,h2,h3,h4]
@[simp] theorem HF{xs ys:List V}:cF P .eql t (.agg xs) (.agg ys)=(eqV P t (.agg xs) (.agg ys)).map .bool:=by
 simp only[cF];cases eqV P t (.agg xs) (.agg ys)<;>rfl
@[simp] theorem GK{xs ys:List V}:cF P .neq t (.agg xs) (.agg ys)=(eqV P t (.agg xs) (.agg ys)).map fun b=>.bool !b:=by
 simp only[cF];cases eqV P t (.agg xs) (.agg ys)<;>rfl
theorem Ay(hu:P.underlying t=some .bool){a b:Bool}:eqV P t (.bool a) (.bool b)=some (a==b):=by simp only[eqV,hu]
@[simp] theorem GJ{a b:Bool}:cF P .eql t (.bool a) (.bool b)=(eqV P t (.bool a) (.bool b)).map .bool:=by
 simp only[cF];cases eqV P t (.bool a) (.bool b)<;>rfl
@[simp] theorem EC{a b:Bool}:cF P .neq t (.bool a) (.bool b)=(eqV P t (.bool a) (.bool b)).map fun b=>.bool !b:=by
 simp only[cF];cases eqV P t (.bool a) (.bool b)<;>rfl
@[simp] theorem frz_int{n d:Nat}{k:IntKind}{i:Int}:frz h n (d+1) (.int k i)=some (.int k i):=rfl
@[simp] theorem frz_bool{n d:Nat}{b:Bool}:frz h n (d+1) (.bool b)=some (.bool b):=rfl
@[simp] theorem frz_str{n d:Nat}{x:ByteArray}:frz h n (d+1) (.str x)=some (.str x):=rfl
@[simp] theorem frz_lst{n d:Nat}{xs:List (List V)}:frz h n (d+1) (.lst xs)=some (.lst xs):=rfl
@[simp] theorem frz_nils{n d:Nat}:frz h n (d+1) .nils=some (.lst []):=rfl
@[simp] theorem frz_nilp{n d:Nat}:frz h n (d+1) .nilp=some .nilp:=rfl
@[simp] theorem frz_no{n d:Nat}:frz h n (d+1) .no=some .no:=rfl
@[simp] theorem Fb{n d:Nat}{cs:List V}:frz h n (d+1) (.agg cs)=(cs.mapM (frz h n d)).map .agg:=by
 simp only[frz];cases cs.mapM (frz h n d)<;>rfl
@[simp] theorem frz_tup{n d:Nat}{cs:List V}:frz h n (d+1) (.tup cs)=(cs.mapM (frz h n d)).map .tup:=by
 simp only[frz];cases cs.mapM (frz h n d)<;>rfl
theorem fx{n d:Nat}{k:IntKind}:∀ (l:List Int),(l.map (V.int k)).mapM (frz h n (d+1))=some (l.map (V.int k))
 | []=>rfl
 | x::l=>by simp[List.mapM_cons,fx l]
theorem gP:∀ (l:List V),chunk 1 l.length l=l.map fun v=>[v]
 | []=>rfl
 | x::l=>by simp[chunk,gP l]
theorem iK{n d b off len cap k:Nat}:frz h n (d+1) (.sl b off len cap k)=if b<n then some (.sl b off len cap k)
   else match ab h b with
    | some cs=>if off+len*k≤cs.length then
      match ((cs.drop off).take (len*k)).mapM (frz h n d) with
      | some cs'=>if cs'.all V.rf then some (.lst (chunk k len cs')) else none
      | none=>none
     else none
    | none=>none:=by simp only[frz];rfl
theorem dd{n d b len cap:Nat}{k:IntKind}{l:List Int}(hb:ab h b=some (l.map (V.int k)))(hn:n≤b)(hl:l.length=len):frz h n (d+2) (.sl b 0 len cap 1)=some (.lst (l.map fun x=>[.int k x])):=by
 subst hl
 have e:¬ b<n:=by omega
 have e2:List.take (l.length*1) (l.map (V.int k))=l.map (V.int k):=List.take_of_length_le (by simp)
 have e3:chunk 1 l.length (l.map (V.int k))=l.map fun x=>[V.int k x]:=by
  have:=gP (l.map (V.int k))
  simp only[List.length_map,List.map_map]at this
  exact this
 have e4:(l.map (V.int k)).all V.rf=true:=by simp[List.all_eq_true]
 rw[iK]
 simp only[e,if_false,hb,List.drop_zero,e2,fx,e3,e4,if_true]
 rw[if_pos (by simp)]
theorem we{d b len cap:Nat}{k:IntKind}{l:List Int}(hb:ab h b=some (l.map (V.int k))):own h (d+2) (.sl b 0 len cap 1)=true:=by
 simp only[own,hb,List.drop_zero]
 rw[List.all_eq_true]
 intro c hc
 obtain⟨x,_,rfl⟩:=List.mem_map.1 (List.mem_of_mem_take hc)
 rfl
end
end Go.Ab
