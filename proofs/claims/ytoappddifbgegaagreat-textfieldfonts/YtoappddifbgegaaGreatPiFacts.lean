/- Facts on the types of the seat's program, each by the kernel. Printed by wip/tools/Facts.lean. -/
import Derived.Test.YtoappddifbgegaaGreatAbW3
import Derived.Test.YtoappddifbgegaaGreatProg
import Derived.KernelRfl
set_option linter.all false
namespace Go.Ab.Tryz
open Go.Proofs Go.Proofs.Tryz
section
variable {cfg:Cfg}{h:Heap}{cs vs:List V}{b c cap len off:Nat}{d v x:V}{a:Bool}{xs:List (List V)}{k:IntKind}{i m n:Int}{hi lo:Option (Option V)}{ps:List (Nat×V)}
theorem u24:prog.underlying 24=some (.slice 43):=by kernel_rfl
theorem u25:prog.underlying 25=some (.slice 21):=by kernel_rfl
theorem u26:prog.underlying 26=some (.slice 124):=by kernel_rfl
theorem u39:prog.underlying 39=some (.slice 112):=by kernel_rfl
theorem u40:prog.underlying 40=some (.slice 114):=by kernel_rfl
theorem u41:prog.underlying 41=some (.slice 116):=by kernel_rfl
theorem u52:prog.underlying 52=some (.slice 3):=by kernel_rfl
theorem u73:prog.underlying 73=some (.slice 81):=by kernel_rfl
theorem u76:prog.underlying 76=some (.slice 162):=by kernel_rfl
theorem u149:prog.underlying 149=some (.slice 4):=by kernel_rfl
theorem u154:prog.underlying 154=some (.slice 158):=by kernel_rfl
theorem u160:prog.underlying 160=some (.slice 225):=by kernel_rfl
theorem u233:prog.underlying 233=some (.slice 166):=by kernel_rfl
theorem zd:prog.underlying 276=some (.slice 277):=by kernel_rfl
theorem u277:prog.underlying 277=some (.array 2 3):=by kernel_rfl
theorem u309:prog.underlying 309=some (.slice 312):=by kernel_rfl
theorem EH:prog.underlying 327=some (.slice 326):=by kernel_rfl
theorem u329:prog.underlying 329=some (.slice 52):=by kernel_rfl
theorem u337:prog.underlying 337=some (.slice 355):=by kernel_rfl
theorem u342:prog.underlying 342=some (.slice 160):=by kernel_rfl
theorem u346:prog.underlying 346=some (.slice 350):=by kernel_rfl
theorem u355:prog.underlying 355=some (.array 2 21):=by kernel_rfl
theorem s43:cj prog 43=some 8:=by kernel_rfl
theorem s21:cj prog 21=some 1:=by kernel_rfl
theorem s124:cj prog 124=some 2:=by kernel_rfl
theorem s112:cj prog 112=some 3:=by kernel_rfl
theorem s114:cj prog 114=some 3:=by kernel_rfl
theorem s116:cj prog 116=some 4:=by kernel_rfl
theorem s3:cj prog 3=some 1:=by kernel_rfl
theorem s81:cj prog 81=some 4:=by kernel_rfl
theorem s162:cj prog 162=some 10:=by kernel_rfl
theorem s4:cj prog 4=some 1:=by kernel_rfl
theorem s158:cj prog 158=some 4:=by kernel_rfl
theorem s225:cj prog 225=some 8:=by kernel_rfl
theorem s166:cj prog 166=some 7:=by kernel_rfl
theorem s277:cj prog 277=some 2:=by kernel_rfl
theorem s312:cj prog 312=some 4:=by kernel_rfl
theorem s326:cj prog 326=some 3:=by kernel_rfl
theorem s52:cj prog 52=some 1:=by kernel_rfl
theorem s355:cj prog 355=some 2:=by kernel_rfl
theorem s160:cj prog 160=some 1:=by kernel_rfl
theorem s350:cj prog 350=some 2:=by kernel_rfl
@[simp] theorem pt3:part prog 3 cs off=slot cs off:=bD (by kernel_rfl)
@[simp] theorem st3:aN prog cfg h 3 (.ptr b off) v=stv cfg h b off 1 (cellsOf v):=aQ (by kernel_rfl)
@[simp] theorem zr3:zeroOf prog 3=some (.int .i64 0):=by kernel_rfl
@[simp] theorem pt4:part prog 4 cs off=slot cs off:=bD (by kernel_rfl)
@[simp] theorem st4:aN prog cfg h 4 (.ptr b off) v=stv cfg h b off 1 (cellsOf v):=aQ (by kernel_rfl)
@[simp] theorem eq4{a b:Bool}:eqV prog 4 (.bool a) (.bool b)=some (a==b):=A6 (by kernel_rfl)
@[simp] theorem pt5:part prog 5 cs off=slot cs off:=bD (by kernel_rfl)
@[simp] theorem pt21:part prog 21 cs off=slot cs off:=bD (by kernel_rfl)
@[simp] theorem pt23:part prog 23 cs off=if off+9<=cs.length then some (.agg ((cs.drop off).take 9)) else none:=bN (by kernel_rfl) (by kernel_rfl)
@[simp] theorem st23:aN prog cfg h 23 (.ptr b off) v=stv cfg h b off 9 (cellsOf v):=aQ (by kernel_rfl)
@[simp] theorem zr23:zeroOf prog 23=some (.agg [(.bool false),(.bool false),(.int .i64 0),(.int .i64 0),(.int .i64 0),(.int .i64 0),(.int .i64 0),(.int .i64 0),(.int .i64 0)]):=by kernel_rfl
@[simp] theorem fa23x3:ag prog 23 (.ptr b off) 3=some (.ptr b (off+3)):=by kernel_rfl
@[simp] theorem fa23x4:ag prog 23 (.ptr b off) 4=some (.ptr b (off+4)):=by kernel_rfl
@[simp] theorem fa23x5:ag prog 23 (.ptr b off) 5=some (.ptr b (off+5)):=by kernel_rfl
@[simp] theorem fa23x6:ag prog 23 (.ptr b off) 6=some (.ptr b (off+6)):=by kernel_rfl
@[simp] theorem fa23x7:ag prog 23 (.ptr b off) 7=some (.ptr b (off+7)):=by kernel_rfl
@[simp] theorem fa23x8:ag prog 23 (.ptr b off) 8=some (.ptr b (off+8)):=by kernel_rfl
def ug:Nat->Option (Nat×Nat)
 | 0=>some (0,1)
 | 1=>some (1,1)
 | 2=>some (2,1)
 | 3=>some (3,1)
 | 4=>some (4,1)
 | 5=>some (5,1)
 | 6=>some (6,1)
 | 7=>some (7,1)
 | 8=>some (8,1)
 | _=>none
@[simp] theorem pl23x0:ug 0=some (0,1):=rfl
@[simp] theorem pl23x1:ug 1=some (1,1):=rfl
@[simp] theorem pl23x2:ug 2=some (2,1):=rfl
@[simp] theorem pl23x3:ug 3=some (3,1):=rfl
@[simp] theorem pl23x4:ug 4=some (4,1):=rfl
@[simp] theorem pl23x5:ug 5=some (5,1):=rfl
@[simp] theorem pl23x6:ug 6=some (6,1):=rfl
@[simp] theorem pl23x7:ug 7=some (7,1):=rfl
@[simp] theorem pl23x8:ug 8=some (8,1):=rfl
@[simp] theorem pt24:part prog 24 cs off=slot cs off:=bD (by kernel_rfl)
@[simp] theorem ixL24:ax prog 24 (.lst xs) (.int k i)=kH 8 xs i:=dP u24 s43
@[simp] theorem lnL24:dc prog 24 (.lst xs)=some (.int .i64 xs.length):=dQ u24
@[simp] theorem pt25:part prog 25 cs off=slot cs off:=bD (by kernel_rfl)
@[simp] theorem ixL25:ax prog 25 (.lst xs) (.int k i)=kH 1 xs i:=dP u25 s21
@[simp] theorem ixS25:ax prog 25 (.sl b off len cap c) (.int k i)=kI 1 b off len c i:=dY u25 s21
@[simp] theorem slL25:cN prog h 25 (.lst xs) lo hi=yL 1 xs (bI 0 lo) (bI xs.length hi):=Au u25 s21
@[simp] theorem lnL25:dc prog 25 (.lst xs)=some (.int .i64 xs.length):=dQ u25
@[simp] theorem ap25:bV prog cfg h 25 25 d x=kD cfg h 1 4 d (bc h 1 x):=dJ u25 s21 (by kernel_rfl) (by kernel_rfl) (by decide)
@[simp] theorem bs25:aI prog h 25 len vs=(bu 1 vs).bind fun cs=>if vs.length=len&&decide (len*1<=16777216) then some (.sl h.length 0 len len 1,h++[some cs]) else none:=br u25 s21 (by kernel_rfl) (by decide)
@[simp] theorem pt26:part prog 26 cs off=slot cs off:=bD (by kernel_rfl)
@[simp] theorem st26:aN prog cfg h 26 (.ptr b off) v=stv cfg h b off 1 (cellsOf v):=aQ (by kernel_rfl)
@[simp] theorem ixL26:ax prog 26 (.lst xs) (.int k i)=kH 2 xs i:=dP u26 s124
@[simp] theorem ixS26:ax prog 26 (.sl b off len cap c) (.int k i)=kI 2 b off len c i:=dY u26 s124
@[simp] theorem lnL26:dc prog 26 (.lst xs)=some (.int .i64 xs.length):=dQ u26
@[simp] theorem lnS26{b off len cap k:Nat}:dc prog 26 (.sl b off len cap k)=some (.int .i64 len):=fg u26
@[simp] theorem ap26:bV prog cfg h 26 26 d x=kD cfg h 2 16 d (bc h 2 x):=dJ u26 s124 (by kernel_rfl) (by kernel_rfl) (by decide)
@[simp] theorem bs26:aI prog h 26 len vs=(bu 2 vs).bind fun cs=>if vs.length=len&&decide (len*2<=16777216) then some (.sl h.length 0 len len 2,h++[some cs]) else none:=br u26 s124 (by kernel_rfl) (by decide)
@[simp] theorem pt28:part prog 28 cs off=if off+2<=cs.length then some (.agg ((cs.drop off).take 2)) else none:=bN (by kernel_rfl) (by kernel_rfl)
@[simp] theorem st28:aN prog cfg h 28 (.ptr b off) v=stv cfg h b off 2 (cellsOf v):=aQ (by kernel_rfl)
@[simp] theorem zr28:zeroOf prog 28=some (.agg [.nils,.nils]):=by kernel_rfl
@[simp] theorem fa28x0:ag prog 28 (.ptr b off) 0=some (.ptr b off):=by kernel_rfl
@[simp] theorem fa28x1:ag prog 28 (.ptr b off) 1=some (.ptr b (off+1)):=by kernel_rfl
def pl28:Nat->Option (Nat×Nat)
 | 0=>some (0,1)
 | 1=>some (1,1)
 | _=>none
@[simp] theorem pl28x0:pl28 0=some (0,1):=rfl
@[simp] theorem pl28x1:pl28 1=some (1,1):=rfl
@[simp] theorem bd28:bW prog 28 ps=(cD pl28 [.nils,.nils] ps).map .agg:=bS (pl:=pl28) zr28 underlying28 (by kernel_rfl) (fun i=>by match i with|0|1=>(show _=_;kernel_rfl)|_+2=>(show _=_;kernel_rfl))
def pl30:Nat->Option (Nat×Nat)
 | 0=>some (0,1)
 | 1=>some (1,1)
 | 2=>some (2,1)
 | _=>none
@[simp] theorem pl30x0:pl30 0=some (0,1):=rfl
@[simp] theorem pl30x1:pl30 1=some (1,1):=rfl
@[simp] theorem pl30x2:pl30 2=some (2,1):=rfl
def yz:Nat->Option (Nat×Nat)
 | 0=>some (0,1)
 | 1=>some (1,1)
 | 2=>some (2,1)
 | 3=>some (3,2)
 | 4=>some (5,1)
 | 5=>some (6,1)
 | 6=>some (7,1)
 | _=>none
@[simp] theorem pl33x0:yz 0=some (0,1):=rfl
@[simp] theorem pl33x1:yz 1=some (1,1):=rfl
@[simp] theorem pl33x2:yz 2=some (2,1):=rfl
@[simp] theorem pl33x3:yz 3=some (3,2):=rfl
@[simp] theorem pl33x4:yz 4=some (5,1):=rfl
@[simp] theorem pl33x5:yz 5=some (6,1):=rfl
@[simp] theorem pl33x6:yz 6=some (7,1):=rfl
def pl36:Nat->Option (Nat×Nat)
 | 0=>some (0,1)
 | 1=>some (1,1)
 | 2=>some (2,1)
 | 3=>some (3,1)
 | _=>none
@[simp] theorem pl36x0:pl36 0=some (0,1):=rfl
@[simp] theorem pl36x1:pl36 1=some (1,1):=rfl
@[simp] theorem pl36x2:pl36 2=some (2,1):=rfl
@[simp] theorem pl36x3:pl36 3=some (3,1):=rfl
@[simp] theorem zr38:zeroOf prog 38=some (.agg [.nils,.nils,(.int .i64 0),(.int .i64 0),(.bool false),(.bool false),(.int .i64 0),(.int .i64 0),.nils,.nils,(.int .i64 0),(.int .i64 0),.nils,.nils,.nils,(.bool false),(.int .i64 0),(.int .i64 0),(.int .i64 0)]):=by kernel_rfl
@[simp] theorem fa38x0:ag prog 38 (.ptr b off) 0=some (.ptr b off):=by kernel_rfl
def wD:Nat->Option (Nat×Nat)
 | 0=>some (0,2)
 | 1=>some (2,3)
 | 2=>some (5,8)
 | 3=>some (13,4)
 | 4=>some (17,1)
 | 5=>some (18,1)
 | _=>none
@[simp] theorem pl38x0:wD 0=some (0,2):=rfl
@[simp] theorem pl38x1:wD 1=some (2,3):=rfl
@[simp] theorem pl38x2:wD 2=some (5,8):=rfl
@[simp] theorem pl38x3:wD 3=some (13,4):=rfl
@[simp] theorem pl38x4:wD 4=some (17,1):=rfl
@[simp] theorem pl38x5:wD 5=some (18,1):=rfl
@[simp] theorem bd38:bW prog 38 ps=(cD wD [.nils,.nils,(.int .i64 0),(.int .i64 0),(.bool false),(.bool false),(.int .i64 0),(.int .i64 0),.nils,.nils,(.int .i64 0),(.int .i64 0),.nils,.nils,.nils,(.bool false),(.int .i64 0),(.int .i64 0),(.int .i64 0)] ps).map .agg:=bS (pl:=wD) zr38 underlying38 (by kernel_rfl) (fun i=>by match i with|0|1|2|3|4|5=>(show _=_;kernel_rfl)|_+6=>(show _=_;kernel_rfl))
@[simp] theorem pt39:part prog 39 cs off=slot cs off:=bD (by kernel_rfl)
@[simp] theorem ixL39:ax prog 39 (.lst xs) (.int k i)=kH 3 xs i:=dP u39 s112
@[simp] theorem lnL39:dc prog 39 (.lst xs)=some (.int .i64 xs.length):=dQ u39
@[simp] theorem pt40:part prog 40 cs off=slot cs off:=bD (by kernel_rfl)
@[simp] theorem ixL40:ax prog 40 (.lst xs) (.int k i)=kH 3 xs i:=dP u40 s114
@[simp] theorem lnL40:dc prog 40 (.lst xs)=some (.int .i64 xs.length):=dQ u40
@[simp] theorem pt41:part prog 41 cs off=slot cs off:=bD (by kernel_rfl)
@[simp] theorem ixL41:ax prog 41 (.lst xs) (.int k i)=kH 4 xs i:=dP u41 s116
@[simp] theorem lnL41:dc prog 41 (.lst xs)=some (.int .i64 xs.length):=dQ u41
@[simp] theorem pt43:part prog 43 cs off=if off+8<=cs.length then some (.agg ((cs.drop off).take 8)) else none:=bN (by kernel_rfl) (by kernel_rfl)
@[simp] theorem st43:aN prog cfg h 43 (.ptr b off) v=stv cfg h b off 8 (cellsOf v):=aQ (by kernel_rfl)
@[simp] theorem zr43:zeroOf prog 43=some (.agg [(.int .i64 0),(.int .i64 0),(.int .i64 0),(.int .i64 0),(.int .i64 0),.nils,.nils,.nils]):=by kernel_rfl
@[simp] theorem fa43x0:ag prog 43 (.ptr b off) 0=some (.ptr b off):=by kernel_rfl
@[simp] theorem fa43x1:ag prog 43 (.ptr b off) 1=some (.ptr b (off+1)):=by kernel_rfl
@[simp] theorem fa43x2:ag prog 43 (.ptr b off) 2=some (.ptr b (off+2)):=by kernel_rfl
@[simp] theorem fa43x3:ag prog 43 (.ptr b off) 3=some (.ptr b (off+3)):=by kernel_rfl
@[simp] theorem fa43x4:ag prog 43 (.ptr b off) 4=some (.ptr b (off+4)):=by kernel_rfl
@[simp] theorem fa43x5:ag prog 43 (.ptr b off) 5=some (.ptr b (off+5)):=by kernel_rfl
@[simp] theorem fa43x6:ag prog 43 (.ptr b off) 6=some (.ptr b (off+6)):=by kernel_rfl
@[simp] theorem fa43x7:ag prog 43 (.ptr b off) 7=some (.ptr b (off+7)):=by kernel_rfl
def wE:Nat->Option (Nat×Nat)
 | 0=>some (0,1)
 | 1=>some (1,1)
 | 2=>some (2,1)
 | 3=>some (3,1)
 | 4=>some (4,1)
 | 5=>some (5,1)
 | 6=>some (6,1)
 | 7=>some (7,1)
 | _=>none
@[simp] theorem pl43x0:wE 0=some (0,1):=rfl
@[simp] theorem pl43x1:wE 1=some (1,1):=rfl
@[simp] theorem pl43x2:wE 2=some (2,1):=rfl
@[simp] theorem pl43x3:wE 3=some (3,1):=rfl
@[simp] theorem pl43x4:wE 4=some (4,1):=rfl
@[simp] theorem pl43x5:wE 5=some (5,1):=rfl
@[simp] theorem pl43x6:wE 6=some (6,1):=rfl
@[simp] theorem pl43x7:wE 7=some (7,1):=rfl
@[simp] theorem pt52:part prog 52 cs off=slot cs off:=bD (by kernel_rfl)
@[simp] theorem st52:aN prog cfg h 52 (.ptr b off) v=stv cfg h b off 1 (cellsOf v):=aQ (by kernel_rfl)
@[simp] theorem ixL52:ax prog 52 (.lst xs) (.int k i)=kH 1 xs i:=dP u52 s3
@[simp] theorem ixS52:ax prog 52 (.sl b off len cap c) (.int k i)=kI 1 b off len c i:=dY u52 s3
@[simp] theorem slL52:cN prog h 52 (.lst xs) lo hi=yL 1 xs (bI 0 lo) (bI xs.length hi):=Au u52 s3
@[simp] theorem slS52{b off len cap k:Nat}:cN prog h 52 (.sl b off len cap k) lo hi=wY 1 b off len cap k (bI 0 lo) (bI len hi):=uu u52 s3
@[simp] theorem lnL52:dc prog 52 (.lst xs)=some (.int .i64 xs.length):=dQ u52
@[simp] theorem lnS52{b off len cap k:Nat}:dc prog 52 (.sl b off len cap k)=some (.int .i64 len):=fg u52
@[simp] theorem ap52:bV prog cfg h 52 52 d x=kD cfg h 1 8 d (bc h 1 x):=dJ u52 s3 (by kernel_rfl) (by kernel_rfl) (by decide)
@[simp] theorem bs52:aI prog h 52 len vs=(bu 1 vs).bind fun cs=>if vs.length=len&&decide (len*1<=16777216) then some (.sl h.length 0 len len 1,h++[some cs]) else none:=br u52 s3 (by kernel_rfl) (by decide)
@[simp] theorem mk52:cB prog h 52 (.int .i64 n) (.int .i64 m)=mkS h 1 8 [(.int .i64 0)] n m:=DI u52 s3 (by kernel_rfl) (show zeroOf prog 3=some (.int .i64 0) by kernel_rfl) rfl (by decide) (by decide)
def pl60:Nat->Option (Nat×Nat)
 | 0=>some (0,1)
 | 1=>some (1,2)
 | _=>none
@[simp] theorem pl60x0:pl60 0=some (0,1):=rfl
@[simp] theorem pl60x1:pl60 1=some (1,2):=rfl
def pl65:Nat->Option (Nat×Nat)
 | 0=>some (0,1)
 | 1=>some (1,1)
 | _=>none
@[simp] theorem pl65x0:pl65 0=some (0,1):=rfl
@[simp] theorem pl65x1:pl65 1=some (1,1):=rfl
def nD:Nat->Option (Nat×Nat)
 | 0=>some (0,1)
 | 1=>some (1,1)
 | 2=>some (2,2)
 | 3=>some (4,1)
 | 4=>some (5,1)
 | 5=>some (6,1)
 | 6=>some (7,1)
 | 7=>some (8,1)
 | 8=>some (9,1)
 | 9=>some (10,2)
 | 10=>some (12,1)
 | 11=>some (13,1)
 | 12=>some (14,1)
 | _=>none
@[simp] theorem pl67x0:nD 0=some (0,1):=rfl
@[simp] theorem pl67x1:nD 1=some (1,1):=rfl
@[simp] theorem pl67x2:nD 2=some (2,2):=rfl
@[simp] theorem pl67x3:nD 3=some (4,1):=rfl
@[simp] theorem pl67x4:nD 4=some (5,1):=rfl
@[simp] theorem pl67x5:nD 5=some (6,1):=rfl
@[simp] theorem pl67x6:nD 6=some (7,1):=rfl
@[simp] theorem pl67x7:nD 7=some (8,1):=rfl
@[simp] theorem pl67x8:nD 8=some (9,1):=rfl
@[simp] theorem pl67x9:nD 9=some (10,2):=rfl
@[simp] theorem pl67x10:nD 10=some (12,1):=rfl
@[simp] theorem pl67x11:nD 11=some (13,1):=rfl
@[simp] theorem pl67x12:nD 12=some (14,1):=rfl
@[simp] theorem pt73:part prog 73 cs off=slot cs off:=bD (by kernel_rfl)
@[simp] theorem ixL73:ax prog 73 (.lst xs) (.int k i)=kH 4 xs i:=dP u73 s81
@[simp] theorem ixS73:ax prog 73 (.sl b off len cap c) (.int k i)=kI 4 b off len c i:=dY u73 s81
@[simp] theorem lnL73:dc prog 73 (.lst xs)=some (.int .i64 xs.length):=dQ u73
@[simp] theorem lnS73{b off len cap k:Nat}:dc prog 73 (.sl b off len cap k)=some (.int .i64 len):=fg u73
@[simp] theorem ap73:bV prog cfg h 73 73 d x=kD cfg h 4 32 d (bc h 4 x):=dJ u73 s81 (by kernel_rfl) (by kernel_rfl) (by decide)
@[simp] theorem bs73:aI prog h 73 len vs=(bu 4 vs).bind fun cs=>if vs.length=len&&decide (len*4<=16777216) then some (.sl h.length 0 len len 4,h++[some cs]) else none:=br u73 s81 (by kernel_rfl) (by decide)
@[simp] theorem pt75:part prog 75 cs off=if off+5<=cs.length then some (.agg ((cs.drop off).take 5)) else none:=bN (by kernel_rfl) (by kernel_rfl)
@[simp] theorem st75:aN prog cfg h 75 (.ptr b off) v=stv cfg h b off 5 (cellsOf v):=aQ (by kernel_rfl)
@[simp] theorem zr75:zeroOf prog 75=some (.agg [.nils,.nils,(.int .i64 0),(.int .i64 0),(.int .i64 0)]):=by kernel_rfl
@[simp] theorem fa75x0:ag prog 75 (.ptr b off) 0=some (.ptr b off):=by kernel_rfl
@[simp] theorem fa75x1:ag prog 75 (.ptr b off) 1=some (.ptr b (off+1)):=by kernel_rfl
@[simp] theorem fa75x2:ag prog 75 (.ptr b off) 2=some (.ptr b (off+2)):=by kernel_rfl
@[simp] theorem fa75x3:ag prog 75 (.ptr b off) 3=some (.ptr b (off+3)):=by kernel_rfl
@[simp] theorem fa75x4:ag prog 75 (.ptr b off) 4=some (.ptr b (off+4)):=by kernel_rfl
def yA:Nat->Option (Nat×Nat)
 | 0=>some (0,1)
 | 1=>some (1,1)
 | 2=>some (2,1)
 | 3=>some (3,1)
 | 4=>some (4,1)
 | _=>none
@[simp] theorem pl75x0:yA 0=some (0,1):=rfl
@[simp] theorem pl75x1:yA 1=some (1,1):=rfl
@[simp] theorem pl75x2:yA 2=some (2,1):=rfl
@[simp] theorem pl75x3:yA 3=some (3,1):=rfl
@[simp] theorem pl75x4:yA 4=some (4,1):=rfl
@[simp] theorem bd75:bW prog 75 ps=(cD yA [.nils,.nils,(.int .i64 0),(.int .i64 0),(.int .i64 0)] ps).map .agg:=bS (pl:=yA) zr75 underlying75 (by kernel_rfl) (fun i=>by match i with|0|1|2|3|4=>(show _=_;kernel_rfl)|_+5=>(show _=_;kernel_rfl))
@[simp] theorem lnL76:dc prog 76 (.lst xs)=some (.int .i64 xs.length):=dQ u76
@[simp] theorem ap76:bV prog cfg h 76 76 d x=kD cfg h 10 96 d (bc h 10 x):=dJ u76 s162 (by kernel_rfl) (by kernel_rfl) (by decide)
@[simp] theorem bs76:aI prog h 76 len vs=(bu 10 vs).bind fun cs=>if vs.length=len&&decide (len*10<=16777216) then some (.sl h.length 0 len len 10,h++[some cs]) else none:=br u76 s162 (by kernel_rfl) (by decide)
@[simp] theorem pt81:part prog 81 cs off=if off+4<=cs.length then some (.agg ((cs.drop off).take 4)) else none:=bN (by kernel_rfl) (by kernel_rfl)
@[simp] theorem st81:aN prog cfg h 81 (.ptr b off) v=stv cfg h b off 4 (cellsOf v):=aQ (by kernel_rfl)
@[simp] theorem zr81:zeroOf prog 81=some (.agg [(.int .i64 0),(.int .i64 0),(.int .i64 0),(.int .i64 0)]):=by kernel_rfl
@[simp] theorem fa81x0:ag prog 81 (.ptr b off) 0=some (.ptr b off):=by kernel_rfl
@[simp] theorem fl81x0:ag prog 81 (.lptr cs off) 0=some (.lptr cs off):=by kernel_rfl
@[simp] theorem fa81x1:ag prog 81 (.ptr b off) 1=some (.ptr b (off+1)):=by kernel_rfl
@[simp] theorem fl81x1:ag prog 81 (.lptr cs off) 1=some (.lptr cs (off+1)):=by kernel_rfl
@[simp] theorem fa81x2:ag prog 81 (.ptr b off) 2=some (.ptr b (off+2)):=by kernel_rfl
@[simp] theorem fl81x2:ag prog 81 (.lptr cs off) 2=some (.lptr cs (off+2)):=by kernel_rfl
@[simp] theorem fa81x3:ag prog 81 (.ptr b off) 3=some (.ptr b (off+3)):=by kernel_rfl
@[simp] theorem fl81x3:ag prog 81 (.lptr cs off) 3=some (.lptr cs (off+3)):=by kernel_rfl
def BI:Nat->Option (Nat×Nat)
 | 0=>some (0,1)
 | 1=>some (1,1)
 | 2=>some (2,1)
 | 3=>some (3,1)
 | _=>none
@[simp] theorem pl81x0:BI 0=some (0,1):=rfl
@[simp] theorem pl81x1:BI 1=some (1,1):=rfl
@[simp] theorem pl81x2:BI 2=some (2,1):=rfl
@[simp] theorem pl81x3:BI 3=some (3,1):=rfl
@[simp] theorem bd81:bW prog 81 ps=(cD BI [(.int .i64 0),(.int .i64 0),(.int .i64 0),(.int .i64 0)] ps).map .agg:=bS (pl:=BI) zr81 underlying81 (by kernel_rfl) (fun i=>by match i with|0|1|2|3=>(show _=_;kernel_rfl)|_+4=>(show _=_;kernel_rfl))
@[simp] theorem zr100:zeroOf prog 100=some (.agg [.nils,(.int .i64 0)]):=by kernel_rfl
@[simp] theorem fa100x0:ag prog 100 (.ptr b off) 0=some (.ptr b off):=by kernel_rfl
@[simp] theorem fa100x1:ag prog 100 (.ptr b off) 1=some (.ptr b (off+1)):=by kernel_rfl
def Aa:Nat->Option (Nat×Nat)
 | 0=>some (0,1)
 | 1=>some (1,1)
 | _=>none
@[simp] theorem pl100x0:Aa 0=some (0,1):=rfl
@[simp] theorem pl100x1:Aa 1=some (1,1):=rfl
@[simp] theorem bd100:bW prog 100 ps=(cD Aa [.nils,(.int .i64 0)] ps).map .agg:=bS (pl:=Aa) zr100 underlying100 (by kernel_rfl) (fun i=>by match i with|0|1=>(show _=_;kernel_rfl)|_+2=>(show _=_;kernel_rfl))
def qW:Nat->Option (Nat×Nat)
 | 0=>some (0,9)
 | 1=>some (9,1)
 | 2=>some (10,15)
 | 3=>some (25,19)
 | 4=>some (44,5)
 | 5=>some (49,1)
 | 6=>some (50,3)
 | _=>none
@[simp] theorem pl106x0:qW 0=some (0,9):=rfl
@[simp] theorem pl106x1:qW 1=some (9,1):=rfl
@[simp] theorem pl106x2:qW 2=some (10,15):=rfl
@[simp] theorem pl106x3:qW 3=some (25,19):=rfl
@[simp] theorem pl106x4:qW 4=some (44,5):=rfl
@[simp] theorem pl106x5:qW 5=some (49,1):=rfl
@[simp] theorem pl106x6:qW 6=some (50,3):=rfl
@[simp] theorem pt112:part prog 112 cs off=if off+3<=cs.length then some (.agg ((cs.drop off).take 3)) else none:=bN (by kernel_rfl) (by kernel_rfl)
@[simp] theorem st112:aN prog cfg h 112 (.ptr b off) v=stv cfg h b off 3 (cellsOf v):=aQ (by kernel_rfl)
@[simp] theorem zr112:zeroOf prog 112=some (.agg [(.int .i32 0),(.int .i32 0),(.int .i64 0)]):=by kernel_rfl
@[simp] theorem fa112x0:ag prog 112 (.ptr b off) 0=some (.ptr b off):=by kernel_rfl
@[simp] theorem fa112x1:ag prog 112 (.ptr b off) 1=some (.ptr b (off+1)):=by kernel_rfl
@[simp] theorem fa112x2:ag prog 112 (.ptr b off) 2=some (.ptr b (off+2)):=by kernel_rfl
@[simp] theorem pt114:part prog 114 cs off=if off+3<=cs.length then some (.agg ((cs.drop off).take 3)) else none:=bN (by kernel_rfl) (by kernel_rfl)
@[simp] theorem st114:aN prog cfg h 114 (.ptr b off) v=stv cfg h b off 3 (cellsOf v):=aQ (by kernel_rfl)
@[simp] theorem zr114:zeroOf prog 114=some (.agg [(.int .i32 0),(.int .i32 0),(.int .i64 0)]):=by kernel_rfl
@[simp] theorem fa114x0:ag prog 114 (.ptr b off) 0=some (.ptr b off):=by kernel_rfl
@[simp] theorem fl114x0:ag prog 114 (.lptr cs off) 0=some (.lptr cs off):=by kernel_rfl
@[simp] theorem fa114x1:ag prog 114 (.ptr b off) 1=some (.ptr b (off+1)):=by kernel_rfl
@[simp] theorem fl114x1:ag prog 114 (.lptr cs off) 1=some (.lptr cs (off+1)):=by kernel_rfl
@[simp] theorem fa114x2:ag prog 114 (.ptr b off) 2=some (.ptr b (off+2)):=by kernel_rfl
@[simp] theorem fl114x2:ag prog 114 (.lptr cs off) 2=some (.lptr cs (off+2)):=by kernel_rfl
def wu:Nat->Option (Nat×Nat)
 | 0=>some (0,1)
 | 1=>some (1,1)
 | 2=>some (2,1)
 | _=>none
@[simp] theorem pl114x0:wu 0=some (0,1):=rfl
@[simp] theorem pl114x1:wu 1=some (1,1):=rfl
@[simp] theorem pl114x2:wu 2=some (2,1):=rfl
@[simp] theorem bd114:bW prog 114 ps=(cD wu [(.int .i32 0),(.int .i32 0),(.int .i64 0)] ps).map .agg:=bS (pl:=wu) zr114 underlying114 (by kernel_rfl) (fun i=>by match i with|0|1|2=>(show _=_;kernel_rfl)|_+3=>(show _=_;kernel_rfl))
@[simp] theorem pt116:part prog 116 cs off=if off+4<=cs.length then some (.agg ((cs.drop off).take 4)) else none:=bN (by kernel_rfl) (by kernel_rfl)
@[simp] theorem st116:aN prog cfg h 116 (.ptr b off) v=stv cfg h b off 4 (cellsOf v):=aQ (by kernel_rfl)
@[simp] theorem zr116:zeroOf prog 116=some (.agg [(.int .i32 0),(.int .i32 0),(.int .i64 0),(.int .i64 0)]):=by kernel_rfl
@[simp] theorem fa116x0:ag prog 116 (.ptr b off) 0=some (.ptr b off):=by kernel_rfl
@[simp] theorem fl116x0:ag prog 116 (.lptr cs off) 0=some (.lptr cs off):=by kernel_rfl
@[simp] theorem fa116x1:ag prog 116 (.ptr b off) 1=some (.ptr b (off+1)):=by kernel_rfl
@[simp] theorem fl116x1:ag prog 116 (.lptr cs off) 1=some (.lptr cs (off+1)):=by kernel_rfl
@[simp] theorem fa116x2:ag prog 116 (.ptr b off) 2=some (.ptr b (off+2)):=by kernel_rfl
@[simp] theorem fa116x3:ag prog 116 (.ptr b off) 3=some (.ptr b (off+3)):=by kernel_rfl
def sY:Nat->Option (Nat×Nat)
 | 0=>some (0,1)
 | 1=>some (1,1)
 | 2=>some (2,1)
 | 3=>some (3,1)
 | _=>none
@[simp] theorem pl116x0:sY 0=some (0,1):=rfl
@[simp] theorem pl116x1:sY 1=some (1,1):=rfl
@[simp] theorem pl116x2:sY 2=some (2,1):=rfl
@[simp] theorem pl116x3:sY 3=some (3,1):=rfl
@[simp] theorem bd116:bW prog 116 ps=(cD sY [(.int .i32 0),(.int .i32 0),(.int .i64 0),(.int .i64 0)] ps).map .agg:=bS (pl:=sY) zr116 underlying116 (by kernel_rfl) (fun i=>by match i with|0|1|2|3=>(show _=_;kernel_rfl)|_+4=>(show _=_;kernel_rfl))
@[simp] theorem pt124:part prog 124 cs off=if off+2<=cs.length then some (.agg ((cs.drop off).take 2)) else none:=bN (by kernel_rfl) (by kernel_rfl)
@[simp] theorem st124:aN prog cfg h 124 (.ptr b off) v=stv cfg h b off 2 (cellsOf v):=aQ (by kernel_rfl)
@[simp] theorem zr124:zeroOf prog 124=some (.agg [(.int .i64 0),(.int .i64 0)]):=by kernel_rfl
@[simp] theorem fa124x0:ag prog 124 (.ptr b off) 0=some (.ptr b off):=by kernel_rfl
@[simp] theorem fl124x0:ag prog 124 (.lptr cs off) 0=some (.lptr cs off):=by kernel_rfl
@[simp] theorem fa124x1:ag prog 124 (.ptr b off) 1=some (.ptr b (off+1)):=by kernel_rfl
@[simp] theorem fl124x1:ag prog 124 (.lptr cs off) 1=some (.lptr cs (off+1)):=by kernel_rfl
def Ad:Nat->Option (Nat×Nat)
 | 0=>some (0,1)
 | 1=>some (1,1)
 | _=>none
@[simp] theorem pl124x0:Ad 0=some (0,1):=rfl
@[simp] theorem pl124x1:Ad 1=some (1,1):=rfl
@[simp] theorem bd124:bW prog 124 ps=(cD Ad [(.int .i64 0),(.int .i64 0)] ps).map .agg:=bS (pl:=Ad) zr124 underlying124 (by kernel_rfl) (fun i=>by match i with|0|1=>(show _=_;kernel_rfl)|_+2=>(show _=_;kernel_rfl))
def HY:Nat->Option (Nat×Nat)
 | 0=>some (0,1)
 | 1=>some (1,1)
 | _=>none
@[simp] theorem pl133x0:HY 0=some (0,1):=rfl
@[simp] theorem pl133x1:HY 1=some (1,1):=rfl
def wx:Nat->Option (Nat×Nat)
 | 0=>some (0,1)
 | 1=>some (1,1)
 | 2=>some (2,1)
 | 3=>some (3,1)
 | 4=>some (4,1)
 | _=>none
@[simp] theorem pl144x0:wx 0=some (0,1):=rfl
@[simp] theorem pl144x1:wx 1=some (1,1):=rfl
@[simp] theorem pl144x2:wx 2=some (2,1):=rfl
@[simp] theorem pl144x3:wx 3=some (3,1):=rfl
@[simp] theorem pl144x4:wx 4=some (4,1):=rfl
@[simp] theorem pt149:part prog 149 cs off=slot cs off:=bD (by kernel_rfl)
@[simp] theorem ixL149:ax prog 149 (.lst xs) (.int k i)=kH 1 xs i:=dP u149 s4
@[simp] theorem ixS149:ax prog 149 (.sl b off len cap c) (.int k i)=kI 1 b off len c i:=dY u149 s4
@[simp] theorem mk149:cB prog h 149 (.int .i64 n) (.int .i64 m)=mkS h 1 1 [(.bool false)] n m:=DI u149 s4 (by kernel_rfl) (show zeroOf prog 4=some (.bool false) by kernel_rfl) rfl (by decide) (by decide)
@[simp] theorem pt150:part prog 150 cs off=slot cs off:=bD (by kernel_rfl)
@[simp] theorem pt151:part prog 151 cs off=slot cs off:=bD (by kernel_rfl)
@[simp] theorem pt153:part prog 153 cs off=if off+5<=cs.length then some (.agg ((cs.drop off).take 5)) else none:=bN (by kernel_rfl) (by kernel_rfl)
@[simp] theorem st153:aN prog cfg h 153 (.ptr b off) v=stv cfg h b off 5 (cellsOf v):=aQ (by kernel_rfl)
@[simp] theorem zr153:zeroOf prog 153=some (.agg [.nils,.nils,.nils,.nilm,.nilm]):=by kernel_rfl
@[simp] theorem fa153x0:ag prog 153 (.ptr b off) 0=some (.ptr b off):=by kernel_rfl
@[simp] theorem fa153x1:ag prog 153 (.ptr b off) 1=some (.ptr b (off+1)):=by kernel_rfl
@[simp] theorem fa153x2:ag prog 153 (.ptr b off) 2=some (.ptr b (off+2)):=by kernel_rfl
@[simp] theorem fa153x3:ag prog 153 (.ptr b off) 3=some (.ptr b (off+3)):=by kernel_rfl
@[simp] theorem fa153x4:ag prog 153 (.ptr b off) 4=some (.ptr b (off+4)):=by kernel_rfl
def qX:Nat->Option (Nat×Nat)
 | 0=>some (0,1)
 | 1=>some (1,1)
 | 2=>some (2,1)
 | 3=>some (3,1)
 | 4=>some (4,1)
 | _=>none
@[simp] theorem pl153x0:qX 0=some (0,1):=rfl
@[simp] theorem pl153x1:qX 1=some (1,1):=rfl
@[simp] theorem pl153x2:qX 2=some (2,1):=rfl
@[simp] theorem pl153x3:qX 3=some (3,1):=rfl
@[simp] theorem pl153x4:qX 4=some (4,1):=rfl
@[simp] theorem bd153:bW prog 153 ps=(cD qX [.nils,.nils,.nils,.nilm,.nilm] ps).map .agg:=bS (pl:=qX) zr153 underlying153 (by kernel_rfl) (fun i=>by match i with|0|1|2|3|4=>(show _=_;kernel_rfl)|_+5=>(show _=_;kernel_rfl))
@[simp] theorem pt154:part prog 154 cs off=slot cs off:=bD (by kernel_rfl)
@[simp] theorem st154:aN prog cfg h 154 (.ptr b off) v=stv cfg h b off 1 (cellsOf v):=aQ (by kernel_rfl)
@[simp] theorem ixS154:ax prog 154 (.sl b off len cap c) (.int k i)=kI 4 b off len c i:=dY u154 s158
@[simp] theorem ap154:bV prog cfg h 154 154 d x=kD cfg h 4 48 d (bc h 4 x):=dJ u154 s158 (by kernel_rfl) (by kernel_rfl) (by decide)
@[simp] theorem bs154:aI prog h 154 len vs=(bu 4 vs).bind fun cs=>if vs.length=len&&decide (len*4<=16777216) then some (.sl h.length 0 len len 4,h++[some cs]) else none:=br u154 s158 (by kernel_rfl) (by decide)
@[simp] theorem zr156:zeroOf prog 156=some (.agg [.nils,.nils,(.int .i64 0),(.int .i64 0),(.int .i64 0),.nils,.nils,.nils,.nils,.nils,.nils,.nils,.nils,.nilm,.nilm,.nils]):=by kernel_rfl
@[simp] theorem fa156x0:ag prog 156 (.ptr b off) 0=some (.ptr b off):=by kernel_rfl
@[simp] theorem fa156x1:ag prog 156 (.ptr b off) 1=some (.ptr b (off+5)):=by kernel_rfl
@[simp] theorem fa156x2:ag prog 156 (.ptr b off) 2=some (.ptr b (off+6)):=by kernel_rfl
@[simp] theorem fa156x3:ag prog 156 (.ptr b off) 3=some (.ptr b (off+7)):=by kernel_rfl
@[simp] theorem fa156x4:ag prog 156 (.ptr b off) 4=some (.ptr b (off+8)):=by kernel_rfl
@[simp] theorem fa156x5:ag prog 156 (.ptr b off) 5=some (.ptr b (off+9)):=by kernel_rfl
@[simp] theorem fa156x6:ag prog 156 (.ptr b off) 6=some (.ptr b (off+10)):=by kernel_rfl
@[simp] theorem fa156x7:ag prog 156 (.ptr b off) 7=some (.ptr b (off+15)):=by kernel_rfl
def kW:Nat->Option (Nat×Nat)
 | 0=>some (0,5)
 | 1=>some (5,1)
 | 2=>some (6,1)
 | 3=>some (7,1)
 | 4=>some (8,1)
 | 5=>some (9,1)
 | 6=>some (10,5)
 | 7=>some (15,1)
 | _=>none
@[simp] theorem pl156x0:kW 0=some (0,5):=rfl
@[simp] theorem pl156x1:kW 1=some (5,1):=rfl
@[simp] theorem pl156x2:kW 2=some (6,1):=rfl
@[simp] theorem pl156x3:kW 3=some (7,1):=rfl
@[simp] theorem pl156x4:kW 4=some (8,1):=rfl
@[simp] theorem pl156x5:kW 5=some (9,1):=rfl
@[simp] theorem pl156x6:kW 6=some (10,5):=rfl
@[simp] theorem pl156x7:kW 7=some (15,1):=rfl
@[simp] theorem bd156:bW prog 156 ps=(cD kW [.nils,.nils,(.int .i64 0),(.int .i64 0),(.int .i64 0),.nils,.nils,.nils,.nils,.nils,.nils,.nils,.nils,.nilm,.nilm,.nils] ps).map .agg:=bS (pl:=kW) zr156 underlying156 (by kernel_rfl) (fun i=>by match i with|0|1|2|3|4|5|6|7=>(show _=_;kernel_rfl)|_+8=>(show _=_;kernel_rfl))
@[simp] theorem pt158:part prog 158 cs off=if off+4<=cs.length then some (.agg ((cs.drop off).take 4)) else none:=bN (by kernel_rfl) (by kernel_rfl)
@[simp] theorem st158:aN prog cfg h 158 (.ptr b off) v=stv cfg h b off 4 (cellsOf v):=aQ (by kernel_rfl)
@[simp] theorem zr158:zeroOf prog 158=some (.agg [(.int .i64 0),(.int .i64 0),(.int .i64 0),.nils]):=by kernel_rfl
@[simp] theorem fa158x0:ag prog 158 (.ptr b off) 0=some (.ptr b off):=by kernel_rfl
@[simp] theorem fa158x1:ag prog 158 (.ptr b off) 1=some (.ptr b (off+1)):=by kernel_rfl
@[simp] theorem fa158x2:ag prog 158 (.ptr b off) 2=some (.ptr b (off+2)):=by kernel_rfl
@[simp] theorem fa158x3:ag prog 158 (.ptr b off) 3=some (.ptr b (off+3)):=by kernel_rfl
def sZ:Nat->Option (Nat×Nat)
 | 0=>some (0,1)
 | 1=>some (1,1)
 | 2=>some (2,1)
 | 3=>some (3,1)
 | _=>none
@[simp] theorem pl158x0:sZ 0=some (0,1):=rfl
@[simp] theorem pl158x1:sZ 1=some (1,1):=rfl
@[simp] theorem pl158x2:sZ 2=some (2,1):=rfl
@[simp] theorem pl158x3:sZ 3=some (3,1):=rfl
@[simp] theorem bd158:bW prog 158 ps=(cD sZ [(.int .i64 0),(.int .i64 0),(.int .i64 0),.nils] ps).map .agg:=bS (pl:=sZ) zr158 underlying158 (by kernel_rfl) (fun i=>by match i with|0|1|2|3=>(show _=_;kernel_rfl)|_+4=>(show _=_;kernel_rfl))
@[simp] theorem pt160:part prog 160 cs off=slot cs off:=bD (by kernel_rfl)
@[simp] theorem st160:aN prog cfg h 160 (.ptr b off) v=stv cfg h b off 1 (cellsOf v):=aQ (by kernel_rfl)
@[simp] theorem ixS160:ax prog 160 (.sl b off len cap c) (.int k i)=kI 8 b off len c i:=dY u160 s225
@[simp] theorem lnN160:dc prog 160 .nils=some (.int .i64 0):=mh u160
@[simp] theorem ap160:bV prog cfg h 160 160 d x=kD cfg h 8 64 d (bc h 8 x):=dJ u160 s225 (by kernel_rfl) (by kernel_rfl) (by decide)
@[simp] theorem bs160:aI prog h 160 len vs=(bu 8 vs).bind fun cs=>if vs.length=len&&decide (len*8<=16777216) then some (.sl h.length 0 len len 8,h++[some cs]) else none:=br u160 s225 (by kernel_rfl) (by decide)
@[simp] theorem pt162:part prog 162 cs off=if off+10<=cs.length then some (.agg ((cs.drop off).take 10)) else none:=bN (by kernel_rfl) (by kernel_rfl)
@[simp] theorem st162:aN prog cfg h 162 (.ptr b off) v=stv cfg h b off 10 (cellsOf v):=aQ (by kernel_rfl)
@[simp] theorem zr162:zeroOf prog 162=some (.agg [(.int .i64 0),(.int .i64 0),(.int .i64 0),(.int .i64 0),(.int .i64 0),(.int .i64 0),(.int .i64 0),(.int .i64 0),(.int .i64 0),.nils]):=by kernel_rfl
@[simp] theorem fa162x3:ag prog 162 (.ptr b off) 3=some (.ptr b (off+3)):=by kernel_rfl
@[simp] theorem fa162x5:ag prog 162 (.ptr b off) 5=some (.ptr b (off+5)):=by kernel_rfl
@[simp] theorem fa162x6:ag prog 162 (.ptr b off) 6=some (.ptr b (off+6)):=by kernel_rfl
@[simp] theorem fa162x7:ag prog 162 (.ptr b off) 7=some (.ptr b (off+7)):=by kernel_rfl
@[simp] theorem fa162x8:ag prog 162 (.ptr b off) 8=some (.ptr b (off+8)):=by kernel_rfl
@[simp] theorem fa162x9:ag prog 162 (.ptr b off) 9=some (.ptr b (off+9)):=by kernel_rfl
def ji:Nat->Option (Nat×Nat)
 | 0=>some (0,1)
 | 1=>some (1,1)
 | 2=>some (2,1)
 | 3=>some (3,1)
 | 4=>some (4,1)
 | 5=>some (5,1)
 | 6=>some (6,1)
 | 7=>some (7,1)
 | 8=>some (8,1)
 | 9=>some (9,1)
 | _=>none
@[simp] theorem pl162x0:ji 0=some (0,1):=rfl
@[simp] theorem pl162x1:ji 1=some (1,1):=rfl
@[simp] theorem pl162x2:ji 2=some (2,1):=rfl
@[simp] theorem pl162x3:ji 3=some (3,1):=rfl
@[simp] theorem pl162x4:ji 4=some (4,1):=rfl
@[simp] theorem pl162x5:ji 5=some (5,1):=rfl
@[simp] theorem pl162x6:ji 6=some (6,1):=rfl
@[simp] theorem pl162x7:ji 7=some (7,1):=rfl
@[simp] theorem pl162x8:ji 8=some (8,1):=rfl
@[simp] theorem pl162x9:ji 9=some (9,1):=rfl
@[simp] theorem bd162:bW prog 162 ps=(cD ji [(.int .i64 0),(.int .i64 0),(.int .i64 0),(.int .i64 0),(.int .i64 0),(.int .i64 0),(.int .i64 0),(.int .i64 0),(.int .i64 0),.nils] ps).map .agg:=bS (pl:=ji) zr162 underlying162 (by kernel_rfl) (fun i=>by match i with|0|1|2|3|4|5|6|7|8|9=>(show _=_;kernel_rfl)|_+10=>(show _=_;kernel_rfl))
@[simp] theorem pt166:part prog 166 cs off=if off+7<=cs.length then some (.agg ((cs.drop off).take 7)) else none:=bN (by kernel_rfl) (by kernel_rfl)
@[simp] theorem st166:aN prog cfg h 166 (.ptr b off) v=stv cfg h b off 7 (cellsOf v):=aQ (by kernel_rfl)
@[simp] theorem zr166:zeroOf prog 166=some (.agg [(.int .i32 0),(.int .i32 0),(.int .u8 0),(.int .u8 0),(.int .u8 0),(.int .u8 0),(.int .u8 0)]):=by kernel_rfl
@[simp] theorem fl166x0:ag prog 166 (.lptr cs off) 0=some (.lptr cs off):=by kernel_rfl
@[simp] theorem fl166x1:ag prog 166 (.lptr cs off) 1=some (.lptr cs (off+1)):=by kernel_rfl
@[simp] theorem fv166x2:jx prog 166 (.agg cs) 2=part prog 5 cs 2:=by kernel_rfl
@[simp] theorem fv166x4:jx prog 166 (.agg cs) 4=part prog 5 cs 4:=by kernel_rfl
@[simp] theorem fv166x5:jx prog 166 (.agg cs) 5=part prog 5 cs 5:=by kernel_rfl
@[simp] theorem fv166x6:jx prog 166 (.agg cs) 6=part prog 5 cs 6:=by kernel_rfl
def mJ:Nat->Option (Nat×Nat)
 | 0=>some (0,1)
 | 1=>some (1,1)
 | 2=>some (2,1)
 | 3=>some (3,1)
 | 4=>some (4,1)
 | 5=>some (5,1)
 | 6=>some (6,1)
 | _=>none
@[simp] theorem pl166x0:mJ 0=some (0,1):=rfl
@[simp] theorem pl166x1:mJ 1=some (1,1):=rfl
@[simp] theorem pl166x2:mJ 2=some (2,1):=rfl
@[simp] theorem pl166x3:mJ 3=some (3,1):=rfl
@[simp] theorem pl166x4:mJ 4=some (4,1):=rfl
@[simp] theorem pl166x5:mJ 5=some (5,1):=rfl
@[simp] theorem pl166x6:mJ 6=some (6,1):=rfl
@[simp] theorem bd166:bW prog 166 ps=(cD mJ [(.int .i32 0),(.int .i32 0),(.int .u8 0),(.int .u8 0),(.int .u8 0),(.int .u8 0),(.int .u8 0)] ps).map .agg:=bS (pl:=mJ) zr166 underlying166 (by kernel_rfl) (fun i=>by match i with|0|1|2|3|4|5|6=>(show _=_;kernel_rfl)|_+7=>(show _=_;kernel_rfl))
def D0:Nat->Option (Nat×Nat)
 | 0=>some (0,1)
 | 1=>some (1,1)
 | 2=>some (2,1)
 | _=>none
@[simp] theorem pl172x0:D0 0=some (0,1):=rfl
@[simp] theorem pl172x1:D0 1=some (1,1):=rfl
@[simp] theorem pl172x2:D0 2=some (2,1):=rfl
def D1:Nat->Option (Nat×Nat)
 | 0=>some (0,1)
 | 1=>some (1,1)
 | 2=>some (2,2)
 | _=>none
@[simp] theorem pl175x0:D1 0=some (0,1):=rfl
@[simp] theorem pl175x1:D1 1=some (1,1):=rfl
@[simp] theorem pl175x2:D1 2=some (2,2):=rfl
def Ae:Nat->Option (Nat×Nat)
 | 0=>some (0,4)
 | 1=>some (4,4)
 | 2=>some (8,3)
 | 3=>some (11,3)
 | _=>none
@[simp] theorem pl177x0:Ae 0=some (0,4):=rfl
@[simp] theorem pl177x1:Ae 1=some (4,4):=rfl
@[simp] theorem pl177x2:Ae 2=some (8,3):=rfl
@[simp] theorem pl177x3:Ae 3=some (11,3):=rfl
def HZ:Nat->Option (Nat×Nat)
 | 0=>some (0,1)
 | 1=>some (1,1)
 | _=>none
@[simp] theorem pl195x0:HZ 0=some (0,1):=rfl
@[simp] theorem pl195x1:HZ 1=some (1,1):=rfl
@[simp] theorem pt225:part prog 225 cs off=if off+8<=cs.length then some (.agg ((cs.drop off).take 8)) else none:=bN (by kernel_rfl) (by kernel_rfl)
@[simp] theorem st225:aN prog cfg h 225 (.ptr b off) v=stv cfg h b off 8 (cellsOf v):=aQ (by kernel_rfl)
@[simp] theorem zr225:zeroOf prog 225=some (.agg [(.int .i64 0),(.int .i64 0),(.int .i64 0),(.int .i64 0),(.int .i64 0),(.int .i64 0),(.int .i64 0),(.int .i64 0)]):=by kernel_rfl
@[simp] theorem fa225x0:ag prog 225 (.ptr b off) 0=some (.ptr b off):=by kernel_rfl
@[simp] theorem fa225x1:ag prog 225 (.ptr b off) 1=some (.ptr b (off+1)):=by kernel_rfl
@[simp] theorem fa225x2:ag prog 225 (.ptr b off) 2=some (.ptr b (off+2)):=by kernel_rfl
@[simp] theorem fa225x3:ag prog 225 (.ptr b off) 3=some (.ptr b (off+3)):=by kernel_rfl
@[simp] theorem fa225x4:ag prog 225 (.ptr b off) 4=some (.ptr b (off+4)):=by kernel_rfl
@[simp] theorem fa225x5:ag prog 225 (.ptr b off) 5=some (.ptr b (off+5)):=by kernel_rfl
def kX:Nat->Option (Nat×Nat)
 | 0=>some (0,1)
 | 1=>some (1,1)
 | 2=>some (2,1)
 | 3=>some (3,1)
 | 4=>some (4,1)
 | 5=>some (5,1)
 | 6=>some (6,1)
 | 7=>some (7,1)
 | _=>none
@[simp] theorem pl225x0:kX 0=some (0,1):=rfl
@[simp] theorem pl225x1:kX 1=some (1,1):=rfl
@[simp] theorem pl225x2:kX 2=some (2,1):=rfl
@[simp] theorem pl225x3:kX 3=some (3,1):=rfl
@[simp] theorem pl225x4:kX 4=some (4,1):=rfl
@[simp] theorem pl225x5:kX 5=some (5,1):=rfl
@[simp] theorem pl225x6:kX 6=some (6,1):=rfl
@[simp] theorem pl225x7:kX 7=some (7,1):=rfl
@[simp] theorem bd225:bW prog 225 ps=(cD kX [(.int .i64 0),(.int .i64 0),(.int .i64 0),(.int .i64 0),(.int .i64 0),(.int .i64 0),(.int .i64 0),(.int .i64 0)] ps).map .agg:=bS (pl:=kX) zr225 underlying225 (by kernel_rfl) (fun i=>by match i with|0|1|2|3|4|5|6|7=>(show _=_;kernel_rfl)|_+8=>(show _=_;kernel_rfl))
@[simp] theorem st230:aN prog cfg h 230 (.ptr b off) v=stv cfg h b off 308 (cellsOf v):=aQ (by kernel_rfl)
@[simp] theorem zr230:zeroOf prog 230=some (.agg [(.int .i32 0),(.int .i32 0),(.int .u8 0),(.int .u8 0),(.int .u8 0),(.int .u8 0),(.int .u8 0),(.int .i32 0),(.int .i32 0),(.int .u8 0),(.int .u8 0),(.int .u8 0),(.int .u8 0),(.int .u8 0),(.int .i32 0),(.int .i32 0),(.int .u8 0),(.int .u8 0),(.int .u8 0),(.int .u8 0),(.int .u8 0),(.int .i32 0),(.int .i32 0),(.int .u8 0),(.int .u8 0),(.int .u8 0),(.int .u8 0),(.int .u8 0),(.int .i32 0),(.int .i32 0),(.int .u8 0),(.int .u8 0),(.int .u8 0),(.int .u8 0),(.int .u8 0),(.int .i32 0),(.int .i32 0),(.int .u8 0),(.int .u8 0),(.int .u8 0),(.int .u8 0),(.int .u8 0),(.int .i32 0),(.int .i32 0),(.int .u8 0),(.int .u8 0),(.int .u8 0),(.int .u8 0),(.int .u8 0),(.int .i32 0),(.int .i32 0),(.int .u8 0),(.int .u8 0),(.int .u8 0),(.int .u8 0),(.int .u8 0),(.int .i32 0),(.int .i32 0),(.int .u8 0),(.int .u8 0),(.int .u8 0),(.int .u8 0),(.int .u8 0),(.int .i32 0),(.int .i32 0),(.int .u8 0),(.int .u8 0),(.int .u8 0),(.int .u8 0),(.int .u8 0),(.int .i32 0),(.int .i32 0),(.int .u8 0),(.int .u8 0),(.int .u8 0),(.int .u8 0),(.int .u8 0),(.int .i32 0),(.int .i32 0),(.int .u8 0),(.int .u8 0),(.int .u8 0),(.int .u8 0),(.int .u8 0),(.int .i32 0),(.int .i32 0),(.int .u8 0),(.int .u8 0),(.int .u8 0),(.int .u8 0),(.int .u8 0),(.int .i32 0),(.int .i32 0),(.int .u8 0),(.int .u8 0),(.int .u8 0),(.int .u8 0),(.int .u8 0),(.int .i32 0),(.int .i32 0),(.int .u8 0),(.int .u8 0),(.int .u8 0),(.int .u8 0),(.int .u8 0),(.int .i32 0),(.int .i32 0),(.int .u8 0),(.int .u8 0),(.int .u8 0),(.int .u8 0),(.int .u8 0),(.int .i32 0),(.int .i32 0),(.int .u8 0),(.int .u8 0),(.int .u8 0),(.int .u8 0),(.int .u8 0),(.int .i32 0),(.int .i32 0),(.int .u8 0),(.int .u8 0),(.int .u8 0),(.int .u8 0),(.int .u8 0),(.int .i32 0),(.int .i32 0),(.int .u8 0),(.int .u8 0),(.int .u8 0),(.int .u8 0),(.int .u8 0),(.int .i32 0),(.int .i32 0),(.int .u8 0),(.int .u8 0),(.int .u8 0),(.int .u8 0),(.int .u8 0),(.int .i32 0),(.int .i32 0),(.int .u8 0),(.int .u8 0),(.int .u8 0),(.int .u8 0),(.int .u8 0),(.int .i32 0),(.int .i32 0),(.int .u8 0),(.int .u8 0),(.int .u8 0),(.int .u8 0),(.int .u8 0),(.int .i32 0),(.int .i32 0),(.int .u8 0),(.int .u8 0),(.int .u8 0),(.int .u8 0),(.int .u8 0),(.int .i32 0),(.int .i32 0),(.int .u8 0),(.int .u8 0),(.int .u8 0),(.int .u8 0),(.int .u8 0),(.int .i32 0),(.int .i32 0),(.int .u8 0),(.int .u8 0),(.int .u8 0),(.int .u8 0),(.int .u8 0),(.int .i32 0),(.int .i32 0),(.int .u8 0),(.int .u8 0),(.int .u8 0),(.int .u8 0),(.int .u8 0),(.int .i32 0),(.int .i32 0),(.int .u8 0),(.int .u8 0),(.int .u8 0),(.int .u8 0),(.int .u8 0),(.int .i32 0),(.int .i32 0),(.int .u8 0),(.int .u8 0),(.int .u8 0),(.int .u8 0),(.int .u8 0),(.int .i32 0),(.int .i32 0),(.int .u8 0),(.int .u8 0),(.int .u8 0),(.int .u8 0),(.int .u8 0),(.int .i32 0),(.int .i32 0),(.int .u8 0),(.int .u8 0),(.int .u8 0),(.int .u8 0),(.int .u8 0),(.int .i32 0),(.int .i32 0),(.int .u8 0),(.int .u8 0),(.int .u8 0),(.int .u8 0),(.int .u8 0),(.int .i32 0),(.int .i32 0),(.int .u8 0),(.int .u8 0),(.int .u8 0),(.int .u8 0),(.int .u8 0),(.int .i32 0),(.int .i32 0),(.int .u8 0),(.int .u8 0),(.int .u8 0),(.int .u8 0),(.int .u8 0),(.int .i32 0),(.int .i32 0),(.int .u8 0),(.int .u8 0),(.int .u8 0),(.int .u8 0),(.int .u8 0),(.int .i32 0),(.int .i32 0),(.int .u8 0),(.int .u8 0),(.int .u8 0),(.int .u8 0),(.int .u8 0),(.int .i32 0),(.int .i32 0),(.int .u8 0),(.int .u8 0),(.int .u8 0),(.int .u8 0),(.int .u8 0),(.int .i32 0),(.int .i32 0),(.int .u8 0),(.int .u8 0),(.int .u8 0),(.int .u8 0),(.int .u8 0),(.int .i32 0),(.int .i32 0),(.int .u8 0),(.int .u8 0),(.int .u8 0),(.int .u8 0),(.int .u8 0),(.int .i32 0),(.int .i32 0),(.int .u8 0),(.int .u8 0),(.int .u8 0),(.int .u8 0),(.int .u8 0),(.int .i32 0),(.int .i32 0),(.int .u8 0),(.int .u8 0),(.int .u8 0),(.int .u8 0),(.int .u8 0),(.int .i32 0),(.int .i32 0),(.int .u8 0),(.int .u8 0),(.int .u8 0),(.int .u8 0),(.int .u8 0),(.int .i32 0),(.int .i32 0),(.int .u8 0),(.int .u8 0),(.int .u8 0),(.int .u8 0),(.int .u8 0),(.int .i32 0),(.int .i32 0),(.int .u8 0),(.int .u8 0),(.int .u8 0),(.int .u8 0),(.int .u8 0),(.int .i32 0),(.int .i32 0),(.int .u8 0),(.int .u8 0),(.int .u8 0),(.int .u8 0),(.int .u8 0)]):=by kernel_rfl
@[simp] theorem ixL233:ax prog 233 (.lst xs) (.int k i)=kH 7 xs i:=dP u233 s166
@[simp] theorem lnL233:dc prog 233 (.lst xs)=some (.int .i64 xs.length):=dQ u233
@[simp] theorem st234:aN prog cfg h 234 (.ptr b off) v=stv cfg h b off 287 (cellsOf v):=aQ (by kernel_rfl)
@[simp] theorem zr234:zeroOf prog 234=some (.agg [(.int .i32 0),(.int .i32 0),(.int .u8 0),(.int .u8 0),(.int .u8 0),(.int .u8 0),(.int .u8 0),(.int .i32 0),(.int .i32 0),(.int .u8 0),(.int .u8 0),(.int .u8 0),(.int .u8 0),(.int .u8 0),(.int .i32 0),(.int .i32 0),(.int .u8 0),(.int .u8 0),(.int .u8 0),(.int .u8 0),(.int .u8 0),(.int .i32 0),(.int .i32 0),(.int .u8 0),(.int .u8 0),(.int .u8 0),(.int .u8 0),(.int .u8 0),(.int .i32 0),(.int .i32 0),(.int .u8 0),(.int .u8 0),(.int .u8 0),(.int .u8 0),(.int .u8 0),(.int .i32 0),(.int .i32 0),(.int .u8 0),(.int .u8 0),(.int .u8 0),(.int .u8 0),(.int .u8 0),(.int .i32 0),(.int .i32 0),(.int .u8 0),(.int .u8 0),(.int .u8 0),(.int .u8 0),(.int .u8 0),(.int .i32 0),(.int .i32 0),(.int .u8 0),(.int .u8 0),(.int .u8 0),(.int .u8 0),(.int .u8 0),(.int .i32 0),(.int .i32 0),(.int .u8 0),(.int .u8 0),(.int .u8 0),(.int .u8 0),(.int .u8 0),(.int .i32 0),(.int .i32 0),(.int .u8 0),(.int .u8 0),(.int .u8 0),(.int .u8 0),(.int .u8 0),(.int .i32 0),(.int .i32 0),(.int .u8 0),(.int .u8 0),(.int .u8 0),(.int .u8 0),(.int .u8 0),(.int .i32 0),(.int .i32 0),(.int .u8 0),(.int .u8 0),(.int .u8 0),(.int .u8 0),(.int .u8 0),(.int .i32 0),(.int .i32 0),(.int .u8 0),(.int .u8 0),(.int .u8 0),(.int .u8 0),(.int .u8 0),(.int .i32 0),(.int .i32 0),(.int .u8 0),(.int .u8 0),(.int .u8 0),(.int .u8 0),(.int .u8 0),(.int .i32 0),(.int .i32 0),(.int .u8 0),(.int .u8 0),(.int .u8 0),(.int .u8 0),(.int .u8 0),(.int .i32 0),(.int .i32 0),(.int .u8 0),(.int .u8 0),(.int .u8 0),(.int .u8 0),(.int .u8 0),(.int .i32 0),(.int .i32 0),(.int .u8 0),(.int .u8 0),(.int .u8 0),(.int .u8 0),(.int .u8 0),(.int .i32 0),(.int .i32 0),(.int .u8 0),(.int .u8 0),(.int .u8 0),(.int .u8 0),(.int .u8 0),(.int .i32 0),(.int .i32 0),(.int .u8 0),(.int .u8 0),(.int .u8 0),(.int .u8 0),(.int .u8 0),(.int .i32 0),(.int .i32 0),(.int .u8 0),(.int .u8 0),(.int .u8 0),(.int .u8 0),(.int .u8 0),(.int .i32 0),(.int .i32 0),(.int .u8 0),(.int .u8 0),(.int .u8 0),(.int .u8 0),(.int .u8 0),(.int .i32 0),(.int .i32 0),(.int .u8 0),(.int .u8 0),(.int .u8 0),(.int .u8 0),(.int .u8 0),(.int .i32 0),(.int .i32 0),(.int .u8 0),(.int .u8 0),(.int .u8 0),(.int .u8 0),(.int .u8 0),(.int .i32 0),(.int .i32 0),(.int .u8 0),(.int .u8 0),(.int .u8 0),(.int .u8 0),(.int .u8 0),(.int .i32 0),(.int .i32 0),(.int .u8 0),(.int .u8 0),(.int .u8 0),(.int .u8 0),(.int .u8 0),(.int .i32 0),(.int .i32 0),(.int .u8 0),(.int .u8 0),(.int .u8 0),(.int .u8 0),(.int .u8 0),(.int .i32 0),(.int .i32 0),(.int .u8 0),(.int .u8 0),(.int .u8 0),(.int .u8 0),(.int .u8 0),(.int .i32 0),(.int .i32 0),(.int .u8 0),(.int .u8 0),(.int .u8 0),(.int .u8 0),(.int .u8 0),(.int .i32 0),(.int .i32 0),(.int .u8 0),(.int .u8 0),(.int .u8 0),(.int .u8 0),(.int .u8 0),(.int .i32 0),(.int .i32 0),(.int .u8 0),(.int .u8 0),(.int .u8 0),(.int .u8 0),(.int .u8 0),(.int .i32 0),(.int .i32 0),(.int .u8 0),(.int .u8 0),(.int .u8 0),(.int .u8 0),(.int .u8 0),(.int .i32 0),(.int .i32 0),(.int .u8 0),(.int .u8 0),(.int .u8 0),(.int .u8 0),(.int .u8 0),(.int .i32 0),(.int .i32 0),(.int .u8 0),(.int .u8 0),(.int .u8 0),(.int .u8 0),(.int .u8 0),(.int .i32 0),(.int .i32 0),(.int .u8 0),(.int .u8 0),(.int .u8 0),(.int .u8 0),(.int .u8 0),(.int .i32 0),(.int .i32 0),(.int .u8 0),(.int .u8 0),(.int .u8 0),(.int .u8 0),(.int .u8 0),(.int .i32 0),(.int .i32 0),(.int .u8 0),(.int .u8 0),(.int .u8 0),(.int .u8 0),(.int .u8 0),(.int .i32 0),(.int .i32 0),(.int .u8 0),(.int .u8 0),(.int .u8 0),(.int .u8 0),(.int .u8 0),(.int .i32 0),(.int .i32 0),(.int .u8 0),(.int .u8 0),(.int .u8 0),(.int .u8 0),(.int .u8 0),(.int .i32 0),(.int .i32 0),(.int .u8 0),(.int .u8 0),(.int .u8 0),(.int .u8 0),(.int .u8 0),(.int .i32 0),(.int .i32 0),(.int .u8 0),(.int .u8 0),(.int .u8 0),(.int .u8 0),(.int .u8 0),(.int .i32 0),(.int .i32 0),(.int .u8 0),(.int .u8 0),(.int .u8 0),(.int .u8 0),(.int .u8 0)]):=by kernel_rfl
def Af:Nat->Option (Nat×Nat)
 | 0=>some (0,1)
 | 1=>some (1,1)
 | 2=>some (2,1)
 | 3=>some (3,1)
 | _=>none
@[simp] theorem pl256x0:Af 0=some (0,1):=rfl
@[simp] theorem pl256x1:Af 1=some (1,1):=rfl
@[simp] theorem pl256x2:Af 2=some (2,1):=rfl
@[simp] theorem pl256x3:Af 3=some (3,1):=rfl
def wy:Nat->Option (Nat×Nat)
 | 0=>some (0,1)
 | 1=>some (1,1)
 | 2=>some (2,1)
 | 3=>some (3,1)
 | 4=>some (4,1)
 | _=>none
@[simp] theorem pl261x0:wy 0=some (0,1):=rfl
@[simp] theorem pl261x1:wy 1=some (1,1):=rfl
@[simp] theorem pl261x2:wy 2=some (2,1):=rfl
@[simp] theorem pl261x3:wy 3=some (3,1):=rfl
@[simp] theorem pl261x4:wy 4=some (4,1):=rfl
@[simp] theorem pt272:part prog 272 cs off=if off+3<=cs.length then some (.agg ((cs.drop off).take 3)) else none:=bN (by kernel_rfl) (by kernel_rfl)
@[simp] theorem st272:aN prog cfg h 272 (.ptr b off) v=stv cfg h b off 3 (cellsOf v):=aQ (by kernel_rfl)
@[simp] theorem zr272:zeroOf prog 272=some (.agg [.nils,.nils,.nils]):=by kernel_rfl
@[simp] theorem fa272x0:ag prog 272 (.ptr b off) 0=some (.ptr b off):=by kernel_rfl
@[simp] theorem fa272x1:ag prog 272 (.ptr b off) 1=some (.ptr b (off+1)):=by kernel_rfl
@[simp] theorem fa272x2:ag prog 272 (.ptr b off) 2=some (.ptr b (off+2)):=by kernel_rfl
def wz:Nat->Option (Nat×Nat)
 | 0=>some (0,1)
 | 1=>some (1,1)
 | 2=>some (2,1)
 | _=>none
@[simp] theorem pl272x0:wz 0=some (0,1):=rfl
@[simp] theorem pl272x1:wz 1=some (1,1):=rfl
@[simp] theorem pl272x2:wz 2=some (2,1):=rfl
@[simp] theorem bd272:bW prog 272 ps=(cD wz [.nils,.nils,.nils] ps).map .agg:=bS (pl:=wz) zr272 underlying272 (by kernel_rfl) (fun i=>by match i with|0|1|2=>(show _=_;kernel_rfl)|_+3=>(show _=_;kernel_rfl))
@[simp] theorem ixL276:ax prog 276 (.lst xs) (.int k i)=kH 2 xs i:=dP zd s277
@[simp] theorem ixS276:ax prog 276 (.sl b off len cap c) (.int k i)=kI 2 b off len c i:=dY zd s277
@[simp] theorem lnL276:dc prog 276 (.lst xs)=some (.int .i64 xs.length):=dQ zd
@[simp] theorem lnS276{b off len cap k:Nat}:dc prog 276 (.sl b off len cap k)=some (.int .i64 len):=fg zd
@[simp] theorem lnN276:dc prog 276 .nils=some (.int .i64 0):=mh zd
@[simp] theorem ap276:bV prog cfg h 276 276 d x=kD cfg h 2 16 d (bc h 2 x):=dJ zd s277 (by kernel_rfl) (by kernel_rfl) (by decide)
@[simp] theorem bs276:aI prog h 276 len vs=(bu 2 vs).bind fun cs=>if vs.length=len&&decide (len*2<=16777216) then some (.sl h.length 0 len len 2,h++[some cs]) else none:=br zd s277 (by kernel_rfl) (by decide)
@[simp] theorem pt277:part prog 277 cs off=if off+2<=cs.length then some (.agg ((cs.drop off).take 2)) else none:=bN (by kernel_rfl) (by kernel_rfl)
@[simp] theorem st277:aN prog cfg h 277 (.ptr b off) v=stv cfg h b off 2 (cellsOf v):=aQ (by kernel_rfl)
@[simp] theorem zr277:zeroOf prog 277=some (.agg [(.int .i64 0),(.int .i64 0)]):=by kernel_rfl
@[simp] theorem ixA277:ax prog 277 (.ptr b off) (.int k i)=if 0<=i then (if i.toNat<2 then some (.ptr b (off+i.toNat*1)) else none) else none:=zK u277 s3
@[simp] theorem ixV277:lC prog 277 (.agg cs) (.int k i)=if 0<=i then (if i.toNat<2 then part prog 3 cs (i.toNat*1) else none) else none:=F2 u277 s3
@[simp] theorem bd277:bW prog 277 ps=(cD (fun i=>some (i*1,1)) [(.int .i64 0),(.int .i64 0)] ps).map .agg:=AW zr277 u277 s3
def D2:Nat->Option (Nat×Nat)
 | 0=>some (0,1)
 | 1=>some (1,1)
 | 2=>some (2,1)
 | _=>none
@[simp] theorem pl301x0:D2 0=some (0,1):=rfl
@[simp] theorem pl301x1:D2 1=some (1,1):=rfl
@[simp] theorem pl301x2:D2 2=some (2,1):=rfl
@[simp] theorem pt306:part prog 306 cs off=slot cs off:=bD (by kernel_rfl)
@[simp] theorem zr308:zeroOf prog 308=some (.agg [.nils,.nils,.nils,.nils,.nils,(.int .i64 0)]):=by kernel_rfl
@[simp] theorem fa308x0:ag prog 308 (.ptr b off) 0=some (.ptr b off):=by kernel_rfl
@[simp] theorem fa308x1:ag prog 308 (.ptr b off) 1=some (.ptr b (off+1)):=by kernel_rfl
@[simp] theorem fa308x2:ag prog 308 (.ptr b off) 2=some (.ptr b (off+2)):=by kernel_rfl
@[simp] theorem fa308x3:ag prog 308 (.ptr b off) 3=some (.ptr b (off+3)):=by kernel_rfl
@[simp] theorem fa308x4:ag prog 308 (.ptr b off) 4=some (.ptr b (off+4)):=by kernel_rfl
@[simp] theorem fa308x5:ag prog 308 (.ptr b off) 5=some (.ptr b (off+5)):=by kernel_rfl
def oE:Nat->Option (Nat×Nat)
 | 0=>some (0,1)
 | 1=>some (1,1)
 | 2=>some (2,1)
 | 3=>some (3,1)
 | 4=>some (4,1)
 | 5=>some (5,1)
 | _=>none
@[simp] theorem pl308x0:oE 0=some (0,1):=rfl
@[simp] theorem pl308x1:oE 1=some (1,1):=rfl
@[simp] theorem pl308x2:oE 2=some (2,1):=rfl
@[simp] theorem pl308x3:oE 3=some (3,1):=rfl
@[simp] theorem pl308x4:oE 4=some (4,1):=rfl
@[simp] theorem pl308x5:oE 5=some (5,1):=rfl
@[simp] theorem bd308:bW prog 308 ps=(cD oE [.nils,.nils,.nils,.nils,.nils,(.int .i64 0)] ps).map .agg:=bS (pl:=oE) zr308 underlying308 (by kernel_rfl) (fun i=>by match i with|0|1|2|3|4|5=>(show _=_;kernel_rfl)|_+6=>(show _=_;kernel_rfl))
@[simp] theorem ap309:bV prog cfg h 309 309 d x=kD cfg h 4 48 d (bc h 4 x):=dJ u309 s312 (by kernel_rfl) (by kernel_rfl) (by decide)
@[simp] theorem bs309:aI prog h 309 len vs=(bu 4 vs).bind fun cs=>if vs.length=len&&decide (len*4<=16777216) then some (.sl h.length 0 len len 4,h++[some cs]) else none:=br u309 s312 (by kernel_rfl) (by decide)
@[simp] theorem pt312:part prog 312 cs off=if off+4<=cs.length then some (.agg ((cs.drop off).take 4)) else none:=bN (by kernel_rfl) (by kernel_rfl)
@[simp] theorem st312:aN prog cfg h 312 (.ptr b off) v=stv cfg h b off 4 (cellsOf v):=aQ (by kernel_rfl)
@[simp] theorem zr312:zeroOf prog 312=some (.agg [.nils,(.int .i64 0),(.int .i64 0),(.int .i64 0)]):=by kernel_rfl
@[simp] theorem fa312x0:ag prog 312 (.ptr b off) 0=some (.ptr b off):=by kernel_rfl
@[simp] theorem fa312x1:ag prog 312 (.ptr b off) 1=some (.ptr b (off+1)):=by kernel_rfl
@[simp] theorem fa312x2:ag prog 312 (.ptr b off) 2=some (.ptr b (off+2)):=by kernel_rfl
@[simp] theorem fa312x3:ag prog 312 (.ptr b off) 3=some (.ptr b (off+3)):=by kernel_rfl
def tc:Nat->Option (Nat×Nat)
 | 0=>some (0,1)
 | 1=>some (1,1)
 | 2=>some (2,1)
 | 3=>some (3,1)
 | _=>none
@[simp] theorem pl312x0:tc 0=some (0,1):=rfl
@[simp] theorem pl312x1:tc 1=some (1,1):=rfl
@[simp] theorem pl312x2:tc 2=some (2,1):=rfl
@[simp] theorem pl312x3:tc 3=some (3,1):=rfl
@[simp] theorem bd312:bW prog 312 ps=(cD tc [.nils,(.int .i64 0),(.int .i64 0),(.int .i64 0)] ps).map .agg:=bS (pl:=tc) zr312 underlying312 (by kernel_rfl) (fun i=>by match i with|0|1|2|3=>(show _=_;kernel_rfl)|_+4=>(show _=_;kernel_rfl))
@[simp] theorem pt317:part prog 317 cs off=if off+5<=cs.length then some (.agg ((cs.drop off).take 5)) else none:=bN (by kernel_rfl) (by kernel_rfl)
@[simp] theorem st317:aN prog cfg h 317 (.ptr b off) v=stv cfg h b off 5 (cellsOf v):=aQ (by kernel_rfl)
@[simp] theorem zr317:zeroOf prog 317=some (.agg [(.int .i64 0),(.int .i64 0),(.int .i32 0),(.int .i32 0),(.bool false)]):=by kernel_rfl
@[simp] theorem fa317x1:ag prog 317 (.ptr b off) 1=some (.ptr b (off+1)):=by kernel_rfl
@[simp] theorem fa317x2:ag prog 317 (.ptr b off) 2=some (.ptr b (off+2)):=by kernel_rfl
@[simp] theorem fa317x3:ag prog 317 (.ptr b off) 3=some (.ptr b (off+3)):=by kernel_rfl
@[simp] theorem fa317x4:ag prog 317 (.ptr b off) 4=some (.ptr b (off+4)):=by kernel_rfl
def qY:Nat->Option (Nat×Nat)
 | 0=>some (0,1)
 | 1=>some (1,1)
 | 2=>some (2,1)
 | 3=>some (3,1)
 | 4=>some (4,1)
 | _=>none
@[simp] theorem pl317x0:qY 0=some (0,1):=rfl
@[simp] theorem pl317x1:qY 1=some (1,1):=rfl
@[simp] theorem pl317x2:qY 2=some (2,1):=rfl
@[simp] theorem pl317x3:qY 3=some (3,1):=rfl
@[simp] theorem pl317x4:qY 4=some (4,1):=rfl
@[simp] theorem bd317:bW prog 317 ps=(cD qY [(.int .i64 0),(.int .i64 0),(.int .i32 0),(.int .i32 0),(.bool false)] ps).map .agg:=bS (pl:=qY) zr317 underlying317 (by kernel_rfl) (fun i=>by match i with|0|1|2|3|4=>(show _=_;kernel_rfl)|_+5=>(show _=_;kernel_rfl))
@[simp] theorem pt326:part prog 326 cs off=if off+3<=cs.length then some (.agg ((cs.drop off).take 3)) else none:=bN (by kernel_rfl) (by kernel_rfl)
@[simp] theorem st326:aN prog cfg h 326 (.ptr b off) v=stv cfg h b off 3 (cellsOf v):=aQ (by kernel_rfl)
@[simp] theorem zr326:zeroOf prog 326=some (.agg [(.int .i64 0),(.int .i64 0),(.bool false)]):=by kernel_rfl
@[simp] theorem fa326x0:ag prog 326 (.ptr b off) 0=some (.ptr b off):=by kernel_rfl
@[simp] theorem fa326x1:ag prog 326 (.ptr b off) 1=some (.ptr b (off+1)):=by kernel_rfl
@[simp] theorem fa326x2:ag prog 326 (.ptr b off) 2=some (.ptr b (off+2)):=by kernel_rfl
def wA:Nat->Option (Nat×Nat)
 | 0=>some (0,1)
 | 1=>some (1,1)
 | 2=>some (2,1)
 | _=>none
@[simp] theorem pl326x0:wA 0=some (0,1):=rfl
@[simp] theorem pl326x1:wA 1=some (1,1):=rfl
@[simp] theorem pl326x2:wA 2=some (2,1):=rfl
@[simp] theorem bd326:bW prog 326 ps=(cD wA [(.int .i64 0),(.int .i64 0),(.bool false)] ps).map .agg:=bS (pl:=wA) zr326 underlying326 (by kernel_rfl) (fun i=>by match i with|0|1|2=>(show _=_;kernel_rfl)|_+3=>(show _=_;kernel_rfl))
@[simp] theorem pt327:part prog 327 cs off=slot cs off:=bD (by kernel_rfl)
@[simp] theorem st327:aN prog cfg h 327 (.ptr b off) v=stv cfg h b off 1 (cellsOf v):=aQ (by kernel_rfl)
@[simp] theorem zr327:zeroOf prog 327=some .nils:=by kernel_rfl
@[simp] theorem ixS327:ax prog 327 (.sl b off len cap c) (.int k i)=kI 3 b off len c i:=dY EH s326
@[simp] theorem slS327{b off len cap k:Nat}:cN prog h 327 (.sl b off len cap k) lo hi=wY 3 b off len cap k (bI 0 lo) (bI len hi):=uu EH s326
@[simp] theorem lnS327{b off len cap k:Nat}:dc prog 327 (.sl b off len cap k)=some (.int .i64 len):=fg EH
@[simp] theorem ap327:bV prog cfg h 327 327 d x=kD cfg h 3 24 d (bc h 3 x):=dJ EH s326 (by kernel_rfl) (by kernel_rfl) (by decide)
@[simp] theorem bs327:aI prog h 327 len vs=(bu 3 vs).bind fun cs=>if vs.length=len&&decide (len*3<=16777216) then some (.sl h.length 0 len len 3,h++[some cs]) else none:=br EH s326 (by kernel_rfl) (by decide)
@[simp] theorem ixS329:ax prog 329 (.sl b off len cap c) (.int k i)=kI 1 b off len c i:=dY u329 s52
@[simp] theorem lnS329{b off len cap k:Nat}:dc prog 329 (.sl b off len cap k)=some (.int .i64 len):=fg u329
@[simp] theorem ap329:bV prog cfg h 329 329 d x=kD cfg h 1 24 d (bc h 1 x):=dJ u329 s52 (by kernel_rfl) (by kernel_rfl) (by decide)
@[simp] theorem bs329:aI prog h 329 len vs=(bu 1 vs).bind fun cs=>if vs.length=len&&decide (len*1<=16777216) then some (.sl h.length 0 len len 1,h++[some cs]) else none:=br u329 s52 (by kernel_rfl) (by decide)
@[simp] theorem ixL337:ax prog 337 (.lst xs) (.int k i)=kH 2 xs i:=dP u337 s355
@[simp] theorem lnL337:dc prog 337 (.lst xs)=some (.int .i64 xs.length):=dQ u337
@[simp] theorem pt340:part prog 340 cs off=if off+5<=cs.length then some (.agg ((cs.drop off).take 5)) else none:=bN (by kernel_rfl) (by kernel_rfl)
@[simp] theorem st340:aN prog cfg h 340 (.ptr b off) v=stv cfg h b off 5 (cellsOf v):=aQ (by kernel_rfl)
@[simp] theorem zr340:zeroOf prog 340=some (.agg [(.int .i32 0),(.int .i32 0),(.int .i64 0),(.int .i64 0),(.bool false)]):=by kernel_rfl
@[simp] theorem fa340x0:ag prog 340 (.ptr b off) 0=some (.ptr b off):=by kernel_rfl
@[simp] theorem fa340x1:ag prog 340 (.ptr b off) 1=some (.ptr b (off+4)):=by kernel_rfl
@[simp] theorem ixS342:ax prog 342 (.sl b off len cap c) (.int k i)=kI 1 b off len c i:=dY u342 s160
@[simp] theorem lnS342{b off len cap k:Nat}:dc prog 342 (.sl b off len cap k)=some (.int .i64 len):=fg u342
@[simp] theorem ap342:bV prog cfg h 342 342 d x=kD cfg h 1 24 d (bc h 1 x):=dJ u342 s160 (by kernel_rfl) (by kernel_rfl) (by decide)
@[simp] theorem bs342:aI prog h 342 len vs=(bu 1 vs).bind fun cs=>if vs.length=len&&decide (len*1<=16777216) then some (.sl h.length 0 len len 1,h++[some cs]) else none:=br u342 s160 (by kernel_rfl) (by decide)
@[simp] theorem ixS346:ax prog 346 (.sl b off len cap c) (.int k i)=kI 2 b off len c i:=dY u346 s350
@[simp] theorem slS346{b off len cap k:Nat}:cN prog h 346 (.sl b off len cap k) lo hi=wY 2 b off len cap k (bI 0 lo) (bI len hi):=uu u346 s350
@[simp] theorem ap346:bV prog cfg h 346 346 d x=kD cfg h 2 16 d (bc h 2 x):=dJ u346 s350 (by kernel_rfl) (by kernel_rfl) (by decide)
@[simp] theorem bs346:aI prog h 346 len vs=(bu 2 vs).bind fun cs=>if vs.length=len&&decide (len*2<=16777216) then some (.sl h.length 0 len len 2,h++[some cs]) else none:=br u346 s350 (by kernel_rfl) (by decide)
@[simp] theorem zr350:zeroOf prog 350=some (.agg [(.int .i32 0),(.int .i64 0)]):=by kernel_rfl
@[simp] theorem fa350x0:ag prog 350 (.ptr b off) 0=some (.ptr b off):=by kernel_rfl
@[simp] theorem fa350x1:ag prog 350 (.ptr b off) 1=some (.ptr b (off+1)):=by kernel_rfl
def Ag:Nat->Option (Nat×Nat)
 | 0=>some (0,1)
 | 1=>some (1,1)
 | _=>none
@[simp] theorem pl350x0:Ag 0=some (0,1):=rfl
@[simp] theorem pl350x1:Ag 1=some (1,1):=rfl
@[simp] theorem bd350:bW prog 350 ps=(cD Ag [(.int .i32 0),(.int .i64 0)] ps).map .agg:=bS (pl:=Ag) zr350 underlying350 (by kernel_rfl) (fun i=>by match i with|0|1=>(show _=_;kernel_rfl)|_+2=>(show _=_;kernel_rfl))
@[simp] theorem pt355:part prog 355 cs off=if off+2<=cs.length then some (.agg ((cs.drop off).take 2)) else none:=bN (by kernel_rfl) (by kernel_rfl)
@[simp] theorem st355:aN prog cfg h 355 (.ptr b off) v=stv cfg h b off 2 (cellsOf v):=aQ (by kernel_rfl)
@[simp] theorem zr355:zeroOf prog 355=some (.agg [(.int .i32 0),(.int .i32 0)]):=by kernel_rfl
@[simp] theorem ixA355:ax prog 355 (.ptr b off) (.int k i)=if 0<=i then (if i.toNat<2 then some (.ptr b (off+i.toNat*1)) else none) else none:=zK u355 s21
end
end Go.Ab.Tryz
