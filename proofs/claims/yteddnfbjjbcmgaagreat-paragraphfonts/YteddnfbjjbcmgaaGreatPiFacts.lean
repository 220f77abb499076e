/- Facts on the types of the seat's program, each by the kernel. Printed by wip/tools/Facts.lean. -/
import Derived.Test.YteddnfbjjbcmgaaGreatAbW3
import Derived.Test.YteddnfbjjbcmgaaGreatProg
import Derived.KernelRfl
set_option linter.unusedSimpArgs false
set_option linter.unusedVariables false
namespace Go.Ab.Tryz
open Go.Proofs Go.Proofs.Tryz
section
variable {cfg:Cfg}{h:Heap}{cs vs:List V}{b c cap len off:Nat}{d v x:V}{a:Bool}{xs:List (List V)}{k:IntKind}{i m n:Int}{hi lo:Option (Option V)}{ps:List (Nat×V)}
theorem u22:prog.underlying 22=some (.slice 3):=by kernel_rfl
theorem u25:prog.underlying 25=some (.slice 54):=by kernel_rfl
theorem u27:prog.underlying 27=some (.slice 21):=by kernel_rfl
theorem u28:prog.underlying 28=some (.slice 48):=by kernel_rfl
theorem u33:prog.underlying 33=some (.slice 40):=by kernel_rfl
theorem u38:prog.underlying 38=some (.slice 46):=by kernel_rfl
theorem u50:prog.underlying 50=some (.slice 93):=by kernel_rfl
theorem u51:prog.underlying 51=some (.slice 95):=by kernel_rfl
theorem u52:prog.underlying 52=some (.slice 97):=by kernel_rfl
theorem u65:prog.underlying 65=some (.slice 4):=by kernel_rfl
theorem u70:prog.underlying 70=some (.slice 74):=by kernel_rfl
theorem yD:prog.underlying 123=some (.slice 124):=by kernel_rfl
theorem u124:prog.underlying 124=some (.array 2 3):=by kernel_rfl
theorem u130:prog.underlying 130=some (.slice 106):=by kernel_rfl
theorem u139:prog.underlying 139=some (.slice 142):=by kernel_rfl
theorem D5:prog.underlying 155=some (.slice 154):=by kernel_rfl
theorem u157:prog.underlying 157=some (.slice 22):=by kernel_rfl
theorem u166:prog.underlying 166=some (.slice 184):=by kernel_rfl
theorem u171:prog.underlying 171=some (.slice 38):=by kernel_rfl
theorem u175:prog.underlying 175=some (.slice 179):=by kernel_rfl
theorem u184:prog.underlying 184=some (.array 2 21):=by kernel_rfl
theorem s3:cD prog 3=some 1:=by kernel_rfl
theorem s54:cD prog 54=some 8:=by kernel_rfl
theorem s21:cD prog 21=some 1:=by kernel_rfl
theorem s48:cD prog 48=some 4:=by kernel_rfl
theorem s40:cD prog 40=some 10:=by kernel_rfl
theorem s46:cD prog 46=some 8:=by kernel_rfl
theorem s93:cD prog 93=some 3:=by kernel_rfl
theorem s95:cD prog 95=some 3:=by kernel_rfl
theorem s97:cD prog 97=some 4:=by kernel_rfl
theorem s4:cD prog 4=some 1:=by kernel_rfl
theorem s74:cD prog 74=some 4:=by kernel_rfl
theorem s124:cD prog 124=some 2:=by kernel_rfl
theorem s106:cD prog 106=some 7:=by kernel_rfl
theorem s142:cD prog 142=some 4:=by kernel_rfl
theorem s154:cD prog 154=some 3:=by kernel_rfl
theorem s22:cD prog 22=some 1:=by kernel_rfl
theorem s184:cD prog 184=some 2:=by kernel_rfl
theorem s38:cD prog 38=some 1:=by kernel_rfl
theorem s179:cD prog 179=some 2:=by kernel_rfl
@[simp] theorem pt3:part prog 3 cs off=slot cs off:=ck (by kernel_rfl)
@[simp] theorem st3:aW prog cfg h 3 (.ptr b off) v=stv cfg h b off 1 (cellsOf v):=aU (by kernel_rfl)
@[simp] theorem zr3:zeroOf prog 3=some (.int .i64 0):=by kernel_rfl
@[simp] theorem pt4:part prog 4 cs off=slot cs off:=ck (by kernel_rfl)
@[simp] theorem st4:aW prog cfg h 4 (.ptr b off) v=stv cfg h b off 1 (cellsOf v):=aU (by kernel_rfl)
@[simp] theorem eq4{a b:Bool}:eqV prog 4 (.bool a) (.bool b)=some (a==b):=Ay (by kernel_rfl)
@[simp] theorem pt5:part prog 5 cs off=slot cs off:=ck (by kernel_rfl)
@[simp] theorem pt21:part prog 21 cs off=slot cs off:=ck (by kernel_rfl)
@[simp] theorem pt22:part prog 22 cs off=slot cs off:=ck (by kernel_rfl)
@[simp] theorem st22:aW prog cfg h 22 (.ptr b off) v=stv cfg h b off 1 (cellsOf v):=aU (by kernel_rfl)
@[simp] theorem ixL22:az prog 22 (.lst xs) (.int k i)=jt 1 xs i:=dD u22 s3
@[simp] theorem ixS22:az prog 22 (.sl b off len cap c) (.int k i)=lO 1 b off len c i:=fq u22 s3
@[simp] theorem slL22:dp prog h 22 (.lst xs) lo hi=yr 1 xs (cg 0 lo) (cg xs.length hi):=zM u22 s3
@[simp] theorem slS22{b off len cap k:Nat}:dp prog h 22 (.sl b off len cap k) lo hi=wK 1 b off len cap k (cg 0 lo) (cg len hi):=tX u22 s3
@[simp] theorem lnL22:dt prog 22 (.lst xs)=some (.int .i64 xs.length):=dT u22
@[simp] theorem lnS22{b off len cap k:Nat}:dt prog 22 (.sl b off len cap k)=some (.int .i64 len):=gB u22
@[simp] theorem ap22:cp prog cfg h 22 22 d x=iB cfg h 1 8 d (bc h 1 x):=dg u22 s3 (by kernel_rfl) (by kernel_rfl) (by decide)
@[simp] theorem bs22:aK prog h 22 len vs=(bk 1 vs).bind fun cs=>if vs.length=len&&decide (len*1≤16777216) then some (.sl h.length 0 len len 1,h++[some cs]) else none:=ba u22 s3 (by kernel_rfl) (by decide)
@[simp] theorem mk22:cK prog h 22 (.int .i64 n) (.int .i64 m)=mkS h 1 8 [(.int .i64 0)] n m:=C6 u22 s3 (by kernel_rfl) (show zeroOf prog 3=some (.int .i64 0) by kernel_rfl) rfl (by decide) (by decide)
@[simp] theorem pt25:part prog 25 cs off=slot cs off:=ck (by kernel_rfl)
@[simp] theorem ixL25:az prog 25 (.lst xs) (.int k i)=jt 8 xs i:=dD u25 s54
@[simp] theorem lnL25:dt prog 25 (.lst xs)=some (.int .i64 xs.length):=dT u25
@[simp] theorem ap25:cp prog cfg h 25 25 d x=iB cfg h 8 112 d (bc h 8 x):=dg u25 s54 (by kernel_rfl) (by kernel_rfl) (by decide)
@[simp] theorem bs25:aK prog h 25 len vs=(bk 8 vs).bind fun cs=>if vs.length=len&&decide (len*8≤16777216) then some (.sl h.length 0 len len 8,h++[some cs]) else none:=ba u25 s54 (by kernel_rfl) (by decide)
@[simp] theorem pt27:part prog 27 cs off=slot cs off:=ck (by kernel_rfl)
@[simp] theorem st27:aW prog cfg h 27 (.ptr b off) v=stv cfg h b off 1 (cellsOf v):=aU (by kernel_rfl)
@[simp] theorem ixL27:az prog 27 (.lst xs) (.int k i)=jt 1 xs i:=dD u27 s21
@[simp] theorem ixS27:az prog 27 (.sl b off len cap c) (.int k i)=lO 1 b off len c i:=fq u27 s21
@[simp] theorem slL27:dp prog h 27 (.lst xs) lo hi=yr 1 xs (cg 0 lo) (cg xs.length hi):=zM u27 s21
@[simp] theorem lnL27:dt prog 27 (.lst xs)=some (.int .i64 xs.length):=dT u27
@[simp] theorem ap27:cp prog cfg h 27 27 d x=iB cfg h 1 4 d (bc h 1 x):=dg u27 s21 (by kernel_rfl) (by kernel_rfl) (by decide)
@[simp] theorem bs27:aK prog h 27 len vs=(bk 1 vs).bind fun cs=>if vs.length=len&&decide (len*1≤16777216) then some (.sl h.length 0 len len 1,h++[some cs]) else none:=ba u27 s21 (by kernel_rfl) (by decide)
@[simp] theorem pt28:part prog 28 cs off=slot cs off:=ck (by kernel_rfl)
@[simp] theorem st28:aW prog cfg h 28 (.ptr b off) v=stv cfg h b off 1 (cellsOf v):=aU (by kernel_rfl)
@[simp] theorem ixL28:az prog 28 (.lst xs) (.int k i)=jt 4 xs i:=dD u28 s48
@[simp] theorem lnL28:dt prog 28 (.lst xs)=some (.int .i64 xs.length):=dT u28
@[simp] theorem ap28:cp prog cfg h 28 28 d x=iB cfg h 4 32 d (bc h 4 x):=dg u28 s48 (by kernel_rfl) (by kernel_rfl) (by decide)
@[simp] theorem bs28:aK prog h 28 len vs=(bk 4 vs).bind fun cs=>if vs.length=len&&decide (len*4≤16777216) then some (.sl h.length 0 len len 4,h++[some cs]) else none:=ba u28 s48 (by kernel_rfl) (by decide)
@[simp] theorem pt30:part prog 30 cs off=if off+5≤cs.length then some (.agg ((cs.drop off).take 5)) else none:=cz (by kernel_rfl) (by kernel_rfl)
@[simp] theorem st30:aW prog cfg h 30 (.ptr b off) v=stv cfg h b off 5 (cellsOf v):=aU (by kernel_rfl)
@[simp] theorem zr30:zeroOf prog 30=some (.agg [.nils,.nils,(.int .i64 0),(.int .i64 0),(.int .i64 0)]):=by kernel_rfl
@[simp] theorem fa30x0:ag prog 30 (.ptr b off) 0=some (.ptr b off):=by kernel_rfl
@[simp] theorem fa30x1:ag prog 30 (.ptr b off) 1=some (.ptr b (off+1)):=by kernel_rfl
@[simp] theorem fa30x2:ag prog 30 (.ptr b off) 2=some (.ptr b (off+2)):=by kernel_rfl
@[simp] theorem fa30x3:ag prog 30 (.ptr b off) 3=some (.ptr b (off+3)):=by kernel_rfl
@[simp] theorem fa30x4:ag prog 30 (.ptr b off) 4=some (.ptr b (off+4)):=by kernel_rfl
def yg:Nat→Option (Nat×Nat)
 | 0=>some (0,1)
 | 1=>some (1,1)
 | 2=>some (2,1)
 | 3=>some (3,1)
 | 4=>some (4,1)
 | _=>none
@[simp] theorem pl30x0:yg 0=some (0,1):=rfl
@[simp] theorem pl30x1:yg 1=some (1,1):=rfl
@[simp] theorem pl30x2:yg 2=some (2,1):=rfl
@[simp] theorem pl30x3:yg 3=some (3,1):=rfl
@[simp] theorem pl30x4:yg 4=some (4,1):=rfl
@[simp] theorem bd30:cq prog 30 ps=(cM yg [.nils,.nils,(.int .i64 0),(.int .i64 0),(.int .i64 0)] ps).map .agg:=cr (pl:=yg) zr30 underlying30 (by kernel_rfl) (fun i=>by match i with|0|1|2|3|4=>(show _=_;kernel_rfl)|_+5=>(show _=_;kernel_rfl))
@[simp] theorem ixL33:az prog 33 (.lst xs) (.int k i)=jt 10 xs i:=dD u33 s40
@[simp] theorem lnL33:dt prog 33 (.lst xs)=some (.int .i64 xs.length):=dT u33
@[simp] theorem ap33:cp prog cfg h 33 33 d x=iB cfg h 10 96 d (bc h 10 x):=dg u33 s40 (by kernel_rfl) (by kernel_rfl) (by decide)
@[simp] theorem bs33:aK prog h 33 len vs=(bk 10 vs).bind fun cs=>if vs.length=len&&decide (len*10≤16777216) then some (.sl h.length 0 len len 10,h++[some cs]) else none:=ba u33 s40 (by kernel_rfl) (by decide)
@[simp] theorem pt38:part prog 38 cs off=slot cs off:=ck (by kernel_rfl)
@[simp] theorem st38:aW prog cfg h 38 (.ptr b off) v=stv cfg h b off 1 (cellsOf v):=aU (by kernel_rfl)
@[simp] theorem ixL38:az prog 38 (.lst xs) (.int k i)=jt 8 xs i:=dD u38 s46
@[simp] theorem ixS38:az prog 38 (.sl b off len cap c) (.int k i)=lO 8 b off len c i:=fq u38 s46
@[simp] theorem lnL38:dt prog 38 (.lst xs)=some (.int .i64 xs.length):=dT u38
@[simp] theorem lnN38:dt prog 38 .nils=some (.int .i64 0):=lQ u38
@[simp] theorem ap38:cp prog cfg h 38 38 d x=iB cfg h 8 64 d (bc h 8 x):=dg u38 s46 (by kernel_rfl) (by kernel_rfl) (by decide)
@[simp] theorem bs38:aK prog h 38 len vs=(bk 8 vs).bind fun cs=>if vs.length=len&&decide (len*8≤16777216) then some (.sl h.length 0 len len 8,h++[some cs]) else none:=ba u38 s46 (by kernel_rfl) (by decide)
@[simp] theorem pt40:part prog 40 cs off=if off+10≤cs.length then some (.agg ((cs.drop off).take 10)) else none:=cz (by kernel_rfl) (by kernel_rfl)
@[simp] theorem st40:aW prog cfg h 40 (.ptr b off) v=stv cfg h b off 10 (cellsOf v):=aU (by kernel_rfl)
@[simp] theorem zr40:zeroOf prog 40=some (.agg [(.int .i64 0),(.int .i64 0),(.int .i64 0),(.int .i64 0),(.int .i64 0),(.int .i64 0),(.int .i64 0),(.int .i64 0),(.int .i64 0),.nils]):=by kernel_rfl
@[simp] theorem fa40x0:ag prog 40 (.ptr b off) 0=some (.ptr b off):=by kernel_rfl
@[simp] theorem fl40x0:ag prog 40 (.lptr cs off) 0=some (.lptr cs off):=by kernel_rfl
@[simp] theorem fa40x1:ag prog 40 (.ptr b off) 1=some (.ptr b (off+1)):=by kernel_rfl
@[simp] theorem fl40x1:ag prog 40 (.lptr cs off) 1=some (.lptr cs (off+1)):=by kernel_rfl
@[simp] theorem fa40x2:ag prog 40 (.ptr b off) 2=some (.ptr b (off+2)):=by kernel_rfl
@[simp] theorem fa40x3:ag prog 40 (.ptr b off) 3=some (.ptr b (off+3)):=by kernel_rfl
@[simp] theorem fa40x4:ag prog 40 (.ptr b off) 4=some (.ptr b (off+4)):=by kernel_rfl
@[simp] theorem fa40x5:ag prog 40 (.ptr b off) 5=some (.ptr b (off+5)):=by kernel_rfl
@[simp] theorem fa40x6:ag prog 40 (.ptr b off) 6=some (.ptr b (off+6)):=by kernel_rfl
@[simp] theorem fl40x6:ag prog 40 (.lptr cs off) 6=some (.lptr cs (off+6)):=by kernel_rfl
@[simp] theorem fa40x7:ag prog 40 (.ptr b off) 7=some (.ptr b (off+7)):=by kernel_rfl
@[simp] theorem fl40x7:ag prog 40 (.lptr cs off) 7=some (.lptr cs (off+7)):=by kernel_rfl
@[simp] theorem fa40x8:ag prog 40 (.ptr b off) 8=some (.ptr b (off+8)):=by kernel_rfl
@[simp] theorem fa40x9:ag prog 40 (.ptr b off) 9=some (.ptr b (off+9)):=by kernel_rfl
def nY:Nat→Option (Nat×Nat)
 | 0=>some (0,1)
 | 1=>some (1,1)
 | 2=>some (2,1)
 | 3=>some (3,1)
 | 4=>some (4,1)
 | 5=>some (5,1)
 | 6=>some (6,1)
 | 7=>some (7,1)
 | 8=>some (8,1)
 | 9=>some (9,1)
 | _=>none
@[simp] theorem pl40x0:nY 0=some (0,1):=rfl
@[simp] theorem pl40x1:nY 1=some (1,1):=rfl
@[simp] theorem pl40x2:nY 2=some (2,1):=rfl
@[simp] theorem pl40x3:nY 3=some (3,1):=rfl
@[simp] theorem pl40x4:nY 4=some (4,1):=rfl
@[simp] theorem pl40x5:nY 5=some (5,1):=rfl
@[simp] theorem pl40x6:nY 6=some (6,1):=rfl
@[simp] theorem pl40x7:nY 7=some (7,1):=rfl
@[simp] theorem pl40x8:nY 8=some (8,1):=rfl
@[simp] theorem pl40x9:nY 9=some (9,1):=rfl
@[simp] theorem bd40:cq prog 40 ps=(cM nY [(.int .i64 0),(.int .i64 0),(.int .i64 0),(.int .i64 0),(.int .i64 0),(.int .i64 0),(.int .i64 0),(.int .i64 0),(.int .i64 0),.nils] ps).map .agg:=cr (pl:=nY) zr40 underlying40 (by kernel_rfl) (fun i=>by match i with|0|1|2|3|4|5|6|7|8|9=>(show _=_;kernel_rfl)|_+10=>(show _=_;kernel_rfl))
@[simp] theorem pt46:part prog 46 cs off=if off+8≤cs.length then some (.agg ((cs.drop off).take 8)) else none:=cz (by kernel_rfl) (by kernel_rfl)
@[simp] theorem st46:aW prog cfg h 46 (.ptr b off) v=stv cfg h b off 8 (cellsOf v):=aU (by kernel_rfl)
@[simp] theorem zr46:zeroOf prog 46=some (.agg [(.int .i64 0),(.int .i64 0),(.int .i64 0),(.int .i64 0),(.int .i64 0),(.int .i64 0),(.int .i64 0),(.int .i64 0)]):=by kernel_rfl
@[simp] theorem fa46x0:ag prog 46 (.ptr b off) 0=some (.ptr b off):=by kernel_rfl
@[simp] theorem fa46x1:ag prog 46 (.ptr b off) 1=some (.ptr b (off+1)):=by kernel_rfl
@[simp] theorem fa46x2:ag prog 46 (.ptr b off) 2=some (.ptr b (off+2)):=by kernel_rfl
@[simp] theorem fl46x2:ag prog 46 (.lptr cs off) 2=some (.lptr cs (off+2)):=by kernel_rfl
@[simp] theorem fa46x3:ag prog 46 (.ptr b off) 3=some (.ptr b (off+3)):=by kernel_rfl
@[simp] theorem fa46x4:ag prog 46 (.ptr b off) 4=some (.ptr b (off+4)):=by kernel_rfl
@[simp] theorem fa46x5:ag prog 46 (.ptr b off) 5=some (.ptr b (off+5)):=by kernel_rfl
@[simp] theorem fl46x5:ag prog 46 (.lptr cs off) 5=some (.lptr cs (off+5)):=by kernel_rfl
def rn:Nat→Option (Nat×Nat)
 | 0=>some (0,1)
 | 1=>some (1,1)
 | 2=>some (2,1)
 | 3=>some (3,1)
 | 4=>some (4,1)
 | 5=>some (5,1)
 | 6=>some (6,1)
 | 7=>some (7,1)
 | _=>none
@[simp] theorem pl46x0:rn 0=some (0,1):=rfl
@[simp] theorem pl46x1:rn 1=some (1,1):=rfl
@[simp] theorem pl46x2:rn 2=some (2,1):=rfl
@[simp] theorem pl46x3:rn 3=some (3,1):=rfl
@[simp] theorem pl46x4:rn 4=some (4,1):=rfl
@[simp] theorem pl46x5:rn 5=some (5,1):=rfl
@[simp] theorem pl46x6:rn 6=some (6,1):=rfl
@[simp] theorem pl46x7:rn 7=some (7,1):=rfl
@[simp] theorem bd46:cq prog 46 ps=(cM rn [(.int .i64 0),(.int .i64 0),(.int .i64 0),(.int .i64 0),(.int .i64 0),(.int .i64 0),(.int .i64 0),(.int .i64 0)] ps).map .agg:=cr (pl:=rn) zr46 underlying46 (by kernel_rfl) (fun i=>by match i with|0|1|2|3|4|5|6|7=>(show _=_;kernel_rfl)|_+8=>(show _=_;kernel_rfl))
@[simp] theorem pt48:part prog 48 cs off=if off+4≤cs.length then some (.agg ((cs.drop off).take 4)) else none:=cz (by kernel_rfl) (by kernel_rfl)
@[simp] theorem st48:aW prog cfg h 48 (.ptr b off) v=stv cfg h b off 4 (cellsOf v):=aU (by kernel_rfl)
@[simp] theorem zr48:zeroOf prog 48=some (.agg [(.int .i64 0),(.int .i64 0),(.int .i64 0),(.int .i64 0)]):=by kernel_rfl
@[simp] theorem fa48x0:ag prog 48 (.ptr b off) 0=some (.ptr b off):=by kernel_rfl
@[simp] theorem fl48x0:ag prog 48 (.lptr cs off) 0=some (.lptr cs off):=by kernel_rfl
@[simp] theorem fa48x1:ag prog 48 (.ptr b off) 1=some (.ptr b (off+1)):=by kernel_rfl
@[simp] theorem fl48x1:ag prog 48 (.lptr cs off) 1=some (.lptr cs (off+1)):=by kernel_rfl
@[simp] theorem fa48x2:ag prog 48 (.ptr b off) 2=some (.ptr b (off+2)):=by kernel_rfl
@[simp] theorem fl48x2:ag prog 48 (.lptr cs off) 2=some (.lptr cs (off+2)):=by kernel_rfl
@[simp] theorem fa48x3:ag prog 48 (.ptr b off) 3=some (.ptr b (off+3)):=by kernel_rfl
@[simp] theorem fl48x3:ag prog 48 (.lptr cs off) 3=some (.lptr cs (off+3)):=by kernel_rfl
def A7:Nat→Option (Nat×Nat)
 | 0=>some (0,1)
 | 1=>some (1,1)
 | 2=>some (2,1)
 | 3=>some (3,1)
 | _=>none
@[simp] theorem pl48x0:A7 0=some (0,1):=rfl
@[simp] theorem pl48x1:A7 1=some (1,1):=rfl
@[simp] theorem pl48x2:A7 2=some (2,1):=rfl
@[simp] theorem pl48x3:A7 3=some (3,1):=rfl
@[simp] theorem bd48:cq prog 48 ps=(cM A7 [(.int .i64 0),(.int .i64 0),(.int .i64 0),(.int .i64 0)] ps).map .agg:=cr (pl:=A7) zr48 underlying48 (by kernel_rfl) (fun i=>by match i with|0|1|2|3=>(show _=_;kernel_rfl)|_+4=>(show _=_;kernel_rfl))
@[simp] theorem pt50:part prog 50 cs off=slot cs off:=ck (by kernel_rfl)
@[simp] theorem st50:aW prog cfg h 50 (.ptr b off) v=stv cfg h b off 1 (cellsOf v):=aU (by kernel_rfl)
@[simp] theorem ixL50:az prog 50 (.lst xs) (.int k i)=jt 3 xs i:=dD u50 s93
@[simp] theorem lnL50:dt prog 50 (.lst xs)=some (.int .i64 xs.length):=dT u50
@[simp] theorem ap50:cp prog cfg h 50 50 d x=iB cfg h 3 16 d (bc h 3 x):=dg u50 s93 (by kernel_rfl) (by kernel_rfl) (by decide)
@[simp] theorem bs50:aK prog h 50 len vs=(bk 3 vs).bind fun cs=>if vs.length=len&&decide (len*3≤16777216) then some (.sl h.length 0 len len 3,h++[some cs]) else none:=ba u50 s93 (by kernel_rfl) (by decide)
@[simp] theorem pt51:part prog 51 cs off=slot cs off:=ck (by kernel_rfl)
@[simp] theorem st51:aW prog cfg h 51 (.ptr b off) v=stv cfg h b off 1 (cellsOf v):=aU (by kernel_rfl)
@[simp] theorem ixL51:az prog 51 (.lst xs) (.int k i)=jt 3 xs i:=dD u51 s95
@[simp] theorem lnL51:dt prog 51 (.lst xs)=some (.int .i64 xs.length):=dT u51
@[simp] theorem ap51:cp prog cfg h 51 51 d x=iB cfg h 3 16 d (bc h 3 x):=dg u51 s95 (by kernel_rfl) (by kernel_rfl) (by decide)
@[simp] theorem bs51:aK prog h 51 len vs=(bk 3 vs).bind fun cs=>if vs.length=len&&decide (len*3≤16777216) then some (.sl h.length 0 len len 3,h++[some cs]) else none:=ba u51 s95 (by kernel_rfl) (by decide)
@[simp] theorem pt52:part prog 52 cs off=slot cs off:=ck (by kernel_rfl)
@[simp] theorem st52:aW prog cfg h 52 (.ptr b off) v=stv cfg h b off 1 (cellsOf v):=aU (by kernel_rfl)
@[simp] theorem ixL52:az prog 52 (.lst xs) (.int k i)=jt 4 xs i:=dD u52 s97
@[simp] theorem lnL52:dt prog 52 (.lst xs)=some (.int .i64 xs.length):=dT u52
@[simp] theorem ap52:cp prog cfg h 52 52 d x=iB cfg h 4 24 d (bc h 4 x):=dg u52 s97 (by kernel_rfl) (by kernel_rfl) (by decide)
@[simp] theorem bs52:aK prog h 52 len vs=(bk 4 vs).bind fun cs=>if vs.length=len&&decide (len*4≤16777216) then some (.sl h.length 0 len len 4,h++[some cs]) else none:=ba u52 s97 (by kernel_rfl) (by decide)
@[simp] theorem pt54:part prog 54 cs off=if off+8≤cs.length then some (.agg ((cs.drop off).take 8)) else none:=cz (by kernel_rfl) (by kernel_rfl)
@[simp] theorem st54:aW prog cfg h 54 (.ptr b off) v=stv cfg h b off 8 (cellsOf v):=aU (by kernel_rfl)
@[simp] theorem zr54:zeroOf prog 54=some (.agg [(.int .i64 0),(.int .i64 0),(.int .i64 0),(.int .i64 0),(.int .i64 0),.nils,.nils,.nils]):=by kernel_rfl
@[simp] theorem fa54x0:ag prog 54 (.ptr b off) 0=some (.ptr b off):=by kernel_rfl
@[simp] theorem fa54x1:ag prog 54 (.ptr b off) 1=some (.ptr b (off+1)):=by kernel_rfl
@[simp] theorem fa54x2:ag prog 54 (.ptr b off) 2=some (.ptr b (off+2)):=by kernel_rfl
@[simp] theorem fa54x3:ag prog 54 (.ptr b off) 3=some (.ptr b (off+3)):=by kernel_rfl
@[simp] theorem fa54x4:ag prog 54 (.ptr b off) 4=some (.ptr b (off+4)):=by kernel_rfl
@[simp] theorem fa54x5:ag prog 54 (.ptr b off) 5=some (.ptr b (off+5)):=by kernel_rfl
@[simp] theorem fa54x6:ag prog 54 (.ptr b off) 6=some (.ptr b (off+6)):=by kernel_rfl
@[simp] theorem fa54x7:ag prog 54 (.ptr b off) 7=some (.ptr b (off+7)):=by kernel_rfl
def rp:Nat→Option (Nat×Nat)
 | 0=>some (0,1)
 | 1=>some (1,1)
 | 2=>some (2,1)
 | 3=>some (3,1)
 | 4=>some (4,1)
 | 5=>some (5,1)
 | 6=>some (6,1)
 | 7=>some (7,1)
 | _=>none
@[simp] theorem pl54x0:rp 0=some (0,1):=rfl
@[simp] theorem pl54x1:rp 1=some (1,1):=rfl
@[simp] theorem pl54x2:rp 2=some (2,1):=rfl
@[simp] theorem pl54x3:rp 3=some (3,1):=rfl
@[simp] theorem pl54x4:rp 4=some (4,1):=rfl
@[simp] theorem pl54x5:rp 5=some (5,1):=rfl
@[simp] theorem pl54x6:rp 6=some (6,1):=rfl
@[simp] theorem pl54x7:rp 7=some (7,1):=rfl
@[simp] theorem bd54:cq prog 54 ps=(cM rp [(.int .i64 0),(.int .i64 0),(.int .i64 0),(.int .i64 0),(.int .i64 0),.nils,.nils,.nils] ps).map .agg:=cr (pl:=rp) zr54 underlying54 (by kernel_rfl) (fun i=>by match i with|0|1|2|3|4|5|6|7=>(show _=_;kernel_rfl)|_+8=>(show _=_;kernel_rfl))
@[simp] theorem zr57:zeroOf prog 57=some (.agg [.nils,(.int .i64 0)]):=by kernel_rfl
@[simp] theorem fa57x0:ag prog 57 (.ptr b off) 0=some (.ptr b off):=by kernel_rfl
@[simp] theorem fa57x1:ag prog 57 (.ptr b off) 1=some (.ptr b (off+1)):=by kernel_rfl
def pl57:Nat→Option (Nat×Nat)
 | 0=>some (0,1)
 | 1=>some (1,1)
 | _=>none
@[simp] theorem pl57x0:pl57 0=some (0,1):=rfl
@[simp] theorem pl57x1:pl57 1=some (1,1):=rfl
@[simp] theorem bd57:cq prog 57 ps=(cM pl57 [.nils,(.int .i64 0)] ps).map .agg:=cr (pl:=pl57) zr57 underlying57 (by kernel_rfl) (fun i=>by match i with|0|1=>(show _=_;kernel_rfl)|_+2=>(show _=_;kernel_rfl))
@[simp] theorem pt65:part prog 65 cs off=slot cs off:=ck (by kernel_rfl)
@[simp] theorem ixL65:az prog 65 (.lst xs) (.int k i)=jt 1 xs i:=dD u65 s4
@[simp] theorem ixS65:az prog 65 (.sl b off len cap c) (.int k i)=lO 1 b off len c i:=fq u65 s4
@[simp] theorem mk65:cK prog h 65 (.int .i64 n) (.int .i64 m)=mkS h 1 1 [(.bool false)] n m:=C6 u65 s4 (by kernel_rfl) (show zeroOf prog 4=some (.bool false) by kernel_rfl) rfl (by decide) (by decide)
@[simp] theorem pt66:part prog 66 cs off=slot cs off:=ck (by kernel_rfl)
@[simp] theorem pt67:part prog 67 cs off=slot cs off:=ck (by kernel_rfl)
@[simp] theorem pt69:part prog 69 cs off=if off+5≤cs.length then some (.agg ((cs.drop off).take 5)) else none:=cz (by kernel_rfl) (by kernel_rfl)
@[simp] theorem st69:aW prog cfg h 69 (.ptr b off) v=stv cfg h b off 5 (cellsOf v):=aU (by kernel_rfl)
@[simp] theorem zr69:zeroOf prog 69=some (.agg [.nils,.nils,.nils,.nilm,.nilm]):=by kernel_rfl
@[simp] theorem fa69x0:ag prog 69 (.ptr b off) 0=some (.ptr b off):=by kernel_rfl
@[simp] theorem fa69x1:ag prog 69 (.ptr b off) 1=some (.ptr b (off+1)):=by kernel_rfl
@[simp] theorem fa69x2:ag prog 69 (.ptr b off) 2=some (.ptr b (off+2)):=by kernel_rfl
@[simp] theorem fa69x3:ag prog 69 (.ptr b off) 3=some (.ptr b (off+3)):=by kernel_rfl
@[simp] theorem fa69x4:ag prog 69 (.ptr b off) 4=some (.ptr b (off+4)):=by kernel_rfl
def yh:Nat→Option (Nat×Nat)
 | 0=>some (0,1)
 | 1=>some (1,1)
 | 2=>some (2,1)
 | 3=>some (3,1)
 | 4=>some (4,1)
 | _=>none
@[simp] theorem pl69x0:yh 0=some (0,1):=rfl
@[simp] theorem pl69x1:yh 1=some (1,1):=rfl
@[simp] theorem pl69x2:yh 2=some (2,1):=rfl
@[simp] theorem pl69x3:yh 3=some (3,1):=rfl
@[simp] theorem pl69x4:yh 4=some (4,1):=rfl
@[simp] theorem bd69:cq prog 69 ps=(cM yh [.nils,.nils,.nils,.nilm,.nilm] ps).map .agg:=cr (pl:=yh) zr69 underlying69 (by kernel_rfl) (fun i=>by match i with|0|1|2|3|4=>(show _=_;kernel_rfl)|_+5=>(show _=_;kernel_rfl))
@[simp] theorem pt70:part prog 70 cs off=slot cs off:=ck (by kernel_rfl)
@[simp] theorem st70:aW prog cfg h 70 (.ptr b off) v=stv cfg h b off 1 (cellsOf v):=aU (by kernel_rfl)
@[simp] theorem ixS70:az prog 70 (.sl b off len cap c) (.int k i)=lO 4 b off len c i:=fq u70 s74
@[simp] theorem ap70:cp prog cfg h 70 70 d x=iB cfg h 4 48 d (bc h 4 x):=dg u70 s74 (by kernel_rfl) (by kernel_rfl) (by decide)
@[simp] theorem bs70:aK prog h 70 len vs=(bk 4 vs).bind fun cs=>if vs.length=len&&decide (len*4≤16777216) then some (.sl h.length 0 len len 4,h++[some cs]) else none:=ba u70 s74 (by kernel_rfl) (by decide)
@[simp] theorem zr72:zeroOf prog 72=some (.agg [.nils,.nils,(.int .i64 0),(.int .i64 0),(.int .i64 0),.nils,.nils,.nils,.nils,.nils,.nils,.nils,.nils,.nilm,.nilm,.nils]):=by kernel_rfl
@[simp] theorem fa72x0:ag prog 72 (.ptr b off) 0=some (.ptr b off):=by kernel_rfl
@[simp] theorem fa72x1:ag prog 72 (.ptr b off) 1=some (.ptr b (off+5)):=by kernel_rfl
@[simp] theorem fa72x2:ag prog 72 (.ptr b off) 2=some (.ptr b (off+6)):=by kernel_rfl
@[simp] theorem fa72x3:ag prog 72 (.ptr b off) 3=some (.ptr b (off+7)):=by kernel_rfl
@[simp] theorem fa72x4:ag prog 72 (.ptr b off) 4=some (.ptr b (off+8)):=by kernel_rfl
@[simp] theorem fa72x5:ag prog 72 (.ptr b off) 5=some (.ptr b (off+9)):=by kernel_rfl
@[simp] theorem fa72x6:ag prog 72 (.ptr b off) 6=some (.ptr b (off+10)):=by kernel_rfl
@[simp] theorem fa72x7:ag prog 72 (.ptr b off) 7=some (.ptr b (off+15)):=by kernel_rfl
def ru:Nat→Option (Nat×Nat)
 | 0=>some (0,5)
 | 1=>some (5,1)
 | 2=>some (6,1)
 | 3=>some (7,1)
 | 4=>some (8,1)
 | 5=>some (9,1)
 | 6=>some (10,5)
 | 7=>some (15,1)
 | _=>none
@[simp] theorem pl72x0:ru 0=some (0,5):=rfl
@[simp] theorem pl72x1:ru 1=some (5,1):=rfl
@[simp] theorem pl72x2:ru 2=some (6,1):=rfl
@[simp] theorem pl72x3:ru 3=some (7,1):=rfl
@[simp] theorem pl72x4:ru 4=some (8,1):=rfl
@[simp] theorem pl72x5:ru 5=some (9,1):=rfl
@[simp] theorem pl72x6:ru 6=some (10,5):=rfl
@[simp] theorem pl72x7:ru 7=some (15,1):=rfl
@[simp] theorem bd72:cq prog 72 ps=(cM ru [.nils,.nils,(.int .i64 0),(.int .i64 0),(.int .i64 0),.nils,.nils,.nils,.nils,.nils,.nils,.nils,.nils,.nilm,.nilm,.nils] ps).map .agg:=cr (pl:=ru) zr72 underlying72 (by kernel_rfl) (fun i=>by match i with|0|1|2|3|4|5|6|7=>(show _=_;kernel_rfl)|_+8=>(show _=_;kernel_rfl))
@[simp] theorem pt74:part prog 74 cs off=if off+4≤cs.length then some (.agg ((cs.drop off).take 4)) else none:=cz (by kernel_rfl) (by kernel_rfl)
@[simp] theorem st74:aW prog cfg h 74 (.ptr b off) v=stv cfg h b off 4 (cellsOf v):=aU (by kernel_rfl)
@[simp] theorem zr74:zeroOf prog 74=some (.agg [(.int .i64 0),(.int .i64 0),(.int .i64 0),.nils]):=by kernel_rfl
@[simp] theorem fa74x0:ag prog 74 (.ptr b off) 0=some (.ptr b off):=by kernel_rfl
@[simp] theorem fa74x1:ag prog 74 (.ptr b off) 1=some (.ptr b (off+1)):=by kernel_rfl
@[simp] theorem fa74x2:ag prog 74 (.ptr b off) 2=some (.ptr b (off+2)):=by kernel_rfl
@[simp] theorem fa74x3:ag prog 74 (.ptr b off) 3=some (.ptr b (off+3)):=by kernel_rfl
def A8:Nat→Option (Nat×Nat)
 | 0=>some (0,1)
 | 1=>some (1,1)
 | 2=>some (2,1)
 | 3=>some (3,1)
 | _=>none
@[simp] theorem pl74x0:A8 0=some (0,1):=rfl
@[simp] theorem pl74x1:A8 1=some (1,1):=rfl
@[simp] theorem pl74x2:A8 2=some (2,1):=rfl
@[simp] theorem pl74x3:A8 3=some (3,1):=rfl
@[simp] theorem bd74:cq prog 74 ps=(cM A8 [(.int .i64 0),(.int .i64 0),(.int .i64 0),.nils] ps).map .agg:=cr (pl:=A8) zr74 underlying74 (by kernel_rfl) (fun i=>by match i with|0|1|2|3=>(show _=_;kernel_rfl)|_+4=>(show _=_;kernel_rfl))
@[simp] theorem pt80:part prog 80 cs off=if off+3≤cs.length then some (.agg ((cs.drop off).take 3)) else none:=cz (by kernel_rfl) (by kernel_rfl)
@[simp] theorem st80:aW prog cfg h 80 (.ptr b off) v=stv cfg h b off 3 (cellsOf v):=aU (by kernel_rfl)
@[simp] theorem zr80:zeroOf prog 80=some (.agg [.nils,.nils,.nils]):=by kernel_rfl
@[simp] theorem fa80x0:ag prog 80 (.ptr b off) 0=some (.ptr b off):=by kernel_rfl
@[simp] theorem fa80x1:ag prog 80 (.ptr b off) 1=some (.ptr b (off+1)):=by kernel_rfl
@[simp] theorem fa80x2:ag prog 80 (.ptr b off) 2=some (.ptr b (off+2)):=by kernel_rfl
def Dn:Nat→Option (Nat×Nat)
 | 0=>some (0,1)
 | 1=>some (1,1)
 | 2=>some (2,1)
 | _=>none
@[simp] theorem pl80x0:Dn 0=some (0,1):=rfl
@[simp] theorem pl80x1:Dn 1=some (1,1):=rfl
@[simp] theorem pl80x2:Dn 2=some (2,1):=rfl
@[simp] theorem bd80:cq prog 80 ps=(cM Dn [.nils,.nils,.nils] ps).map .agg:=cr (pl:=Dn) zr80 underlying80 (by kernel_rfl) (fun i=>by match i with|0|1|2=>(show _=_;kernel_rfl)|_+3=>(show _=_;kernel_rfl))
@[simp] theorem pt93:part prog 93 cs off=if off+3≤cs.length then some (.agg ((cs.drop off).take 3)) else none:=cz (by kernel_rfl) (by kernel_rfl)
@[simp] theorem st93:aW prog cfg h 93 (.ptr b off) v=stv cfg h b off 3 (cellsOf v):=aU (by kernel_rfl)
@[simp] theorem zr93:zeroOf prog 93=some (.agg [(.int .i32 0),(.int .i32 0),(.int .i64 0)]):=by kernel_rfl
@[simp] theorem fa93x0:ag prog 93 (.ptr b off) 0=some (.ptr b off):=by kernel_rfl
@[simp] theorem fa93x1:ag prog 93 (.ptr b off) 1=some (.ptr b (off+1)):=by kernel_rfl
@[simp] theorem fa93x2:ag prog 93 (.ptr b off) 2=some (.ptr b (off+2)):=by kernel_rfl
def Dp:Nat→Option (Nat×Nat)
 | 0=>some (0,1)
 | 1=>some (1,1)
 | 2=>some (2,1)
 | _=>none
@[simp] theorem pl93x0:Dp 0=some (0,1):=rfl
@[simp] theorem pl93x1:Dp 1=some (1,1):=rfl
@[simp] theorem pl93x2:Dp 2=some (2,1):=rfl
@[simp] theorem bd93:cq prog 93 ps=(cM Dp [(.int .i32 0),(.int .i32 0),(.int .i64 0)] ps).map .agg:=cr (pl:=Dp) zr93 underlying93 (by kernel_rfl) (fun i=>by match i with|0|1|2=>(show _=_;kernel_rfl)|_+3=>(show _=_;kernel_rfl))
@[simp] theorem pt95:part prog 95 cs off=if off+3≤cs.length then some (.agg ((cs.drop off).take 3)) else none:=cz (by kernel_rfl) (by kernel_rfl)
@[simp] theorem st95:aW prog cfg h 95 (.ptr b off) v=stv cfg h b off 3 (cellsOf v):=aU (by kernel_rfl)
@[simp] theorem zr95:zeroOf prog 95=some (.agg [(.int .i32 0),(.int .i32 0),(.int .i64 0)]):=by kernel_rfl
@[simp] theorem fa95x0:ag prog 95 (.ptr b off) 0=some (.ptr b off):=by kernel_rfl
@[simp] theorem fl95x0:ag prog 95 (.lptr cs off) 0=some (.lptr cs off):=by kernel_rfl
@[simp] theorem fa95x1:ag prog 95 (.ptr b off) 1=some (.ptr b (off+1)):=by kernel_rfl
@[simp] theorem fl95x1:ag prog 95 (.lptr cs off) 1=some (.lptr cs (off+1)):=by kernel_rfl
@[simp] theorem fa95x2:ag prog 95 (.ptr b off) 2=some (.ptr b (off+2)):=by kernel_rfl
@[simp] theorem fl95x2:ag prog 95 (.lptr cs off) 2=some (.lptr cs (off+2)):=by kernel_rfl
def Dq:Nat→Option (Nat×Nat)
 | 0=>some (0,1)
 | 1=>some (1,1)
 | 2=>some (2,1)
 | _=>none
@[simp] theorem pl95x0:Dq 0=some (0,1):=rfl
@[simp] theorem pl95x1:Dq 1=some (1,1):=rfl
@[simp] theorem pl95x2:Dq 2=some (2,1):=rfl
@[simp] theorem bd95:cq prog 95 ps=(cM Dq [(.int .i32 0),(.int .i32 0),(.int .i64 0)] ps).map .agg:=cr (pl:=Dq) zr95 underlying95 (by kernel_rfl) (fun i=>by match i with|0|1|2=>(show _=_;kernel_rfl)|_+3=>(show _=_;kernel_rfl))
@[simp] theorem pt97:part prog 97 cs off=if off+4≤cs.length then some (.agg ((cs.drop off).take 4)) else none:=cz (by kernel_rfl) (by kernel_rfl)
@[simp] theorem st97:aW prog cfg h 97 (.ptr b off) v=stv cfg h b off 4 (cellsOf v):=aU (by kernel_rfl)
@[simp] theorem zr97:zeroOf prog 97=some (.agg [(.int .i32 0),(.int .i32 0),(.int .i64 0),(.int .i64 0)]):=by kernel_rfl
@[simp] theorem fa97x0:ag prog 97 (.ptr b off) 0=some (.ptr b off):=by kernel_rfl
@[simp] theorem fl97x0:ag prog 97 (.lptr cs off) 0=some (.lptr cs off):=by kernel_rfl
@[simp] theorem fa97x1:ag prog 97 (.ptr b off) 1=some (.ptr b (off+1)):=by kernel_rfl
@[simp] theorem fl97x1:ag prog 97 (.lptr cs off) 1=some (.lptr cs (off+1)):=by kernel_rfl
@[simp] theorem fa97x2:ag prog 97 (.ptr b off) 2=some (.ptr b (off+2)):=by kernel_rfl
@[simp] theorem fa97x3:ag prog 97 (.ptr b off) 3=some (.ptr b (off+3)):=by kernel_rfl
def A9:Nat→Option (Nat×Nat)
 | 0=>some (0,1)
 | 1=>some (1,1)
 | 2=>some (2,1)
 | 3=>some (3,1)
 | _=>none
@[simp] theorem pl97x0:A9 0=some (0,1):=rfl
@[simp] theorem pl97x1:A9 1=some (1,1):=rfl
@[simp] theorem pl97x2:A9 2=some (2,1):=rfl
@[simp] theorem pl97x3:A9 3=some (3,1):=rfl
@[simp] theorem bd97:cq prog 97 ps=(cM A9 [(.int .i32 0),(.int .i32 0),(.int .i64 0),(.int .i64 0)] ps).map .agg:=cr (pl:=A9) zr97 underlying97 (by kernel_rfl) (fun i=>by match i with|0|1|2|3=>(show _=_;kernel_rfl)|_+4=>(show _=_;kernel_rfl))
@[simp] theorem pt106:part prog 106 cs off=if off+7≤cs.length then some (.agg ((cs.drop off).take 7)) else none:=cz (by kernel_rfl) (by kernel_rfl)
@[simp] theorem st106:aW prog cfg h 106 (.ptr b off) v=stv cfg h b off 7 (cellsOf v):=aU (by kernel_rfl)
@[simp] theorem zr106:zeroOf prog 106=some (.agg [(.int .i32 0),(.int .i32 0),(.int .u8 0),(.int .u8 0),(.int .u8 0),(.int .u8 0),(.int .u8 0)]):=by kernel_rfl
@[simp] theorem fl106x0:ag prog 106 (.lptr cs off) 0=some (.lptr cs off):=by kernel_rfl
@[simp] theorem fl106x1:ag prog 106 (.lptr cs off) 1=some (.lptr cs (off+1)):=by kernel_rfl
@[simp] theorem fv106x2:gE prog 106 (.agg cs) 2=part prog 5 cs 2:=by kernel_rfl
@[simp] theorem fv106x4:gE prog 106 (.agg cs) 4=part prog 5 cs 4:=by kernel_rfl
@[simp] theorem fv106x5:gE prog 106 (.agg cs) 5=part prog 5 cs 5:=by kernel_rfl
@[simp] theorem fv106x6:gE prog 106 (.agg cs) 6=part prog 5 cs 6:=by kernel_rfl
def mc:Nat→Option (Nat×Nat)
 | 0=>some (0,1)
 | 1=>some (1,1)
 | 2=>some (2,1)
 | 3=>some (3,1)
 | 4=>some (4,1)
 | 5=>some (5,1)
 | 6=>some (6,1)
 | _=>none
@[simp] theorem pl106x0:mc 0=some (0,1):=rfl
@[simp] theorem pl106x1:mc 1=some (1,1):=rfl
@[simp] theorem pl106x2:mc 2=some (2,1):=rfl
@[simp] theorem pl106x3:mc 3=some (3,1):=rfl
@[simp] theorem pl106x4:mc 4=some (4,1):=rfl
@[simp] theorem pl106x5:mc 5=some (5,1):=rfl
@[simp] theorem pl106x6:mc 6=some (6,1):=rfl
@[simp] theorem bd106:cq prog 106 ps=(cM mc [(.int .i32 0),(.int .i32 0),(.int .u8 0),(.int .u8 0),(.int .u8 0),(.int .u8 0),(.int .u8 0)] ps).map .agg:=cr (pl:=mc) zr106 underlying106 (by kernel_rfl) (fun i=>by match i with|0|1|2|3|4|5|6=>(show _=_;kernel_rfl)|_+7=>(show _=_;kernel_rfl))
@[simp] theorem pt114:part prog 114 cs off=if off+5≤cs.length then some (.agg ((cs.drop off).take 5)) else none:=cz (by kernel_rfl) (by kernel_rfl)
@[simp] theorem st114:aW prog cfg h 114 (.ptr b off) v=stv cfg h b off 5 (cellsOf v):=aU (by kernel_rfl)
@[simp] theorem zr114:zeroOf prog 114=some (.agg [(.int .i64 0),(.int .i64 0),(.int .i64 0),(.int .i64 0),(.int .i64 0)]):=by kernel_rfl
@[simp] theorem fa114x0:ag prog 114 (.ptr b off) 0=some (.ptr b off):=by kernel_rfl
@[simp] theorem fv114x0:gE prog 114 (.agg cs) 0=part prog 3 cs 0:=by kernel_rfl
@[simp] theorem fv114x2:gE prog 114 (.agg cs) 2=part prog 3 cs 2:=by kernel_rfl
def qp:Nat→Option (Nat×Nat)
 | 0=>some (0,1)
 | 1=>some (1,1)
 | 2=>some (2,1)
 | 3=>some (3,1)
 | 4=>some (4,1)
 | _=>none
@[simp] theorem pl114x0:qp 0=some (0,1):=rfl
@[simp] theorem pl114x1:qp 1=some (1,1):=rfl
@[simp] theorem pl114x2:qp 2=some (2,1):=rfl
@[simp] theorem pl114x3:qp 3=some (3,1):=rfl
@[simp] theorem pl114x4:qp 4=some (4,1):=rfl
@[simp] theorem bd114:cq prog 114 ps=(cM qp [(.int .i64 0),(.int .i64 0),(.int .i64 0),(.int .i64 0),(.int .i64 0)] ps).map .agg:=cr (pl:=qp) zr114 underlying114 (by kernel_rfl) (fun i=>by match i with|0|1|2|3|4=>(show _=_;kernel_rfl)|_+5=>(show _=_;kernel_rfl))
@[simp] theorem ixL123:az prog 123 (.lst xs) (.int k i)=jt 2 xs i:=dD yD s124
@[simp] theorem ixS123:az prog 123 (.sl b off len cap c) (.int k i)=lO 2 b off len c i:=fq yD s124
@[simp] theorem lnL123:dt prog 123 (.lst xs)=some (.int .i64 xs.length):=dT yD
@[simp] theorem lnS123{b off len cap k:Nat}:dt prog 123 (.sl b off len cap k)=some (.int .i64 len):=gB yD
@[simp] theorem lnN123:dt prog 123 .nils=some (.int .i64 0):=lQ yD
@[simp] theorem ap123:cp prog cfg h 123 123 d x=iB cfg h 2 16 d (bc h 2 x):=dg yD s124 (by kernel_rfl) (by kernel_rfl) (by decide)
@[simp] theorem bs123:aK prog h 123 len vs=(bk 2 vs).bind fun cs=>if vs.length=len&&decide (len*2≤16777216) then some (.sl h.length 0 len len 2,h++[some cs]) else none:=ba yD s124 (by kernel_rfl) (by decide)
@[simp] theorem pt124:part prog 124 cs off=if off+2≤cs.length then some (.agg ((cs.drop off).take 2)) else none:=cz (by kernel_rfl) (by kernel_rfl)
@[simp] theorem st124:aW prog cfg h 124 (.ptr b off) v=stv cfg h b off 2 (cellsOf v):=aU (by kernel_rfl)
@[simp] theorem zr124:zeroOf prog 124=some (.agg [(.int .i64 0),(.int .i64 0)]):=by kernel_rfl
@[simp] theorem ixA124:az prog 124 (.ptr b off) (.int k i)=if 0≤i then (if i.toNat<2 then some (.ptr b (off+i.toNat*1)) else none) else none:=zg u124 s3
@[simp] theorem ixV124:kS prog 124 (.agg cs) (.int k i)=if 0≤i then (if i.toNat<2 then part prog 3 cs (i.toNat*1) else none) else none:=Fx u124 s3
@[simp] theorem bd124:cq prog 124 ps=(cM (fun i=>some (i*1,1)) [(.int .i64 0),(.int .i64 0)] ps).map .agg:=Aj zr124 u124 s3
@[simp] theorem st127:aW prog cfg h 127 (.ptr b off) v=stv cfg h b off 308 (cellsOf v):=aU (by kernel_rfl)
@[simp] theorem zr127:zeroOf prog 127=some (.agg [(.int .i32 0),(.int .i32 0),(.int .u8 0),(.int .u8 0),(.int .u8 0),(.int .u8 0),(.int .u8 0),(.int .i32 0),(.int .i32 0),(.int .u8 0),(.int .u8 0),(.int .u8 0),(.int .u8 0),(.int .u8 0),(.int .i32 0),(.int .i32 0),(.int .u8 0),(.int .u8 0),(.int .u8 0),(.int .u8 0),(.int .u8 0),(.int .i32 0),(.int .i32 0),(.int .u8 0),(.int .u8 0),(.int .u8 0),(.int .u8 0),(.int .u8 0),(.int .i32 0),(.int .i32 0),(.int .u8 0),(.int .u8 0),(.int .u8 0),(.int .u8 0),(.int .u8 0),(.int .i32 0),(.int .i32 0),(.int .u8 0),(.int .u8 0),(.int .u8 0),(.int .u8 0),(.int .u8 0),(.int .i32 0),(.int .i32 0),(.int .u8 0),(.int .u8 0),(.int .u8 0),(.int .u8 0),(.int .u8 0),(.int .i32 0),(.int .i32 0),(.int .u8 0),(.int .u8 0),(.int .u8 0),(.int .u8 0),(.int .u8 0),(.int .i32 0),(.int .i32 0),(.int .u8 0),(.int .u8 0),(.int .u8 0),(.int .u8 0),(.int .u8 0),(.int .i32 0),(.int .i32 0),(.int .u8 0),(.int .u8 0),(.int .u8 0),(.int .u8 0),(.int .u8 0),(.int .i32 0),(.int .i32 0),(.int .u8 0),(.int .u8 0),(.int .u8 0),(.int .u8 0),(.int .u8 0),(.int .i32 0),(.int .i32 0),(.int .u8 0),(.int .u8 0),(.int .u8 0),(.int .u8 0),(.int .u8 0),(.int .i32 0),(.int .i32 0),(.int .u8 0),(.int .u8 0),(.int .u8 0),(.int .u8 0),(.int .u8 0),(.int .i32 0),(.int .i32 0),(.int .u8 0),(.int .u8 0),(.int .u8 0),(.int .u8 0),(.int .u8 0),(.int .i32 0),(.int .i32 0),(.int .u8 0),(.int .u8 0),(.int .u8 0),(.int .u8 0),(.int .u8 0),(.int .i32 0),(.int .i32 0),(.int .u8 0),(.int .u8 0),(.int .u8 0),(.int .u8 0),(.int .u8 0),(.int .i32 0),(.int .i32 0),(.int .u8 0),(.int .u8 0),(.int .u8 0),(.int .u8 0),(.int .u8 0),(.int .i32 0),(.int .i32 0),(.int .u8 0),(.int .u8 0),(.int .u8 0),(.int .u8 0),(.int .u8 0),(.int .i32 0),(.int .i32 0),(.int .u8 0),(.int .u8 0),(.int .u8 0),(.int .u8 0),(.int .u8 0),(.int .i32 0),(.int .i32 0),(.int .u8 0),(.int .u8 0),(.int .u8 0),(.int .u8 0),(.int .u8 0),(.int .i32 0),(.int .i32 0),(.int .u8 0),(.int .u8 0),(.int .u8 0),(.int .u8 0),(.int .u8 0),(.int .i32 0),(.int .i32 0),(.int .u8 0),(.int .u8 0),(.int .u8 0),(.int .u8 0),(.int .u8 0),(.int .i32 0),(.int .i32 0),(.int .u8 0),(.int .u8 0),(.int .u8 0),(.int .u8 0),(.int .u8 0),(.int .i32 0),(.int .i32 0),(.int .u8 0),(.int .u8 0),(.int .u8 0),(.int .u8 0),(.int .u8 0),(.int .i32 0),(.int .i32 0),(.int .u8 0),(.int .u8 0),(.int .u8 0),(.int .u8 0),(.int .u8 0),(.int .i32 0),(.int .i32 0),(.int .u8 0),(.int .u8 0),(.int .u8 0),(.int .u8 0),(.int .u8 0),(.int .i32 0),(.int .i32 0),(.int .u8 0),(.int .u8 0),(.int .u8 0),(.int .u8 0),(.int .u8 0),(.int .i32 0),(.int .i32 0),(.int .u8 0),(.int .u8 0),(.int .u8 0),(.int .u8 0),(.int .u8 0),(.int .i32 0),(.int .i32 0),(.int .u8 0),(.int .u8 0),(.int .u8 0),(.int .u8 0),(.int .u8 0),(.int .i32 0),(.int .i32 0),(.int .u8 0),(.int .u8 0),(.int .u8 0),(.int .u8 0),(.int .u8 0),(.int .i32 0),(.int .i32 0),(.int .u8 0),(.int .u8 0),(.int .u8 0),(.int .u8 0),(.int .u8 0),(.int .i32 0),(.int .i32 0),(.int .u8 0),(.int .u8 0),(.int .u8 0),(.int .u8 0),(.int .u8 0),(.int .i32 0),(.int .i32 0),(.int .u8 0),(.int .u8 0),(.int .u8 0),(.int .u8 0),(.int .u8 0),(.int .i32 0),(.int .i32 0),(.int .u8 0),(.int .u8 0),(.int .u8 0),(.int .u8 0),(.int .u8 0),(.int .i32 0),(.int .i32 0),(.int .u8 0),(.int .u8 0),(.int .u8 0),(.int .u8 0),(.int .u8 0),(.int .i32 0),(.int .i32 0),(.int .u8 0),(.int .u8 0),(.int .u8 0),(.int .u8 0),(.int .u8 0),(.int .i32 0),(.int .i32 0),(.int .u8 0),(.int .u8 0),(.int .u8 0),(.int .u8 0),(.int .u8 0),(.int .i32 0),(.int .i32 0),(.int .u8 0),(.int .u8 0),(.int .u8 0),(.int .u8 0),(.int .u8 0),(.int .i32 0),(.int .i32 0),(.int .u8 0),(.int .u8 0),(.int .u8 0),(.int .u8 0),(.int .u8 0),(.int .i32 0),(.int .i32 0),(.int .u8 0),(.int .u8 0),(.int .u8 0),(.int .u8 0),(.int .u8 0),(.int .i32 0),(.int .i32 0),(.int .u8 0),(.int .u8 0),(.int .u8 0),(.int .u8 0),(.int .u8 0),(.int .i32 0),(.int .i32 0),(.int .u8 0),(.int .u8 0),(.int .u8 0),(.int .u8 0),(.int .u8 0),(.int .i32 0),(.int .i32 0),(.int .u8 0),(.int .u8 0),(.int .u8 0),(.int .u8 0),(.int .u8 0),(.int .i32 0),(.int .i32 0),(.int .u8 0),(.int .u8 0),(.int .u8 0),(.int .u8 0),(.int .u8 0)]):=by kernel_rfl
@[simp] theorem ixL130:az prog 130 (.lst xs) (.int k i)=jt 7 xs i:=dD u130 s106
@[simp] theorem lnL130:dt prog 130 (.lst xs)=some (.int .i64 xs.length):=dT u130
@[simp] theorem st131:aW prog cfg h 131 (.ptr b off) v=stv cfg h b off 287 (cellsOf v):=aU (by kernel_rfl)
@[simp] theorem zr131:zeroOf prog 131=some (.agg [(.int .i32 0),(.int .i32 0),(.int .u8 0),(.int .u8 0),(.int .u8 0),(.int .u8 0),(.int .u8 0),(.int .i32 0),(.int .i32 0),(.int .u8 0),(.int .u8 0),(.int .u8 0),(.int .u8 0),(.int .u8 0),(.int .i32 0),(.int .i32 0),(.int .u8 0),(.int .u8 0),(.int .u8 0),(.int .u8 0),(.int .u8 0),(.int .i32 0),(.int .i32 0),(.int .u8 0),(.int .u8 0),(.int .u8 0),(.int .u8 0),(.int .u8 0),(.int .i32 0),(.int .i32 0),(.int .u8 0),(.int .u8 0),(.int .u8 0),(.int .u8 0),(.int .u8 0),(.int .i32 0),(.int .i32 0),(.int .u8 0),(.int .u8 0),(.int .u8 0),(.int .u8 0),(.int .u8 0),(.int .i32 0),(.int .i32 0),(.int .u8 0),(.int .u8 0),(.int .u8 0),(.int .u8 0),(.int .u8 0),(.int .i32 0),(.int .i32 0),(.int .u8 0),(.int .u8 0),(.int .u8 0),(.int .u8 0),(.int .u8 0),(.int .i32 0),(.int .i32 0),(.int .u8 0),(.int .u8 0),(.int .u8 0),(.int .u8 0),(.int .u8 0),(.int .i32 0),(.int .i32 0),(.int .u8 0),(.int .u8 0),(.int .u8 0),(.int .u8 0),(.int .u8 0),(.int .i32 0),(.int .i32 0),(.int .u8 0),(.int .u8 0),(.int .u8 0),(.int .u8 0),(.int .u8 0),(.int .i32 0),(.int .i32 0),(.int .u8 0),(.int .u8 0),(.int .u8 0),(.int .u8 0),(.int .u8 0),(.int .i32 0),(.int .i32 0),(.int .u8 0),(.int .u8 0),(.int .u8 0),(.int .u8 0),(.int .u8 0),(.int .i32 0),(.int .i32 0),(.int .u8 0),(.int .u8 0),(.int .u8 0),(.int .u8 0),(.int .u8 0),(.int .i32 0),(.int .i32 0),(.int .u8 0),(.int .u8 0),(.int .u8 0),(.int .u8 0),(.int .u8 0),(.int .i32 0),(.int .i32 0),(.int .u8 0),(.int .u8 0),(.int .u8 0),(.int .u8 0),(.int .u8 0),(.int .i32 0),(.int .i32 0),(.int .u8 0),(.int .u8 0),(.int .u8 0),(.int .u8 0),(.int .u8 0),(.int .i32 0),(.int .i32 0),(.int .u8 0),(.int .u8 0),(.int .u8 0),(.int .u8 0),(.int .u8 0),(.int .i32 0),(.int .i32 0),(.int .u8 0),(.int .u8 0),(.int .u8 0),(.int .u8 0),(.int .u8 0),(.int .i32 0),(.int .i32 0),(.int .u8 0),(.int .u8 0),(.int .u8 0),(.int .u8 0),(.int .u8 0),(.int .i32 0),(.int .i32 0),(.int .u8 0),(.int .u8 0),(.int .u8 0),(.int .u8 0),(.int .u8 0),(.int .i32 0),(.int .i32 0),(.int .u8 0),(.int .u8 0),(.int .u8 0),(.int .u8 0),(.int .u8 0),(.int .i32 0),(.int .i32 0),(.int .u8 0),(.int .u8 0),(.int .u8 0),(.int .u8 0),(.int .u8 0),(.int .i32 0),(.int .i32 0),(.int .u8 0),(.int .u8 0),(.int .u8 0),(.int .u8 0),(.int .u8 0),(.int .i32 0),(.int .i32 0),(.int .u8 0),(.int .u8 0),(.int .u8 0),(.int .u8 0),(.int .u8 0),(.int .i32 0),(.int .i32 0),(.int .u8 0),(.int .u8 0),(.int .u8 0),(.int .u8 0),(.int .u8 0),(.int .i32 0),(.int .i32 0),(.int .u8 0),(.int .u8 0),(.int .u8 0),(.int .u8 0),(.int .u8 0),(.int .i32 0),(.int .i32 0),(.int .u8 0),(.int .u8 0),(.int .u8 0),(.int .u8 0),(.int .u8 0),(.int .i32 0),(.int .i32 0),(.int .u8 0),(.int .u8 0),(.int .u8 0),(.int .u8 0),(.int .u8 0),(.int .i32 0),(.int .i32 0),(.int .u8 0),(.int .u8 0),(.int .u8 0),(.int .u8 0),(.int .u8 0),(.int .i32 0),(.int .i32 0),(.int .u8 0),(.int .u8 0),(.int .u8 0),(.int .u8 0),(.int .u8 0),(.int .i32 0),(.int .i32 0),(.int .u8 0),(.int .u8 0),(.int .u8 0),(.int .u8 0),(.int .u8 0),(.int .i32 0),(.int .i32 0),(.int .u8 0),(.int .u8 0),(.int .u8 0),(.int .u8 0),(.int .u8 0),(.int .i32 0),(.int .i32 0),(.int .u8 0),(.int .u8 0),(.int .u8 0),(.int .u8 0),(.int .u8 0),(.int .i32 0),(.int .i32 0),(.int .u8 0),(.int .u8 0),(.int .u8 0),(.int .u8 0),(.int .u8 0),(.int .i32 0),(.int .i32 0),(.int .u8 0),(.int .u8 0),(.int .u8 0),(.int .u8 0),(.int .u8 0),(.int .i32 0),(.int .i32 0),(.int .u8 0),(.int .u8 0),(.int .u8 0),(.int .u8 0),(.int .u8 0),(.int .i32 0),(.int .i32 0),(.int .u8 0),(.int .u8 0),(.int .u8 0),(.int .u8 0),(.int .u8 0),(.int .i32 0),(.int .i32 0),(.int .u8 0),(.int .u8 0),(.int .u8 0),(.int .u8 0),(.int .u8 0),(.int .i32 0),(.int .i32 0),(.int .u8 0),(.int .u8 0),(.int .u8 0),(.int .u8 0),(.int .u8 0),(.int .i32 0),(.int .i32 0),(.int .u8 0),(.int .u8 0),(.int .u8 0),(.int .u8 0),(.int .u8 0)]):=by kernel_rfl
@[simp] theorem pt136:part prog 136 cs off=slot cs off:=ck (by kernel_rfl)
@[simp] theorem zr138:zeroOf prog 138=some (.agg [.nils,.nils,.nils,.nils,.nils,(.int .i64 0)]):=by kernel_rfl
@[simp] theorem fa138x0:ag prog 138 (.ptr b off) 0=some (.ptr b off):=by kernel_rfl
@[simp] theorem fa138x1:ag prog 138 (.ptr b off) 1=some (.ptr b (off+1)):=by kernel_rfl
@[simp] theorem fa138x2:ag prog 138 (.ptr b off) 2=some (.ptr b (off+2)):=by kernel_rfl
@[simp] theorem fa138x3:ag prog 138 (.ptr b off) 3=some (.ptr b (off+3)):=by kernel_rfl
@[simp] theorem fa138x4:ag prog 138 (.ptr b off) 4=some (.ptr b (off+4)):=by kernel_rfl
@[simp] theorem fa138x5:ag prog 138 (.ptr b off) 5=some (.ptr b (off+5)):=by kernel_rfl
def nO:Nat→Option (Nat×Nat)
 | 0=>some (0,1)
 | 1=>some (1,1)
 | 2=>some (2,1)
 | 3=>some (3,1)
 | 4=>some (4,1)
 | 5=>some (5,1)
 | _=>none
@[simp] theorem pl138x0:nO 0=some (0,1):=rfl
@[simp] theorem pl138x1:nO 1=some (1,1):=rfl
@[simp] theorem pl138x2:nO 2=some (2,1):=rfl
@[simp] theorem pl138x3:nO 3=some (3,1):=rfl
@[simp] theorem pl138x4:nO 4=some (4,1):=rfl
@[simp] theorem pl138x5:nO 5=some (5,1):=rfl
@[simp] theorem bd138:cq prog 138 ps=(cM nO [.nils,.nils,.nils,.nils,.nils,(.int .i64 0)] ps).map .agg:=cr (pl:=nO) zr138 underlying138 (by kernel_rfl) (fun i=>by match i with|0|1|2|3|4|5=>(show _=_;kernel_rfl)|_+6=>(show _=_;kernel_rfl))
@[simp] theorem ap139:cp prog cfg h 139 139 d x=iB cfg h 4 48 d (bc h 4 x):=dg u139 s142 (by kernel_rfl) (by kernel_rfl) (by decide)
@[simp] theorem bs139:aK prog h 139 len vs=(bk 4 vs).bind fun cs=>if vs.length=len&&decide (len*4≤16777216) then some (.sl h.length 0 len len 4,h++[some cs]) else none:=ba u139 s142 (by kernel_rfl) (by decide)
@[simp] theorem pt142:part prog 142 cs off=if off+4≤cs.length then some (.agg ((cs.drop off).take 4)) else none:=cz (by kernel_rfl) (by kernel_rfl)
@[simp] theorem st142:aW prog cfg h 142 (.ptr b off) v=stv cfg h b off 4 (cellsOf v):=aU (by kernel_rfl)
@[simp] theorem zr142:zeroOf prog 142=some (.agg [.nils,(.int .i64 0),(.int .i64 0),(.int .i64 0)]):=by kernel_rfl
@[simp] theorem fa142x0:ag prog 142 (.ptr b off) 0=some (.ptr b off):=by kernel_rfl
@[simp] theorem fa142x1:ag prog 142 (.ptr b off) 1=some (.ptr b (off+1)):=by kernel_rfl
@[simp] theorem fa142x2:ag prog 142 (.ptr b off) 2=some (.ptr b (off+2)):=by kernel_rfl
@[simp] theorem fa142x3:ag prog 142 (.ptr b off) 3=some (.ptr b (off+3)):=by kernel_rfl
def sy:Nat→Option (Nat×Nat)
 | 0=>some (0,1)
 | 1=>some (1,1)
 | 2=>some (2,1)
 | 3=>some (3,1)
 | _=>none
@[simp] theorem pl142x0:sy 0=some (0,1):=rfl
@[simp] theorem pl142x1:sy 1=some (1,1):=rfl
@[simp] theorem pl142x2:sy 2=some (2,1):=rfl
@[simp] theorem pl142x3:sy 3=some (3,1):=rfl
@[simp] theorem bd142:cq prog 142 ps=(cM sy [.nils,(.int .i64 0),(.int .i64 0),(.int .i64 0)] ps).map .agg:=cr (pl:=sy) zr142 underlying142 (by kernel_rfl) (fun i=>by match i with|0|1|2|3=>(show _=_;kernel_rfl)|_+4=>(show _=_;kernel_rfl))
@[simp] theorem pt147:part prog 147 cs off=if off+5≤cs.length then some (.agg ((cs.drop off).take 5)) else none:=cz (by kernel_rfl) (by kernel_rfl)
@[simp] theorem st147:aW prog cfg h 147 (.ptr b off) v=stv cfg h b off 5 (cellsOf v):=aU (by kernel_rfl)
@[simp] theorem zr147:zeroOf prog 147=some (.agg [(.int .i64 0),(.int .i64 0),(.int .i32 0),(.int .i32 0),(.bool false)]):=by kernel_rfl
@[simp] theorem fa147x1:ag prog 147 (.ptr b off) 1=some (.ptr b (off+1)):=by kernel_rfl
@[simp] theorem fa147x2:ag prog 147 (.ptr b off) 2=some (.ptr b (off+2)):=by kernel_rfl
@[simp] theorem fa147x3:ag prog 147 (.ptr b off) 3=some (.ptr b (off+3)):=by kernel_rfl
@[simp] theorem fa147x4:ag prog 147 (.ptr b off) 4=some (.ptr b (off+4)):=by kernel_rfl
def qq:Nat→Option (Nat×Nat)
 | 0=>some (0,1)
 | 1=>some (1,1)
 | 2=>some (2,1)
 | 3=>some (3,1)
 | 4=>some (4,1)
 | _=>none
@[simp] theorem pl147x0:qq 0=some (0,1):=rfl
@[simp] theorem pl147x1:qq 1=some (1,1):=rfl
@[simp] theorem pl147x2:qq 2=some (2,1):=rfl
@[simp] theorem pl147x3:qq 3=some (3,1):=rfl
@[simp] theorem pl147x4:qq 4=some (4,1):=rfl
@[simp] theorem bd147:cq prog 147 ps=(cM qq [(.int .i64 0),(.int .i64 0),(.int .i32 0),(.int .i32 0),(.bool false)] ps).map .agg:=cr (pl:=qq) zr147 underlying147 (by kernel_rfl) (fun i=>by match i with|0|1|2|3|4=>(show _=_;kernel_rfl)|_+5=>(show _=_;kernel_rfl))
@[simp] theorem pt154:part prog 154 cs off=if off+3≤cs.length then some (.agg ((cs.drop off).take 3)) else none:=cz (by kernel_rfl) (by kernel_rfl)
@[simp] theorem st154:aW prog cfg h 154 (.ptr b off) v=stv cfg h b off 3 (cellsOf v):=aU (by kernel_rfl)
@[simp] theorem zr154:zeroOf prog 154=some (.agg [(.int .i64 0),(.int .i64 0),(.bool false)]):=by kernel_rfl
@[simp] theorem fa154x0:ag prog 154 (.ptr b off) 0=some (.ptr b off):=by kernel_rfl
@[simp] theorem fa154x1:ag prog 154 (.ptr b off) 1=some (.ptr b (off+1)):=by kernel_rfl
@[simp] theorem fa154x2:ag prog 154 (.ptr b off) 2=some (.ptr b (off+2)):=by kernel_rfl
def wh:Nat→Option (Nat×Nat)
 | 0=>some (0,1)
 | 1=>some (1,1)
 | 2=>some (2,1)
 | _=>none
@[simp] theorem pl154x0:wh 0=some (0,1):=rfl
@[simp] theorem pl154x1:wh 1=some (1,1):=rfl
@[simp] theorem pl154x2:wh 2=some (2,1):=rfl
@[simp] theorem bd154:cq prog 154 ps=(cM wh [(.int .i64 0),(.int .i64 0),(.bool false)] ps).map .agg:=cr (pl:=wh) zr154 underlying154 (by kernel_rfl) (fun i=>by match i with|0|1|2=>(show _=_;kernel_rfl)|_+3=>(show _=_;kernel_rfl))
@[simp] theorem pt155:part prog 155 cs off=slot cs off:=ck (by kernel_rfl)
@[simp] theorem st155:aW prog cfg h 155 (.ptr b off) v=stv cfg h b off 1 (cellsOf v):=aU (by kernel_rfl)
@[simp] theorem zr155:zeroOf prog 155=some .nils:=by kernel_rfl
@[simp] theorem ixS155:az prog 155 (.sl b off len cap c) (.int k i)=lO 3 b off len c i:=fq D5 s154
@[simp] theorem slS155{b off len cap k:Nat}:dp prog h 155 (.sl b off len cap k) lo hi=wK 3 b off len cap k (cg 0 lo) (cg len hi):=tX D5 s154
@[simp] theorem lnS155{b off len cap k:Nat}:dt prog 155 (.sl b off len cap k)=some (.int .i64 len):=gB D5
@[simp] theorem ap155:cp prog cfg h 155 155 d x=iB cfg h 3 24 d (bc h 3 x):=dg D5 s154 (by kernel_rfl) (by kernel_rfl) (by decide)
@[simp] theorem bs155:aK prog h 155 len vs=(bk 3 vs).bind fun cs=>if vs.length=len&&decide (len*3≤16777216) then some (.sl h.length 0 len len 3,h++[some cs]) else none:=ba D5 s154 (by kernel_rfl) (by decide)
@[simp] theorem ixS157:az prog 157 (.sl b off len cap c) (.int k i)=lO 1 b off len c i:=fq u157 s22
@[simp] theorem lnS157{b off len cap k:Nat}:dt prog 157 (.sl b off len cap k)=some (.int .i64 len):=gB u157
@[simp] theorem ap157:cp prog cfg h 157 157 d x=iB cfg h 1 24 d (bc h 1 x):=dg u157 s22 (by kernel_rfl) (by kernel_rfl) (by decide)
@[simp] theorem bs157:aK prog h 157 len vs=(bk 1 vs).bind fun cs=>if vs.length=len&&decide (len*1≤16777216) then some (.sl h.length 0 len len 1,h++[some cs]) else none:=ba u157 s22 (by kernel_rfl) (by decide)
@[simp] theorem ixL166:az prog 166 (.lst xs) (.int k i)=jt 2 xs i:=dD u166 s184
@[simp] theorem lnL166:dt prog 166 (.lst xs)=some (.int .i64 xs.length):=dT u166
@[simp] theorem pt169:part prog 169 cs off=if off+5≤cs.length then some (.agg ((cs.drop off).take 5)) else none:=cz (by kernel_rfl) (by kernel_rfl)
@[simp] theorem st169:aW prog cfg h 169 (.ptr b off) v=stv cfg h b off 5 (cellsOf v):=aU (by kernel_rfl)
@[simp] theorem zr169:zeroOf prog 169=some (.agg [(.int .i32 0),(.int .i32 0),(.int .i64 0),(.int .i64 0),(.bool false)]):=by kernel_rfl
@[simp] theorem fa169x0:ag prog 169 (.ptr b off) 0=some (.ptr b off):=by kernel_rfl
@[simp] theorem fa169x1:ag prog 169 (.ptr b off) 1=some (.ptr b (off+4)):=by kernel_rfl
@[simp] theorem ixS171:az prog 171 (.sl b off len cap c) (.int k i)=lO 1 b off len c i:=fq u171 s38
@[simp] theorem lnS171{b off len cap k:Nat}:dt prog 171 (.sl b off len cap k)=some (.int .i64 len):=gB u171
@[simp] theorem ap171:cp prog cfg h 171 171 d x=iB cfg h 1 24 d (bc h 1 x):=dg u171 s38 (by kernel_rfl) (by kernel_rfl) (by decide)
@[simp] theorem bs171:aK prog h 171 len vs=(bk 1 vs).bind fun cs=>if vs.length=len&&decide (len*1≤16777216) then some (.sl h.length 0 len len 1,h++[some cs]) else none:=ba u171 s38 (by kernel_rfl) (by decide)
@[simp] theorem ixS175:az prog 175 (.sl b off len cap c) (.int k i)=lO 2 b off len c i:=fq u175 s179
@[simp] theorem slS175{b off len cap k:Nat}:dp prog h 175 (.sl b off len cap k) lo hi=wK 2 b off len cap k (cg 0 lo) (cg len hi):=tX u175 s179
@[simp] theorem ap175:cp prog cfg h 175 175 d x=iB cfg h 2 16 d (bc h 2 x):=dg u175 s179 (by kernel_rfl) (by kernel_rfl) (by decide)
@[simp] theorem bs175:aK prog h 175 len vs=(bk 2 vs).bind fun cs=>if vs.length=len&&decide (len*2≤16777216) then some (.sl h.length 0 len len 2,h++[some cs]) else none:=ba u175 s179 (by kernel_rfl) (by decide)
@[simp] theorem zr179:zeroOf prog 179=some (.agg [(.int .i32 0),(.int .i64 0)]):=by kernel_rfl
@[simp] theorem fa179x0:ag prog 179 (.ptr b off) 0=some (.ptr b off):=by kernel_rfl
@[simp] theorem fa179x1:ag prog 179 (.ptr b off) 1=some (.ptr b (off+1)):=by kernel_rfl
def zH:Nat→Option (Nat×Nat)
 | 0=>some (0,1)
 | 1=>some (1,1)
 | _=>none
@[simp] theorem pl179x0:zH 0=some (0,1):=rfl
@[simp] theorem pl179x1:zH 1=some (1,1):=rfl
@[simp] theorem bd179:cq prog 179 ps=(cM zH [(.int .i32 0),(.int .i64 0)] ps).map .agg:=cr (pl:=zH) zr179 underlying179 (by kernel_rfl) (fun i=>by match i with|0|1=>(show _=_;kernel_rfl)|_+2=>(show _=_;kernel_rfl))
@[simp] theorem pt184:part prog 184 cs off=if off+2≤cs.length then some (.agg ((cs.drop off).take 2)) else none:=cz (by kernel_rfl) (by kernel_rfl)
@[simp] theorem st184:aW prog cfg h 184 (.ptr b off) v=stv cfg h b off 2 (cellsOf v):=aU (by kernel_rfl)
@[simp] theorem zr184:zeroOf prog 184=some (.agg [(.int .i32 0),(.int .i32 0)]):=by kernel_rfl
@[simp] theorem ixA184:az prog 184 (.ptr b off) (.int k i)=if 0≤i then (if i.toNat<2 then some (.ptr b (off+i.toNat*1)) else none) else none:=zg u184 s21
end
end Go.Ab.Tryz
