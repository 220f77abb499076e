/- Facts on the types of the seat's program, each by the kernel. Printed by wip/tools/Facts.lean. -/
import Derived.Test.YtldfgkjmficliaaGreatAbW3
import Derived.Test.YtldfgkjmficliaaGreatProg
import Derived.KernelRfl
set_option linter.all false
namespace Go.Ab.Tryz
open Go.Proofs Go.Proofs.Tryz
section
variable {cfg:Cfg}{h:Heap}{cs vs:List V}{b c cap len off:Nat}{d v x:V}{a:Bool}{xs:List (List V)}{k:IntKind}{i m n:Int}{hi lo:Option (Option V)}{ps:List (Nat×V)}
theorem u22:prog.underlying 22=some (.slice 3):=by kernel_rfl
theorem u23:prog.underlying 23=some (.slice 21):=by kernel_rfl
theorem u25:prog.underlying 25=some (.slice 152):=by kernel_rfl
theorem u26:prog.underlying 26=some (.slice 154):=by kernel_rfl
theorem u27:prog.underlying 27=some (.slice 156):=by kernel_rfl
theorem u30:prog.underlying 30=some (.slice 29):=by kernel_rfl
theorem u31:prog.underlying 31=some (.slice 41):=by kernel_rfl
theorem u35:prog.underlying 35=some (.slice 79):=by kernel_rfl
theorem u39:prog.underlying 39=some (.slice 97):=by kernel_rfl
theorem u47:prog.underlying 47=some (.slice 53):=by kernel_rfl
theorem u66:prog.underlying 66=some (.slice 4):=by kernel_rfl
theorem u71:prog.underlying 71=some (.slice 75):=by kernel_rfl
theorem u91:prog.underlying 91=some (.slice 93):=by kernel_rfl
theorem yG:prog.underlying 144=some (.slice 145):=by kernel_rfl
theorem u145:prog.underlying 145=some (.array 2 3):=by kernel_rfl
theorem u162:prog.underlying 162=some (.slice 165):=by kernel_rfl
theorem Ei:prog.underlying 189=some (.slice 188):=by kernel_rfl
theorem u191:prog.underlying 191=some (.slice 22):=by kernel_rfl
theorem u200:prog.underlying 200=some (.slice 176):=by kernel_rfl
theorem u207:prog.underlying 207=some (.slice 224):=by kernel_rfl
theorem u212:prog.underlying 212=some (.slice 39):=by kernel_rfl
theorem u215:prog.underlying 215=some (.slice 219):=by kernel_rfl
theorem u224:prog.underlying 224=some (.array 2 21):=by kernel_rfl
theorem s3:cz prog 3=some 1:=by kernel_rfl
theorem s21:cz prog 21=some 1:=by kernel_rfl
theorem s152:cz prog 152=some 3:=by kernel_rfl
theorem s154:cz prog 154=some 3:=by kernel_rfl
theorem s156:cz prog 156=some 4:=by kernel_rfl
theorem s29:cz prog 29=some 8:=by kernel_rfl
theorem s41:cz prog 41=some 10:=by kernel_rfl
theorem s79:cz prog 79=some 4:=by kernel_rfl
theorem s97:cz prog 97=some 8:=by kernel_rfl
theorem s53:cz prog 53=some 5:=by kernel_rfl
theorem s4:cz prog 4=some 1:=by kernel_rfl
theorem s75:cz prog 75=some 4:=by kernel_rfl
theorem s93:cz prog 93=some 4:=by kernel_rfl
theorem s145:cz prog 145=some 2:=by kernel_rfl
theorem s165:cz prog 165=some 4:=by kernel_rfl
theorem s188:cz prog 188=some 3:=by kernel_rfl
theorem s22:cz prog 22=some 1:=by kernel_rfl
theorem s176:cz prog 176=some 7:=by kernel_rfl
theorem s224:cz prog 224=some 2:=by kernel_rfl
theorem s39:cz prog 39=some 1:=by kernel_rfl
theorem s219:cz prog 219=some 2:=by kernel_rfl
@[simp] theorem pt3:part prog 3 cs off=slot cs off:=bM (by kernel_rfl)
@[simp] theorem st3:aQ prog cfg h 3 (.ptr b off) v=stv cfg h b off 1 (cellsOf v):=aR (by kernel_rfl)
@[simp] theorem zr3:zeroOf prog 3=some (.int .i64 0):=by kernel_rfl
@[simp] theorem pt4:part prog 4 cs off=slot cs off:=bM (by kernel_rfl)
@[simp] theorem st4:aQ prog cfg h 4 (.ptr b off) v=stv cfg h b off 1 (cellsOf v):=aR (by kernel_rfl)
@[simp] theorem eq4{a b:Bool}:eqV prog 4 (.bool a) (.bool b)=some (a==b):=AN (by kernel_rfl)
@[simp] theorem pt5:part prog 5 cs off=slot cs off:=bM (by kernel_rfl)
@[simp] theorem pt21:part prog 21 cs off=slot cs off:=bM (by kernel_rfl)
@[simp] theorem pt22:part prog 22 cs off=slot cs off:=bM (by kernel_rfl)
@[simp] theorem st22:aQ prog cfg h 22 (.ptr b off) v=stv cfg h b off 1 (cellsOf v):=aR (by kernel_rfl)
@[simp] theorem zr22:zeroOf prog 22=some .nils:=by kernel_rfl
@[simp] theorem ixL22:ay prog 22 (.lst xs) (.int k i)=jo 1 xs i:=dC u22 s3
@[simp] theorem ixS22:ay prog 22 (.sl b off len cap c) (.int k i)=lA 1 b off len c i:=eP u22 s3
@[simp] theorem slL22:dz prog h 22 (.lst xs) lo hi=yr 1 xs (bZ 0 lo) (bZ xs.length hi):=zX u22 s3
@[simp] theorem slS22{b off len cap k:Nat}:dz prog h 22 (.sl b off len cap k) lo hi=wJ 1 b off len cap k (bZ 0 lo) (bZ len hi):=uc u22 s3
@[simp] theorem lnL22:dy prog 22 (.lst xs)=some (.int .i64 xs.length):=dJ u22
@[simp] theorem lnS22{b off len cap k:Nat}:dy prog 22 (.sl b off len cap k)=some (.int .i64 len):=gL u22
@[simp] theorem ap22:cb prog cfg h 22 22 d x=gX cfg h 1 8 d (aZ h 1 x):=dg u22 s3 (by kernel_rfl) (by kernel_rfl) (by decide)
@[simp] theorem bs22:aI prog h 22 len vs=(bf 1 vs).bind fun cs=>if vs.length=len&&decide (len*1<=16777216) then some (.sl h.length 0 len len 1,h++[some cs]) else none:=aY u22 s3 (by kernel_rfl) (by decide)
@[simp] theorem mk22:cE prog h 22 (.int .i64 n) (.int .i64 m)=mkS h 1 8 [(.int .i64 0)] n m:=ya u22 s3 (by kernel_rfl) (show zeroOf prog 3=some (.int .i64 0) by kernel_rfl) rfl (by decide) (by decide)
@[simp] theorem pt23:part prog 23 cs off=slot cs off:=bM (by kernel_rfl)
@[simp] theorem st23:aQ prog cfg h 23 (.ptr b off) v=stv cfg h b off 1 (cellsOf v):=aR (by kernel_rfl)
@[simp] theorem ixL23:ay prog 23 (.lst xs) (.int k i)=jo 1 xs i:=dC u23 s21
@[simp] theorem ixS23:ay prog 23 (.sl b off len cap c) (.int k i)=lA 1 b off len c i:=eP u23 s21
@[simp] theorem slL23:dz prog h 23 (.lst xs) lo hi=yr 1 xs (bZ 0 lo) (bZ xs.length hi):=zX u23 s21
@[simp] theorem lnL23:dy prog 23 (.lst xs)=some (.int .i64 xs.length):=dJ u23
@[simp] theorem ap23:cb prog cfg h 23 23 d x=gX cfg h 1 4 d (aZ h 1 x):=dg u23 s21 (by kernel_rfl) (by kernel_rfl) (by decide)
@[simp] theorem bs23:aI prog h 23 len vs=(bf 1 vs).bind fun cs=>if vs.length=len&&decide (len*1<=16777216) then some (.sl h.length 0 len len 1,h++[some cs]) else none:=aY u23 s21 (by kernel_rfl) (by decide)
@[simp] theorem pt25:part prog 25 cs off=slot cs off:=bM (by kernel_rfl)
@[simp] theorem st25:aQ prog cfg h 25 (.ptr b off) v=stv cfg h b off 1 (cellsOf v):=aR (by kernel_rfl)
@[simp] theorem ixL25:ay prog 25 (.lst xs) (.int k i)=jo 3 xs i:=dC u25 s152
@[simp] theorem lnL25:dy prog 25 (.lst xs)=some (.int .i64 xs.length):=dJ u25
@[simp] theorem ap25:cb prog cfg h 25 25 d x=gX cfg h 3 16 d (aZ h 3 x):=dg u25 s152 (by kernel_rfl) (by kernel_rfl) (by decide)
@[simp] theorem bs25:aI prog h 25 len vs=(bf 3 vs).bind fun cs=>if vs.length=len&&decide (len*3<=16777216) then some (.sl h.length 0 len len 3,h++[some cs]) else none:=aY u25 s152 (by kernel_rfl) (by decide)
@[simp] theorem pt26:part prog 26 cs off=slot cs off:=bM (by kernel_rfl)
@[simp] theorem st26:aQ prog cfg h 26 (.ptr b off) v=stv cfg h b off 1 (cellsOf v):=aR (by kernel_rfl)
@[simp] theorem ixL26:ay prog 26 (.lst xs) (.int k i)=jo 3 xs i:=dC u26 s154
@[simp] theorem lnL26:dy prog 26 (.lst xs)=some (.int .i64 xs.length):=dJ u26
@[simp] theorem ap26:cb prog cfg h 26 26 d x=gX cfg h 3 16 d (aZ h 3 x):=dg u26 s154 (by kernel_rfl) (by kernel_rfl) (by decide)
@[simp] theorem bs26:aI prog h 26 len vs=(bf 3 vs).bind fun cs=>if vs.length=len&&decide (len*3<=16777216) then some (.sl h.length 0 len len 3,h++[some cs]) else none:=aY u26 s154 (by kernel_rfl) (by decide)
@[simp] theorem pt27:part prog 27 cs off=slot cs off:=bM (by kernel_rfl)
@[simp] theorem st27:aQ prog cfg h 27 (.ptr b off) v=stv cfg h b off 1 (cellsOf v):=aR (by kernel_rfl)
@[simp] theorem ixL27:ay prog 27 (.lst xs) (.int k i)=jo 4 xs i:=dC u27 s156
@[simp] theorem lnL27:dy prog 27 (.lst xs)=some (.int .i64 xs.length):=dJ u27
@[simp] theorem ap27:cb prog cfg h 27 27 d x=gX cfg h 4 24 d (aZ h 4 x):=dg u27 s156 (by kernel_rfl) (by kernel_rfl) (by decide)
@[simp] theorem bs27:aI prog h 27 len vs=(bf 4 vs).bind fun cs=>if vs.length=len&&decide (len*4<=16777216) then some (.sl h.length 0 len len 4,h++[some cs]) else none:=aY u27 s156 (by kernel_rfl) (by decide)
@[simp] theorem pt29:part prog 29 cs off=if off+8<=cs.length then some (.agg ((cs.drop off).take 8)) else none:=cj (by kernel_rfl) (by kernel_rfl)
@[simp] theorem st29:aQ prog cfg h 29 (.ptr b off) v=stv cfg h b off 8 (cellsOf v):=aR (by kernel_rfl)
@[simp] theorem zr29:zeroOf prog 29=some (.agg [(.int .i64 0),(.int .i64 0),(.int .i64 0),(.int .i64 0),(.int .i64 0),.nils,.nils,.nils]):=by kernel_rfl
@[simp] theorem fa29x0:ag prog 29 (.ptr b off) 0=some (.ptr b off):=by kernel_rfl
@[simp] theorem fa29x1:ag prog 29 (.ptr b off) 1=some (.ptr b (off+1)):=by kernel_rfl
@[simp] theorem fa29x2:ag prog 29 (.ptr b off) 2=some (.ptr b (off+2)):=by kernel_rfl
@[simp] theorem fa29x3:ag prog 29 (.ptr b off) 3=some (.ptr b (off+3)):=by kernel_rfl
@[simp] theorem fa29x4:ag prog 29 (.ptr b off) 4=some (.ptr b (off+4)):=by kernel_rfl
@[simp] theorem fa29x5:ag prog 29 (.ptr b off) 5=some (.ptr b (off+5)):=by kernel_rfl
@[simp] theorem fa29x6:ag prog 29 (.ptr b off) 6=some (.ptr b (off+6)):=by kernel_rfl
@[simp] theorem fa29x7:ag prog 29 (.ptr b off) 7=some (.ptr b (off+7)):=by kernel_rfl
def rH:Nat->Option (Nat×Nat)
 | 0=>some (0,1)
 | 1=>some (1,1)
 | 2=>some (2,1)
 | 3=>some (3,1)
 | 4=>some (4,1)
 | 5=>some (5,1)
 | 6=>some (6,1)
 | 7=>some (7,1)
 | _=>none
@[simp] theorem pl29x0:rH 0=some (0,1):=rfl
@[simp] theorem pl29x1:rH 1=some (1,1):=rfl
@[simp] theorem pl29x2:rH 2=some (2,1):=rfl
@[simp] theorem pl29x3:rH 3=some (3,1):=rfl
@[simp] theorem pl29x4:rH 4=some (4,1):=rfl
@[simp] theorem pl29x5:rH 5=some (5,1):=rfl
@[simp] theorem pl29x6:rH 6=some (6,1):=rfl
@[simp] theorem pl29x7:rH 7=some (7,1):=rfl
@[simp] theorem bd29:cp prog 29 ps=(cI rH [(.int .i64 0),(.int .i64 0),(.int .i64 0),(.int .i64 0),(.int .i64 0),.nils,.nils,.nils] ps).map .agg:=bU (pl:=rH) zr29 underlying29 (by kernel_rfl) (fun i=>by match i with|0|1|2|3|4|5|6|7=>(show _=_;kernel_rfl)|_+8=>(show _=_;kernel_rfl))
@[simp] theorem pt30:part prog 30 cs off=slot cs off:=bM (by kernel_rfl)
@[simp] theorem ixL30:ay prog 30 (.lst xs) (.int k i)=jo 8 xs i:=dC u30 s29
@[simp] theorem lnL30:dy prog 30 (.lst xs)=some (.int .i64 xs.length):=dJ u30
@[simp] theorem ap30:cb prog cfg h 30 30 d x=gX cfg h 8 112 d (aZ h 8 x):=dg u30 s29 (by kernel_rfl) (by kernel_rfl) (by decide)
@[simp] theorem bs30:aI prog h 30 len vs=(bf 8 vs).bind fun cs=>if vs.length=len&&decide (len*8<=16777216) then some (.sl h.length 0 len len 8,h++[some cs]) else none:=aY u30 s29 (by kernel_rfl) (by decide)
@[simp] theorem pt31:part prog 31 cs off=slot cs off:=bM (by kernel_rfl)
@[simp] theorem ixL31:ay prog 31 (.lst xs) (.int k i)=jo 10 xs i:=dC u31 s41
@[simp] theorem lnL31:dy prog 31 (.lst xs)=some (.int .i64 xs.length):=dJ u31
@[simp] theorem ap31:cb prog cfg h 31 31 d x=gX cfg h 10 96 d (aZ h 10 x):=dg u31 s41 (by kernel_rfl) (by kernel_rfl) (by decide)
@[simp] theorem bs31:aI prog h 31 len vs=(bf 10 vs).bind fun cs=>if vs.length=len&&decide (len*10<=16777216) then some (.sl h.length 0 len len 10,h++[some cs]) else none:=aY u31 s41 (by kernel_rfl) (by decide)
@[simp] theorem pt35:part prog 35 cs off=slot cs off:=bM (by kernel_rfl)
@[simp] theorem st35:aQ prog cfg h 35 (.ptr b off) v=stv cfg h b off 1 (cellsOf v):=aR (by kernel_rfl)
@[simp] theorem ixL35:ay prog 35 (.lst xs) (.int k i)=jo 4 xs i:=dC u35 s79
@[simp] theorem lnL35:dy prog 35 (.lst xs)=some (.int .i64 xs.length):=dJ u35
@[simp] theorem ap35:cb prog cfg h 35 35 d x=gX cfg h 4 32 d (aZ h 4 x):=dg u35 s79 (by kernel_rfl) (by kernel_rfl) (by decide)
@[simp] theorem bs35:aI prog h 35 len vs=(bf 4 vs).bind fun cs=>if vs.length=len&&decide (len*4<=16777216) then some (.sl h.length 0 len len 4,h++[some cs]) else none:=aY u35 s79 (by kernel_rfl) (by decide)
@[simp] theorem pt37:part prog 37 cs off=if off+5<=cs.length then some (.agg ((cs.drop off).take 5)) else none:=cj (by kernel_rfl) (by kernel_rfl)
@[simp] theorem st37:aQ prog cfg h 37 (.ptr b off) v=stv cfg h b off 5 (cellsOf v):=aR (by kernel_rfl)
@[simp] theorem zr37:zeroOf prog 37=some (.agg [.nils,.nils,(.int .i64 0),(.int .i64 0),(.int .i64 0)]):=by kernel_rfl
@[simp] theorem fa37x0:ag prog 37 (.ptr b off) 0=some (.ptr b off):=by kernel_rfl
@[simp] theorem fa37x1:ag prog 37 (.ptr b off) 1=some (.ptr b (off+1)):=by kernel_rfl
@[simp] theorem fa37x2:ag prog 37 (.ptr b off) 2=some (.ptr b (off+2)):=by kernel_rfl
@[simp] theorem fa37x3:ag prog 37 (.ptr b off) 3=some (.ptr b (off+3)):=by kernel_rfl
@[simp] theorem fa37x4:ag prog 37 (.ptr b off) 4=some (.ptr b (off+4)):=by kernel_rfl
def yh:Nat->Option (Nat×Nat)
 | 0=>some (0,1)
 | 1=>some (1,1)
 | 2=>some (2,1)
 | 3=>some (3,1)
 | 4=>some (4,1)
 | _=>none
@[simp] theorem pl37x0:yh 0=some (0,1):=rfl
@[simp] theorem pl37x1:yh 1=some (1,1):=rfl
@[simp] theorem pl37x2:yh 2=some (2,1):=rfl
@[simp] theorem pl37x3:yh 3=some (3,1):=rfl
@[simp] theorem pl37x4:yh 4=some (4,1):=rfl
@[simp] theorem bd37:cp prog 37 ps=(cI yh [.nils,.nils,(.int .i64 0),(.int .i64 0),(.int .i64 0)] ps).map .agg:=bU (pl:=yh) zr37 underlying37 (by kernel_rfl) (fun i=>by match i with|0|1|2|3|4=>(show _=_;kernel_rfl)|_+5=>(show _=_;kernel_rfl))
@[simp] theorem pt39:part prog 39 cs off=slot cs off:=bM (by kernel_rfl)
@[simp] theorem st39:aQ prog cfg h 39 (.ptr b off) v=stv cfg h b off 1 (cellsOf v):=aR (by kernel_rfl)
@[simp] theorem ixL39:ay prog 39 (.lst xs) (.int k i)=jo 8 xs i:=dC u39 s97
@[simp] theorem ixS39:ay prog 39 (.sl b off len cap c) (.int k i)=lA 8 b off len c i:=eP u39 s97
@[simp] theorem lnL39:dy prog 39 (.lst xs)=some (.int .i64 xs.length):=dJ u39
@[simp] theorem lnN39:dy prog 39 .nils=some (.int .i64 0):=ml u39
@[simp] theorem ap39:cb prog cfg h 39 39 d x=gX cfg h 8 64 d (aZ h 8 x):=dg u39 s97 (by kernel_rfl) (by kernel_rfl) (by decide)
@[simp] theorem bs39:aI prog h 39 len vs=(bf 8 vs).bind fun cs=>if vs.length=len&&decide (len*8<=16777216) then some (.sl h.length 0 len len 8,h++[some cs]) else none:=aY u39 s97 (by kernel_rfl) (by decide)
@[simp] theorem pt41:part prog 41 cs off=if off+10<=cs.length then some (.agg ((cs.drop off).take 10)) else none:=cj (by kernel_rfl) (by kernel_rfl)
@[simp] theorem st41:aQ prog cfg h 41 (.ptr b off) v=stv cfg h b off 10 (cellsOf v):=aR (by kernel_rfl)
@[simp] theorem zr41:zeroOf prog 41=some (.agg [(.int .i64 0),(.int .i64 0),(.int .i64 0),(.int .i64 0),(.int .i64 0),(.int .i64 0),(.int .i64 0),(.int .i64 0),(.int .i64 0),.nils]):=by kernel_rfl
@[simp] theorem fa41x0:ag prog 41 (.ptr b off) 0=some (.ptr b off):=by kernel_rfl
@[simp] theorem fl41x0:ag prog 41 (.lptr cs off) 0=some (.lptr cs off):=by kernel_rfl
@[simp] theorem fa41x1:ag prog 41 (.ptr b off) 1=some (.ptr b (off+1)):=by kernel_rfl
@[simp] theorem fl41x2:ag prog 41 (.lptr cs off) 2=some (.lptr cs (off+2)):=by kernel_rfl
@[simp] theorem fa41x3:ag prog 41 (.ptr b off) 3=some (.ptr b (off+3)):=by kernel_rfl
@[simp] theorem fl41x3:ag prog 41 (.lptr cs off) 3=some (.lptr cs (off+3)):=by kernel_rfl
@[simp] theorem fa41x4:ag prog 41 (.ptr b off) 4=some (.ptr b (off+4)):=by kernel_rfl
@[simp] theorem fl41x4:ag prog 41 (.lptr cs off) 4=some (.lptr cs (off+4)):=by kernel_rfl
@[simp] theorem fa41x5:ag prog 41 (.ptr b off) 5=some (.ptr b (off+5)):=by kernel_rfl
@[simp] theorem fl41x5:ag prog 41 (.lptr cs off) 5=some (.lptr cs (off+5)):=by kernel_rfl
@[simp] theorem fa41x6:ag prog 41 (.ptr b off) 6=some (.ptr b (off+6)):=by kernel_rfl
@[simp] theorem fa41x7:ag prog 41 (.ptr b off) 7=some (.ptr b (off+7)):=by kernel_rfl
@[simp] theorem fa41x8:ag prog 41 (.ptr b off) 8=some (.ptr b (off+8)):=by kernel_rfl
@[simp] theorem fa41x9:ag prog 41 (.ptr b off) 9=some (.ptr b (off+9)):=by kernel_rfl
def oI:Nat->Option (Nat×Nat)
 | 0=>some (0,1)
 | 1=>some (1,1)
 | 2=>some (2,1)
 | 3=>some (3,1)
 | 4=>some (4,1)
 | 5=>some (5,1)
 | 6=>some (6,1)
 | 7=>some (7,1)
 | 8=>some (8,1)
 | 9=>some (9,1)
 | _=>none
@[simp] theorem pl41x0:oI 0=some (0,1):=rfl
@[simp] theorem pl41x1:oI 1=some (1,1):=rfl
@[simp] theorem pl41x2:oI 2=some (2,1):=rfl
@[simp] theorem pl41x3:oI 3=some (3,1):=rfl
@[simp] theorem pl41x4:oI 4=some (4,1):=rfl
@[simp] theorem pl41x5:oI 5=some (5,1):=rfl
@[simp] theorem pl41x6:oI 6=some (6,1):=rfl
@[simp] theorem pl41x7:oI 7=some (7,1):=rfl
@[simp] theorem pl41x8:oI 8=some (8,1):=rfl
@[simp] theorem pl41x9:oI 9=some (9,1):=rfl
@[simp] theorem bd41:cp prog 41 ps=(cI oI [(.int .i64 0),(.int .i64 0),(.int .i64 0),(.int .i64 0),(.int .i64 0),(.int .i64 0),(.int .i64 0),(.int .i64 0),(.int .i64 0),.nils] ps).map .agg:=bU (pl:=oI) zr41 underlying41 (by kernel_rfl) (fun i=>by match i with|0|1|2|3|4|5|6|7|8|9=>(show _=_;kernel_rfl)|_+10=>(show _=_;kernel_rfl))
@[simp] theorem pt47:part prog 47 cs off=slot cs off:=bM (by kernel_rfl)
@[simp] theorem ixL47:ay prog 47 (.lst xs) (.int k i)=jo 5 xs i:=dC u47 s53
@[simp] theorem lnL47:dy prog 47 (.lst xs)=some (.int .i64 xs.length):=dJ u47
@[simp] theorem ap47:cb prog cfg h 47 47 d x=gX cfg h 5 40 d (aZ h 5 x):=dg u47 s53 (by kernel_rfl) (by kernel_rfl) (by decide)
@[simp] theorem bs47:aI prog h 47 len vs=(bf 5 vs).bind fun cs=>if vs.length=len&&decide (len*5<=16777216) then some (.sl h.length 0 len len 5,h++[some cs]) else none:=aY u47 s53 (by kernel_rfl) (by decide)
@[simp] theorem pt50:part prog 50 cs off=if off+2<=cs.length then some (.agg ((cs.drop off).take 2)) else none:=cj (by kernel_rfl) (by kernel_rfl)
@[simp] theorem st50:aQ prog cfg h 50 (.ptr b off) v=stv cfg h b off 2 (cellsOf v):=aR (by kernel_rfl)
@[simp] theorem zr50:zeroOf prog 50=some (.agg [(.int .i64 0),(.bool false)]):=by kernel_rfl
@[simp] theorem fa50x0:ag prog 50 (.ptr b off) 0=some (.ptr b off):=by kernel_rfl
@[simp] theorem fa50x1:ag prog 50 (.ptr b off) 1=some (.ptr b (off+1)):=by kernel_rfl
def pl50:Nat->Option (Nat×Nat)
 | 0=>some (0,1)
 | 1=>some (1,1)
 | _=>none
@[simp] theorem pl50x0:pl50 0=some (0,1):=rfl
@[simp] theorem pl50x1:pl50 1=some (1,1):=rfl
@[simp] theorem bd50:cp prog 50 ps=(cI pl50 [(.int .i64 0),(.bool false)] ps).map .agg:=bU (pl:=pl50) zr50 underlying50 (by kernel_rfl) (fun i=>by match i with|0|1=>(show _=_;kernel_rfl)|_+2=>(show _=_;kernel_rfl))
@[simp] theorem pt53:part prog 53 cs off=if off+5<=cs.length then some (.agg ((cs.drop off).take 5)) else none:=cj (by kernel_rfl) (by kernel_rfl)
@[simp] theorem st53:aQ prog cfg h 53 (.ptr b off) v=stv cfg h b off 5 (cellsOf v):=aR (by kernel_rfl)
@[simp] theorem zr53:zeroOf prog 53=some (.agg [(.int .i64 0),(.int .i64 0),(.int .i64 0),(.int .i64 0),(.int .i64 0)]):=by kernel_rfl
@[simp] theorem fa53x0:ag prog 53 (.ptr b off) 0=some (.ptr b off):=by kernel_rfl
@[simp] theorem fa53x1:ag prog 53 (.ptr b off) 1=some (.ptr b (off+1)):=by kernel_rfl
@[simp] theorem fa53x2:ag prog 53 (.ptr b off) 2=some (.ptr b (off+2)):=by kernel_rfl
@[simp] theorem fa53x3:ag prog 53 (.ptr b off) 3=some (.ptr b (off+3)):=by kernel_rfl
@[simp] theorem fa53x4:ag prog 53 (.ptr b off) 4=some (.ptr b (off+4)):=by kernel_rfl
def yi:Nat->Option (Nat×Nat)
 | 0=>some (0,1)
 | 1=>some (1,1)
 | 2=>some (2,1)
 | 3=>some (3,1)
 | 4=>some (4,1)
 | _=>none
@[simp] theorem pl53x0:yi 0=some (0,1):=rfl
@[simp] theorem pl53x1:yi 1=some (1,1):=rfl
@[simp] theorem pl53x2:yi 2=some (2,1):=rfl
@[simp] theorem pl53x3:yi 3=some (3,1):=rfl
@[simp] theorem pl53x4:yi 4=some (4,1):=rfl
@[simp] theorem bd53:cp prog 53 ps=(cI yi [(.int .i64 0),(.int .i64 0),(.int .i64 0),(.int .i64 0),(.int .i64 0)] ps).map .agg:=bU (pl:=yi) zr53 underlying53 (by kernel_rfl) (fun i=>by match i with|0|1|2|3|4=>(show _=_;kernel_rfl)|_+5=>(show _=_;kernel_rfl))
@[simp] theorem pt66:part prog 66 cs off=slot cs off:=bM (by kernel_rfl)
@[simp] theorem ixL66:ay prog 66 (.lst xs) (.int k i)=jo 1 xs i:=dC u66 s4
@[simp] theorem ixS66:ay prog 66 (.sl b off len cap c) (.int k i)=lA 1 b off len c i:=eP u66 s4
@[simp] theorem mk66:cE prog h 66 (.int .i64 n) (.int .i64 m)=mkS h 1 1 [(.bool false)] n m:=ya u66 s4 (by kernel_rfl) (show zeroOf prog 4=some (.bool false) by kernel_rfl) rfl (by decide) (by decide)
@[simp] theorem pt67:part prog 67 cs off=slot cs off:=bM (by kernel_rfl)
@[simp] theorem pt68:part prog 68 cs off=slot cs off:=bM (by kernel_rfl)
@[simp] theorem pt70:part prog 70 cs off=if off+5<=cs.length then some (.agg ((cs.drop off).take 5)) else none:=cj (by kernel_rfl) (by kernel_rfl)
@[simp] theorem st70:aQ prog cfg h 70 (.ptr b off) v=stv cfg h b off 5 (cellsOf v):=aR (by kernel_rfl)
@[simp] theorem zr70:zeroOf prog 70=some (.agg [.nils,.nils,.nils,.nilm,.nilm]):=by kernel_rfl
@[simp] theorem fa70x0:ag prog 70 (.ptr b off) 0=some (.ptr b off):=by kernel_rfl
@[simp] theorem fa70x1:ag prog 70 (.ptr b off) 1=some (.ptr b (off+1)):=by kernel_rfl
@[simp] theorem fa70x2:ag prog 70 (.ptr b off) 2=some (.ptr b (off+2)):=by kernel_rfl
@[simp] theorem fa70x3:ag prog 70 (.ptr b off) 3=some (.ptr b (off+3)):=by kernel_rfl
@[simp] theorem fa70x4:ag prog 70 (.ptr b off) 4=some (.ptr b (off+4)):=by kernel_rfl
def yj:Nat->Option (Nat×Nat)
 | 0=>some (0,1)
 | 1=>some (1,1)
 | 2=>some (2,1)
 | 3=>some (3,1)
 | 4=>some (4,1)
 | _=>none
@[simp] theorem pl70x0:yj 0=some (0,1):=rfl
@[simp] theorem pl70x1:yj 1=some (1,1):=rfl
@[simp] theorem pl70x2:yj 2=some (2,1):=rfl
@[simp] theorem pl70x3:yj 3=some (3,1):=rfl
@[simp] theorem pl70x4:yj 4=some (4,1):=rfl
@[simp] theorem bd70:cp prog 70 ps=(cI yj [.nils,.nils,.nils,.nilm,.nilm] ps).map .agg:=bU (pl:=yj) zr70 underlying70 (by kernel_rfl) (fun i=>by match i with|0|1|2|3|4=>(show _=_;kernel_rfl)|_+5=>(show _=_;kernel_rfl))
@[simp] theorem pt71:part prog 71 cs off=slot cs off:=bM (by kernel_rfl)
@[simp] theorem st71:aQ prog cfg h 71 (.ptr b off) v=stv cfg h b off 1 (cellsOf v):=aR (by kernel_rfl)
@[simp] theorem ixS71:ay prog 71 (.sl b off len cap c) (.int k i)=lA 4 b off len c i:=eP u71 s75
@[simp] theorem ap71:cb prog cfg h 71 71 d x=gX cfg h 4 48 d (aZ h 4 x):=dg u71 s75 (by kernel_rfl) (by kernel_rfl) (by decide)
@[simp] theorem bs71:aI prog h 71 len vs=(bf 4 vs).bind fun cs=>if vs.length=len&&decide (len*4<=16777216) then some (.sl h.length 0 len len 4,h++[some cs]) else none:=aY u71 s75 (by kernel_rfl) (by decide)
@[simp] theorem zr73:zeroOf prog 73=some (.agg [.nils,.nils,(.int .i64 0),(.int .i64 0),(.int .i64 0),.nils,.nils,.nils,.nils,.nils,.nils,.nils,.nils,.nilm,.nilm,.nils]):=by kernel_rfl
@[simp] theorem fa73x0:ag prog 73 (.ptr b off) 0=some (.ptr b off):=by kernel_rfl
@[simp] theorem fa73x1:ag prog 73 (.ptr b off) 1=some (.ptr b (off+5)):=by kernel_rfl
@[simp] theorem fa73x2:ag prog 73 (.ptr b off) 2=some (.ptr b (off+6)):=by kernel_rfl
@[simp] theorem fa73x3:ag prog 73 (.ptr b off) 3=some (.ptr b (off+7)):=by kernel_rfl
@[simp] theorem fa73x4:ag prog 73 (.ptr b off) 4=some (.ptr b (off+8)):=by kernel_rfl
@[simp] theorem fa73x5:ag prog 73 (.ptr b off) 5=some (.ptr b (off+9)):=by kernel_rfl
@[simp] theorem fa73x6:ag prog 73 (.ptr b off) 6=some (.ptr b (off+10)):=by kernel_rfl
@[simp] theorem fa73x7:ag prog 73 (.ptr b off) 7=some (.ptr b (off+15)):=by kernel_rfl
def rI:Nat->Option (Nat×Nat)
 | 0=>some (0,5)
 | 1=>some (5,1)
 | 2=>some (6,1)
 | 3=>some (7,1)
 | 4=>some (8,1)
 | 5=>some (9,1)
 | 6=>some (10,5)
 | 7=>some (15,1)
 | _=>none
@[simp] theorem pl73x0:rI 0=some (0,5):=rfl
@[simp] theorem pl73x1:rI 1=some (5,1):=rfl
@[simp] theorem pl73x2:rI 2=some (6,1):=rfl
@[simp] theorem pl73x3:rI 3=some (7,1):=rfl
@[simp] theorem pl73x4:rI 4=some (8,1):=rfl
@[simp] theorem pl73x5:rI 5=some (9,1):=rfl
@[simp] theorem pl73x6:rI 6=some (10,5):=rfl
@[simp] theorem pl73x7:rI 7=some (15,1):=rfl
@[simp] theorem bd73:cp prog 73 ps=(cI rI [.nils,.nils,(.int .i64 0),(.int .i64 0),(.int .i64 0),.nils,.nils,.nils,.nils,.nils,.nils,.nils,.nils,.nilm,.nilm,.nils] ps).map .agg:=bU (pl:=rI) zr73 underlying73 (by kernel_rfl) (fun i=>by match i with|0|1|2|3|4|5|6|7=>(show _=_;kernel_rfl)|_+8=>(show _=_;kernel_rfl))
@[simp] theorem pt75:part prog 75 cs off=if off+4<=cs.length then some (.agg ((cs.drop off).take 4)) else none:=cj (by kernel_rfl) (by kernel_rfl)
@[simp] theorem st75:aQ prog cfg h 75 (.ptr b off) v=stv cfg h b off 4 (cellsOf v):=aR (by kernel_rfl)
@[simp] theorem zr75:zeroOf prog 75=some (.agg [(.int .i64 0),(.int .i64 0),(.int .i64 0),.nils]):=by kernel_rfl
@[simp] theorem fa75x0:ag prog 75 (.ptr b off) 0=some (.ptr b off):=by kernel_rfl
@[simp] theorem fa75x1:ag prog 75 (.ptr b off) 1=some (.ptr b (off+1)):=by kernel_rfl
@[simp] theorem fa75x2:ag prog 75 (.ptr b off) 2=some (.ptr b (off+2)):=by kernel_rfl
@[simp] theorem fa75x3:ag prog 75 (.ptr b off) 3=some (.ptr b (off+3)):=by kernel_rfl
def Bn:Nat->Option (Nat×Nat)
 | 0=>some (0,1)
 | 1=>some (1,1)
 | 2=>some (2,1)
 | 3=>some (3,1)
 | _=>none
@[simp] theorem pl75x0:Bn 0=some (0,1):=rfl
@[simp] theorem pl75x1:Bn 1=some (1,1):=rfl
@[simp] theorem pl75x2:Bn 2=some (2,1):=rfl
@[simp] theorem pl75x3:Bn 3=some (3,1):=rfl
@[simp] theorem bd75:cp prog 75 ps=(cI Bn [(.int .i64 0),(.int .i64 0),(.int .i64 0),.nils] ps).map .agg:=bU (pl:=Bn) zr75 underlying75 (by kernel_rfl) (fun i=>by match i with|0|1|2|3=>(show _=_;kernel_rfl)|_+4=>(show _=_;kernel_rfl))
@[simp] theorem pt79:part prog 79 cs off=if off+4<=cs.length then some (.agg ((cs.drop off).take 4)) else none:=cj (by kernel_rfl) (by kernel_rfl)
@[simp] theorem st79:aQ prog cfg h 79 (.ptr b off) v=stv cfg h b off 4 (cellsOf v):=aR (by kernel_rfl)
@[simp] theorem zr79:zeroOf prog 79=some (.agg [(.int .i64 0),(.int .i64 0),(.int .i64 0),(.int .i64 0)]):=by kernel_rfl
@[simp] theorem fa79x0:ag prog 79 (.ptr b off) 0=some (.ptr b off):=by kernel_rfl
@[simp] theorem fl79x0:ag prog 79 (.lptr cs off) 0=some (.lptr cs off):=by kernel_rfl
@[simp] theorem fa79x1:ag prog 79 (.ptr b off) 1=some (.ptr b (off+1)):=by kernel_rfl
@[simp] theorem fl79x1:ag prog 79 (.lptr cs off) 1=some (.lptr cs (off+1)):=by kernel_rfl
@[simp] theorem fa79x2:ag prog 79 (.ptr b off) 2=some (.ptr b (off+2)):=by kernel_rfl
@[simp] theorem fl79x2:ag prog 79 (.lptr cs off) 2=some (.lptr cs (off+2)):=by kernel_rfl
@[simp] theorem fa79x3:ag prog 79 (.ptr b off) 3=some (.ptr b (off+3)):=by kernel_rfl
@[simp] theorem fl79x3:ag prog 79 (.lptr cs off) 3=some (.lptr cs (off+3)):=by kernel_rfl
def Bo:Nat->Option (Nat×Nat)
 | 0=>some (0,1)
 | 1=>some (1,1)
 | 2=>some (2,1)
 | 3=>some (3,1)
 | _=>none
@[simp] theorem pl79x0:Bo 0=some (0,1):=rfl
@[simp] theorem pl79x1:Bo 1=some (1,1):=rfl
@[simp] theorem pl79x2:Bo 2=some (2,1):=rfl
@[simp] theorem pl79x3:Bo 3=some (3,1):=rfl
@[simp] theorem bd79:cp prog 79 ps=(cI Bo [(.int .i64 0),(.int .i64 0),(.int .i64 0),(.int .i64 0)] ps).map .agg:=bU (pl:=Bo) zr79 underlying79 (by kernel_rfl) (fun i=>by match i with|0|1|2|3=>(show _=_;kernel_rfl)|_+4=>(show _=_;kernel_rfl))
@[simp] theorem pt91:part prog 91 cs off=slot cs off:=bM (by kernel_rfl)
@[simp] theorem st91:aQ prog cfg h 91 (.ptr b off) v=stv cfg h b off 1 (cellsOf v):=aR (by kernel_rfl)
@[simp] theorem zr91:zeroOf prog 91=some .nils:=by kernel_rfl
@[simp] theorem ixS91:ay prog 91 (.sl b off len cap c) (.int k i)=lA 4 b off len c i:=eP u91 s93
@[simp] theorem mk91:cE prog h 91 (.int .i64 n) (.int .i64 m)=mkS h 4 24 [(.int .i64 0),(.int .i64 0),(.bool false),(.bool false)] n m:=ya u91 s93 (by kernel_rfl) (show zeroOf prog 93=some (.agg [(.int .i64 0),(.int .i64 0),(.bool false),(.bool false)]) by kernel_rfl) rfl (by decide) (by decide)
@[simp] theorem fa93x0:ag prog 93 (.ptr b off) 0=some (.ptr b off):=by kernel_rfl
@[simp] theorem fa93x1:ag prog 93 (.ptr b off) 1=some (.ptr b (off+1)):=by kernel_rfl
@[simp] theorem fa93x2:ag prog 93 (.ptr b off) 2=some (.ptr b (off+2)):=by kernel_rfl
@[simp] theorem fa93x3:ag prog 93 (.ptr b off) 3=some (.ptr b (off+3)):=by kernel_rfl
@[simp] theorem pt97:part prog 97 cs off=if off+8<=cs.length then some (.agg ((cs.drop off).take 8)) else none:=cj (by kernel_rfl) (by kernel_rfl)
@[simp] theorem st97:aQ prog cfg h 97 (.ptr b off) v=stv cfg h b off 8 (cellsOf v):=aR (by kernel_rfl)
@[simp] theorem zr97:zeroOf prog 97=some (.agg [(.int .i64 0),(.int .i64 0),(.int .i64 0),(.int .i64 0),(.int .i64 0),(.int .i64 0),(.int .i64 0),(.int .i64 0)]):=by kernel_rfl
@[simp] theorem fa97x0:ag prog 97 (.ptr b off) 0=some (.ptr b off):=by kernel_rfl
@[simp] theorem fa97x1:ag prog 97 (.ptr b off) 1=some (.ptr b (off+1)):=by kernel_rfl
@[simp] theorem fa97x2:ag prog 97 (.ptr b off) 2=some (.ptr b (off+2)):=by kernel_rfl
@[simp] theorem fa97x3:ag prog 97 (.ptr b off) 3=some (.ptr b (off+3)):=by kernel_rfl
@[simp] theorem fa97x4:ag prog 97 (.ptr b off) 4=some (.ptr b (off+4)):=by kernel_rfl
@[simp] theorem fa97x5:ag prog 97 (.ptr b off) 5=some (.ptr b (off+5)):=by kernel_rfl
def rJ:Nat->Option (Nat×Nat)
 | 0=>some (0,1)
 | 1=>some (1,1)
 | 2=>some (2,1)
 | 3=>some (3,1)
 | 4=>some (4,1)
 | 5=>some (5,1)
 | 6=>some (6,1)
 | 7=>some (7,1)
 | _=>none
@[simp] theorem pl97x0:rJ 0=some (0,1):=rfl
@[simp] theorem pl97x1:rJ 1=some (1,1):=rfl
@[simp] theorem pl97x2:rJ 2=some (2,1):=rfl
@[simp] theorem pl97x3:rJ 3=some (3,1):=rfl
@[simp] theorem pl97x4:rJ 4=some (4,1):=rfl
@[simp] theorem pl97x5:rJ 5=some (5,1):=rfl
@[simp] theorem pl97x6:rJ 6=some (6,1):=rfl
@[simp] theorem pl97x7:rJ 7=some (7,1):=rfl
@[simp] theorem bd97:cp prog 97 ps=(cI rJ [(.int .i64 0),(.int .i64 0),(.int .i64 0),(.int .i64 0),(.int .i64 0),(.int .i64 0),(.int .i64 0),(.int .i64 0)] ps).map .agg:=bU (pl:=rJ) zr97 underlying97 (by kernel_rfl) (fun i=>by match i with|0|1|2|3|4|5|6|7=>(show _=_;kernel_rfl)|_+8=>(show _=_;kernel_rfl))
@[simp] theorem pt100:part prog 100 cs off=if off+4<=cs.length then some (.agg ((cs.drop off).take 4)) else none:=cj (by kernel_rfl) (by kernel_rfl)
@[simp] theorem st100:aQ prog cfg h 100 (.ptr b off) v=stv cfg h b off 4 (cellsOf v):=aR (by kernel_rfl)
@[simp] theorem zr100:zeroOf prog 100=some (.agg [(.int .i64 0),(.int .i64 0),(.int .i64 0),.nils]):=by kernel_rfl
@[simp] theorem fa100x0:ag prog 100 (.ptr b off) 0=some (.ptr b off):=by kernel_rfl
@[simp] theorem fa100x1:ag prog 100 (.ptr b off) 1=some (.ptr b (off+1)):=by kernel_rfl
@[simp] theorem fa100x2:ag prog 100 (.ptr b off) 2=some (.ptr b (off+2)):=by kernel_rfl
@[simp] theorem fa100x3:ag prog 100 (.ptr b off) 3=some (.ptr b (off+3)):=by kernel_rfl
def sK:Nat->Option (Nat×Nat)
 | 0=>some (0,1)
 | 1=>some (1,1)
 | 2=>some (2,1)
 | 3=>some (3,1)
 | _=>none
@[simp] theorem pl100x0:sK 0=some (0,1):=rfl
@[simp] theorem pl100x1:sK 1=some (1,1):=rfl
@[simp] theorem pl100x2:sK 2=some (2,1):=rfl
@[simp] theorem pl100x3:sK 3=some (3,1):=rfl
@[simp] theorem bd100:cp prog 100 ps=(cI sK [(.int .i64 0),(.int .i64 0),(.int .i64 0),.nils] ps).map .agg:=bU (pl:=sK) zr100 underlying100 (by kernel_rfl) (fun i=>by match i with|0|1|2|3=>(show _=_;kernel_rfl)|_+4=>(show _=_;kernel_rfl))
@[simp] theorem zr107:zeroOf prog 107=some (.agg [(.int .i64 0),(.int .i64 0)]):=by kernel_rfl
@[simp] theorem fa107x0:ag prog 107 (.ptr b off) 0=some (.ptr b off):=by kernel_rfl
@[simp] theorem fa107x1:ag prog 107 (.ptr b off) 1=some (.ptr b (off+1)):=by kernel_rfl
def HD:Nat->Option (Nat×Nat)
 | 0=>some (0,1)
 | 1=>some (1,1)
 | _=>none
@[simp] theorem pl107x0:HD 0=some (0,1):=rfl
@[simp] theorem pl107x1:HD 1=some (1,1):=rfl
@[simp] theorem bd107:cp prog 107 ps=(cI HD [(.int .i64 0),(.int .i64 0)] ps).map .agg:=bU (pl:=HD) zr107 underlying107 (by kernel_rfl) (fun i=>by match i with|0|1=>(show _=_;kernel_rfl)|_+2=>(show _=_;kernel_rfl))
@[simp] theorem zr110:zeroOf prog 110=some (.agg [.nils,(.int .i64 0)]):=by kernel_rfl
@[simp] theorem fa110x0:ag prog 110 (.ptr b off) 0=some (.ptr b off):=by kernel_rfl
@[simp] theorem fa110x1:ag prog 110 (.ptr b off) 1=some (.ptr b (off+1)):=by kernel_rfl
def zO:Nat->Option (Nat×Nat)
 | 0=>some (0,1)
 | 1=>some (1,1)
 | _=>none
@[simp] theorem pl110x0:zO 0=some (0,1):=rfl
@[simp] theorem pl110x1:zO 1=some (1,1):=rfl
@[simp] theorem bd110:cp prog 110 ps=(cI zO [.nils,(.int .i64 0)] ps).map .agg:=bU (pl:=zO) zr110 underlying110 (by kernel_rfl) (fun i=>by match i with|0|1=>(show _=_;kernel_rfl)|_+2=>(show _=_;kernel_rfl))
@[simp] theorem pt141:part prog 141 cs off=if off+3<=cs.length then some (.agg ((cs.drop off).take 3)) else none:=cj (by kernel_rfl) (by kernel_rfl)
@[simp] theorem st141:aQ prog cfg h 141 (.ptr b off) v=stv cfg h b off 3 (cellsOf v):=aR (by kernel_rfl)
@[simp] theorem zr141:zeroOf prog 141=some (.agg [.nils,.nils,.nils]):=by kernel_rfl
@[simp] theorem fa141x0:ag prog 141 (.ptr b off) 0=some (.ptr b off):=by kernel_rfl
@[simp] theorem fa141x1:ag prog 141 (.ptr b off) 1=some (.ptr b (off+1)):=by kernel_rfl
@[simp] theorem fa141x2:ag prog 141 (.ptr b off) 2=some (.ptr b (off+2)):=by kernel_rfl
def wh:Nat->Option (Nat×Nat)
 | 0=>some (0,1)
 | 1=>some (1,1)
 | 2=>some (2,1)
 | _=>none
@[simp] theorem pl141x0:wh 0=some (0,1):=rfl
@[simp] theorem pl141x1:wh 1=some (1,1):=rfl
@[simp] theorem pl141x2:wh 2=some (2,1):=rfl
@[simp] theorem bd141:cp prog 141 ps=(cI wh [.nils,.nils,.nils] ps).map .agg:=bU (pl:=wh) zr141 underlying141 (by kernel_rfl) (fun i=>by match i with|0|1|2=>(show _=_;kernel_rfl)|_+3=>(show _=_;kernel_rfl))
@[simp] theorem ixL144:ay prog 144 (.lst xs) (.int k i)=jo 2 xs i:=dC yG s145
@[simp] theorem ixS144:ay prog 144 (.sl b off len cap c) (.int k i)=lA 2 b off len c i:=eP yG s145
@[simp] theorem lnL144:dy prog 144 (.lst xs)=some (.int .i64 xs.length):=dJ yG
@[simp] theorem lnS144{b off len cap k:Nat}:dy prog 144 (.sl b off len cap k)=some (.int .i64 len):=gL yG
@[simp] theorem lnN144:dy prog 144 .nils=some (.int .i64 0):=ml yG
@[simp] theorem ap144:cb prog cfg h 144 144 d x=gX cfg h 2 16 d (aZ h 2 x):=dg yG s145 (by kernel_rfl) (by kernel_rfl) (by decide)
@[simp] theorem bs144:aI prog h 144 len vs=(bf 2 vs).bind fun cs=>if vs.length=len&&decide (len*2<=16777216) then some (.sl h.length 0 len len 2,h++[some cs]) else none:=aY yG s145 (by kernel_rfl) (by decide)
@[simp] theorem pt145:part prog 145 cs off=if off+2<=cs.length then some (.agg ((cs.drop off).take 2)) else none:=cj (by kernel_rfl) (by kernel_rfl)
@[simp] theorem st145:aQ prog cfg h 145 (.ptr b off) v=stv cfg h b off 2 (cellsOf v):=aR (by kernel_rfl)
@[simp] theorem zr145:zeroOf prog 145=some (.agg [(.int .i64 0),(.int .i64 0)]):=by kernel_rfl
@[simp] theorem ixA145:ay prog 145 (.ptr b off) (.int k i)=if 0<=i then (if i.toNat<2 then some (.ptr b (off+i.toNat*1)) else none) else none:=zk u145 s3
@[simp] theorem ixV145:lB prog 145 (.agg cs) (.int k i)=if 0<=i then (if i.toNat<2 then part prog 3 cs (i.toNat*1) else none) else none:=FL u145 s3
@[simp] theorem bd145:cp prog 145 ps=(cI (fun i=>some (i*1,1)) [(.int .i64 0),(.int .i64 0)] ps).map .agg:=AB zr145 u145 s3
@[simp] theorem pt152:part prog 152 cs off=if off+3<=cs.length then some (.agg ((cs.drop off).take 3)) else none:=cj (by kernel_rfl) (by kernel_rfl)
@[simp] theorem st152:aQ prog cfg h 152 (.ptr b off) v=stv cfg h b off 3 (cellsOf v):=aR (by kernel_rfl)
@[simp] theorem zr152:zeroOf prog 152=some (.agg [(.int .i32 0),(.int .i32 0),(.int .i64 0)]):=by kernel_rfl
@[simp] theorem fa152x0:ag prog 152 (.ptr b off) 0=some (.ptr b off):=by kernel_rfl
@[simp] theorem fa152x1:ag prog 152 (.ptr b off) 1=some (.ptr b (off+1)):=by kernel_rfl
@[simp] theorem fa152x2:ag prog 152 (.ptr b off) 2=some (.ptr b (off+2)):=by kernel_rfl
def wi:Nat->Option (Nat×Nat)
 | 0=>some (0,1)
 | 1=>some (1,1)
 | 2=>some (2,1)
 | _=>none
@[simp] theorem pl152x0:wi 0=some (0,1):=rfl
@[simp] theorem pl152x1:wi 1=some (1,1):=rfl
@[simp] theorem pl152x2:wi 2=some (2,1):=rfl
@[simp] theorem bd152:cp prog 152 ps=(cI wi [(.int .i32 0),(.int .i32 0),(.int .i64 0)] ps).map .agg:=bU (pl:=wi) zr152 underlying152 (by kernel_rfl) (fun i=>by match i with|0|1|2=>(show _=_;kernel_rfl)|_+3=>(show _=_;kernel_rfl))
@[simp] theorem pt154:part prog 154 cs off=if off+3<=cs.length then some (.agg ((cs.drop off).take 3)) else none:=cj (by kernel_rfl) (by kernel_rfl)
@[simp] theorem st154:aQ prog cfg h 154 (.ptr b off) v=stv cfg h b off 3 (cellsOf v):=aR (by kernel_rfl)
@[simp] theorem zr154:zeroOf prog 154=some (.agg [(.int .i32 0),(.int .i32 0),(.int .i64 0)]):=by kernel_rfl
@[simp] theorem fa154x0:ag prog 154 (.ptr b off) 0=some (.ptr b off):=by kernel_rfl
@[simp] theorem fl154x0:ag prog 154 (.lptr cs off) 0=some (.lptr cs off):=by kernel_rfl
@[simp] theorem fa154x1:ag prog 154 (.ptr b off) 1=some (.ptr b (off+1)):=by kernel_rfl
@[simp] theorem fl154x1:ag prog 154 (.lptr cs off) 1=some (.lptr cs (off+1)):=by kernel_rfl
@[simp] theorem fa154x2:ag prog 154 (.ptr b off) 2=some (.ptr b (off+2)):=by kernel_rfl
@[simp] theorem fl154x2:ag prog 154 (.lptr cs off) 2=some (.lptr cs (off+2)):=by kernel_rfl
def wj:Nat->Option (Nat×Nat)
 | 0=>some (0,1)
 | 1=>some (1,1)
 | 2=>some (2,1)
 | _=>none
@[simp] theorem pl154x0:wj 0=some (0,1):=rfl
@[simp] theorem pl154x1:wj 1=some (1,1):=rfl
@[simp] theorem pl154x2:wj 2=some (2,1):=rfl
@[simp] theorem bd154:cp prog 154 ps=(cI wj [(.int .i32 0),(.int .i32 0),(.int .i64 0)] ps).map .agg:=bU (pl:=wj) zr154 underlying154 (by kernel_rfl) (fun i=>by match i with|0|1|2=>(show _=_;kernel_rfl)|_+3=>(show _=_;kernel_rfl))
@[simp] theorem pt156:part prog 156 cs off=if off+4<=cs.length then some (.agg ((cs.drop off).take 4)) else none:=cj (by kernel_rfl) (by kernel_rfl)
@[simp] theorem st156:aQ prog cfg h 156 (.ptr b off) v=stv cfg h b off 4 (cellsOf v):=aR (by kernel_rfl)
@[simp] theorem zr156:zeroOf prog 156=some (.agg [(.int .i32 0),(.int .i32 0),(.int .i64 0),(.int .i64 0)]):=by kernel_rfl
@[simp] theorem fa156x0:ag prog 156 (.ptr b off) 0=some (.ptr b off):=by kernel_rfl
@[simp] theorem fl156x0:ag prog 156 (.lptr cs off) 0=some (.lptr cs off):=by kernel_rfl
@[simp] theorem fa156x1:ag prog 156 (.ptr b off) 1=some (.ptr b (off+1)):=by kernel_rfl
@[simp] theorem fl156x1:ag prog 156 (.lptr cs off) 1=some (.lptr cs (off+1)):=by kernel_rfl
@[simp] theorem fa156x2:ag prog 156 (.ptr b off) 2=some (.ptr b (off+2)):=by kernel_rfl
@[simp] theorem fa156x3:ag prog 156 (.ptr b off) 3=some (.ptr b (off+3)):=by kernel_rfl
def sL:Nat->Option (Nat×Nat)
 | 0=>some (0,1)
 | 1=>some (1,1)
 | 2=>some (2,1)
 | 3=>some (3,1)
 | _=>none
@[simp] theorem pl156x0:sL 0=some (0,1):=rfl
@[simp] theorem pl156x1:sL 1=some (1,1):=rfl
@[simp] theorem pl156x2:sL 2=some (2,1):=rfl
@[simp] theorem pl156x3:sL 3=some (3,1):=rfl
@[simp] theorem bd156:cp prog 156 ps=(cI sL [(.int .i32 0),(.int .i32 0),(.int .i64 0),(.int .i64 0)] ps).map .agg:=bU (pl:=sL) zr156 underlying156 (by kernel_rfl) (fun i=>by match i with|0|1|2|3=>(show _=_;kernel_rfl)|_+4=>(show _=_;kernel_rfl))
@[simp] theorem pt159:part prog 159 cs off=slot cs off:=bM (by kernel_rfl)
@[simp] theorem zr161:zeroOf prog 161=some (.agg [.nils,.nils,.nils,.nils,.nils,(.int .i64 0)]):=by kernel_rfl
@[simp] theorem fa161x0:ag prog 161 (.ptr b off) 0=some (.ptr b off):=by kernel_rfl
@[simp] theorem fa161x1:ag prog 161 (.ptr b off) 1=some (.ptr b (off+1)):=by kernel_rfl
@[simp] theorem fa161x2:ag prog 161 (.ptr b off) 2=some (.ptr b (off+2)):=by kernel_rfl
@[simp] theorem fa161x3:ag prog 161 (.ptr b off) 3=some (.ptr b (off+3)):=by kernel_rfl
@[simp] theorem fa161x4:ag prog 161 (.ptr b off) 4=some (.ptr b (off+4)):=by kernel_rfl
@[simp] theorem fa161x5:ag prog 161 (.ptr b off) 5=some (.ptr b (off+5)):=by kernel_rfl
def oo:Nat->Option (Nat×Nat)
 | 0=>some (0,1)
 | 1=>some (1,1)
 | 2=>some (2,1)
 | 3=>some (3,1)
 | 4=>some (4,1)
 | 5=>some (5,1)
 | _=>none
@[simp] theorem pl161x0:oo 0=some (0,1):=rfl
@[simp] theorem pl161x1:oo 1=some (1,1):=rfl
@[simp] theorem pl161x2:oo 2=some (2,1):=rfl
@[simp] theorem pl161x3:oo 3=some (3,1):=rfl
@[simp] theorem pl161x4:oo 4=some (4,1):=rfl
@[simp] theorem pl161x5:oo 5=some (5,1):=rfl
@[simp] theorem bd161:cp prog 161 ps=(cI oo [.nils,.nils,.nils,.nils,.nils,(.int .i64 0)] ps).map .agg:=bU (pl:=oo) zr161 underlying161 (by kernel_rfl) (fun i=>by match i with|0|1|2|3|4|5=>(show _=_;kernel_rfl)|_+6=>(show _=_;kernel_rfl))
@[simp] theorem ap162:cb prog cfg h 162 162 d x=gX cfg h 4 48 d (aZ h 4 x):=dg u162 s165 (by kernel_rfl) (by kernel_rfl) (by decide)
@[simp] theorem bs162:aI prog h 162 len vs=(bf 4 vs).bind fun cs=>if vs.length=len&&decide (len*4<=16777216) then some (.sl h.length 0 len len 4,h++[some cs]) else none:=aY u162 s165 (by kernel_rfl) (by decide)
@[simp] theorem pt165:part prog 165 cs off=if off+4<=cs.length then some (.agg ((cs.drop off).take 4)) else none:=cj (by kernel_rfl) (by kernel_rfl)
@[simp] theorem st165:aQ prog cfg h 165 (.ptr b off) v=stv cfg h b off 4 (cellsOf v):=aR (by kernel_rfl)
@[simp] theorem zr165:zeroOf prog 165=some (.agg [.nils,(.int .i64 0),(.int .i64 0),(.int .i64 0)]):=by kernel_rfl
@[simp] theorem fa165x0:ag prog 165 (.ptr b off) 0=some (.ptr b off):=by kernel_rfl
@[simp] theorem fa165x1:ag prog 165 (.ptr b off) 1=some (.ptr b (off+1)):=by kernel_rfl
@[simp] theorem fa165x2:ag prog 165 (.ptr b off) 2=some (.ptr b (off+2)):=by kernel_rfl
@[simp] theorem fa165x3:ag prog 165 (.ptr b off) 3=some (.ptr b (off+3)):=by kernel_rfl
def sM:Nat->Option (Nat×Nat)
 | 0=>some (0,1)
 | 1=>some (1,1)
 | 2=>some (2,1)
 | 3=>some (3,1)
 | _=>none
@[simp] theorem pl165x0:sM 0=some (0,1):=rfl
@[simp] theorem pl165x1:sM 1=some (1,1):=rfl
@[simp] theorem pl165x2:sM 2=some (2,1):=rfl
@[simp] theorem pl165x3:sM 3=some (3,1):=rfl
@[simp] theorem bd165:cp prog 165 ps=(cI sM [.nils,(.int .i64 0),(.int .i64 0),(.int .i64 0)] ps).map .agg:=bU (pl:=sM) zr165 underlying165 (by kernel_rfl) (fun i=>by match i with|0|1|2|3=>(show _=_;kernel_rfl)|_+4=>(show _=_;kernel_rfl))
@[simp] theorem pt176:part prog 176 cs off=if off+7<=cs.length then some (.agg ((cs.drop off).take 7)) else none:=cj (by kernel_rfl) (by kernel_rfl)
@[simp] theorem st176:aQ prog cfg h 176 (.ptr b off) v=stv cfg h b off 7 (cellsOf v):=aR (by kernel_rfl)
@[simp] theorem zr176:zeroOf prog 176=some (.agg [(.int .i32 0),(.int .i32 0),(.int .u8 0),(.int .u8 0),(.int .u8 0),(.int .u8 0),(.int .u8 0)]):=by kernel_rfl
@[simp] theorem fl176x0:ag prog 176 (.lptr cs off) 0=some (.lptr cs off):=by kernel_rfl
@[simp] theorem fl176x1:ag prog 176 (.lptr cs off) 1=some (.lptr cs (off+1)):=by kernel_rfl
@[simp] theorem fv176x2:jz prog 176 (.agg cs) 2=part prog 5 cs 2:=by kernel_rfl
@[simp] theorem fv176x4:jz prog 176 (.agg cs) 4=part prog 5 cs 4:=by kernel_rfl
@[simp] theorem fv176x5:jz prog 176 (.agg cs) 5=part prog 5 cs 5:=by kernel_rfl
@[simp] theorem fv176x6:jz prog 176 (.agg cs) 6=part prog 5 cs 6:=by kernel_rfl
def mO:Nat->Option (Nat×Nat)
 | 0=>some (0,1)
 | 1=>some (1,1)
 | 2=>some (2,1)
 | 3=>some (3,1)
 | 4=>some (4,1)
 | 5=>some (5,1)
 | 6=>some (6,1)
 | _=>none
@[simp] theorem pl176x0:mO 0=some (0,1):=rfl
@[simp] theorem pl176x1:mO 1=some (1,1):=rfl
@[simp] theorem pl176x2:mO 2=some (2,1):=rfl
@[simp] theorem pl176x3:mO 3=some (3,1):=rfl
@[simp] theorem pl176x4:mO 4=some (4,1):=rfl
@[simp] theorem pl176x5:mO 5=some (5,1):=rfl
@[simp] theorem pl176x6:mO 6=some (6,1):=rfl
@[simp] theorem bd176:cp prog 176 ps=(cI mO [(.int .i32 0),(.int .i32 0),(.int .u8 0),(.int .u8 0),(.int .u8 0),(.int .u8 0),(.int .u8 0)] ps).map .agg:=bU (pl:=mO) zr176 underlying176 (by kernel_rfl) (fun i=>by match i with|0|1|2|3|4|5|6=>(show _=_;kernel_rfl)|_+7=>(show _=_;kernel_rfl))
@[simp] theorem pt182:part prog 182 cs off=if off+5<=cs.length then some (.agg ((cs.drop off).take 5)) else none:=cj (by kernel_rfl) (by kernel_rfl)
@[simp] theorem st182:aQ prog cfg h 182 (.ptr b off) v=stv cfg h b off 5 (cellsOf v):=aR (by kernel_rfl)
@[simp] theorem zr182:zeroOf prog 182=some (.agg [(.int .i64 0),(.int .i64 0),(.int .i32 0),(.int .i32 0),(.bool false)]):=by kernel_rfl
@[simp] theorem fa182x1:ag prog 182 (.ptr b off) 1=some (.ptr b (off+1)):=by kernel_rfl
@[simp] theorem fa182x2:ag prog 182 (.ptr b off) 2=some (.ptr b (off+2)):=by kernel_rfl
@[simp] theorem fa182x3:ag prog 182 (.ptr b off) 3=some (.ptr b (off+3)):=by kernel_rfl
@[simp] theorem fa182x4:ag prog 182 (.ptr b off) 4=some (.ptr b (off+4)):=by kernel_rfl
def qQ:Nat->Option (Nat×Nat)
 | 0=>some (0,1)
 | 1=>some (1,1)
 | 2=>some (2,1)
 | 3=>some (3,1)
 | 4=>some (4,1)
 | _=>none
@[simp] theorem pl182x0:qQ 0=some (0,1):=rfl
@[simp] theorem pl182x1:qQ 1=some (1,1):=rfl
@[simp] theorem pl182x2:qQ 2=some (2,1):=rfl
@[simp] theorem pl182x3:qQ 3=some (3,1):=rfl
@[simp] theorem pl182x4:qQ 4=some (4,1):=rfl
@[simp] theorem bd182:cp prog 182 ps=(cI qQ [(.int .i64 0),(.int .i64 0),(.int .i32 0),(.int .i32 0),(.bool false)] ps).map .agg:=bU (pl:=qQ) zr182 underlying182 (by kernel_rfl) (fun i=>by match i with|0|1|2|3|4=>(show _=_;kernel_rfl)|_+5=>(show _=_;kernel_rfl))
@[simp] theorem pt188:part prog 188 cs off=if off+3<=cs.length then some (.agg ((cs.drop off).take 3)) else none:=cj (by kernel_rfl) (by kernel_rfl)
@[simp] theorem st188:aQ prog cfg h 188 (.ptr b off) v=stv cfg h b off 3 (cellsOf v):=aR (by kernel_rfl)
@[simp] theorem zr188:zeroOf prog 188=some (.agg [(.int .i64 0),(.int .i64 0),(.bool false)]):=by kernel_rfl
@[simp] theorem fa188x0:ag prog 188 (.ptr b off) 0=some (.ptr b off):=by kernel_rfl
@[simp] theorem fa188x1:ag prog 188 (.ptr b off) 1=some (.ptr b (off+1)):=by kernel_rfl
@[simp] theorem fa188x2:ag prog 188 (.ptr b off) 2=some (.ptr b (off+2)):=by kernel_rfl
def wm:Nat->Option (Nat×Nat)
 | 0=>some (0,1)
 | 1=>some (1,1)
 | 2=>some (2,1)
 | _=>none
@[simp] theorem pl188x0:wm 0=some (0,1):=rfl
@[simp] theorem pl188x1:wm 1=some (1,1):=rfl
@[simp] theorem pl188x2:wm 2=some (2,1):=rfl
@[simp] theorem bd188:cp prog 188 ps=(cI wm [(.int .i64 0),(.int .i64 0),(.bool false)] ps).map .agg:=bU (pl:=wm) zr188 underlying188 (by kernel_rfl) (fun i=>by match i with|0|1|2=>(show _=_;kernel_rfl)|_+3=>(show _=_;kernel_rfl))
@[simp] theorem pt189:part prog 189 cs off=slot cs off:=bM (by kernel_rfl)
@[simp] theorem st189:aQ prog cfg h 189 (.ptr b off) v=stv cfg h b off 1 (cellsOf v):=aR (by kernel_rfl)
@[simp] theorem zr189:zeroOf prog 189=some .nils:=by kernel_rfl
@[simp] theorem ixS189:ay prog 189 (.sl b off len cap c) (.int k i)=lA 3 b off len c i:=eP Ei s188
@[simp] theorem slS189{b off len cap k:Nat}:dz prog h 189 (.sl b off len cap k) lo hi=wJ 3 b off len cap k (bZ 0 lo) (bZ len hi):=uc Ei s188
@[simp] theorem lnS189{b off len cap k:Nat}:dy prog 189 (.sl b off len cap k)=some (.int .i64 len):=gL Ei
@[simp] theorem ap189:cb prog cfg h 189 189 d x=gX cfg h 3 24 d (aZ h 3 x):=dg Ei s188 (by kernel_rfl) (by kernel_rfl) (by decide)
@[simp] theorem bs189:aI prog h 189 len vs=(bf 3 vs).bind fun cs=>if vs.length=len&&decide (len*3<=16777216) then some (.sl h.length 0 len len 3,h++[some cs]) else none:=aY Ei s188 (by kernel_rfl) (by decide)
@[simp] theorem ixS191:ay prog 191 (.sl b off len cap c) (.int k i)=lA 1 b off len c i:=eP u191 s22
@[simp] theorem lnS191{b off len cap k:Nat}:dy prog 191 (.sl b off len cap k)=some (.int .i64 len):=gL u191
@[simp] theorem ap191:cb prog cfg h 191 191 d x=gX cfg h 1 24 d (aZ h 1 x):=dg u191 s22 (by kernel_rfl) (by kernel_rfl) (by decide)
@[simp] theorem bs191:aI prog h 191 len vs=(bf 1 vs).bind fun cs=>if vs.length=len&&decide (len*1<=16777216) then some (.sl h.length 0 len len 1,h++[some cs]) else none:=aY u191 s22 (by kernel_rfl) (by decide)
@[simp] theorem st197:aQ prog cfg h 197 (.ptr b off) v=stv cfg h b off 308 (cellsOf v):=aR (by kernel_rfl)
@[simp] theorem zr197:zeroOf prog 197=some (.agg [(.int .i32 0),(.int .i32 0),(.int .u8 0),(.int .u8 0),(.int .u8 0),(.int .u8 0),(.int .u8 0),(.int .i32 0),(.int .i32 0),(.int .u8 0),(.int .u8 0),(.int .u8 0),(.int .u8 0),(.int .u8 0),(.int .i32 0),(.int .i32 0),(.int .u8 0),(.int .u8 0),(.int .u8 0),(.int .u8 0),(.int .u8 0),(.int .i32 0),(.int .i32 0),(.int .u8 0),(.int .u8 0),(.int .u8 0),(.int .u8 0),(.int .u8 0),(.int .i32 0),(.int .i32 0),(.int .u8 0),(.int .u8 0),(.int .u8 0),(.int .u8 0),(.int .u8 0),(.int .i32 0),(.int .i32 0),(.int .u8 0),(.int .u8 0),(.int .u8 0),(.int .u8 0),(.int .u8 0),(.int .i32 0),(.int .i32 0),(.int .u8 0),(.int .u8 0),(.int .u8 0),(.int .u8 0),(.int .u8 0),(.int .i32 0),(.int .i32 0),(.int .u8 0),(.int .u8 0),(.int .u8 0),(.int .u8 0),(.int .u8 0),(.int .i32 0),(.int .i32 0),(.int .u8 0),(.int .u8 0),(.int .u8 0),(.int .u8 0),(.int .u8 0),(.int .i32 0),(.int .i32 0),(.int .u8 0),(.int .u8 0),(.int .u8 0),(.int .u8 0),(.int .u8 0),(.int .i32 0),(.int .i32 0),(.int .u8 0),(.int .u8 0),(.int .u8 0),(.int .u8 0),(.int .u8 0),(.int .i32 0),(.int .i32 0),(.int .u8 0),(.int .u8 0),(.int .u8 0),(.int .u8 0),(.int .u8 0),(.int .i32 0),(.int .i32 0),(.int .u8 0),(.int .u8 0),(.int .u8 0),(.int .u8 0),(.int .u8 0),(.int .i32 0),(.int .i32 0),(.int .u8 0),(.int .u8 0),(.int .u8 0),(.int .u8 0),(.int .u8 0),(.int .i32 0),(.int .i32 0),(.int .u8 0),(.int .u8 0),(.int .u8 0),(.int .u8 0),(.int .u8 0),(.int .i32 0),(.int .i32 0),(.int .u8 0),(.int .u8 0),(.int .u8 0),(.int .u8 0),(.int .u8 0),(.int .i32 0),(.int .i32 0),(.int .u8 0),(.int .u8 0),(.int .u8 0),(.int .u8 0),(.int .u8 0),(.int .i32 0),(.int .i32 0),(.int .u8 0),(.int .u8 0),(.int .u8 0),(.int .u8 0),(.int .u8 0),(.int .i32 0),(.int .i32 0),(.int .u8 0),(.int .u8 0),(.int .u8 0),(.int .u8 0),(.int .u8 0),(.int .i32 0),(.int .i32 0),(.int .u8 0),(.int .u8 0),(.int .u8 0),(.int .u8 0),(.int .u8 0),(.int .i32 0),(.int .i32 0),(.int .u8 0),(.int .u8 0),(.int .u8 0),(.int .u8 0),(.int .u8 0),(.int .i32 0),(.int .i32 0),(.int .u8 0),(.int .u8 0),(.int .u8 0),(.int .u8 0),(.int .u8 0),(.int .i32 0),(.int .i32 0),(.int .u8 0),(.int .u8 0),(.int .u8 0),(.int .u8 0),(.int .u8 0),(.int .i32 0),(.int .i32 0),(.int .u8 0),(.int .u8 0),(.int .u8 0),(.int .u8 0),(.int .u8 0),(.int .i32 0),(.int .i32 0),(.int .u8 0),(.int .u8 0),(.int .u8 0),(.int .u8 0),(.int .u8 0),(.int .i32 0),(.int .i32 0),(.int .u8 0),(.int .u8 0),(.int .u8 0),(.int .u8 0),(.int .u8 0),(.int .i32 0),(.int .i32 0),(.int .u8 0),(.int .u8 0),(.int .u8 0),(.int .u8 0),(.int .u8 0),(.int .i32 0),(.int .i32 0),(.int .u8 0),(.int .u8 0),(.int .u8 0),(.int .u8 0),(.int .u8 0),(.int .i32 0),(.int .i32 0),(.int .u8 0),(.int .u8 0),(.int .u8 0),(.int .u8 0),(.int .u8 0),(.int .i32 0),(.int .i32 0),(.int .u8 0),(.int .u8 0),(.int .u8 0),(.int .u8 0),(.int .u8 0),(.int .i32 0),(.int .i32 0),(.int .u8 0),(.int .u8 0),(.int .u8 0),(.int .u8 0),(.int .u8 0),(.int .i32 0),(.int .i32 0),(.int .u8 0),(.int .u8 0),(.int .u8 0),(.int .u8 0),(.int .u8 0),(.int .i32 0),(.int .i32 0),(.int .u8 0),(.int .u8 0),(.int .u8 0),(.int .u8 0),(.int .u8 0),(.int .i32 0),(.int .i32 0),(.int .u8 0),(.int .u8 0),(.int .u8 0),(.int .u8 0),(.int .u8 0),(.int .i32 0),(.int .i32 0),(.int .u8 0),(.int .u8 0),(.int .u8 0),(.int .u8 0),(.int .u8 0),(.int .i32 0),(.int .i32 0),(.int .u8 0),(.int .u8 0),(.int .u8 0),(.int .u8 0),(.int .u8 0),(.int .i32 0),(.int .i32 0),(.int .u8 0),(.int .u8 0),(.int .u8 0),(.int .u8 0),(.int .u8 0),(.int .i32 0),(.int .i32 0),(.int .u8 0),(.int .u8 0),(.int .u8 0),(.int .u8 0),(.int .u8 0),(.int .i32 0),(.int .i32 0),(.int .u8 0),(.int .u8 0),(.int .u8 0),(.int .u8 0),(.int .u8 0),(.int .i32 0),(.int .i32 0),(.int .u8 0),(.int .u8 0),(.int .u8 0),(.int .u8 0),(.int .u8 0),(.int .i32 0),(.int .i32 0),(.int .u8 0),(.int .u8 0),(.int .u8 0),(.int .u8 0),(.int .u8 0),(.int .i32 0),(.int .i32 0),(.int .u8 0),(.int .u8 0),(.int .u8 0),(.int .u8 0),(.int .u8 0),(.int .i32 0),(.int .i32 0),(.int .u8 0),(.int .u8 0),(.int .u8 0),(.int .u8 0),(.int .u8 0),(.int .i32 0),(.int .i32 0),(.int .u8 0),(.int .u8 0),(.int .u8 0),(.int .u8 0),(.int .u8 0)]):=by kernel_rfl
@[simp] theorem ixL200:ay prog 200 (.lst xs) (.int k i)=jo 7 xs i:=dC u200 s176
@[simp] theorem lnL200:dy prog 200 (.lst xs)=some (.int .i64 xs.length):=dJ u200
@[simp] theorem st201:aQ prog cfg h 201 (.ptr b off) v=stv cfg h b off 287 (cellsOf v):=aR (by kernel_rfl)
@[simp] theorem zr201:zeroOf prog 201=some (.agg [(.int .i32 0),(.int .i32 0),(.int .u8 0),(.int .u8 0),(.int .u8 0),(.int .u8 0),(.int .u8 0),(.int .i32 0),(.int .i32 0),(.int .u8 0),(.int .u8 0),(.int .u8 0),(.int .u8 0),(.int .u8 0),(.int .i32 0),(.int .i32 0),(.int .u8 0),(.int .u8 0),(.int .u8 0),(.int .u8 0),(.int .u8 0),(.int .i32 0),(.int .i32 0),(.int .u8 0),(.int .u8 0),(.int .u8 0),(.int .u8 0),(.int .u8 0),(.int .i32 0),(.int .i32 0),(.int .u8 0),(.int .u8 0),(.int .u8 0),(.int .u8 0),(.int .u8 0),(.int .i32 0),(.int .i32 0),(.int .u8 0),(.int .u8 0),(.int .u8 0),(.int .u8 0),(.int .u8 0),(.int .i32 0),(.int .i32 0),(.int .u8 0),(.int .u8 0),(.int .u8 0),(.int .u8 0),(.int .u8 0),(.int .i32 0),(.int .i32 0),(.int .u8 0),(.int .u8 0),(.int .u8 0),(.int .u8 0),(.int .u8 0),(.int .i32 0),(.int .i32 0),(.int .u8 0),(.int .u8 0),(.int .u8 0),(.int .u8 0),(.int .u8 0),(.int .i32 0),(.int .i32 0),(.int .u8 0),(.int .u8 0),(.int .u8 0),(.int .u8 0),(.int .u8 0),(.int .i32 0),(.int .i32 0),(.int .u8 0),(.int .u8 0),(.int .u8 0),(.int .u8 0),(.int .u8 0),(.int .i32 0),(.int .i32 0),(.int .u8 0),(.int .u8 0),(.int .u8 0),(.int .u8 0),(.int .u8 0),(.int .i32 0),(.int .i32 0),(.int .u8 0),(.int .u8 0),(.int .u8 0),(.int .u8 0),(.int .u8 0),(.int .i32 0),(.int .i32 0),(.int .u8 0),(.int .u8 0),(.int .u8 0),(.int .u8 0),(.int .u8 0),(.int .i32 0),(.int .i32 0),(.int .u8 0),(.int .u8 0),(.int .u8 0),(.int .u8 0),(.int .u8 0),(.int .i32 0),(.int .i32 0),(.int .u8 0),(.int .u8 0),(.int .u8 0),(.int .u8 0),(.int .u8 0),(.int .i32 0),(.int .i32 0),(.int .u8 0),(.int .u8 0),(.int .u8 0),(.int .u8 0),(.int .u8 0),(.int .i32 0),(.int .i32 0),(.int .u8 0),(.int .u8 0),(.int .u8 0),(.int .u8 0),(.int .u8 0),(.int .i32 0),(.int .i32 0),(.int .u8 0),(.int .u8 0),(.int .u8 0),(.int .u8 0),(.int .u8 0),(.int .i32 0),(.int .i32 0),(.int .u8 0),(.int .u8 0),(.int .u8 0),(.int .u8 0),(.int .u8 0),(.int .i32 0),(.int .i32 0),(.int .u8 0),(.int .u8 0),(.int .u8 0),(.int .u8 0),(.int .u8 0),(.int .i32 0),(.int .i32 0),(.int .u8 0),(.int .u8 0),(.int .u8 0),(.int .u8 0),(.int .u8 0),(.int .i32 0),(.int .i32 0),(.int .u8 0),(.int .u8 0),(.int .u8 0),(.int .u8 0),(.int .u8 0),(.int .i32 0),(.int .i32 0),(.int .u8 0),(.int .u8 0),(.int .u8 0),(.int .u8 0),(.int .u8 0),(.int .i32 0),(.int .i32 0),(.int .u8 0),(.int .u8 0),(.int .u8 0),(.int .u8 0),(.int .u8 0),(.int .i32 0),(.int .i32 0),(.int .u8 0),(.int .u8 0),(.int .u8 0),(.int .u8 0),(.int .u8 0),(.int .i32 0),(.int .i32 0),(.int .u8 0),(.int .u8 0),(.int .u8 0),(.int .u8 0),(.int .u8 0),(.int .i32 0),(.int .i32 0),(.int .u8 0),(.int .u8 0),(.int .u8 0),(.int .u8 0),(.int .u8 0),(.int .i32 0),(.int .i32 0),(.int .u8 0),(.int .u8 0),(.int .u8 0),(.int .u8 0),(.int .u8 0),(.int .i32 0),(.int .i32 0),(.int .u8 0),(.int .u8 0),(.int .u8 0),(.int .u8 0),(.int .u8 0),(.int .i32 0),(.int .i32 0),(.int .u8 0),(.int .u8 0),(.int .u8 0),(.int .u8 0),(.int .u8 0),(.int .i32 0),(.int .i32 0),(.int .u8 0),(.int .u8 0),(.int .u8 0),(.int .u8 0),(.int .u8 0),(.int .i32 0),(.int .i32 0),(.int .u8 0),(.int .u8 0),(.int .u8 0),(.int .u8 0),(.int .u8 0),(.int .i32 0),(.int .i32 0),(.int .u8 0),(.int .u8 0),(.int .u8 0),(.int .u8 0),(.int .u8 0),(.int .i32 0),(.int .i32 0),(.int .u8 0),(.int .u8 0),(.int .u8 0),(.int .u8 0),(.int .u8 0),(.int .i32 0),(.int .i32 0),(.int .u8 0),(.int .u8 0),(.int .u8 0),(.int .u8 0),(.int .u8 0),(.int .i32 0),(.int .i32 0),(.int .u8 0),(.int .u8 0),(.int .u8 0),(.int .u8 0),(.int .u8 0),(.int .i32 0),(.int .i32 0),(.int .u8 0),(.int .u8 0),(.int .u8 0),(.int .u8 0),(.int .u8 0),(.int .i32 0),(.int .i32 0),(.int .u8 0),(.int .u8 0),(.int .u8 0),(.int .u8 0),(.int .u8 0),(.int .i32 0),(.int .i32 0),(.int .u8 0),(.int .u8 0),(.int .u8 0),(.int .u8 0),(.int .u8 0),(.int .i32 0),(.int .i32 0),(.int .u8 0),(.int .u8 0),(.int .u8 0),(.int .u8 0),(.int .u8 0)]):=by kernel_rfl
@[simp] theorem ixL207:ay prog 207 (.lst xs) (.int k i)=jo 2 xs i:=dC u207 s224
@[simp] theorem lnL207:dy prog 207 (.lst xs)=some (.int .i64 xs.length):=dJ u207
@[simp] theorem pt210:part prog 210 cs off=if off+5<=cs.length then some (.agg ((cs.drop off).take 5)) else none:=cj (by kernel_rfl) (by kernel_rfl)
@[simp] theorem st210:aQ prog cfg h 210 (.ptr b off) v=stv cfg h b off 5 (cellsOf v):=aR (by kernel_rfl)
@[simp] theorem zr210:zeroOf prog 210=some (.agg [(.int .i32 0),(.int .i32 0),(.int .i64 0),(.int .i64 0),(.bool false)]):=by kernel_rfl
@[simp] theorem fa210x0:ag prog 210 (.ptr b off) 0=some (.ptr b off):=by kernel_rfl
@[simp] theorem fa210x1:ag prog 210 (.ptr b off) 1=some (.ptr b (off+4)):=by kernel_rfl
@[simp] theorem ixS212:ay prog 212 (.sl b off len cap c) (.int k i)=lA 1 b off len c i:=eP u212 s39
@[simp] theorem lnS212{b off len cap k:Nat}:dy prog 212 (.sl b off len cap k)=some (.int .i64 len):=gL u212
@[simp] theorem ap212:cb prog cfg h 212 212 d x=gX cfg h 1 24 d (aZ h 1 x):=dg u212 s39 (by kernel_rfl) (by kernel_rfl) (by decide)
@[simp] theorem bs212:aI prog h 212 len vs=(bf 1 vs).bind fun cs=>if vs.length=len&&decide (len*1<=16777216) then some (.sl h.length 0 len len 1,h++[some cs]) else none:=aY u212 s39 (by kernel_rfl) (by decide)
@[simp] theorem ixS215:ay prog 215 (.sl b off len cap c) (.int k i)=lA 2 b off len c i:=eP u215 s219
@[simp] theorem slS215{b off len cap k:Nat}:dz prog h 215 (.sl b off len cap k) lo hi=wJ 2 b off len cap k (bZ 0 lo) (bZ len hi):=uc u215 s219
@[simp] theorem ap215:cb prog cfg h 215 215 d x=gX cfg h 2 16 d (aZ h 2 x):=dg u215 s219 (by kernel_rfl) (by kernel_rfl) (by decide)
@[simp] theorem bs215:aI prog h 215 len vs=(bf 2 vs).bind fun cs=>if vs.length=len&&decide (len*2<=16777216) then some (.sl h.length 0 len len 2,h++[some cs]) else none:=aY u215 s219 (by kernel_rfl) (by decide)
@[simp] theorem zr219:zeroOf prog 219=some (.agg [(.int .i32 0),(.int .i64 0)]):=by kernel_rfl
@[simp] theorem fa219x0:ag prog 219 (.ptr b off) 0=some (.ptr b off):=by kernel_rfl
@[simp] theorem fa219x1:ag prog 219 (.ptr b off) 1=some (.ptr b (off+1)):=by kernel_rfl
def zP:Nat->Option (Nat×Nat)
 | 0=>some (0,1)
 | 1=>some (1,1)
 | _=>none
@[simp] theorem pl219x0:zP 0=some (0,1):=rfl
@[simp] theorem pl219x1:zP 1=some (1,1):=rfl
@[simp] theorem bd219:cp prog 219 ps=(cI zP [(.int .i32 0),(.int .i64 0)] ps).map .agg:=bU (pl:=zP) zr219 underlying219 (by kernel_rfl) (fun i=>by match i with|0|1=>(show _=_;kernel_rfl)|_+2=>(show _=_;kernel_rfl))
@[simp] theorem pt224:part prog 224 cs off=if off+2<=cs.length then some (.agg ((cs.drop off).take 2)) else none:=cj (by kernel_rfl) (by kernel_rfl)
@[simp] theorem st224:aQ prog cfg h 224 (.ptr b off) v=stv cfg h b off 2 (cellsOf v):=aR (by kernel_rfl)
@[simp] theorem zr224:zeroOf prog 224=some (.agg [(.int .i32 0),(.int .i32 0)]):=by kernel_rfl
@[simp] theorem ixA224:ay prog 224 (.ptr b off) (.int k i)=if 0<=i then (if i.toNat<2 then some (.ptr b (off+i.toNat*1)) else none) else none:=zk u224 s21
end
end Go.Ab.Tryz
