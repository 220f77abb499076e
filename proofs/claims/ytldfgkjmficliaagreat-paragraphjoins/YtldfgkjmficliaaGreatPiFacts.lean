/- Facts on the types of the seat's program, each by the kernel. Printed by wip/tools/Facts.lean. -/
import Derived.Test.YtldfgkjmficliaaGreatPaHt
import Derived.Test.YtldfgkjmficliaaGreatProg
import Derived.KernelRfl
set_option linter.unusedSimpArgs false
set_option linter.unusedVariables false
namespace Go.Ab.Tryz
open Go.Proofs Go.Proofs.Tryz
section
variable {cfg:Cfg}{h:Heap}{cs vs:List V}{b c cap len off:Nat}{d v x:V}{a:Bool}{xs:List (List V)}{k:IntKind}{i m n:Int}{hi lo:Option (Option V)}{ps:List (Nat×V)}
theorem u22:prog.underlying 22=some (.slice 3):=by kernel_rfl
theorem u23:prog.underlying 23=some (.slice 21):=by kernel_rfl
theorem u25:prog.underlying 25=some (.slice 152):=by kernel_rfl
theorem u26:prog.underlying 26=some (.slice 154):=by kernel_rfl
theorem u27:prog.underlying 27=some (.slice 156):=by kernel_rfl
theorem u30:prog.underlying 30=some (.slice 29):=by kernel_rfl
theorem u31:prog.underlying 31=some (.slice 41):=by kernel_rfl
theorem u35:prog.underlying 35=some (.slice 79):=by kernel_rfl
theorem u39:prog.underlying 39=some (.slice 97):=by kernel_rfl
theorem u66:prog.underlying 66=some (.slice 4):=by kernel_rfl
theorem u71:prog.underlying 71=some (.slice 75):=by kernel_rfl
theorem xQ:prog.underlying 144=some (.slice 145):=by kernel_rfl
theorem u145:prog.underlying 145=some (.array 2 3):=by kernel_rfl
theorem u162:prog.underlying 162=some (.slice 165):=by kernel_rfl
theorem DD:prog.underlying 189=some (.slice 188):=by kernel_rfl
theorem u191:prog.underlying 191=some (.slice 22):=by kernel_rfl
theorem u200:prog.underlying 200=some (.slice 176):=by kernel_rfl
theorem u207:prog.underlying 207=some (.slice 224):=by kernel_rfl
theorem u212:prog.underlying 212=some (.slice 39):=by kernel_rfl
theorem u215:prog.underlying 215=some (.slice 219):=by kernel_rfl
theorem u224:prog.underlying 224=some (.array 2 21):=by kernel_rfl
theorem s3:cq prog 3=some 1:=by kernel_rfl
theorem s21:cq prog 21=some 1:=by kernel_rfl
theorem s152:cq prog 152=some 3:=by kernel_rfl
theorem s154:cq prog 154=some 3:=by kernel_rfl
theorem s156:cq prog 156=some 4:=by kernel_rfl
theorem s29:cq prog 29=some 8:=by kernel_rfl
theorem s41:cq prog 41=some 10:=by kernel_rfl
theorem s79:cq prog 79=some 4:=by kernel_rfl
theorem s97:cq prog 97=some 8:=by kernel_rfl
theorem s4:cq prog 4=some 1:=by kernel_rfl
theorem s75:cq prog 75=some 4:=by kernel_rfl
theorem s145:cq prog 145=some 2:=by kernel_rfl
theorem s165:cq prog 165=some 4:=by kernel_rfl
theorem s188:cq prog 188=some 3:=by kernel_rfl
theorem s22:cq prog 22=some 1:=by kernel_rfl
theorem s176:cq prog 176=some 7:=by kernel_rfl
theorem s224:cq prog 224=some 2:=by kernel_rfl
theorem s39:cq prog 39=some 1:=by kernel_rfl
theorem s219:cq prog 219=some 2:=by kernel_rfl
@[simp] theorem pt3:part prog 3 cs off=slot cs off:=bR (by kernel_rfl)
@[simp] theorem st3:bf prog cfg h 3 (.ptr b off) v=stv cfg h b off 1 (cellsOf v):=bk (by kernel_rfl)
@[simp] theorem zr3:zeroOf prog 3=some (.int .i64 0):=by kernel_rfl
@[simp] theorem pt4:part prog 4 cs off=slot cs off:=bR (by kernel_rfl)
@[simp] theorem st4:bf prog cfg h 4 (.ptr b off) v=stv cfg h b off 1 (cellsOf v):=bk (by kernel_rfl)
@[simp] theorem eq4{a b:Bool}:eqV prog 4 (.bool a) (.bool b)=some (a==b):=zM (by kernel_rfl)
@[simp] theorem pt5:part prog 5 cs off=slot cs off:=bR (by kernel_rfl)
@[simp] theorem pt21:part prog 21 cs off=slot cs off:=bR (by kernel_rfl)
@[simp] theorem pt22:part prog 22 cs off=slot cs off:=bR (by kernel_rfl)
@[simp] theorem st22:bf prog cfg h 22 (.ptr b off) v=stv cfg h b off 1 (cellsOf v):=bk (by kernel_rfl)
@[simp] theorem ixL22:ay prog 22 (.lst xs) (.int k i)=jP 1 xs i:=dK u22 s3
@[simp] theorem ixS22:ay prog 22 (.sl b off len cap c) (.int k i)=lp 1 b off len c i:=eV u22 s3
@[simp] theorem slL22:da prog h 22 (.lst xs) lo hi=ti 1 xs (bA 0 lo) (bA xs.length hi):=tj u22 s3
@[simp] theorem slS22{b off len cap k:Nat}:da prog h 22 (.sl b off len cap k) lo hi=vH 1 b off len cap k (bA 0 lo) (bA len hi):=tk u22 s3
@[simp] theorem lnL22:dk prog 22 (.lst xs)=some (.int .i64 xs.length):=dL u22
@[simp] theorem lnS22{b off len cap k:Nat}:dk prog 22 (.sl b off len cap k)=some (.int .i64 len):=fB u22
@[simp] theorem ap22:cA prog cfg h 22 22 d x=kQ cfg h 1 8 d (bu h 1 x):=ec u22 s3 (by kernel_rfl) (by kernel_rfl) (by decide)
@[simp] theorem bs22:aM prog h 22 len vs=(bq 1 vs).bind fun cs=>if vs.length=len&&decide (len*1≤16777216) then some (.sl h.length 0 len len 1,h++[some cs]) else none:=bw u22 s3 (by kernel_rfl) (by decide)
@[simp] theorem mk22:cE prog h 22 (.int .i64 n) (.int .i64 m)=mkS h 1 8 [(.int .i64 0)] n m:=Cu u22 s3 (by kernel_rfl) (show zeroOf prog 3=some (.int .i64 0) by kernel_rfl) rfl (by decide) (by decide)
@[simp] theorem pt23:part prog 23 cs off=slot cs off:=bR (by kernel_rfl)
@[simp] theorem ixL23:ay prog 23 (.lst xs) (.int k i)=jP 1 xs i:=dK u23 s21
@[simp] theorem ixS23:ay prog 23 (.sl b off len cap c) (.int k i)=lp 1 b off len c i:=eV u23 s21
@[simp] theorem slL23:da prog h 23 (.lst xs) lo hi=ti 1 xs (bA 0 lo) (bA xs.length hi):=tj u23 s21
@[simp] theorem lnL23:dk prog 23 (.lst xs)=some (.int .i64 xs.length):=dL u23
@[simp] theorem lnS23{b off len cap k:Nat}:dk prog 23 (.sl b off len cap k)=some (.int .i64 len):=fB u23
@[simp] theorem ap23:cA prog cfg h 23 23 d x=kQ cfg h 1 4 d (bu h 1 x):=ec u23 s21 (by kernel_rfl) (by kernel_rfl) (by decide)
@[simp] theorem bs23:aM prog h 23 len vs=(bq 1 vs).bind fun cs=>if vs.length=len&&decide (len*1≤16777216) then some (.sl h.length 0 len len 1,h++[some cs]) else none:=bw u23 s21 (by kernel_rfl) (by decide)
@[simp] theorem pt25:part prog 25 cs off=slot cs off:=bR (by kernel_rfl)
@[simp] theorem ixL25:ay prog 25 (.lst xs) (.int k i)=jP 3 xs i:=dK u25 s152
@[simp] theorem lnL25:dk prog 25 (.lst xs)=some (.int .i64 xs.length):=dL u25
@[simp] theorem pt26:part prog 26 cs off=slot cs off:=bR (by kernel_rfl)
@[simp] theorem ixL26:ay prog 26 (.lst xs) (.int k i)=jP 3 xs i:=dK u26 s154
@[simp] theorem lnL26:dk prog 26 (.lst xs)=some (.int .i64 xs.length):=dL u26
@[simp] theorem pt27:part prog 27 cs off=slot cs off:=bR (by kernel_rfl)
@[simp] theorem ixL27:ay prog 27 (.lst xs) (.int k i)=jP 4 xs i:=dK u27 s156
@[simp] theorem lnL27:dk prog 27 (.lst xs)=some (.int .i64 xs.length):=dL u27
@[simp] theorem pt29:part prog 29 cs off=if off+8≤cs.length then some (.agg ((cs.drop off).take 8)) else none:=cp (by kernel_rfl) (by kernel_rfl)
@[simp] theorem st29:bf prog cfg h 29 (.ptr b off) v=stv cfg h b off 8 (cellsOf v):=bk (by kernel_rfl)
@[simp] theorem zr29:zeroOf prog 29=some (.agg [(.int .i64 0),(.int .i64 0),(.int .i64 0),(.int .i64 0),(.int .i64 0),.nils,.nils,.nils]):=by kernel_rfl
@[simp] theorem fa29x0:ag prog 29 (.ptr b off) 0=some (.ptr b off):=by kernel_rfl
@[simp] theorem fa29x1:ag prog 29 (.ptr b off) 1=some (.ptr b (off+1)):=by kernel_rfl
@[simp] theorem fa29x2:ag prog 29 (.ptr b off) 2=some (.ptr b (off+2)):=by kernel_rfl
@[simp] theorem fa29x3:ag prog 29 (.ptr b off) 3=some (.ptr b (off+3)):=by kernel_rfl
@[simp] theorem fa29x4:ag prog 29 (.ptr b off) 4=some (.ptr b (off+4)):=by kernel_rfl
@[simp] theorem fa29x5:ag prog 29 (.ptr b off) 5=some (.ptr b (off+5)):=by kernel_rfl
@[simp] theorem fa29x6:ag prog 29 (.ptr b off) 6=some (.ptr b (off+6)):=by kernel_rfl
@[simp] theorem fa29x7:ag prog 29 (.ptr b off) 7=some (.ptr b (off+7)):=by kernel_rfl
def qL:Nat→Option (Nat×Nat)
 | 0=>some (0,1)
 | 1=>some (1,1)
 | 2=>some (2,1)
 | 3=>some (3,1)
 | 4=>some (4,1)
 | 5=>some (5,1)
 | 6=>some (6,1)
 | 7=>some (7,1)
 | _=>none
@[simp] theorem pl29x0:qL 0=some (0,1):=rfl
@[simp] theorem pl29x1:qL 1=some (1,1):=rfl
@[simp] theorem pl29x2:qL 2=some (2,1):=rfl
@[simp] theorem pl29x3:qL 3=some (3,1):=rfl
@[simp] theorem pl29x4:qL 4=some (4,1):=rfl
@[simp] theorem pl29x5:qL 5=some (5,1):=rfl
@[simp] theorem pl29x6:qL 6=some (6,1):=rfl
@[simp] theorem pl29x7:qL 7=some (7,1):=rfl
@[simp] theorem bd29:cr prog 29 ps=(cN qL [(.int .i64 0),(.int .i64 0),(.int .i64 0),(.int .i64 0),(.int .i64 0),.nils,.nils,.nils] ps).map .agg:=cm (pl:=qL) zr29 underlying29 (by kernel_rfl) (fun i=>by match i with|0|1|2|3|4|5|6|7=>(show _=_;kernel_rfl)|_+8=>(show _=_;kernel_rfl))
@[simp] theorem pt30:part prog 30 cs off=slot cs off:=bR (by kernel_rfl)
@[simp] theorem ixL30:ay prog 30 (.lst xs) (.int k i)=jP 8 xs i:=dK u30 s29
@[simp] theorem lnL30:dk prog 30 (.lst xs)=some (.int .i64 xs.length):=dL u30
@[simp] theorem bs30:aM prog h 30 len vs=(bq 8 vs).bind fun cs=>if vs.length=len&&decide (len*8≤16777216) then some (.sl h.length 0 len len 8,h++[some cs]) else none:=bw u30 s29 (by kernel_rfl) (by decide)
@[simp] theorem ixL31:ay prog 31 (.lst xs) (.int k i)=jP 10 xs i:=dK u31 s41
@[simp] theorem slL31:da prog h 31 (.lst xs) lo hi=ti 10 xs (bA 0 lo) (bA xs.length hi):=tj u31 s41
@[simp] theorem lnL31:dk prog 31 (.lst xs)=some (.int .i64 xs.length):=dL u31
@[simp] theorem ap31:cA prog cfg h 31 31 d x=kQ cfg h 10 96 d (bu h 10 x):=ec u31 s41 (by kernel_rfl) (by kernel_rfl) (by decide)
@[simp] theorem bs31:aM prog h 31 len vs=(bq 10 vs).bind fun cs=>if vs.length=len&&decide (len*10≤16777216) then some (.sl h.length 0 len len 10,h++[some cs]) else none:=bw u31 s41 (by kernel_rfl) (by decide)
@[simp] theorem pt35:part prog 35 cs off=slot cs off:=bR (by kernel_rfl)
@[simp] theorem ixL35:ay prog 35 (.lst xs) (.int k i)=jP 4 xs i:=dK u35 s79
@[simp] theorem lnL35:dk prog 35 (.lst xs)=some (.int .i64 xs.length):=dL u35
@[simp] theorem bs35:aM prog h 35 len vs=(bq 4 vs).bind fun cs=>if vs.length=len&&decide (len*4≤16777216) then some (.sl h.length 0 len len 4,h++[some cs]) else none:=bw u35 s79 (by kernel_rfl) (by decide)
@[simp] theorem pt37:part prog 37 cs off=if off+5≤cs.length then some (.agg ((cs.drop off).take 5)) else none:=cp (by kernel_rfl) (by kernel_rfl)
@[simp] theorem st37:bf prog cfg h 37 (.ptr b off) v=stv cfg h b off 5 (cellsOf v):=bk (by kernel_rfl)
@[simp] theorem zr37:zeroOf prog 37=some (.agg [.nils,.nils,(.int .i64 0),(.int .i64 0),(.int .i64 0)]):=by kernel_rfl
@[simp] theorem fa37x0:ag prog 37 (.ptr b off) 0=some (.ptr b off):=by kernel_rfl
@[simp] theorem fa37x1:ag prog 37 (.ptr b off) 1=some (.ptr b (off+1)):=by kernel_rfl
@[simp] theorem fa37x2:ag prog 37 (.ptr b off) 2=some (.ptr b (off+2)):=by kernel_rfl
@[simp] theorem fa37x3:ag prog 37 (.ptr b off) 3=some (.ptr b (off+3)):=by kernel_rfl
@[simp] theorem fa37x4:ag prog 37 (.ptr b off) 4=some (.ptr b (off+4)):=by kernel_rfl
def xt:Nat→Option (Nat×Nat)
 | 0=>some (0,1)
 | 1=>some (1,1)
 | 2=>some (2,1)
 | 3=>some (3,1)
 | 4=>some (4,1)
 | _=>none
@[simp] theorem pl37x0:xt 0=some (0,1):=rfl
@[simp] theorem pl37x1:xt 1=some (1,1):=rfl
@[simp] theorem pl37x2:xt 2=some (2,1):=rfl
@[simp] theorem pl37x3:xt 3=some (3,1):=rfl
@[simp] theorem pl37x4:xt 4=some (4,1):=rfl
@[simp] theorem bd37:cr prog 37 ps=(cN xt [.nils,.nils,(.int .i64 0),(.int .i64 0),(.int .i64 0)] ps).map .agg:=cm (pl:=xt) zr37 underlying37 (by kernel_rfl) (fun i=>by match i with|0|1|2|3|4=>(show _=_;kernel_rfl)|_+5=>(show _=_;kernel_rfl))
@[simp] theorem pt39:part prog 39 cs off=slot cs off:=bR (by kernel_rfl)
@[simp] theorem st39:bf prog cfg h 39 (.ptr b off) v=stv cfg h b off 1 (cellsOf v):=bk (by kernel_rfl)
@[simp] theorem ixS39:ay prog 39 (.sl b off len cap c) (.int k i)=lp 8 b off len c i:=eV u39 s97
@[simp] theorem lnL39:dk prog 39 (.lst xs)=some (.int .i64 xs.length):=dL u39
@[simp] theorem lnN39:dk prog 39 .nils=some (.int .i64 0):=lr u39
@[simp] theorem ap39:cA prog cfg h 39 39 d x=kQ cfg h 8 64 d (bu h 8 x):=ec u39 s97 (by kernel_rfl) (by kernel_rfl) (by decide)
@[simp] theorem bs39:aM prog h 39 len vs=(bq 8 vs).bind fun cs=>if vs.length=len&&decide (len*8≤16777216) then some (.sl h.length 0 len len 8,h++[some cs]) else none:=bw u39 s97 (by kernel_rfl) (by decide)
@[simp] theorem pt41:part prog 41 cs off=if off+10≤cs.length then some (.agg ((cs.drop off).take 10)) else none:=cp (by kernel_rfl) (by kernel_rfl)
@[simp] theorem st41:bf prog cfg h 41 (.ptr b off) v=stv cfg h b off 10 (cellsOf v):=bk (by kernel_rfl)
@[simp] theorem zr41:zeroOf prog 41=some (.agg [(.int .i64 0),(.int .i64 0),(.int .i64 0),(.int .i64 0),(.int .i64 0),(.int .i64 0),(.int .i64 0),(.int .i64 0),(.int .i64 0),.nils]):=by kernel_rfl
@[simp] theorem fa41x0:ag prog 41 (.ptr b off) 0=some (.ptr b off):=by kernel_rfl
@[simp] theorem fl41x0:ag prog 41 (.lptr cs off) 0=some (.lptr cs off):=by kernel_rfl
@[simp] theorem fa41x1:ag prog 41 (.ptr b off) 1=some (.ptr b (off+1)):=by kernel_rfl
@[simp] theorem fl41x1:ag prog 41 (.lptr cs off) 1=some (.lptr cs (off+1)):=by kernel_rfl
@[simp] theorem fa41x3:ag prog 41 (.ptr b off) 3=some (.ptr b (off+3)):=by kernel_rfl
@[simp] theorem fl41x3:ag prog 41 (.lptr cs off) 3=some (.lptr cs (off+3)):=by kernel_rfl
@[simp] theorem fa41x4:ag prog 41 (.ptr b off) 4=some (.ptr b (off+4)):=by kernel_rfl
@[simp] theorem fl41x4:ag prog 41 (.lptr cs off) 4=some (.lptr cs (off+4)):=by kernel_rfl
@[simp] theorem fa41x5:ag prog 41 (.ptr b off) 5=some (.ptr b (off+5)):=by kernel_rfl
@[simp] theorem fl41x5:ag prog 41 (.lptr cs off) 5=some (.lptr cs (off+5)):=by kernel_rfl
@[simp] theorem fa41x6:ag prog 41 (.ptr b off) 6=some (.ptr b (off+6)):=by kernel_rfl
@[simp] theorem fa41x7:ag prog 41 (.ptr b off) 7=some (.ptr b (off+7)):=by kernel_rfl
@[simp] theorem fa41x8:ag prog 41 (.ptr b off) 8=some (.ptr b (off+8)):=by kernel_rfl
@[simp] theorem fa41x9:ag prog 41 (.ptr b off) 9=some (.ptr b (off+9)):=by kernel_rfl
@[simp] theorem fl41x9:ag prog 41 (.lptr cs off) 9=some (.lptr cs (off+9)):=by kernel_rfl
def nD:Nat→Option (Nat×Nat)
 | 0=>some (0,1)
 | 1=>some (1,1)
 | 2=>some (2,1)
 | 3=>some (3,1)
 | 4=>some (4,1)
 | 5=>some (5,1)
 | 6=>some (6,1)
 | 7=>some (7,1)
 | 8=>some (8,1)
 | 9=>some (9,1)
 | _=>none
@[simp] theorem pl41x0:nD 0=some (0,1):=rfl
@[simp] theorem pl41x1:nD 1=some (1,1):=rfl
@[simp] theorem pl41x2:nD 2=some (2,1):=rfl
@[simp] theorem pl41x3:nD 3=some (3,1):=rfl
@[simp] theorem pl41x4:nD 4=some (4,1):=rfl
@[simp] theorem pl41x5:nD 5=some (5,1):=rfl
@[simp] theorem pl41x6:nD 6=some (6,1):=rfl
@[simp] theorem pl41x7:nD 7=some (7,1):=rfl
@[simp] theorem pl41x8:nD 8=some (8,1):=rfl
@[simp] theorem pl41x9:nD 9=some (9,1):=rfl
@[simp] theorem bd41:cr prog 41 ps=(cN nD [(.int .i64 0),(.int .i64 0),(.int .i64 0),(.int .i64 0),(.int .i64 0),(.int .i64 0),(.int .i64 0),(.int .i64 0),(.int .i64 0),.nils] ps).map .agg:=cm (pl:=nD) zr41 underlying41 (by kernel_rfl) (fun i=>by match i with|0|1|2|3|4|5|6|7|8|9=>(show _=_;kernel_rfl)|_+10=>(show _=_;kernel_rfl))
def pl50:Nat→Option (Nat×Nat)
 | 0=>some (0,1)
 | 1=>some (1,1)
 | _=>none
@[simp] theorem pl50x0:pl50 0=some (0,1):=rfl
@[simp] theorem pl50x1:pl50 1=some (1,1):=rfl
def CX:Nat→Option (Nat×Nat)
 | 0=>some (0,1)
 | 1=>some (1,1)
 | 2=>some (2,1)
 | 3=>some (3,1)
 | 4=>some (4,1)
 | _=>none
@[simp] theorem pl53x0:CX 0=some (0,1):=rfl
@[simp] theorem pl53x1:CX 1=some (1,1):=rfl
@[simp] theorem pl53x2:CX 2=some (2,1):=rfl
@[simp] theorem pl53x3:CX 3=some (3,1):=rfl
@[simp] theorem pl53x4:CX 4=some (4,1):=rfl
@[simp] theorem pt66:part prog 66 cs off=slot cs off:=bR (by kernel_rfl)
@[simp] theorem ixL66:ay prog 66 (.lst xs) (.int k i)=jP 1 xs i:=dK u66 s4
@[simp] theorem ixS66:ay prog 66 (.sl b off len cap c) (.int k i)=lp 1 b off len c i:=eV u66 s4
@[simp] theorem mk66:cE prog h 66 (.int .i64 n) (.int .i64 m)=mkS h 1 1 [(.bool false)] n m:=Cu u66 s4 (by kernel_rfl) (show zeroOf prog 4=some (.bool false) by kernel_rfl) rfl (by decide) (by decide)
@[simp] theorem pt67:part prog 67 cs off=slot cs off:=bR (by kernel_rfl)
@[simp] theorem pt68:part prog 68 cs off=slot cs off:=bR (by kernel_rfl)
@[simp] theorem pt70:part prog 70 cs off=if off+5≤cs.length then some (.agg ((cs.drop off).take 5)) else none:=cp (by kernel_rfl) (by kernel_rfl)
@[simp] theorem st70:bf prog cfg h 70 (.ptr b off) v=stv cfg h b off 5 (cellsOf v):=bk (by kernel_rfl)
@[simp] theorem zr70:zeroOf prog 70=some (.agg [.nils,.nils,.nils,.nilm,.nilm]):=by kernel_rfl
@[simp] theorem fa70x0:ag prog 70 (.ptr b off) 0=some (.ptr b off):=by kernel_rfl
@[simp] theorem fa70x1:ag prog 70 (.ptr b off) 1=some (.ptr b (off+1)):=by kernel_rfl
@[simp] theorem fa70x2:ag prog 70 (.ptr b off) 2=some (.ptr b (off+2)):=by kernel_rfl
@[simp] theorem fa70x3:ag prog 70 (.ptr b off) 3=some (.ptr b (off+3)):=by kernel_rfl
@[simp] theorem fa70x4:ag prog 70 (.ptr b off) 4=some (.ptr b (off+4)):=by kernel_rfl
def xu:Nat→Option (Nat×Nat)
 | 0=>some (0,1)
 | 1=>some (1,1)
 | 2=>some (2,1)
 | 3=>some (3,1)
 | 4=>some (4,1)
 | _=>none
@[simp] theorem pl70x0:xu 0=some (0,1):=rfl
@[simp] theorem pl70x1:xu 1=some (1,1):=rfl
@[simp] theorem pl70x2:xu 2=some (2,1):=rfl
@[simp] theorem pl70x3:xu 3=some (3,1):=rfl
@[simp] theorem pl70x4:xu 4=some (4,1):=rfl
@[simp] theorem bd70:cr prog 70 ps=(cN xu [.nils,.nils,.nils,.nilm,.nilm] ps).map .agg:=cm (pl:=xu) zr70 underlying70 (by kernel_rfl) (fun i=>by match i with|0|1|2|3|4=>(show _=_;kernel_rfl)|_+5=>(show _=_;kernel_rfl))
@[simp] theorem pt71:part prog 71 cs off=slot cs off:=bR (by kernel_rfl)
@[simp] theorem st71:bf prog cfg h 71 (.ptr b off) v=stv cfg h b off 1 (cellsOf v):=bk (by kernel_rfl)
@[simp] theorem ixS71:ay prog 71 (.sl b off len cap c) (.int k i)=lp 4 b off len c i:=eV u71 s75
@[simp] theorem ap71:cA prog cfg h 71 71 d x=kQ cfg h 4 48 d (bu h 4 x):=ec u71 s75 (by kernel_rfl) (by kernel_rfl) (by decide)
@[simp] theorem bs71:aM prog h 71 len vs=(bq 4 vs).bind fun cs=>if vs.length=len&&decide (len*4≤16777216) then some (.sl h.length 0 len len 4,h++[some cs]) else none:=bw u71 s75 (by kernel_rfl) (by decide)
@[simp] theorem zr73:zeroOf prog 73=some (.agg [.nils,.nils,(.int .i64 0),(.int .i64 0),(.int .i64 0),.nils,.nils,.nils,.nils,.nils,.nils,.nils,.nils,.nilm,.nilm,.nils]):=by kernel_rfl
@[simp] theorem fa73x0:ag prog 73 (.ptr b off) 0=some (.ptr b off):=by kernel_rfl
@[simp] theorem fa73x1:ag prog 73 (.ptr b off) 1=some (.ptr b (off+5)):=by kernel_rfl
@[simp] theorem fa73x2:ag prog 73 (.ptr b off) 2=some (.ptr b (off+6)):=by kernel_rfl
@[simp] theorem fa73x3:ag prog 73 (.ptr b off) 3=some (.ptr b (off+7)):=by kernel_rfl
@[simp] theorem fa73x4:ag prog 73 (.ptr b off) 4=some (.ptr b (off+8)):=by kernel_rfl
@[simp] theorem fa73x5:ag prog 73 (.ptr b off) 5=some (.ptr b (off+9)):=by kernel_rfl
@[simp] theorem fa73x6:ag prog 73 (.ptr b off) 6=some (.ptr b (off+10)):=by kernel_rfl
@[simp] theorem fa73x7:ag prog 73 (.ptr b off) 7=some (.ptr b (off+15)):=by kernel_rfl
def qM:Nat→Option (Nat×Nat)
 | 0=>some (0,5)
 | 1=>some (5,1)
 | 2=>some (6,1)
 | 3=>some (7,1)
 | 4=>some (8,1)
 | 5=>some (9,1)
 | 6=>some (10,5)
 | 7=>some (15,1)
 | _=>none
@[simp] theorem pl73x0:qM 0=some (0,5):=rfl
@[simp] theorem pl73x1:qM 1=some (5,1):=rfl
@[simp] theorem pl73x2:qM 2=some (6,1):=rfl
@[simp] theorem pl73x3:qM 3=some (7,1):=rfl
@[simp] theorem pl73x4:qM 4=some (8,1):=rfl
@[simp] theorem pl73x5:qM 5=some (9,1):=rfl
@[simp] theorem pl73x6:qM 6=some (10,5):=rfl
@[simp] theorem pl73x7:qM 7=some (15,1):=rfl
@[simp] theorem bd73:cr prog 73 ps=(cN qM [.nils,.nils,(.int .i64 0),(.int .i64 0),(.int .i64 0),.nils,.nils,.nils,.nils,.nils,.nils,.nils,.nils,.nilm,.nilm,.nils] ps).map .agg:=cm (pl:=qM) zr73 underlying73 (by kernel_rfl) (fun i=>by match i with|0|1|2|3|4|5|6|7=>(show _=_;kernel_rfl)|_+8=>(show _=_;kernel_rfl))
@[simp] theorem pt75:part prog 75 cs off=if off+4≤cs.length then some (.agg ((cs.drop off).take 4)) else none:=cp (by kernel_rfl) (by kernel_rfl)
@[simp] theorem st75:bf prog cfg h 75 (.ptr b off) v=stv cfg h b off 4 (cellsOf v):=bk (by kernel_rfl)
@[simp] theorem zr75:zeroOf prog 75=some (.agg [(.int .i64 0),(.int .i64 0),(.int .i64 0),.nils]):=by kernel_rfl
@[simp] theorem fa75x0:ag prog 75 (.ptr b off) 0=some (.ptr b off):=by kernel_rfl
@[simp] theorem fa75x1:ag prog 75 (.ptr b off) 1=some (.ptr b (off+1)):=by kernel_rfl
@[simp] theorem fa75x2:ag prog 75 (.ptr b off) 2=some (.ptr b (off+2)):=by kernel_rfl
@[simp] theorem fa75x3:ag prog 75 (.ptr b off) 3=some (.ptr b (off+3)):=by kernel_rfl
def AD:Nat→Option (Nat×Nat)
 | 0=>some (0,1)
 | 1=>some (1,1)
 | 2=>some (2,1)
 | 3=>some (3,1)
 | _=>none
@[simp] theorem pl75x0:AD 0=some (0,1):=rfl
@[simp] theorem pl75x1:AD 1=some (1,1):=rfl
@[simp] theorem pl75x2:AD 2=some (2,1):=rfl
@[simp] theorem pl75x3:AD 3=some (3,1):=rfl
@[simp] theorem bd75:cr prog 75 ps=(cN AD [(.int .i64 0),(.int .i64 0),(.int .i64 0),.nils] ps).map .agg:=cm (pl:=AD) zr75 underlying75 (by kernel_rfl) (fun i=>by match i with|0|1|2|3=>(show _=_;kernel_rfl)|_+4=>(show _=_;kernel_rfl))
@[simp] theorem pt79:part prog 79 cs off=if off+4≤cs.length then some (.agg ((cs.drop off).take 4)) else none:=cp (by kernel_rfl) (by kernel_rfl)
@[simp] theorem st79:bf prog cfg h 79 (.ptr b off) v=stv cfg h b off 4 (cellsOf v):=bk (by kernel_rfl)
@[simp] theorem zr79:zeroOf prog 79=some (.agg [(.int .i64 0),(.int .i64 0),(.int .i64 0),(.int .i64 0)]):=by kernel_rfl
@[simp] theorem fa79x0:ag prog 79 (.ptr b off) 0=some (.ptr b off):=by kernel_rfl
@[simp] theorem fl79x0:ag prog 79 (.lptr cs off) 0=some (.lptr cs off):=by kernel_rfl
@[simp] theorem fa79x1:ag prog 79 (.ptr b off) 1=some (.ptr b (off+1)):=by kernel_rfl
@[simp] theorem fl79x1:ag prog 79 (.lptr cs off) 1=some (.lptr cs (off+1)):=by kernel_rfl
@[simp] theorem fa79x2:ag prog 79 (.ptr b off) 2=some (.ptr b (off+2)):=by kernel_rfl
@[simp] theorem fl79x2:ag prog 79 (.lptr cs off) 2=some (.lptr cs (off+2)):=by kernel_rfl
@[simp] theorem fa79x3:ag prog 79 (.ptr b off) 3=some (.ptr b (off+3)):=by kernel_rfl
@[simp] theorem fl79x3:ag prog 79 (.lptr cs off) 3=some (.lptr cs (off+3)):=by kernel_rfl
def AE:Nat→Option (Nat×Nat)
 | 0=>some (0,1)
 | 1=>some (1,1)
 | 2=>some (2,1)
 | 3=>some (3,1)
 | _=>none
@[simp] theorem pl79x0:AE 0=some (0,1):=rfl
@[simp] theorem pl79x1:AE 1=some (1,1):=rfl
@[simp] theorem pl79x2:AE 2=some (2,1):=rfl
@[simp] theorem pl79x3:AE 3=some (3,1):=rfl
@[simp] theorem bd79:cr prog 79 ps=(cN AE [(.int .i64 0),(.int .i64 0),(.int .i64 0),(.int .i64 0)] ps).map .agg:=cm (pl:=AE) zr79 underlying79 (by kernel_rfl) (fun i=>by match i with|0|1|2|3=>(show _=_;kernel_rfl)|_+4=>(show _=_;kernel_rfl))
@[simp] theorem pt97:part prog 97 cs off=if off+8≤cs.length then some (.agg ((cs.drop off).take 8)) else none:=cp (by kernel_rfl) (by kernel_rfl)
@[simp] theorem st97:bf prog cfg h 97 (.ptr b off) v=stv cfg h b off 8 (cellsOf v):=bk (by kernel_rfl)
@[simp] theorem zr97:zeroOf prog 97=some (.agg [(.int .i64 0),(.int .i64 0),(.int .i64 0),(.int .i64 0),(.int .i64 0),(.int .i64 0),(.int .i64 0),(.int .i64 0)]):=by kernel_rfl
@[simp] theorem fa97x0:ag prog 97 (.ptr b off) 0=some (.ptr b off):=by kernel_rfl
@[simp] theorem fa97x1:ag prog 97 (.ptr b off) 1=some (.ptr b (off+1)):=by kernel_rfl
@[simp] theorem fa97x2:ag prog 97 (.ptr b off) 2=some (.ptr b (off+2)):=by kernel_rfl
@[simp] theorem fa97x3:ag prog 97 (.ptr b off) 3=some (.ptr b (off+3)):=by kernel_rfl
@[simp] theorem fa97x4:ag prog 97 (.ptr b off) 4=some (.ptr b (off+4)):=by kernel_rfl
@[simp] theorem fa97x5:ag prog 97 (.ptr b off) 5=some (.ptr b (off+5)):=by kernel_rfl
def qN:Nat→Option (Nat×Nat)
 | 0=>some (0,1)
 | 1=>some (1,1)
 | 2=>some (2,1)
 | 3=>some (3,1)
 | 4=>some (4,1)
 | 5=>some (5,1)
 | 6=>some (6,1)
 | 7=>some (7,1)
 | _=>none
@[simp] theorem pl97x0:qN 0=some (0,1):=rfl
@[simp] theorem pl97x1:qN 1=some (1,1):=rfl
@[simp] theorem pl97x2:qN 2=some (2,1):=rfl
@[simp] theorem pl97x3:qN 3=some (3,1):=rfl
@[simp] theorem pl97x4:qN 4=some (4,1):=rfl
@[simp] theorem pl97x5:qN 5=some (5,1):=rfl
@[simp] theorem pl97x6:qN 6=some (6,1):=rfl
@[simp] theorem pl97x7:qN 7=some (7,1):=rfl
@[simp] theorem bd97:cr prog 97 ps=(cN qN [(.int .i64 0),(.int .i64 0),(.int .i64 0),(.int .i64 0),(.int .i64 0),(.int .i64 0),(.int .i64 0),(.int .i64 0)] ps).map .agg:=cm (pl:=qN) zr97 underlying97 (by kernel_rfl) (fun i=>by match i with|0|1|2|3|4|5|6|7=>(show _=_;kernel_rfl)|_+8=>(show _=_;kernel_rfl))
def yV:Nat→Option (Nat×Nat)
 | 0=>some (0,1)
 | 1=>some (1,1)
 | 2=>some (2,1)
 | 3=>some (3,1)
 | _=>none
@[simp] theorem pl100x0:yV 0=some (0,1):=rfl
@[simp] theorem pl100x1:yV 1=some (1,1):=rfl
@[simp] theorem pl100x2:yV 2=some (2,1):=rfl
@[simp] theorem pl100x3:yV 3=some (3,1):=rfl
def GK:Nat→Option (Nat×Nat)
 | 0=>some (0,1)
 | 1=>some (1,1)
 | _=>none
@[simp] theorem pl107x0:GK 0=some (0,1):=rfl
@[simp] theorem pl107x1:GK 1=some (1,1):=rfl
@[simp] theorem zr110:zeroOf prog 110=some (.agg [.nils,(.int .i64 0)]):=by kernel_rfl
@[simp] theorem fa110x0:ag prog 110 (.ptr b off) 0=some (.ptr b off):=by kernel_rfl
@[simp] theorem fa110x1:ag prog 110 (.ptr b off) 1=some (.ptr b (off+1)):=by kernel_rfl
def yW:Nat→Option (Nat×Nat)
 | 0=>some (0,1)
 | 1=>some (1,1)
 | _=>none
@[simp] theorem pl110x0:yW 0=some (0,1):=rfl
@[simp] theorem pl110x1:yW 1=some (1,1):=rfl
@[simp] theorem bd110:cr prog 110 ps=(cN yW [.nils,(.int .i64 0)] ps).map .agg:=cm (pl:=yW) zr110 underlying110 (by kernel_rfl) (fun i=>by match i with|0|1=>(show _=_;kernel_rfl)|_+2=>(show _=_;kernel_rfl))
@[simp] theorem pt141:part prog 141 cs off=if off+3≤cs.length then some (.agg ((cs.drop off).take 3)) else none:=cp (by kernel_rfl) (by kernel_rfl)
@[simp] theorem st141:bf prog cfg h 141 (.ptr b off) v=stv cfg h b off 3 (cellsOf v):=bk (by kernel_rfl)
@[simp] theorem zr141:zeroOf prog 141=some (.agg [.nils,.nils,.nils]):=by kernel_rfl
@[simp] theorem fa141x0:ag prog 141 (.ptr b off) 0=some (.ptr b off):=by kernel_rfl
@[simp] theorem fa141x1:ag prog 141 (.ptr b off) 1=some (.ptr b (off+1)):=by kernel_rfl
@[simp] theorem fa141x2:ag prog 141 (.ptr b off) 2=some (.ptr b (off+2)):=by kernel_rfl
def vi:Nat→Option (Nat×Nat)
 | 0=>some (0,1)
 | 1=>some (1,1)
 | 2=>some (2,1)
 | _=>none
@[simp] theorem pl141x0:vi 0=some (0,1):=rfl
@[simp] theorem pl141x1:vi 1=some (1,1):=rfl
@[simp] theorem pl141x2:vi 2=some (2,1):=rfl
@[simp] theorem bd141:cr prog 141 ps=(cN vi [.nils,.nils,.nils] ps).map .agg:=cm (pl:=vi) zr141 underlying141 (by kernel_rfl) (fun i=>by match i with|0|1|2=>(show _=_;kernel_rfl)|_+3=>(show _=_;kernel_rfl))
@[simp] theorem ixL144:ay prog 144 (.lst xs) (.int k i)=jP 2 xs i:=dK xQ s145
@[simp] theorem ixS144:ay prog 144 (.sl b off len cap c) (.int k i)=lp 2 b off len c i:=eV xQ s145
@[simp] theorem lnL144:dk prog 144 (.lst xs)=some (.int .i64 xs.length):=dL xQ
@[simp] theorem lnS144{b off len cap k:Nat}:dk prog 144 (.sl b off len cap k)=some (.int .i64 len):=fB xQ
@[simp] theorem lnN144:dk prog 144 .nils=some (.int .i64 0):=lr xQ
@[simp] theorem ap144:cA prog cfg h 144 144 d x=kQ cfg h 2 16 d (bu h 2 x):=ec xQ s145 (by kernel_rfl) (by kernel_rfl) (by decide)
@[simp] theorem bs144:aM prog h 144 len vs=(bq 2 vs).bind fun cs=>if vs.length=len&&decide (len*2≤16777216) then some (.sl h.length 0 len len 2,h++[some cs]) else none:=bw xQ s145 (by kernel_rfl) (by decide)
@[simp] theorem pt145:part prog 145 cs off=if off+2≤cs.length then some (.agg ((cs.drop off).take 2)) else none:=cp (by kernel_rfl) (by kernel_rfl)
@[simp] theorem st145:bf prog cfg h 145 (.ptr b off) v=stv cfg h b off 2 (cellsOf v):=bk (by kernel_rfl)
@[simp] theorem zr145:zeroOf prog 145=some (.agg [(.int .i64 0),(.int .i64 0)]):=by kernel_rfl
@[simp] theorem ixA145:ay prog 145 (.ptr b off) (.int k i)=if 0≤i then (if i.toNat<2 then some (.ptr b (off+i.toNat*1)) else none) else none:=yy u145 s3
@[simp] theorem ixV145:kC prog 145 (.agg cs) (.int k i)=if 0≤i then (if i.toNat<2 then part prog 3 cs (i.toNat*1) else none) else none:=E0 u145 s3
@[simp] theorem bd145:cr prog 145 ps=(cN (fun i=>some (i*1,1)) [(.int .i64 0),(.int .i64 0)] ps).map .agg:=zD zr145 u145 s3
@[simp] theorem pt152:part prog 152 cs off=if off+3≤cs.length then some (.agg ((cs.drop off).take 3)) else none:=cp (by kernel_rfl) (by kernel_rfl)
@[simp] theorem st152:bf prog cfg h 152 (.ptr b off) v=stv cfg h b off 3 (cellsOf v):=bk (by kernel_rfl)
@[simp] theorem zr152:zeroOf prog 152=some (.agg [(.int .i32 0),(.int .i32 0),(.int .i64 0)]):=by kernel_rfl
@[simp] theorem fa152x0:ag prog 152 (.ptr b off) 0=some (.ptr b off):=by kernel_rfl
@[simp] theorem fa152x1:ag prog 152 (.ptr b off) 1=some (.ptr b (off+1)):=by kernel_rfl
@[simp] theorem fa152x2:ag prog 152 (.ptr b off) 2=some (.ptr b (off+2)):=by kernel_rfl
def CW:Nat→Option (Nat×Nat)
 | 0=>some (0,1)
 | 1=>some (1,1)
 | 2=>some (2,1)
 | _=>none
@[simp] theorem pl152x0:CW 0=some (0,1):=rfl
@[simp] theorem pl152x1:CW 1=some (1,1):=rfl
@[simp] theorem pl152x2:CW 2=some (2,1):=rfl
@[simp] theorem pt154:part prog 154 cs off=if off+3≤cs.length then some (.agg ((cs.drop off).take 3)) else none:=cp (by kernel_rfl) (by kernel_rfl)
@[simp] theorem st154:bf prog cfg h 154 (.ptr b off) v=stv cfg h b off 3 (cellsOf v):=bk (by kernel_rfl)
@[simp] theorem zr154:zeroOf prog 154=some (.agg [(.int .i32 0),(.int .i32 0),(.int .i64 0)]):=by kernel_rfl
@[simp] theorem fa154x0:ag prog 154 (.ptr b off) 0=some (.ptr b off):=by kernel_rfl
@[simp] theorem fl154x0:ag prog 154 (.lptr cs off) 0=some (.lptr cs off):=by kernel_rfl
@[simp] theorem fa154x1:ag prog 154 (.ptr b off) 1=some (.ptr b (off+1)):=by kernel_rfl
@[simp] theorem fl154x1:ag prog 154 (.lptr cs off) 1=some (.lptr cs (off+1)):=by kernel_rfl
@[simp] theorem fa154x2:ag prog 154 (.ptr b off) 2=some (.ptr b (off+2)):=by kernel_rfl
@[simp] theorem fl154x2:ag prog 154 (.lptr cs off) 2=some (.lptr cs (off+2)):=by kernel_rfl
def vj:Nat→Option (Nat×Nat)
 | 0=>some (0,1)
 | 1=>some (1,1)
 | 2=>some (2,1)
 | _=>none
@[simp] theorem pl154x0:vj 0=some (0,1):=rfl
@[simp] theorem pl154x1:vj 1=some (1,1):=rfl
@[simp] theorem pl154x2:vj 2=some (2,1):=rfl
@[simp] theorem bd154:cr prog 154 ps=(cN vj [(.int .i32 0),(.int .i32 0),(.int .i64 0)] ps).map .agg:=cm (pl:=vj) zr154 underlying154 (by kernel_rfl) (fun i=>by match i with|0|1|2=>(show _=_;kernel_rfl)|_+3=>(show _=_;kernel_rfl))
@[simp] theorem pt156:part prog 156 cs off=if off+4≤cs.length then some (.agg ((cs.drop off).take 4)) else none:=cp (by kernel_rfl) (by kernel_rfl)
@[simp] theorem st156:bf prog cfg h 156 (.ptr b off) v=stv cfg h b off 4 (cellsOf v):=bk (by kernel_rfl)
@[simp] theorem zr156:zeroOf prog 156=some (.agg [(.int .i32 0),(.int .i32 0),(.int .i64 0),(.int .i64 0)]):=by kernel_rfl
@[simp] theorem fa156x0:ag prog 156 (.ptr b off) 0=some (.ptr b off):=by kernel_rfl
@[simp] theorem fl156x0:ag prog 156 (.lptr cs off) 0=some (.lptr cs off):=by kernel_rfl
@[simp] theorem fa156x1:ag prog 156 (.ptr b off) 1=some (.ptr b (off+1)):=by kernel_rfl
@[simp] theorem fl156x1:ag prog 156 (.lptr cs off) 1=some (.lptr cs (off+1)):=by kernel_rfl
@[simp] theorem fa156x2:ag prog 156 (.ptr b off) 2=some (.ptr b (off+2)):=by kernel_rfl
@[simp] theorem fa156x3:ag prog 156 (.ptr b off) 3=some (.ptr b (off+3)):=by kernel_rfl
def rM:Nat→Option (Nat×Nat)
 | 0=>some (0,1)
 | 1=>some (1,1)
 | 2=>some (2,1)
 | 3=>some (3,1)
 | _=>none
@[simp] theorem pl156x0:rM 0=some (0,1):=rfl
@[simp] theorem pl156x1:rM 1=some (1,1):=rfl
@[simp] theorem pl156x2:rM 2=some (2,1):=rfl
@[simp] theorem pl156x3:rM 3=some (3,1):=rfl
@[simp] theorem bd156:cr prog 156 ps=(cN rM [(.int .i32 0),(.int .i32 0),(.int .i64 0),(.int .i64 0)] ps).map .agg:=cm (pl:=rM) zr156 underlying156 (by kernel_rfl) (fun i=>by match i with|0|1|2|3=>(show _=_;kernel_rfl)|_+4=>(show _=_;kernel_rfl))
@[simp] theorem pt159:part prog 159 cs off=slot cs off:=bR (by kernel_rfl)
@[simp] theorem zr161:zeroOf prog 161=some (.agg [.nils,.nils,.nils,.nils,.nils,(.int .i64 0)]):=by kernel_rfl
@[simp] theorem fa161x0:ag prog 161 (.ptr b off) 0=some (.ptr b off):=by kernel_rfl
@[simp] theorem fa161x1:ag prog 161 (.ptr b off) 1=some (.ptr b (off+1)):=by kernel_rfl
@[simp] theorem fa161x2:ag prog 161 (.ptr b off) 2=some (.ptr b (off+2)):=by kernel_rfl
@[simp] theorem fa161x3:ag prog 161 (.ptr b off) 3=some (.ptr b (off+3)):=by kernel_rfl
@[simp] theorem fa161x4:ag prog 161 (.ptr b off) 4=some (.ptr b (off+4)):=by kernel_rfl
@[simp] theorem fa161x5:ag prog 161 (.ptr b off) 5=some (.ptr b (off+5)):=by kernel_rfl
def nq:Nat→Option (Nat×Nat)
 | 0=>some (0,1)
 | 1=>some (1,1)
 | 2=>some (2,1)
 | 3=>some (3,1)
 | 4=>some (4,1)
 | 5=>some (5,1)
 | _=>none
@[simp] theorem pl161x0:nq 0=some (0,1):=rfl
@[simp] theorem pl161x1:nq 1=some (1,1):=rfl
@[simp] theorem pl161x2:nq 2=some (2,1):=rfl
@[simp] theorem pl161x3:nq 3=some (3,1):=rfl
@[simp] theorem pl161x4:nq 4=some (4,1):=rfl
@[simp] theorem pl161x5:nq 5=some (5,1):=rfl
@[simp] theorem bd161:cr prog 161 ps=(cN nq [.nils,.nils,.nils,.nils,.nils,(.int .i64 0)] ps).map .agg:=cm (pl:=nq) zr161 underlying161 (by kernel_rfl) (fun i=>by match i with|0|1|2|3|4|5=>(show _=_;kernel_rfl)|_+6=>(show _=_;kernel_rfl))
@[simp] theorem ap162:cA prog cfg h 162 162 d x=kQ cfg h 4 48 d (bu h 4 x):=ec u162 s165 (by kernel_rfl) (by kernel_rfl) (by decide)
@[simp] theorem bs162:aM prog h 162 len vs=(bq 4 vs).bind fun cs=>if vs.length=len&&decide (len*4≤16777216) then some (.sl h.length 0 len len 4,h++[some cs]) else none:=bw u162 s165 (by kernel_rfl) (by decide)
@[simp] theorem pt165:part prog 165 cs off=if off+4≤cs.length then some (.agg ((cs.drop off).take 4)) else none:=cp (by kernel_rfl) (by kernel_rfl)
@[simp] theorem st165:bf prog cfg h 165 (.ptr b off) v=stv cfg h b off 4 (cellsOf v):=bk (by kernel_rfl)
@[simp] theorem zr165:zeroOf prog 165=some (.agg [.nils,(.int .i64 0),(.int .i64 0),(.int .i64 0)]):=by kernel_rfl
@[simp] theorem fa165x0:ag prog 165 (.ptr b off) 0=some (.ptr b off):=by kernel_rfl
@[simp] theorem fa165x1:ag prog 165 (.ptr b off) 1=some (.ptr b (off+1)):=by kernel_rfl
@[simp] theorem fa165x2:ag prog 165 (.ptr b off) 2=some (.ptr b (off+2)):=by kernel_rfl
@[simp] theorem fa165x3:ag prog 165 (.ptr b off) 3=some (.ptr b (off+3)):=by kernel_rfl
def rN:Nat→Option (Nat×Nat)
 | 0=>some (0,1)
 | 1=>some (1,1)
 | 2=>some (2,1)
 | 3=>some (3,1)
 | _=>none
@[simp] theorem pl165x0:rN 0=some (0,1):=rfl
@[simp] theorem pl165x1:rN 1=some (1,1):=rfl
@[simp] theorem pl165x2:rN 2=some (2,1):=rfl
@[simp] theorem pl165x3:rN 3=some (3,1):=rfl
@[simp] theorem bd165:cr prog 165 ps=(cN rN [.nils,(.int .i64 0),(.int .i64 0),(.int .i64 0)] ps).map .agg:=cm (pl:=rN) zr165 underlying165 (by kernel_rfl) (fun i=>by match i with|0|1|2|3=>(show _=_;kernel_rfl)|_+4=>(show _=_;kernel_rfl))
@[simp] theorem pt176:part prog 176 cs off=if off+7≤cs.length then some (.agg ((cs.drop off).take 7)) else none:=cp (by kernel_rfl) (by kernel_rfl)
@[simp] theorem st176:bf prog cfg h 176 (.ptr b off) v=stv cfg h b off 7 (cellsOf v):=bk (by kernel_rfl)
@[simp] theorem zr176:zeroOf prog 176=some (.agg [(.int .i32 0),(.int .i32 0),(.int .u8 0),(.int .u8 0),(.int .u8 0),(.int .u8 0),(.int .u8 0)]):=by kernel_rfl
@[simp] theorem fl176x0:ag prog 176 (.lptr cs off) 0=some (.lptr cs off):=by kernel_rfl
@[simp] theorem fl176x1:ag prog 176 (.lptr cs off) 1=some (.lptr cs (off+1)):=by kernel_rfl
@[simp] theorem fv176x2:iX prog 176 (.agg cs) 2=part prog 5 cs 2:=by kernel_rfl
@[simp] theorem fv176x4:iX prog 176 (.agg cs) 4=part prog 5 cs 4:=by kernel_rfl
@[simp] theorem fv176x5:iX prog 176 (.agg cs) 5=part prog 5 cs 5:=by kernel_rfl
@[simp] theorem fv176x6:iX prog 176 (.agg cs) 6=part prog 5 cs 6:=by kernel_rfl
def lK:Nat→Option (Nat×Nat)
 | 0=>some (0,1)
 | 1=>some (1,1)
 | 2=>some (2,1)
 | 3=>some (3,1)
 | 4=>some (4,1)
 | 5=>some (5,1)
 | 6=>some (6,1)
 | _=>none
@[simp] theorem pl176x0:lK 0=some (0,1):=rfl
@[simp] theorem pl176x1:lK 1=some (1,1):=rfl
@[simp] theorem pl176x2:lK 2=some (2,1):=rfl
@[simp] theorem pl176x3:lK 3=some (3,1):=rfl
@[simp] theorem pl176x4:lK 4=some (4,1):=rfl
@[simp] theorem pl176x5:lK 5=some (5,1):=rfl
@[simp] theorem pl176x6:lK 6=some (6,1):=rfl
@[simp] theorem bd176:cr prog 176 ps=(cN lK [(.int .i32 0),(.int .i32 0),(.int .u8 0),(.int .u8 0),(.int .u8 0),(.int .u8 0),(.int .u8 0)] ps).map .agg:=cm (pl:=lK) zr176 underlying176 (by kernel_rfl) (fun i=>by match i with|0|1|2|3|4|5|6=>(show _=_;kernel_rfl)|_+7=>(show _=_;kernel_rfl))
@[simp] theorem pt182:part prog 182 cs off=if off+5≤cs.length then some (.agg ((cs.drop off).take 5)) else none:=cp (by kernel_rfl) (by kernel_rfl)
@[simp] theorem st182:bf prog cfg h 182 (.ptr b off) v=stv cfg h b off 5 (cellsOf v):=bk (by kernel_rfl)
@[simp] theorem zr182:zeroOf prog 182=some (.agg [(.int .i64 0),(.int .i64 0),(.int .i32 0),(.int .i32 0),(.bool false)]):=by kernel_rfl
@[simp] theorem fa182x1:ag prog 182 (.ptr b off) 1=some (.ptr b (off+1)):=by kernel_rfl
@[simp] theorem fa182x2:ag prog 182 (.ptr b off) 2=some (.ptr b (off+2)):=by kernel_rfl
@[simp] theorem fa182x3:ag prog 182 (.ptr b off) 3=some (.ptr b (off+3)):=by kernel_rfl
@[simp] theorem fa182x4:ag prog 182 (.ptr b off) 4=some (.ptr b (off+4)):=by kernel_rfl
def pY:Nat→Option (Nat×Nat)
 | 0=>some (0,1)
 | 1=>some (1,1)
 | 2=>some (2,1)
 | 3=>some (3,1)
 | 4=>some (4,1)
 | _=>none
@[simp] theorem pl182x0:pY 0=some (0,1):=rfl
@[simp] theorem pl182x1:pY 1=some (1,1):=rfl
@[simp] theorem pl182x2:pY 2=some (2,1):=rfl
@[simp] theorem pl182x3:pY 3=some (3,1):=rfl
@[simp] theorem pl182x4:pY 4=some (4,1):=rfl
@[simp] theorem bd182:cr prog 182 ps=(cN pY [(.int .i64 0),(.int .i64 0),(.int .i32 0),(.int .i32 0),(.bool false)] ps).map .agg:=cm (pl:=pY) zr182 underlying182 (by kernel_rfl) (fun i=>by match i with|0|1|2|3|4=>(show _=_;kernel_rfl)|_+5=>(show _=_;kernel_rfl))
@[simp] theorem pt188:part prog 188 cs off=if off+3≤cs.length then some (.agg ((cs.drop off).take 3)) else none:=cp (by kernel_rfl) (by kernel_rfl)
@[simp] theorem st188:bf prog cfg h 188 (.ptr b off) v=stv cfg h b off 3 (cellsOf v):=bk (by kernel_rfl)
@[simp] theorem zr188:zeroOf prog 188=some (.agg [(.int .i64 0),(.int .i64 0),(.bool false)]):=by kernel_rfl
@[simp] theorem fa188x0:ag prog 188 (.ptr b off) 0=some (.ptr b off):=by kernel_rfl
@[simp] theorem fa188x1:ag prog 188 (.ptr b off) 1=some (.ptr b (off+1)):=by kernel_rfl
@[simp] theorem fa188x2:ag prog 188 (.ptr b off) 2=some (.ptr b (off+2)):=by kernel_rfl
def vk:Nat→Option (Nat×Nat)
 | 0=>some (0,1)
 | 1=>some (1,1)
 | 2=>some (2,1)
 | _=>none
@[simp] theorem pl188x0:vk 0=some (0,1):=rfl
@[simp] theorem pl188x1:vk 1=some (1,1):=rfl
@[simp] theorem pl188x2:vk 2=some (2,1):=rfl
@[simp] theorem bd188:cr prog 188 ps=(cN vk [(.int .i64 0),(.int .i64 0),(.bool false)] ps).map .agg:=cm (pl:=vk) zr188 underlying188 (by kernel_rfl) (fun i=>by match i with|0|1|2=>(show _=_;kernel_rfl)|_+3=>(show _=_;kernel_rfl))
@[simp] theorem pt189:part prog 189 cs off=slot cs off:=bR (by kernel_rfl)
@[simp] theorem st189:bf prog cfg h 189 (.ptr b off) v=stv cfg h b off 1 (cellsOf v):=bk (by kernel_rfl)
@[simp] theorem zr189:zeroOf prog 189=some .nils:=by kernel_rfl
@[simp] theorem ixS189:ay prog 189 (.sl b off len cap c) (.int k i)=lp 3 b off len c i:=eV DD s188
@[simp] theorem slS189{b off len cap k:Nat}:da prog h 189 (.sl b off len cap k) lo hi=vH 3 b off len cap k (bA 0 lo) (bA len hi):=tk DD s188
@[simp] theorem lnS189{b off len cap k:Nat}:dk prog 189 (.sl b off len cap k)=some (.int .i64 len):=fB DD
@[simp] theorem ap189:cA prog cfg h 189 189 d x=kQ cfg h 3 24 d (bu h 3 x):=ec DD s188 (by kernel_rfl) (by kernel_rfl) (by decide)
@[simp] theorem bs189:aM prog h 189 len vs=(bq 3 vs).bind fun cs=>if vs.length=len&&decide (len*3≤16777216) then some (.sl h.length 0 len len 3,h++[some cs]) else none:=bw DD s188 (by kernel_rfl) (by decide)
@[simp] theorem ixS191:ay prog 191 (.sl b off len cap c) (.int k i)=lp 1 b off len c i:=eV u191 s22
@[simp] theorem lnS191{b off len cap k:Nat}:dk prog 191 (.sl b off len cap k)=some (.int .i64 len):=fB u191
@[simp] theorem ap191:cA prog cfg h 191 191 d x=kQ cfg h 1 24 d (bu h 1 x):=ec u191 s22 (by kernel_rfl) (by kernel_rfl) (by decide)
@[simp] theorem bs191:aM prog h 191 len vs=(bq 1 vs).bind fun cs=>if vs.length=len&&decide (len*1≤16777216) then some (.sl h.length 0 len len 1,h++[some cs]) else none:=bw u191 s22 (by kernel_rfl) (by decide)
@[simp] theorem st197:bf prog cfg h 197 (.ptr b off) v=stv cfg h b off 308 (cellsOf v):=bk (by kernel_rfl)
@[simp] theorem zr197:zeroOf prog 197=some (.agg [(.int .i32 0),(.int .i32 0),(.int .u8 0),(.int .u8 0),(.int .u8 0),(.int .u8 0),(.int .u8 0),(.int .i32 0),(.int .i32 0),(.int .u8 0),(.int .u8 0),(.int .u8 0),(.int .u8 0),(.int .u8 0),(.int .i32 0),(.int .i32 0),(.int .u8 0),(.int .u8 0),(.int .u8 0),(.int .u8 0),(.int .u8 0),(.int .i32 0),(.int .i32 0),(.int .u8 0),(.int .u8 0),(.int .u8 0),(.int .u8 0),(.int .u8 0),(.int .i32 0),(.int .i32 0),(.int .u8 0),(.int .u8 0),(.int .u8 0),(.int .u8 0),(.int .u8 0),(.int .i32 0),(.int .i32 0),(.int .u8 0),(.int .u8 0),(.int .u8 0),(.int .u8 0),(.int .u8 0),(.int .i32 0),(.int .i32 0),(.int .u8 0),(.int .u8 0),(.int .u8 0),(.int .u8 0),(.int .u8 0),(.int .i32 0),(.int .i32 0),(.int .u8 0),(.int .u8 0),(.int .u8 0),(.int .u8 0),(.int .u8 0),(.int .i32 0),(.int .i32 0),(.int .u8 0),(.int .u8 0),(.int .u8 0),(.int .u8 0),(.int .u8 0),(.int .i32 0),(.int .i32 0),(.int .u8 0),(.int .u8 0),(.int .u8 0),(.int .u8 0),(.int .u8 0),(.int .i32 0),(.int .i32 0),(.int .u8 0),(.int .u8 0),(.int .u8 0),(.int .u8 0),(.int .u8 0),(.int .i32 0),(.int .i32 0),(.int .u8 0),(.int .u8 0),(.int .u8 0),(.int .u8 0),(.int .u8 0),(.int .i32 0),(.int .i32 0),(.int .u8 0),(.int .u8 0),(.int .u8 0),(.int .u8 0),(.int .u8 0),(.int .i32 0),(.int .i32 0),(.int .u8 0),(.int .u8 0),(.int .u8 0),(.int .u8 0),(.int .u8 0),(.int .i32 0),(.int .i32 0),(.int .u8 0),(.int .u8 0),(.int .u8 0),(.int .u8 0),(.int .u8 0),(.int .i32 0),(.int .i32 0),(.int .u8 0),(.int .u8 0),(.int .u8 0),(.int .u8 0),(.int .u8 0),(.int .i32 0),(.int .i32 0),(.int .u8 0),(.int .u8 0),(.int .u8 0),(.int .u8 0),(.int .u8 0),(.int .i32 0),(.int .i32 0),(.int .u8 0),(.int .u8 0),(.int .u8 0),(.int .u8 0),(.int .u8 0),(.int .i32 0),(.int .i32 0),(.int .u8 0),(.int .u8 0),(.int .u8 0),(.int .u8 0),(.int .u8 0),(.int .i32 0),(.int .i32 0),(.int .u8 0),(.int .u8 0),(.int .u8 0),(.int .u8 0),(.int .u8 0),(.int .i32 0),(.int .i32 0),(.int .u8 0),(.int .u8 0),(.int .u8 0),(.int .u8 0),(.int .u8 0),(.int .i32 0),(.int .i32 0),(.int .u8 0),(.int .u8 0),(.int .u8 0),(.int .u8 0),(.int .u8 0),(.int .i32 0),(.int .i32 0),(.int .u8 0),(.int .u8 0),(.int .u8 0),(.int .u8 0),(.int .u8 0),(.int .i32 0),(.int .i32 0),(.int .u8 0),(.int .u8 0),(.int .u8 0),(.int .u8 0),(.int .u8 0),(.int .i32 0),(.int .i32 0),(.int .u8 0),(.int .u8 0),(.int .u8 0),(.int .u8 0),(.int .u8 0),(.int .i32 0),(.int .i32 0),(.int .u8 0),(.int .u8 0),(.int .u8 0),(.int .u8 0),(.int .u8 0),(.int .i32 0),(.int .i32 0),(.int .u8 0),(.int .u8 0),(.int .u8 0),(.int .u8 0),(.int .u8 0),(.int .i32 0),(.int .i32 0),(.int .u8 0),(.int .u8 0),(.int .u8 0),(.int .u8 0),(.int .u8 0),(.int .i32 0),(.int .i32 0),(.int .u8 0),(.int .u8 0),(.int .u8 0),(.int .u8 0),(.int .u8 0),(.int .i32 0),(.int .i32 0),(.int .u8 0),(.int .u8 0),(.int .u8 0),(.int .u8 0),(.int .u8 0),(.int .i32 0),(.int .i32 0),(.int .u8 0),(.int .u8 0),(.int .u8 0),(.int .u8 0),(.int .u8 0),(.int .i32 0),(.int .i32 0),(.int .u8 0),(.int .u8 0),(.int .u8 0),(.int .u8 0),(.int .u8 0),(.int .i32 0),(.int .i32 0),(.int .u8 0),(.int .u8 0),(.int .u8 0),(.int .u8 0),(.int .u8 0),(.int .i32 0),(.int .i32 0),(.int .u8 0),(.int .u8 0),(.int .u8 0),(.int .u8 0),(.int .u8 0),(.int .i32 0),(.int .i32 0),(.int .u8 0),(.int .u8 0),(.int .u8 0),(.int .u8 0),(.int .u8 0),(.int .i32 0),(.int .i32 0),(.int .u8 0),(.int .u8 0),(.int .u8 0),(.int .u8 0),(.int .u8 0),(.int .i32 0),(.int .i32 0),(.int .u8 0),(.int .u8 0),(.int .u8 0),(.int .u8 0),(.int .u8 0),(.int .i32 0),(.int .i32 0),(.int .u8 0),(.int .u8 0),(.int .u8 0),(.int .u8 0),(.int .u8 0),(.int .i32 0),(.int .i32 0),(.int .u8 0),(.int .u8 0),(.int .u8 0),(.int .u8 0),(.int .u8 0),(.int .i32 0),(.int .i32 0),(.int .u8 0),(.int .u8 0),(.int .u8 0),(.int .u8 0),(.int .u8 0),(.int .i32 0),(.int .i32 0),(.int .u8 0),(.int .u8 0),(.int .u8 0),(.int .u8 0),(.int .u8 0),(.int .i32 0),(.int .i32 0),(.int .u8 0),(.int .u8 0),(.int .u8 0),(.int .u8 0),(.int .u8 0),(.int .i32 0),(.int .i32 0),(.int .u8 0),(.int .u8 0),(.int .u8 0),(.int .u8 0),(.int .u8 0),(.int .i32 0),(.int .i32 0),(.int .u8 0),(.int .u8 0),(.int .u8 0),(.int .u8 0),(.int .u8 0)]):=by kernel_rfl
@[simp] theorem ixL200:ay prog 200 (.lst xs) (.int k i)=jP 7 xs i:=dK u200 s176
@[simp] theorem lnL200:dk prog 200 (.lst xs)=some (.int .i64 xs.length):=dL u200
@[simp] theorem st201:bf prog cfg h 201 (.ptr b off) v=stv cfg h b off 287 (cellsOf v):=bk (by kernel_rfl)
@[simp] theorem zr201:zeroOf prog 201=some (.agg [(.int .i32 0),(.int .i32 0),(.int .u8 0),(.int .u8 0),(.int .u8 0),(.int .u8 0),(.int .u8 0),(.int .i32 0),(.int .i32 0),(.int .u8 0),(.int .u8 0),(.int .u8 0),(.int .u8 0),(.int .u8 0),(.int .i32 0),(.int .i32 0),(.int .u8 0),(.int .u8 0),(.int .u8 0),(.int .u8 0),(.int .u8 0),(.int .i32 0),(.int .i32 0),(.int .u8 0),(.int .u8 0),(.int .u8 0),(.int .u8 0),(.int .u8 0),(.int .i32 0),(.int .i32 0),(.int .u8 0),(.int .u8 0),(.int .u8 0),(.int .u8 0),(.int .u8 0),(.int .i32 0),(.int .i32 0),(.int .u8 0),(.int .u8 0),(.int .u8 0),(.int .u8 0),(.int .u8 0),(.int .i32 0),(.int .i32 0),(.int .u8 0),(.int .u8 0),(.int .u8 0),(.int .u8 0),(.int .u8 0),(.int .i32 0),(.int .i32 0),(.int .u8 0),(.int .u8 0),(.int .u8 0),(.int .u8 0),(.int .u8 0),(.int .i32 0),(.int .i32 0),(.int .u8 0),(.int .u8 0),(.int .u8 0),(.int .u8 0),(.int .u8 0),(.int .i32 0),(.int .i32 0),(.int .u8 0),(.int .u8 0),(.int .u8 0),(.int .u8 0),(.int .u8 0),(.int .i32 0),(.int .i32 0),(.int .u8 0),(.int .u8 0),(.int .u8 0),(.int .u8 0),(.int .u8 0),(.int .i32 0),(.int .i32 0),(.int .u8 0),(.int .u8 0),(.int .u8 0),(.int .u8 0),(.int .u8 0),(.int .i32 0),(.int .i32 0),(.int .u8 0),(.int .u8 0),(.int .u8 0),(.int .u8 0),(.int .u8 0),(.int .i32 0),(.int .i32 0),(.int .u8 0),(.int .u8 0),(.int .u8 0),(.int .u8 0),(.int .u8 0),(.int .i32 0),(.int .i32 0),(.int .u8 0),(.int .u8 0),(.int .u8 0),(.int .u8 0),(.int .u8 0),(.int .i32 0),(.int .i32 0),(.int .u8 0),(.int .u8 0),(.int .u8 0),(.int .u8 0),(.int .u8 0),(.int .i32 0),(.int .i32 0),(.int .u8 0),(.int .u8 0),(.int .u8 0),(.int .u8 0),(.int .u8 0),(.int .i32 0),(.int .i32 0),(.int .u8 0),(.int .u8 0),(.int .u8 0),(.int .u8 0),(.int .u8 0),(.int .i32 0),(.int .i32 0),(.int .u8 0),(.int .u8 0),(.int .u8 0),(.int .u8 0),(.int .u8 0),(.int .i32 0),(.int .i32 0),(.int .u8 0),(.int .u8 0),(.int .u8 0),(.int .u8 0),(.int .u8 0),(.int .i32 0),(.int .i32 0),(.int .u8 0),(.int .u8 0),(.int .u8 0),(.int .u8 0),(.int .u8 0),(.int .i32 0),(.int .i32 0),(.int .u8 0),(.int .u8 0),(.int .u8 0),(.int .u8 0),(.int .u8 0),(.int .i32 0),(.int .i32 0),(.int .u8 0),(.int .u8 0),(.int .u8 0),(.int .u8 0),(.int .u8 0),(.int .i32 0),(.int .i32 0),(.int .u8 0),(.int .u8 0),(.int .u8 0),(.int .u8 0),(.int .u8 0),(.int .i32 0),(.int .i32 0),(.int .u8 0),(.int .u8 0),(.int .u8 0),(.int .u8 0),(.int .u8 0),(.int .i32 0),(.int .i32 0),(.int .u8 0),(.int .u8 0),(.int .u8 0),(.int .u8 0),(.int .u8 0),(.int .i32 0),(.int .i32 0),(.int .u8 0),(.int .u8 0),(.int .u8 0),(.int .u8 0),(.int .u8 0),(.int .i32 0),(.int .i32 0),(.int .u8 0),(.int .u8 0),(.int .u8 0),(.int .u8 0),(.int .u8 0),(.int .i32 0),(.int .i32 0),(.int .u8 0),(.int .u8 0),(.int .u8 0),(.int .u8 0),(.int .u8 0),(.int .i32 0),(.int .i32 0),(.int .u8 0),(.int .u8 0),(.int .u8 0),(.int .u8 0),(.int .u8 0),(.int .i32 0),(.int .i32 0),(.int .u8 0),(.int .u8 0),(.int .u8 0),(.int .u8 0),(.int .u8 0),(.int .i32 0),(.int .i32 0),(.int .u8 0),(.int .u8 0),(.int .u8 0),(.int .u8 0),(.int .u8 0),(.int .i32 0),(.int .i32 0),(.int .u8 0),(.int .u8 0),(.int .u8 0),(.int .u8 0),(.int .u8 0),(.int .i32 0),(.int .i32 0),(.int .u8 0),(.int .u8 0),(.int .u8 0),(.int .u8 0),(.int .u8 0),(.int .i32 0),(.int .i32 0),(.int .u8 0),(.int .u8 0),(.int .u8 0),(.int .u8 0),(.int .u8 0),(.int .i32 0),(.int .i32 0),(.int .u8 0),(.int .u8 0),(.int .u8 0),(.int .u8 0),(.int .u8 0),(.int .i32 0),(.int .i32 0),(.int .u8 0),(.int .u8 0),(.int .u8 0),(.int .u8 0),(.int .u8 0),(.int .i32 0),(.int .i32 0),(.int .u8 0),(.int .u8 0),(.int .u8 0),(.int .u8 0),(.int .u8 0),(.int .i32 0),(.int .i32 0),(.int .u8 0),(.int .u8 0),(.int .u8 0),(.int .u8 0),(.int .u8 0),(.int .i32 0),(.int .i32 0),(.int .u8 0),(.int .u8 0),(.int .u8 0),(.int .u8 0),(.int .u8 0),(.int .i32 0),(.int .i32 0),(.int .u8 0),(.int .u8 0),(.int .u8 0),(.int .u8 0),(.int .u8 0)]):=by kernel_rfl
@[simp] theorem ixL207:ay prog 207 (.lst xs) (.int k i)=jP 2 xs i:=dK u207 s224
@[simp] theorem lnL207:dk prog 207 (.lst xs)=some (.int .i64 xs.length):=dL u207
@[simp] theorem pt210:part prog 210 cs off=if off+5≤cs.length then some (.agg ((cs.drop off).take 5)) else none:=cp (by kernel_rfl) (by kernel_rfl)
@[simp] theorem st210:bf prog cfg h 210 (.ptr b off) v=stv cfg h b off 5 (cellsOf v):=bk (by kernel_rfl)
@[simp] theorem zr210:zeroOf prog 210=some (.agg [(.int .i32 0),(.int .i32 0),(.int .i64 0),(.int .i64 0),(.bool false)]):=by kernel_rfl
@[simp] theorem fa210x0:ag prog 210 (.ptr b off) 0=some (.ptr b off):=by kernel_rfl
@[simp] theorem fa210x1:ag prog 210 (.ptr b off) 1=some (.ptr b (off+4)):=by kernel_rfl
@[simp] theorem ixS212:ay prog 212 (.sl b off len cap c) (.int k i)=lp 1 b off len c i:=eV u212 s39
@[simp] theorem lnS212{b off len cap k:Nat}:dk prog 212 (.sl b off len cap k)=some (.int .i64 len):=fB u212
@[simp] theorem ap212:cA prog cfg h 212 212 d x=kQ cfg h 1 24 d (bu h 1 x):=ec u212 s39 (by kernel_rfl) (by kernel_rfl) (by decide)
@[simp] theorem bs212:aM prog h 212 len vs=(bq 1 vs).bind fun cs=>if vs.length=len&&decide (len*1≤16777216) then some (.sl h.length 0 len len 1,h++[some cs]) else none:=bw u212 s39 (by kernel_rfl) (by decide)
@[simp] theorem ixS215:ay prog 215 (.sl b off len cap c) (.int k i)=lp 2 b off len c i:=eV u215 s219
@[simp] theorem slS215{b off len cap k:Nat}:da prog h 215 (.sl b off len cap k) lo hi=vH 2 b off len cap k (bA 0 lo) (bA len hi):=tk u215 s219
@[simp] theorem ap215:cA prog cfg h 215 215 d x=kQ cfg h 2 16 d (bu h 2 x):=ec u215 s219 (by kernel_rfl) (by kernel_rfl) (by decide)
@[simp] theorem bs215:aM prog h 215 len vs=(bq 2 vs).bind fun cs=>if vs.length=len&&decide (len*2≤16777216) then some (.sl h.length 0 len len 2,h++[some cs]) else none:=bw u215 s219 (by kernel_rfl) (by decide)
@[simp] theorem zr219:zeroOf prog 219=some (.agg [(.int .i32 0),(.int .i64 0)]):=by kernel_rfl
@[simp] theorem fa219x0:ag prog 219 (.ptr b off) 0=some (.ptr b off):=by kernel_rfl
@[simp] theorem fa219x1:ag prog 219 (.ptr b off) 1=some (.ptr b (off+1)):=by kernel_rfl
def yX:Nat→Option (Nat×Nat)
 | 0=>some (0,1)
 | 1=>some (1,1)
 | _=>none
@[simp] theorem pl219x0:yX 0=some (0,1):=rfl
@[simp] theorem pl219x1:yX 1=some (1,1):=rfl
@[simp] theorem bd219:cr prog 219 ps=(cN yX [(.int .i32 0),(.int .i64 0)] ps).map .agg:=cm (pl:=yX) zr219 underlying219 (by kernel_rfl) (fun i=>by match i with|0|1=>(show _=_;kernel_rfl)|_+2=>(show _=_;kernel_rfl))
@[simp] theorem pt224:part prog 224 cs off=if off+2≤cs.length then some (.agg ((cs.drop off).take 2)) else none:=cp (by kernel_rfl) (by kernel_rfl)
@[simp] theorem st224:bf prog cfg h 224 (.ptr b off) v=stv cfg h b off 2 (cellsOf v):=bk (by kernel_rfl)
@[simp] theorem zr224:zeroOf prog 224=some (.agg [(.int .i32 0),(.int .i32 0)]):=by kernel_rfl
@[simp] theorem ixA224:ay prog 224 (.ptr b off) (.int k i)=if 0≤i then (if i.toNat<2 then some (.ptr b (off+i.toNat*1)) else none) else none:=yy u224 s21
end
end Go.Ab.Tryz
