/- Facts on the types of the seat's program, each by the kernel. Printed by wip/tools/Facts.lean. -/
import Derived.Test.YtkiepcknigbhpaaGreatAbW3
import Derived.Test.YtkiepcknigbhpaaGreatProg
import Derived.KernelRfl
namespace Go.Ab
open Go.Proofs
section
variable {cfg : Cfg} {h : Heap}
@[simp] theorem Tryz.pt3 {cs : List V} {off : Nat} : part Tryz.prog 3 cs off = slot cs off := part_leaf (by kernel_rfl)
@[simp] theorem Tryz.st3 {b off : Nat} {v : V} : storeV Tryz.prog cfg h 3 (.ptr b off) v = stv cfg h b off 1 (cellsOf v) := store_eq (by kernel_rfl)
@[simp] theorem Tryz.zr3 : zeroOf Tryz.prog 3 = some (.int .i64 0) := by kernel_rfl
@[simp] theorem Tryz.pt4 {cs : List V} {off : Nat} : part Tryz.prog 4 cs off = slot cs off := part_leaf (by kernel_rfl)
@[simp] theorem Tryz.st4 {b off : Nat} {v : V} : storeV Tryz.prog cfg h 4 (.ptr b off) v = stv cfg h b off 1 (cellsOf v) := store_eq (by kernel_rfl)
@[simp] theorem Tryz.zr4 : zeroOf Tryz.prog 4 = some (.bool false) := by kernel_rfl
@[simp] theorem Tryz.eq4 {a b : Bool} : eqV Tryz.prog 4 (.bool a) (.bool b) = some (a == b) := eqBool_eq (by kernel_rfl)
@[simp] theorem Tryz.pt5 {cs : List V} {off : Nat} : part Tryz.prog 5 cs off = slot cs off := part_leaf (by kernel_rfl)
@[simp] theorem Tryz.st5 {b off : Nat} {v : V} : storeV Tryz.prog cfg h 5 (.ptr b off) v = stv cfg h b off 1 (cellsOf v) := store_eq (by kernel_rfl)
@[simp] theorem Tryz.zr5 : zeroOf Tryz.prog 5 = some (.int .u8 0) := by kernel_rfl
@[simp] theorem Tryz.pt21 {cs : List V} {off : Nat} : part Tryz.prog 21 cs off = slot cs off := part_leaf (by kernel_rfl)
@[simp] theorem Tryz.pt22 {cs : List V} {off : Nat} : part Tryz.prog 22 cs off = slot cs off := part_leaf (by kernel_rfl)
@[simp] theorem Tryz.st22 {b off : Nat} {v : V} : storeV Tryz.prog cfg h 22 (.ptr b off) v = stv cfg h b off 1 (cellsOf v) := store_eq (by kernel_rfl)
@[simp] theorem Tryz.ixL22 {xs : List (List V)} {k : IntKind} {i : Int} : indexAddrV Tryz.prog 22 (.lst xs) (.int k i) = idxL 1 xs i := idxL_eq (show Tryz.prog.underlying 22 = some (.slice 3) by kernel_rfl) (show szOf Tryz.prog 3 = some 1 by kernel_rfl)
@[simp] theorem Tryz.ixS22 {b off len cap c : Nat} {k : IntKind} {i : Int} : indexAddrV Tryz.prog 22 (.sl b off len cap c) (.int k i) = idxS 1 b off len c i := idxS_eq (show Tryz.prog.underlying 22 = some (.slice 3) by kernel_rfl) (show szOf Tryz.prog 3 = some 1 by kernel_rfl)
@[simp] theorem Tryz.slL22 {xs : List (List V)} {lo hi : Option (Option V)} : sliceV Tryz.prog h 22 (.lst xs) lo hi = slcL 1 xs (boundV 0 lo) (boundV xs.length hi) := slcL_eq (show Tryz.prog.underlying 22 = some (.slice 3) by kernel_rfl) (show szOf Tryz.prog 3 = some 1 by kernel_rfl)
@[simp] theorem Tryz.slS22 {b off len cap k : Nat} {lo hi : Option (Option V)} : sliceV Tryz.prog h 22 (.sl b off len cap k) lo hi = slcS 1 b off len cap k (boundV 0 lo) (boundV len hi) := slcS_eq (show Tryz.prog.underlying 22 = some (.slice 3) by kernel_rfl) (show szOf Tryz.prog 3 = some 1 by kernel_rfl)
@[simp] theorem Tryz.slN22 {lo hi : Option (Option V)} : sliceV Tryz.prog h 22 .nils lo hi = slcN (boundV 0 lo) (boundV 0 hi) := slcN_eq (show Tryz.prog.underlying 22 = some (.slice 3) by kernel_rfl) (show szOf Tryz.prog 3 = some 1 by kernel_rfl)
@[simp] theorem Tryz.lnL22 {xs : List (List V)} : lenV Tryz.prog 22 (.lst xs) = some (.int .i64 xs.length) := lenL_eq (show Tryz.prog.underlying 22 = some (.slice 3) by kernel_rfl)
@[simp] theorem Tryz.lnS22 {b off len cap k : Nat} : lenV Tryz.prog 22 (.sl b off len cap k) = some (.int .i64 len) := lenS_eq (show Tryz.prog.underlying 22 = some (.slice 3) by kernel_rfl)
@[simp] theorem Tryz.lnN22 : lenV Tryz.prog 22 .nils = some (.int .i64 0) := lenN_eq (show Tryz.prog.underlying 22 = some (.slice 3) by kernel_rfl)
@[simp] theorem Tryz.ap22 {d x : V} : appendV Tryz.prog cfg h 22 22 d x = appS cfg h 1 8 d (srcCells h 1 x) := appS_eq (show Tryz.prog.underlying 22 = some (.slice 3) by kernel_rfl) (show szOf Tryz.prog 3 = some 1 by kernel_rfl) (by kernel_rfl) (by kernel_rfl) (by decide)
@[simp] theorem Tryz.bs22 {len : Nat} {vs : List V} : buildSliceV Tryz.prog h 22 len vs = (cellsAll 1 vs).bind fun cs => if vs.length = len && decide (len * 1 ≤ 16777216) then some (.sl h.length 0 len len 1, h ++ [some cs]) else none := buildSlice_eq (show Tryz.prog.underlying 22 = some (.slice 3) by kernel_rfl) (show szOf Tryz.prog 3 = some 1 by kernel_rfl) (by kernel_rfl) (by decide)
@[simp] theorem Tryz.mk22 {n m : Int} : makeSliceV Tryz.prog h 22 (.int .i64 n) (.int .i64 m) = mkS h 1 8 [(.int .i64 0)] n m := mkS_eq (show Tryz.prog.underlying 22 = some (.slice 3) by kernel_rfl) (show szOf Tryz.prog 3 = some 1 by kernel_rfl) (by kernel_rfl) Tryz.zr3 rfl (by decide) (by decide)
@[simp] theorem Tryz.pt25 {cs : List V} {off : Nat} : part Tryz.prog 25 cs off = slot cs off := part_leaf (by kernel_rfl)
@[simp] theorem Tryz.st25 {b off : Nat} {v : V} : storeV Tryz.prog cfg h 25 (.ptr b off) v = stv cfg h b off 1 (cellsOf v) := store_eq (by kernel_rfl)
@[simp] theorem Tryz.ixL25 {xs : List (List V)} {k : IntKind} {i : Int} : indexAddrV Tryz.prog 25 (.lst xs) (.int k i) = idxL 1 xs i := idxL_eq (show Tryz.prog.underlying 25 = some (.slice 21) by kernel_rfl) (show szOf Tryz.prog 21 = some 1 by kernel_rfl)
@[simp] theorem Tryz.ixS25 {b off len cap c : Nat} {k : IntKind} {i : Int} : indexAddrV Tryz.prog 25 (.sl b off len cap c) (.int k i) = idxS 1 b off len c i := idxS_eq (show Tryz.prog.underlying 25 = some (.slice 21) by kernel_rfl) (show szOf Tryz.prog 21 = some 1 by kernel_rfl)
@[simp] theorem Tryz.slL25 {xs : List (List V)} {lo hi : Option (Option V)} : sliceV Tryz.prog h 25 (.lst xs) lo hi = slcL 1 xs (boundV 0 lo) (boundV xs.length hi) := slcL_eq (show Tryz.prog.underlying 25 = some (.slice 21) by kernel_rfl) (show szOf Tryz.prog 21 = some 1 by kernel_rfl)
@[simp] theorem Tryz.slS25 {b off len cap k : Nat} {lo hi : Option (Option V)} : sliceV Tryz.prog h 25 (.sl b off len cap k) lo hi = slcS 1 b off len cap k (boundV 0 lo) (boundV len hi) := slcS_eq (show Tryz.prog.underlying 25 = some (.slice 21) by kernel_rfl) (show szOf Tryz.prog 21 = some 1 by kernel_rfl)
@[simp] theorem Tryz.slN25 {lo hi : Option (Option V)} : sliceV Tryz.prog h 25 .nils lo hi = slcN (boundV 0 lo) (boundV 0 hi) := slcN_eq (show Tryz.prog.underlying 25 = some (.slice 21) by kernel_rfl) (show szOf Tryz.prog 21 = some 1 by kernel_rfl)
@[simp] theorem Tryz.lnL25 {xs : List (List V)} : lenV Tryz.prog 25 (.lst xs) = some (.int .i64 xs.length) := lenL_eq (show Tryz.prog.underlying 25 = some (.slice 21) by kernel_rfl)
@[simp] theorem Tryz.lnS25 {b off len cap k : Nat} : lenV Tryz.prog 25 (.sl b off len cap k) = some (.int .i64 len) := lenS_eq (show Tryz.prog.underlying 25 = some (.slice 21) by kernel_rfl)
@[simp] theorem Tryz.lnN25 : lenV Tryz.prog 25 .nils = some (.int .i64 0) := lenN_eq (show Tryz.prog.underlying 25 = some (.slice 21) by kernel_rfl)
@[simp] theorem Tryz.ap25 {d x : V} : appendV Tryz.prog cfg h 25 25 d x = appS cfg h 1 4 d (srcCells h 1 x) := appS_eq (show Tryz.prog.underlying 25 = some (.slice 21) by kernel_rfl) (show szOf Tryz.prog 21 = some 1 by kernel_rfl) (by kernel_rfl) (by kernel_rfl) (by decide)
@[simp] theorem Tryz.bs25 {len : Nat} {vs : List V} : buildSliceV Tryz.prog h 25 len vs = (cellsAll 1 vs).bind fun cs => if vs.length = len && decide (len * 1 ≤ 16777216) then some (.sl h.length 0 len len 1, h ++ [some cs]) else none := buildSlice_eq (show Tryz.prog.underlying 25 = some (.slice 21) by kernel_rfl) (show szOf Tryz.prog 21 = some 1 by kernel_rfl) (by kernel_rfl) (by decide)
@[simp] theorem Tryz.pt26 {cs : List V} {off : Nat} : part Tryz.prog 26 cs off = slot cs off := part_leaf (by kernel_rfl)
@[simp] theorem Tryz.st26 {b off : Nat} {v : V} : storeV Tryz.prog cfg h 26 (.ptr b off) v = stv cfg h b off 1 (cellsOf v) := store_eq (by kernel_rfl)
@[simp] theorem Tryz.ixL26 {xs : List (List V)} {k : IntKind} {i : Int} : indexAddrV Tryz.prog 26 (.lst xs) (.int k i) = idxL 4 xs i := idxL_eq (show Tryz.prog.underlying 26 = some (.slice 90) by kernel_rfl) (show szOf Tryz.prog 90 = some 4 by kernel_rfl)
@[simp] theorem Tryz.ixS26 {b off len cap c : Nat} {k : IntKind} {i : Int} : indexAddrV Tryz.prog 26 (.sl b off len cap c) (.int k i) = idxS 4 b off len c i := idxS_eq (show Tryz.prog.underlying 26 = some (.slice 90) by kernel_rfl) (show szOf Tryz.prog 90 = some 4 by kernel_rfl)
@[simp] theorem Tryz.lnL26 {xs : List (List V)} : lenV Tryz.prog 26 (.lst xs) = some (.int .i64 xs.length) := lenL_eq (show Tryz.prog.underlying 26 = some (.slice 90) by kernel_rfl)
@[simp] theorem Tryz.lnS26 {b off len cap k : Nat} : lenV Tryz.prog 26 (.sl b off len cap k) = some (.int .i64 len) := lenS_eq (show Tryz.prog.underlying 26 = some (.slice 90) by kernel_rfl)
@[simp] theorem Tryz.lnN26 : lenV Tryz.prog 26 .nils = some (.int .i64 0) := lenN_eq (show Tryz.prog.underlying 26 = some (.slice 90) by kernel_rfl)
@[simp] theorem Tryz.ap26 {d x : V} : appendV Tryz.prog cfg h 26 26 d x = appS cfg h 4 32 d (srcCells h 4 x) := appS_eq (show Tryz.prog.underlying 26 = some (.slice 90) by kernel_rfl) (show szOf Tryz.prog 90 = some 4 by kernel_rfl) (by kernel_rfl) (by kernel_rfl) (by decide)
@[simp] theorem Tryz.bs26 {len : Nat} {vs : List V} : buildSliceV Tryz.prog h 26 len vs = (cellsAll 4 vs).bind fun cs => if vs.length = len && decide (len * 4 ≤ 16777216) then some (.sl h.length 0 len len 4, h ++ [some cs]) else none := buildSlice_eq (show Tryz.prog.underlying 26 = some (.slice 90) by kernel_rfl) (show szOf Tryz.prog 90 = some 4 by kernel_rfl) (by kernel_rfl) (by decide)
@[simp] theorem Tryz.pt28 {cs : List V} {off : Nat} : part Tryz.prog 28 cs off = if off + 5 ≤ cs.length then some (.agg ((cs.drop off).take 5)) else none := part_agg (by kernel_rfl) (by kernel_rfl)
@[simp] theorem Tryz.st28 {b off : Nat} {v : V} : storeV Tryz.prog cfg h 28 (.ptr b off) v = stv cfg h b off 5 (cellsOf v) := store_eq (by kernel_rfl)
@[simp] theorem Tryz.zr28 : zeroOf Tryz.prog 28 = some (.agg [.nils, .nils, (.int .i64 0), (.int .i64 0), (.int .i64 0)]) := by kernel_rfl
@[simp] theorem Tryz.fa28x0 {b off : Nat} : fieldAddrV Tryz.prog 28 (.ptr b off) 0 = some (.ptr b off) := by kernel_rfl
@[simp] theorem Tryz.fl28x0 {cs : List V} {off : Nat} : fieldAddrV Tryz.prog 28 (.lptr cs off) 0 = some (.lptr cs off) := by kernel_rfl
@[simp] theorem Tryz.fa28x1 {b off : Nat} : fieldAddrV Tryz.prog 28 (.ptr b off) 1 = some (.ptr b (off + 1)) := by kernel_rfl
@[simp] theorem Tryz.fl28x1 {cs : List V} {off : Nat} : fieldAddrV Tryz.prog 28 (.lptr cs off) 1 = some (.lptr cs (off + 1)) := by kernel_rfl
@[simp] theorem Tryz.fa28x2 {b off : Nat} : fieldAddrV Tryz.prog 28 (.ptr b off) 2 = some (.ptr b (off + 2)) := by kernel_rfl
@[simp] theorem Tryz.fl28x2 {cs : List V} {off : Nat} : fieldAddrV Tryz.prog 28 (.lptr cs off) 2 = some (.lptr cs (off + 2)) := by kernel_rfl
@[simp] theorem Tryz.fa28x3 {b off : Nat} : fieldAddrV Tryz.prog 28 (.ptr b off) 3 = some (.ptr b (off + 3)) := by kernel_rfl
@[simp] theorem Tryz.fl28x3 {cs : List V} {off : Nat} : fieldAddrV Tryz.prog 28 (.lptr cs off) 3 = some (.lptr cs (off + 3)) := by kernel_rfl
@[simp] theorem Tryz.fa28x4 {b off : Nat} : fieldAddrV Tryz.prog 28 (.ptr b off) 4 = some (.ptr b (off + 4)) := by kernel_rfl
@[simp] theorem Tryz.fl28x4 {cs : List V} {off : Nat} : fieldAddrV Tryz.prog 28 (.lptr cs off) 4 = some (.lptr cs (off + 4)) := by kernel_rfl
def Tryz.pl28 : Nat → Option (Nat × Nat)
  | 0 => some (0, 1)
  | 1 => some (1, 1)
  | 2 => some (2, 1)
  | 3 => some (3, 1)
  | 4 => some (4, 1)
  | _ => none
@[simp] theorem Tryz.pl28x0 : Tryz.pl28 0 = some (0, 1) := rfl
@[simp] theorem Tryz.pl28x1 : Tryz.pl28 1 = some (1, 1) := rfl
@[simp] theorem Tryz.pl28x2 : Tryz.pl28 2 = some (2, 1) := rfl
@[simp] theorem Tryz.pl28x3 : Tryz.pl28 3 = some (3, 1) := rfl
@[simp] theorem Tryz.pl28x4 : Tryz.pl28 4 = some (4, 1) := rfl
@[simp] theorem Tryz.bd28 {ps : List (Nat × V)} : buildV Tryz.prog 28 ps = (fillV Tryz.pl28 [.nils, .nils, (.int .i64 0), (.int .i64 0), (.int .i64 0)] ps).map .agg := build_eq (pl := Tryz.pl28) Tryz.zr28 Tryz.underlying28 (by kernel_rfl) (fun i => by match i with | 0 => (show _ = _; kernel_rfl) | 1 => (show _ = _; kernel_rfl) | 2 => (show _ = _; kernel_rfl) | 3 => (show _ = _; kernel_rfl) | 4 => (show _ = _; kernel_rfl) | _ + 5 => (show _ = _; kernel_rfl))
@[simp] theorem Tryz.ixL29 {xs : List (List V)} {k : IntKind} {i : Int} : indexAddrV Tryz.prog 29 (.lst xs) (.int k i) = idxL 10 xs i := idxL_eq (show Tryz.prog.underlying 29 = some (.slice 70) by kernel_rfl) (show szOf Tryz.prog 70 = some 10 by kernel_rfl)
@[simp] theorem Tryz.ixS29 {b off len cap c : Nat} {k : IntKind} {i : Int} : indexAddrV Tryz.prog 29 (.sl b off len cap c) (.int k i) = idxS 10 b off len c i := idxS_eq (show Tryz.prog.underlying 29 = some (.slice 70) by kernel_rfl) (show szOf Tryz.prog 70 = some 10 by kernel_rfl)
@[simp] theorem Tryz.lnL29 {xs : List (List V)} : lenV Tryz.prog 29 (.lst xs) = some (.int .i64 xs.length) := lenL_eq (show Tryz.prog.underlying 29 = some (.slice 70) by kernel_rfl)
@[simp] theorem Tryz.lnS29 {b off len cap k : Nat} : lenV Tryz.prog 29 (.sl b off len cap k) = some (.int .i64 len) := lenS_eq (show Tryz.prog.underlying 29 = some (.slice 70) by kernel_rfl)
@[simp] theorem Tryz.lnN29 : lenV Tryz.prog 29 .nils = some (.int .i64 0) := lenN_eq (show Tryz.prog.underlying 29 = some (.slice 70) by kernel_rfl)
@[simp] theorem Tryz.ap29 {d x : V} : appendV Tryz.prog cfg h 29 29 d x = appS cfg h 10 96 d (srcCells h 10 x) := appS_eq (show Tryz.prog.underlying 29 = some (.slice 70) by kernel_rfl) (show szOf Tryz.prog 70 = some 10 by kernel_rfl) (by kernel_rfl) (by kernel_rfl) (by decide)
@[simp] theorem Tryz.bs29 {len : Nat} {vs : List V} : buildSliceV Tryz.prog h 29 len vs = (cellsAll 10 vs).bind fun cs => if vs.length = len && decide (len * 10 ≤ 16777216) then some (.sl h.length 0 len len 10, h ++ [some cs]) else none := buildSlice_eq (show Tryz.prog.underlying 29 = some (.slice 70) by kernel_rfl) (show szOf Tryz.prog 70 = some 10 by kernel_rfl) (by kernel_rfl) (by decide)
@[simp] theorem Tryz.pt34 {cs : List V} {off : Nat} : part Tryz.prog 34 cs off = if off + 2 ≤ cs.length then some (.agg ((cs.drop off).take 2)) else none := part_agg (by kernel_rfl) (by kernel_rfl)
@[simp] theorem Tryz.st34 {b off : Nat} {v : V} : storeV Tryz.prog cfg h 34 (.ptr b off) v = stv cfg h b off 2 (cellsOf v) := store_eq (by kernel_rfl)
@[simp] theorem Tryz.zr34 : zeroOf Tryz.prog 34 = some (.agg [(.int .i64 0), (.int .i64 0)]) := by kernel_rfl
@[simp] theorem Tryz.fa34x0 {b off : Nat} : fieldAddrV Tryz.prog 34 (.ptr b off) 0 = some (.ptr b off) := by kernel_rfl
@[simp] theorem Tryz.fl34x0 {cs : List V} {off : Nat} : fieldAddrV Tryz.prog 34 (.lptr cs off) 0 = some (.lptr cs off) := by kernel_rfl
@[simp] theorem Tryz.fa34x1 {b off : Nat} : fieldAddrV Tryz.prog 34 (.ptr b off) 1 = some (.ptr b (off + 1)) := by kernel_rfl
@[simp] theorem Tryz.fl34x1 {cs : List V} {off : Nat} : fieldAddrV Tryz.prog 34 (.lptr cs off) 1 = some (.lptr cs (off + 1)) := by kernel_rfl
def Tryz.pl34 : Nat → Option (Nat × Nat)
  | 0 => some (0, 1)
  | 1 => some (1, 1)
  | _ => none
@[simp] theorem Tryz.pl34x0 : Tryz.pl34 0 = some (0, 1) := rfl
@[simp] theorem Tryz.pl34x1 : Tryz.pl34 1 = some (1, 1) := rfl
@[simp] theorem Tryz.bd34 {ps : List (Nat × V)} : buildV Tryz.prog 34 ps = (fillV Tryz.pl34 [(.int .i64 0), (.int .i64 0)] ps).map .agg := build_eq (pl := Tryz.pl34) Tryz.zr34 Tryz.underlying34 (by kernel_rfl) (fun i => by match i with | 0 => (show _ = _; kernel_rfl) | 1 => (show _ = _; kernel_rfl) | _ + 2 => (show _ = _; kernel_rfl))
@[simp] theorem Tryz.eq34 {xs ys : List V} : eqV Tryz.prog 34 (.agg xs) (.agg ys) = flatK [.int, .int] xs ys := eqAgg_eq Tryz.underlying34 (by kernel_rfl) (by kernel_rfl) (by kernel_rfl)
@[simp] theorem Tryz.pt48 {cs : List V} {off : Nat} : part Tryz.prog 48 cs off = slot cs off := part_leaf (by kernel_rfl)
@[simp] theorem Tryz.st48 {b off : Nat} {v : V} : storeV Tryz.prog cfg h 48 (.ptr b off) v = stv cfg h b off 1 (cellsOf v) := store_eq (by kernel_rfl)
@[simp] theorem Tryz.ixL48 {xs : List (List V)} {k : IntKind} {i : Int} : indexAddrV Tryz.prog 48 (.lst xs) (.int k i) = idxL 2 xs i := idxL_eq (show Tryz.prog.underlying 48 = some (.slice 55) by kernel_rfl) (show szOf Tryz.prog 55 = some 2 by kernel_rfl)
@[simp] theorem Tryz.ixS48 {b off len cap c : Nat} {k : IntKind} {i : Int} : indexAddrV Tryz.prog 48 (.sl b off len cap c) (.int k i) = idxS 2 b off len c i := idxS_eq (show Tryz.prog.underlying 48 = some (.slice 55) by kernel_rfl) (show szOf Tryz.prog 55 = some 2 by kernel_rfl)
@[simp] theorem Tryz.lnL48 {xs : List (List V)} : lenV Tryz.prog 48 (.lst xs) = some (.int .i64 xs.length) := lenL_eq (show Tryz.prog.underlying 48 = some (.slice 55) by kernel_rfl)
@[simp] theorem Tryz.lnS48 {b off len cap k : Nat} : lenV Tryz.prog 48 (.sl b off len cap k) = some (.int .i64 len) := lenS_eq (show Tryz.prog.underlying 48 = some (.slice 55) by kernel_rfl)
@[simp] theorem Tryz.lnN48 : lenV Tryz.prog 48 .nils = some (.int .i64 0) := lenN_eq (show Tryz.prog.underlying 48 = some (.slice 55) by kernel_rfl)
@[simp] theorem Tryz.ap48 {d x : V} : appendV Tryz.prog cfg h 48 48 d x = appS cfg h 2 16 d (srcCells h 2 x) := appS_eq (show Tryz.prog.underlying 48 = some (.slice 55) by kernel_rfl) (show szOf Tryz.prog 55 = some 2 by kernel_rfl) (by kernel_rfl) (by kernel_rfl) (by decide)
@[simp] theorem Tryz.bs48 {len : Nat} {vs : List V} : buildSliceV Tryz.prog h 48 len vs = (cellsAll 2 vs).bind fun cs => if vs.length = len && decide (len * 2 ≤ 16777216) then some (.sl h.length 0 len len 2, h ++ [some cs]) else none := buildSlice_eq (show Tryz.prog.underlying 48 = some (.slice 55) by kernel_rfl) (show szOf Tryz.prog 55 = some 2 by kernel_rfl) (by kernel_rfl) (by decide)
@[simp] theorem Tryz.pt50 {cs : List V} {off : Nat} : part Tryz.prog 50 cs off = if off + 2 ≤ cs.length then some (.agg ((cs.drop off).take 2)) else none := part_agg (by kernel_rfl) (by kernel_rfl)
@[simp] theorem Tryz.st50 {b off : Nat} {v : V} : storeV Tryz.prog cfg h 50 (.ptr b off) v = stv cfg h b off 2 (cellsOf v) := store_eq (by kernel_rfl)
@[simp] theorem Tryz.zr50 : zeroOf Tryz.prog 50 = some (.agg [.nils, .nils]) := by kernel_rfl
@[simp] theorem Tryz.fa50x0 {b off : Nat} : fieldAddrV Tryz.prog 50 (.ptr b off) 0 = some (.ptr b off) := by kernel_rfl
@[simp] theorem Tryz.fl50x0 {cs : List V} {off : Nat} : fieldAddrV Tryz.prog 50 (.lptr cs off) 0 = some (.lptr cs off) := by kernel_rfl
@[simp] theorem Tryz.fa50x1 {b off : Nat} : fieldAddrV Tryz.prog 50 (.ptr b off) 1 = some (.ptr b (off + 1)) := by kernel_rfl
@[simp] theorem Tryz.fl50x1 {cs : List V} {off : Nat} : fieldAddrV Tryz.prog 50 (.lptr cs off) 1 = some (.lptr cs (off + 1)) := by kernel_rfl
def Tryz.pl50 : Nat → Option (Nat × Nat)
  | 0 => some (0, 1)
  | 1 => some (1, 1)
  | _ => none
@[simp] theorem Tryz.pl50x0 : Tryz.pl50 0 = some (0, 1) := rfl
@[simp] theorem Tryz.pl50x1 : Tryz.pl50 1 = some (1, 1) := rfl
@[simp] theorem Tryz.bd50 {ps : List (Nat × V)} : buildV Tryz.prog 50 ps = (fillV Tryz.pl50 [.nils, .nils] ps).map .agg := build_eq (pl := Tryz.pl50) Tryz.zr50 Tryz.underlying50 (by kernel_rfl) (fun i => by match i with | 0 => (show _ = _; kernel_rfl) | 1 => (show _ = _; kernel_rfl) | _ + 2 => (show _ = _; kernel_rfl))
@[simp] theorem Tryz.pt55 {cs : List V} {off : Nat} : part Tryz.prog 55 cs off = if off + 2 ≤ cs.length then some (.agg ((cs.drop off).take 2)) else none := part_agg (by kernel_rfl) (by kernel_rfl)
@[simp] theorem Tryz.st55 {b off : Nat} {v : V} : storeV Tryz.prog cfg h 55 (.ptr b off) v = stv cfg h b off 2 (cellsOf v) := store_eq (by kernel_rfl)
@[simp] theorem Tryz.zr55 : zeroOf Tryz.prog 55 = some (.agg [(.int .i64 0), (.int .i64 0)]) := by kernel_rfl
@[simp] theorem Tryz.fa55x0 {b off : Nat} : fieldAddrV Tryz.prog 55 (.ptr b off) 0 = some (.ptr b off) := by kernel_rfl
@[simp] theorem Tryz.fl55x0 {cs : List V} {off : Nat} : fieldAddrV Tryz.prog 55 (.lptr cs off) 0 = some (.lptr cs off) := by kernel_rfl
@[simp] theorem Tryz.fa55x1 {b off : Nat} : fieldAddrV Tryz.prog 55 (.ptr b off) 1 = some (.ptr b (off + 1)) := by kernel_rfl
@[simp] theorem Tryz.fl55x1 {cs : List V} {off : Nat} : fieldAddrV Tryz.prog 55 (.lptr cs off) 1 = some (.lptr cs (off + 1)) := by kernel_rfl
def Tryz.pl55 : Nat → Option (Nat × Nat)
  | 0 => some (0, 1)
  | 1 => some (1, 1)
  | _ => none
@[simp] theorem Tryz.pl55x0 : Tryz.pl55 0 = some (0, 1) := rfl
@[simp] theorem Tryz.pl55x1 : Tryz.pl55 1 = some (1, 1) := rfl
@[simp] theorem Tryz.bd55 {ps : List (Nat × V)} : buildV Tryz.prog 55 ps = (fillV Tryz.pl55 [(.int .i64 0), (.int .i64 0)] ps).map .agg := build_eq (pl := Tryz.pl55) Tryz.zr55 Tryz.underlying55 (by kernel_rfl) (fun i => by match i with | 0 => (show _ = _; kernel_rfl) | 1 => (show _ = _; kernel_rfl) | _ + 2 => (show _ = _; kernel_rfl))
@[simp] theorem Tryz.zr58 : zeroOf Tryz.prog 58 = some (.agg [.nils, (.int .i64 0)]) := by kernel_rfl
@[simp] theorem Tryz.fa58x0 {b off : Nat} : fieldAddrV Tryz.prog 58 (.ptr b off) 0 = some (.ptr b off) := by kernel_rfl
@[simp] theorem Tryz.fl58x0 {cs : List V} {off : Nat} : fieldAddrV Tryz.prog 58 (.lptr cs off) 0 = some (.lptr cs off) := by kernel_rfl
@[simp] theorem Tryz.fa58x1 {b off : Nat} : fieldAddrV Tryz.prog 58 (.ptr b off) 1 = some (.ptr b (off + 1)) := by kernel_rfl
@[simp] theorem Tryz.fl58x1 {cs : List V} {off : Nat} : fieldAddrV Tryz.prog 58 (.lptr cs off) 1 = some (.lptr cs (off + 1)) := by kernel_rfl
def Tryz.pl58 : Nat → Option (Nat × Nat)
  | 0 => some (0, 1)
  | 1 => some (1, 1)
  | _ => none
@[simp] theorem Tryz.pl58x0 : Tryz.pl58 0 = some (0, 1) := rfl
@[simp] theorem Tryz.pl58x1 : Tryz.pl58 1 = some (1, 1) := rfl
@[simp] theorem Tryz.bd58 {ps : List (Nat × V)} : buildV Tryz.prog 58 ps = (fillV Tryz.pl58 [.nils, (.int .i64 0)] ps).map .agg := build_eq (pl := Tryz.pl58) Tryz.zr58 Tryz.underlying58 (by kernel_rfl) (fun i => by match i with | 0 => (show _ = _; kernel_rfl) | 1 => (show _ = _; kernel_rfl) | _ + 2 => (show _ = _; kernel_rfl))
@[simp] theorem Tryz.ixL59 {xs : List (List V)} {k : IntKind} {i : Int} : indexAddrV Tryz.prog 59 (.lst xs) (.int k i) = idxL 8 xs i := idxL_eq (show Tryz.prog.underlying 59 = some (.slice 87) by kernel_rfl) (show szOf Tryz.prog 87 = some 8 by kernel_rfl)
@[simp] theorem Tryz.ixS59 {b off len cap c : Nat} {k : IntKind} {i : Int} : indexAddrV Tryz.prog 59 (.sl b off len cap c) (.int k i) = idxS 8 b off len c i := idxS_eq (show Tryz.prog.underlying 59 = some (.slice 87) by kernel_rfl) (show szOf Tryz.prog 87 = some 8 by kernel_rfl)
@[simp] theorem Tryz.lnL59 {xs : List (List V)} : lenV Tryz.prog 59 (.lst xs) = some (.int .i64 xs.length) := lenL_eq (show Tryz.prog.underlying 59 = some (.slice 87) by kernel_rfl)
@[simp] theorem Tryz.lnS59 {b off len cap k : Nat} : lenV Tryz.prog 59 (.sl b off len cap k) = some (.int .i64 len) := lenS_eq (show Tryz.prog.underlying 59 = some (.slice 87) by kernel_rfl)
@[simp] theorem Tryz.lnN59 : lenV Tryz.prog 59 .nils = some (.int .i64 0) := lenN_eq (show Tryz.prog.underlying 59 = some (.slice 87) by kernel_rfl)
@[simp] theorem Tryz.ap59 {d x : V} : appendV Tryz.prog cfg h 59 59 d x = appS cfg h 8 112 d (srcCells h 8 x) := appS_eq (show Tryz.prog.underlying 59 = some (.slice 87) by kernel_rfl) (show szOf Tryz.prog 87 = some 8 by kernel_rfl) (by kernel_rfl) (by kernel_rfl) (by decide)
@[simp] theorem Tryz.bs59 {len : Nat} {vs : List V} : buildSliceV Tryz.prog h 59 len vs = (cellsAll 8 vs).bind fun cs => if vs.length = len && decide (len * 8 ≤ 16777216) then some (.sl h.length 0 len len 8, h ++ [some cs]) else none := buildSlice_eq (show Tryz.prog.underlying 59 = some (.slice 87) by kernel_rfl) (show szOf Tryz.prog 87 = some 8 by kernel_rfl) (by kernel_rfl) (by decide)
@[simp] theorem Tryz.pt68 {cs : List V} {off : Nat} : part Tryz.prog 68 cs off = slot cs off := part_leaf (by kernel_rfl)
@[simp] theorem Tryz.st68 {b off : Nat} {v : V} : storeV Tryz.prog cfg h 68 (.ptr b off) v = stv cfg h b off 1 (cellsOf v) := store_eq (by kernel_rfl)
@[simp] theorem Tryz.ixL68 {xs : List (List V)} {k : IntKind} {i : Int} : indexAddrV Tryz.prog 68 (.lst xs) (.int k i) = idxL 8 xs i := idxL_eq (show Tryz.prog.underlying 68 = some (.slice 100) by kernel_rfl) (show szOf Tryz.prog 100 = some 8 by kernel_rfl)
@[simp] theorem Tryz.ixS68 {b off len cap c : Nat} {k : IntKind} {i : Int} : indexAddrV Tryz.prog 68 (.sl b off len cap c) (.int k i) = idxS 8 b off len c i := idxS_eq (show Tryz.prog.underlying 68 = some (.slice 100) by kernel_rfl) (show szOf Tryz.prog 100 = some 8 by kernel_rfl)
@[simp] theorem Tryz.slL68 {xs : List (List V)} {lo hi : Option (Option V)} : sliceV Tryz.prog h 68 (.lst xs) lo hi = slcL 8 xs (boundV 0 lo) (boundV xs.length hi) := slcL_eq (show Tryz.prog.underlying 68 = some (.slice 100) by kernel_rfl) (show szOf Tryz.prog 100 = some 8 by kernel_rfl)
@[simp] theorem Tryz.slS68 {b off len cap k : Nat} {lo hi : Option (Option V)} : sliceV Tryz.prog h 68 (.sl b off len cap k) lo hi = slcS 8 b off len cap k (boundV 0 lo) (boundV len hi) := slcS_eq (show Tryz.prog.underlying 68 = some (.slice 100) by kernel_rfl) (show szOf Tryz.prog 100 = some 8 by kernel_rfl)
@[simp] theorem Tryz.slN68 {lo hi : Option (Option V)} : sliceV Tryz.prog h 68 .nils lo hi = slcN (boundV 0 lo) (boundV 0 hi) := slcN_eq (show Tryz.prog.underlying 68 = some (.slice 100) by kernel_rfl) (show szOf Tryz.prog 100 = some 8 by kernel_rfl)
@[simp] theorem Tryz.lnL68 {xs : List (List V)} : lenV Tryz.prog 68 (.lst xs) = some (.int .i64 xs.length) := lenL_eq (show Tryz.prog.underlying 68 = some (.slice 100) by kernel_rfl)
@[simp] theorem Tryz.lnS68 {b off len cap k : Nat} : lenV Tryz.prog 68 (.sl b off len cap k) = some (.int .i64 len) := lenS_eq (show Tryz.prog.underlying 68 = some (.slice 100) by kernel_rfl)
@[simp] theorem Tryz.lnN68 : lenV Tryz.prog 68 .nils = some (.int .i64 0) := lenN_eq (show Tryz.prog.underlying 68 = some (.slice 100) by kernel_rfl)
@[simp] theorem Tryz.ap68 {d x : V} : appendV Tryz.prog cfg h 68 68 d x = appS cfg h 8 64 d (srcCells h 8 x) := appS_eq (show Tryz.prog.underlying 68 = some (.slice 100) by kernel_rfl) (show szOf Tryz.prog 100 = some 8 by kernel_rfl) (by kernel_rfl) (by kernel_rfl) (by decide)
@[simp] theorem Tryz.bs68 {len : Nat} {vs : List V} : buildSliceV Tryz.prog h 68 len vs = (cellsAll 8 vs).bind fun cs => if vs.length = len && decide (len * 8 ≤ 16777216) then some (.sl h.length 0 len len 8, h ++ [some cs]) else none := buildSlice_eq (show Tryz.prog.underlying 68 = some (.slice 100) by kernel_rfl) (show szOf Tryz.prog 100 = some 8 by kernel_rfl) (by kernel_rfl) (by decide)
@[simp] theorem Tryz.pt70 {cs : List V} {off : Nat} : part Tryz.prog 70 cs off = if off + 10 ≤ cs.length then some (.agg ((cs.drop off).take 10)) else none := part_agg (by kernel_rfl) (by kernel_rfl)
@[simp] theorem Tryz.st70 {b off : Nat} {v : V} : storeV Tryz.prog cfg h 70 (.ptr b off) v = stv cfg h b off 10 (cellsOf v) := store_eq (by kernel_rfl)
@[simp] theorem Tryz.zr70 : zeroOf Tryz.prog 70 = some (.agg [(.int .i64 0), (.int .i64 0), (.int .i64 0), (.int .i64 0), (.int .i64 0), (.int .i64 0), (.int .i64 0), (.int .i64 0), (.int .i64 0), .nils]) := by kernel_rfl
@[simp] theorem Tryz.fa70x0 {b off : Nat} : fieldAddrV Tryz.prog 70 (.ptr b off) 0 = some (.ptr b off) := by kernel_rfl
@[simp] theorem Tryz.fl70x0 {cs : List V} {off : Nat} : fieldAddrV Tryz.prog 70 (.lptr cs off) 0 = some (.lptr cs off) := by kernel_rfl
@[simp] theorem Tryz.fa70x1 {b off : Nat} : fieldAddrV Tryz.prog 70 (.ptr b off) 1 = some (.ptr b (off + 1)) := by kernel_rfl
@[simp] theorem Tryz.fl70x1 {cs : List V} {off : Nat} : fieldAddrV Tryz.prog 70 (.lptr cs off) 1 = some (.lptr cs (off + 1)) := by kernel_rfl
@[simp] theorem Tryz.fa70x2 {b off : Nat} : fieldAddrV Tryz.prog 70 (.ptr b off) 2 = some (.ptr b (off + 2)) := by kernel_rfl
@[simp] theorem Tryz.fl70x2 {cs : List V} {off : Nat} : fieldAddrV Tryz.prog 70 (.lptr cs off) 2 = some (.lptr cs (off + 2)) := by kernel_rfl
@[simp] theorem Tryz.fa70x3 {b off : Nat} : fieldAddrV Tryz.prog 70 (.ptr b off) 3 = some (.ptr b (off + 3)) := by kernel_rfl
@[simp] theorem Tryz.fl70x3 {cs : List V} {off : Nat} : fieldAddrV Tryz.prog 70 (.lptr cs off) 3 = some (.lptr cs (off + 3)) := by kernel_rfl
@[simp] theorem Tryz.fa70x4 {b off : Nat} : fieldAddrV Tryz.prog 70 (.ptr b off) 4 = some (.ptr b (off + 4)) := by kernel_rfl
@[simp] theorem Tryz.fl70x4 {cs : List V} {off : Nat} : fieldAddrV Tryz.prog 70 (.lptr cs off) 4 = some (.lptr cs (off + 4)) := by kernel_rfl
@[simp] theorem Tryz.fa70x5 {b off : Nat} : fieldAddrV Tryz.prog 70 (.ptr b off) 5 = some (.ptr b (off + 5)) := by kernel_rfl
@[simp] theorem Tryz.fl70x5 {cs : List V} {off : Nat} : fieldAddrV Tryz.prog 70 (.lptr cs off) 5 = some (.lptr cs (off + 5)) := by kernel_rfl
@[simp] theorem Tryz.fa70x6 {b off : Nat} : fieldAddrV Tryz.prog 70 (.ptr b off) 6 = some (.ptr b (off + 6)) := by kernel_rfl
@[simp] theorem Tryz.fl70x6 {cs : List V} {off : Nat} : fieldAddrV Tryz.prog 70 (.lptr cs off) 6 = some (.lptr cs (off + 6)) := by kernel_rfl
@[simp] theorem Tryz.fa70x7 {b off : Nat} : fieldAddrV Tryz.prog 70 (.ptr b off) 7 = some (.ptr b (off + 7)) := by kernel_rfl
@[simp] theorem Tryz.fl70x7 {cs : List V} {off : Nat} : fieldAddrV Tryz.prog 70 (.lptr cs off) 7 = some (.lptr cs (off + 7)) := by kernel_rfl
@[simp] theorem Tryz.fa70x8 {b off : Nat} : fieldAddrV Tryz.prog 70 (.ptr b off) 8 = some (.ptr b (off + 8)) := by kernel_rfl
@[simp] theorem Tryz.fl70x8 {cs : List V} {off : Nat} : fieldAddrV Tryz.prog 70 (.lptr cs off) 8 = some (.lptr cs (off + 8)) := by kernel_rfl
@[simp] theorem Tryz.fa70x9 {b off : Nat} : fieldAddrV Tryz.prog 70 (.ptr b off) 9 = some (.ptr b (off + 9)) := by kernel_rfl
@[simp] theorem Tryz.fl70x9 {cs : List V} {off : Nat} : fieldAddrV Tryz.prog 70 (.lptr cs off) 9 = some (.lptr cs (off + 9)) := by kernel_rfl
def Tryz.pl70 : Nat → Option (Nat × Nat)
  | 0 => some (0, 1)
  | 1 => some (1, 1)
  | 2 => some (2, 1)
  | 3 => some (3, 1)
  | 4 => some (4, 1)
  | 5 => some (5, 1)
  | 6 => some (6, 1)
  | 7 => some (7, 1)
  | 8 => some (8, 1)
  | 9 => some (9, 1)
  | _ => none
@[simp] theorem Tryz.pl70x0 : Tryz.pl70 0 = some (0, 1) := rfl
@[simp] theorem Tryz.pl70x1 : Tryz.pl70 1 = some (1, 1) := rfl
@[simp] theorem Tryz.pl70x2 : Tryz.pl70 2 = some (2, 1) := rfl
@[simp] theorem Tryz.pl70x3 : Tryz.pl70 3 = some (3, 1) := rfl
@[simp] theorem Tryz.pl70x4 : Tryz.pl70 4 = some (4, 1) := rfl
@[simp] theorem Tryz.pl70x5 : Tryz.pl70 5 = some (5, 1) := rfl
@[simp] theorem Tryz.pl70x6 : Tryz.pl70 6 = some (6, 1) := rfl
@[simp] theorem Tryz.pl70x7 : Tryz.pl70 7 = some (7, 1) := rfl
@[simp] theorem Tryz.pl70x8 : Tryz.pl70 8 = some (8, 1) := rfl
@[simp] theorem Tryz.pl70x9 : Tryz.pl70 9 = some (9, 1) := rfl
@[simp] theorem Tryz.bd70 {ps : List (Nat × V)} : buildV Tryz.prog 70 ps = (fillV Tryz.pl70 [(.int .i64 0), (.int .i64 0), (.int .i64 0), (.int .i64 0), (.int .i64 0), (.int .i64 0), (.int .i64 0), (.int .i64 0), (.int .i64 0), .nils] ps).map .agg := build_eq (pl := Tryz.pl70) Tryz.zr70 Tryz.underlying70 (by kernel_rfl) (fun i => by match i with | 0 => (show _ = _; kernel_rfl) | 1 => (show _ = _; kernel_rfl) | 2 => (show _ = _; kernel_rfl) | 3 => (show _ = _; kernel_rfl) | 4 => (show _ = _; kernel_rfl) | 5 => (show _ = _; kernel_rfl) | 6 => (show _ = _; kernel_rfl) | 7 => (show _ = _; kernel_rfl) | 8 => (show _ = _; kernel_rfl) | 9 => (show _ = _; kernel_rfl) | _ + 10 => (show _ = _; kernel_rfl))
@[simp] theorem Tryz.ixL78 {xs : List (List V)} {k : IntKind} {i : Int} : indexAddrV Tryz.prog 78 (.lst xs) (.int k i) = idxL 1 xs i := idxL_eq (show Tryz.prog.underlying 78 = some (.slice 5) by kernel_rfl) (show szOf Tryz.prog 5 = some 1 by kernel_rfl)
@[simp] theorem Tryz.ixS78 {b off len cap c : Nat} {k : IntKind} {i : Int} : indexAddrV Tryz.prog 78 (.sl b off len cap c) (.int k i) = idxS 1 b off len c i := idxS_eq (show Tryz.prog.underlying 78 = some (.slice 5) by kernel_rfl) (show szOf Tryz.prog 5 = some 1 by kernel_rfl)
@[simp] theorem Tryz.mk78 {n m : Int} : makeSliceV Tryz.prog h 78 (.int .i64 n) (.int .i64 m) = mkS h 1 1 [(.int .u8 0)] n m := mkS_eq (show Tryz.prog.underlying 78 = some (.slice 5) by kernel_rfl) (show szOf Tryz.prog 5 = some 1 by kernel_rfl) (by kernel_rfl) Tryz.zr5 rfl (by decide) (by decide)
@[simp] theorem Tryz.pt83 {cs : List V} {off : Nat} : part Tryz.prog 83 cs off = slot cs off := part_leaf (by kernel_rfl)
@[simp] theorem Tryz.st83 {b off : Nat} {v : V} : storeV Tryz.prog cfg h 83 (.ptr b off) v = stv cfg h b off 1 (cellsOf v) := store_eq (by kernel_rfl)
@[simp] theorem Tryz.ixL83 {xs : List (List V)} {k : IntKind} {i : Int} : indexAddrV Tryz.prog 83 (.lst xs) (.int k i) = idxL 3 xs i := idxL_eq (show Tryz.prog.underlying 83 = some (.slice 118) by kernel_rfl) (show szOf Tryz.prog 118 = some 3 by kernel_rfl)
@[simp] theorem Tryz.ixS83 {b off len cap c : Nat} {k : IntKind} {i : Int} : indexAddrV Tryz.prog 83 (.sl b off len cap c) (.int k i) = idxS 3 b off len c i := idxS_eq (show Tryz.prog.underlying 83 = some (.slice 118) by kernel_rfl) (show szOf Tryz.prog 118 = some 3 by kernel_rfl)
@[simp] theorem Tryz.lnL83 {xs : List (List V)} : lenV Tryz.prog 83 (.lst xs) = some (.int .i64 xs.length) := lenL_eq (show Tryz.prog.underlying 83 = some (.slice 118) by kernel_rfl)
@[simp] theorem Tryz.lnS83 {b off len cap k : Nat} : lenV Tryz.prog 83 (.sl b off len cap k) = some (.int .i64 len) := lenS_eq (show Tryz.prog.underlying 83 = some (.slice 118) by kernel_rfl)
@[simp] theorem Tryz.lnN83 : lenV Tryz.prog 83 .nils = some (.int .i64 0) := lenN_eq (show Tryz.prog.underlying 83 = some (.slice 118) by kernel_rfl)
@[simp] theorem Tryz.ap83 {d x : V} : appendV Tryz.prog cfg h 83 83 d x = appS cfg h 3 16 d (srcCells h 3 x) := appS_eq (show Tryz.prog.underlying 83 = some (.slice 118) by kernel_rfl) (show szOf Tryz.prog 118 = some 3 by kernel_rfl) (by kernel_rfl) (by kernel_rfl) (by decide)
@[simp] theorem Tryz.bs83 {len : Nat} {vs : List V} : buildSliceV Tryz.prog h 83 len vs = (cellsAll 3 vs).bind fun cs => if vs.length = len && decide (len * 3 ≤ 16777216) then some (.sl h.length 0 len len 3, h ++ [some cs]) else none := buildSlice_eq (show Tryz.prog.underlying 83 = some (.slice 118) by kernel_rfl) (show szOf Tryz.prog 118 = some 3 by kernel_rfl) (by kernel_rfl) (by decide)
@[simp] theorem Tryz.pt84 {cs : List V} {off : Nat} : part Tryz.prog 84 cs off = slot cs off := part_leaf (by kernel_rfl)
@[simp] theorem Tryz.st84 {b off : Nat} {v : V} : storeV Tryz.prog cfg h 84 (.ptr b off) v = stv cfg h b off 1 (cellsOf v) := store_eq (by kernel_rfl)
@[simp] theorem Tryz.ixL84 {xs : List (List V)} {k : IntKind} {i : Int} : indexAddrV Tryz.prog 84 (.lst xs) (.int k i) = idxL 3 xs i := idxL_eq (show Tryz.prog.underlying 84 = some (.slice 120) by kernel_rfl) (show szOf Tryz.prog 120 = some 3 by kernel_rfl)
@[simp] theorem Tryz.ixS84 {b off len cap c : Nat} {k : IntKind} {i : Int} : indexAddrV Tryz.prog 84 (.sl b off len cap c) (.int k i) = idxS 3 b off len c i := idxS_eq (show Tryz.prog.underlying 84 = some (.slice 120) by kernel_rfl) (show szOf Tryz.prog 120 = some 3 by kernel_rfl)
@[simp] theorem Tryz.lnL84 {xs : List (List V)} : lenV Tryz.prog 84 (.lst xs) = some (.int .i64 xs.length) := lenL_eq (show Tryz.prog.underlying 84 = some (.slice 120) by kernel_rfl)
@[simp] theorem Tryz.lnS84 {b off len cap k : Nat} : lenV Tryz.prog 84 (.sl b off len cap k) = some (.int .i64 len) := lenS_eq (show Tryz.prog.underlying 84 = some (.slice 120) by kernel_rfl)
@[simp] theorem Tryz.lnN84 : lenV Tryz.prog 84 .nils = some (.int .i64 0) := lenN_eq (show Tryz.prog.underlying 84 = some (.slice 120) by kernel_rfl)
@[simp] theorem Tryz.ap84 {d x : V} : appendV Tryz.prog cfg h 84 84 d x = appS cfg h 3 16 d (srcCells h 3 x) := appS_eq (show Tryz.prog.underlying 84 = some (.slice 120) by kernel_rfl) (show szOf Tryz.prog 120 = some 3 by kernel_rfl) (by kernel_rfl) (by kernel_rfl) (by decide)
@[simp] theorem Tryz.bs84 {len : Nat} {vs : List V} : buildSliceV Tryz.prog h 84 len vs = (cellsAll 3 vs).bind fun cs => if vs.length = len && decide (len * 3 ≤ 16777216) then some (.sl h.length 0 len len 3, h ++ [some cs]) else none := buildSlice_eq (show Tryz.prog.underlying 84 = some (.slice 120) by kernel_rfl) (show szOf Tryz.prog 120 = some 3 by kernel_rfl) (by kernel_rfl) (by decide)
@[simp] theorem Tryz.pt85 {cs : List V} {off : Nat} : part Tryz.prog 85 cs off = slot cs off := part_leaf (by kernel_rfl)
@[simp] theorem Tryz.st85 {b off : Nat} {v : V} : storeV Tryz.prog cfg h 85 (.ptr b off) v = stv cfg h b off 1 (cellsOf v) := store_eq (by kernel_rfl)
@[simp] theorem Tryz.ixL85 {xs : List (List V)} {k : IntKind} {i : Int} : indexAddrV Tryz.prog 85 (.lst xs) (.int k i) = idxL 4 xs i := idxL_eq (show Tryz.prog.underlying 85 = some (.slice 122) by kernel_rfl) (show szOf Tryz.prog 122 = some 4 by kernel_rfl)
@[simp] theorem Tryz.ixS85 {b off len cap c : Nat} {k : IntKind} {i : Int} : indexAddrV Tryz.prog 85 (.sl b off len cap c) (.int k i) = idxS 4 b off len c i := idxS_eq (show Tryz.prog.underlying 85 = some (.slice 122) by kernel_rfl) (show szOf Tryz.prog 122 = some 4 by kernel_rfl)
@[simp] theorem Tryz.lnL85 {xs : List (List V)} : lenV Tryz.prog 85 (.lst xs) = some (.int .i64 xs.length) := lenL_eq (show Tryz.prog.underlying 85 = some (.slice 122) by kernel_rfl)
@[simp] theorem Tryz.lnS85 {b off len cap k : Nat} : lenV Tryz.prog 85 (.sl b off len cap k) = some (.int .i64 len) := lenS_eq (show Tryz.prog.underlying 85 = some (.slice 122) by kernel_rfl)
@[simp] theorem Tryz.lnN85 : lenV Tryz.prog 85 .nils = some (.int .i64 0) := lenN_eq (show Tryz.prog.underlying 85 = some (.slice 122) by kernel_rfl)
@[simp] theorem Tryz.ap85 {d x : V} : appendV Tryz.prog cfg h 85 85 d x = appS cfg h 4 24 d (srcCells h 4 x) := appS_eq (show Tryz.prog.underlying 85 = some (.slice 122) by kernel_rfl) (show szOf Tryz.prog 122 = some 4 by kernel_rfl) (by kernel_rfl) (by kernel_rfl) (by decide)
@[simp] theorem Tryz.bs85 {len : Nat} {vs : List V} : buildSliceV Tryz.prog h 85 len vs = (cellsAll 4 vs).bind fun cs => if vs.length = len && decide (len * 4 ≤ 16777216) then some (.sl h.length 0 len len 4, h ++ [some cs]) else none := buildSlice_eq (show Tryz.prog.underlying 85 = some (.slice 122) by kernel_rfl) (show szOf Tryz.prog 122 = some 4 by kernel_rfl) (by kernel_rfl) (by decide)
@[simp] theorem Tryz.pt87 {cs : List V} {off : Nat} : part Tryz.prog 87 cs off = if off + 8 ≤ cs.length then some (.agg ((cs.drop off).take 8)) else none := part_agg (by kernel_rfl) (by kernel_rfl)
@[simp] theorem Tryz.st87 {b off : Nat} {v : V} : storeV Tryz.prog cfg h 87 (.ptr b off) v = stv cfg h b off 8 (cellsOf v) := store_eq (by kernel_rfl)
@[simp] theorem Tryz.zr87 : zeroOf Tryz.prog 87 = some (.agg [(.int .i64 0), (.int .i64 0), (.int .i64 0), (.int .i64 0), (.int .i64 0), .nils, .nils, .nils]) := by kernel_rfl
@[simp] theorem Tryz.fa87x0 {b off : Nat} : fieldAddrV Tryz.prog 87 (.ptr b off) 0 = some (.ptr b off) := by kernel_rfl
@[simp] theorem Tryz.fl87x0 {cs : List V} {off : Nat} : fieldAddrV Tryz.prog 87 (.lptr cs off) 0 = some (.lptr cs off) := by kernel_rfl
@[simp] theorem Tryz.fa87x1 {b off : Nat} : fieldAddrV Tryz.prog 87 (.ptr b off) 1 = some (.ptr b (off + 1)) := by kernel_rfl
@[simp] theorem Tryz.fl87x1 {cs : List V} {off : Nat} : fieldAddrV Tryz.prog 87 (.lptr cs off) 1 = some (.lptr cs (off + 1)) := by kernel_rfl
@[simp] theorem Tryz.fa87x2 {b off : Nat} : fieldAddrV Tryz.prog 87 (.ptr b off) 2 = some (.ptr b (off + 2)) := by kernel_rfl
@[simp] theorem Tryz.fl87x2 {cs : List V} {off : Nat} : fieldAddrV Tryz.prog 87 (.lptr cs off) 2 = some (.lptr cs (off + 2)) := by kernel_rfl
@[simp] theorem Tryz.fa87x3 {b off : Nat} : fieldAddrV Tryz.prog 87 (.ptr b off) 3 = some (.ptr b (off + 3)) := by kernel_rfl
@[simp] theorem Tryz.fl87x3 {cs : List V} {off : Nat} : fieldAddrV Tryz.prog 87 (.lptr cs off) 3 = some (.lptr cs (off + 3)) := by kernel_rfl
@[simp] theorem Tryz.fa87x4 {b off : Nat} : fieldAddrV Tryz.prog 87 (.ptr b off) 4 = some (.ptr b (off + 4)) := by kernel_rfl
@[simp] theorem Tryz.fl87x4 {cs : List V} {off : Nat} : fieldAddrV Tryz.prog 87 (.lptr cs off) 4 = some (.lptr cs (off + 4)) := by kernel_rfl
@[simp] theorem Tryz.fa87x5 {b off : Nat} : fieldAddrV Tryz.prog 87 (.ptr b off) 5 = some (.ptr b (off + 5)) := by kernel_rfl
@[simp] theorem Tryz.fl87x5 {cs : List V} {off : Nat} : fieldAddrV Tryz.prog 87 (.lptr cs off) 5 = some (.lptr cs (off + 5)) := by kernel_rfl
@[simp] theorem Tryz.fa87x6 {b off : Nat} : fieldAddrV Tryz.prog 87 (.ptr b off) 6 = some (.ptr b (off + 6)) := by kernel_rfl
@[simp] theorem Tryz.fl87x6 {cs : List V} {off : Nat} : fieldAddrV Tryz.prog 87 (.lptr cs off) 6 = some (.lptr cs (off + 6)) := by kernel_rfl
@[simp] theorem Tryz.fa87x7 {b off : Nat} : fieldAddrV Tryz.prog 87 (.ptr b off) 7 = some (.ptr b (off + 7)) := by kernel_rfl
@[simp] theorem Tryz.fl87x7 {cs : List V} {off : Nat} : fieldAddrV Tryz.prog 87 (.lptr cs off) 7 = some (.lptr cs (off + 7)) := by kernel_rfl
def Tryz.pl87 : Nat → Option (Nat × Nat)
  | 0 => some (0, 1)
  | 1 => some (1, 1)
  | 2 => some (2, 1)
  | 3 => some (3, 1)
  | 4 => some (4, 1)
  | 5 => some (5, 1)
  | 6 => some (6, 1)
  | 7 => some (7, 1)
  | _ => none
@[simp] theorem Tryz.pl87x0 : Tryz.pl87 0 = some (0, 1) := rfl
@[simp] theorem Tryz.pl87x1 : Tryz.pl87 1 = some (1, 1) := rfl
@[simp] theorem Tryz.pl87x2 : Tryz.pl87 2 = some (2, 1) := rfl
@[simp] theorem Tryz.pl87x3 : Tryz.pl87 3 = some (3, 1) := rfl
@[simp] theorem Tryz.pl87x4 : Tryz.pl87 4 = some (4, 1) := rfl
@[simp] theorem Tryz.pl87x5 : Tryz.pl87 5 = some (5, 1) := rfl
@[simp] theorem Tryz.pl87x6 : Tryz.pl87 6 = some (6, 1) := rfl
@[simp] theorem Tryz.pl87x7 : Tryz.pl87 7 = some (7, 1) := rfl
@[simp] theorem Tryz.bd87 {ps : List (Nat × V)} : buildV Tryz.prog 87 ps = (fillV Tryz.pl87 [(.int .i64 0), (.int .i64 0), (.int .i64 0), (.int .i64 0), (.int .i64 0), .nils, .nils, .nils] ps).map .agg := build_eq (pl := Tryz.pl87) Tryz.zr87 Tryz.underlying87 (by kernel_rfl) (fun i => by match i with | 0 => (show _ = _; kernel_rfl) | 1 => (show _ = _; kernel_rfl) | 2 => (show _ = _; kernel_rfl) | 3 => (show _ = _; kernel_rfl) | 4 => (show _ = _; kernel_rfl) | 5 => (show _ = _; kernel_rfl) | 6 => (show _ = _; kernel_rfl) | 7 => (show _ = _; kernel_rfl) | _ + 8 => (show _ = _; kernel_rfl))
@[simp] theorem Tryz.pt90 {cs : List V} {off : Nat} : part Tryz.prog 90 cs off = if off + 4 ≤ cs.length then some (.agg ((cs.drop off).take 4)) else none := part_agg (by kernel_rfl) (by kernel_rfl)
@[simp] theorem Tryz.st90 {b off : Nat} {v : V} : storeV Tryz.prog cfg h 90 (.ptr b off) v = stv cfg h b off 4 (cellsOf v) := store_eq (by kernel_rfl)
@[simp] theorem Tryz.zr90 : zeroOf Tryz.prog 90 = some (.agg [(.int .i64 0), (.int .i64 0), (.int .i64 0), (.int .i64 0)]) := by kernel_rfl
@[simp] theorem Tryz.fa90x0 {b off : Nat} : fieldAddrV Tryz.prog 90 (.ptr b off) 0 = some (.ptr b off) := by kernel_rfl
@[simp] theorem Tryz.fl90x0 {cs : List V} {off : Nat} : fieldAddrV Tryz.prog 90 (.lptr cs off) 0 = some (.lptr cs off) := by kernel_rfl
@[simp] theorem Tryz.fa90x1 {b off : Nat} : fieldAddrV Tryz.prog 90 (.ptr b off) 1 = some (.ptr b (off + 1)) := by kernel_rfl
@[simp] theorem Tryz.fl90x1 {cs : List V} {off : Nat} : fieldAddrV Tryz.prog 90 (.lptr cs off) 1 = some (.lptr cs (off + 1)) := by kernel_rfl
@[simp] theorem Tryz.fa90x2 {b off : Nat} : fieldAddrV Tryz.prog 90 (.ptr b off) 2 = some (.ptr b (off + 2)) := by kernel_rfl
@[simp] theorem Tryz.fl90x2 {cs : List V} {off : Nat} : fieldAddrV Tryz.prog 90 (.lptr cs off) 2 = some (.lptr cs (off + 2)) := by kernel_rfl
@[simp] theorem Tryz.fa90x3 {b off : Nat} : fieldAddrV Tryz.prog 90 (.ptr b off) 3 = some (.ptr b (off + 3)) := by kernel_rfl
@[simp] theorem Tryz.fl90x3 {cs : List V} {off : Nat} : fieldAddrV Tryz.prog 90 (.lptr cs off) 3 = some (.lptr cs (off + 3)) := by kernel_rfl
def Tryz.pl90 : Nat → Option (Nat × Nat)
  | 0 => some (0, 1)
  | 1 => some (1, 1)
  | 2 => some (2, 1)
  | 3 => some (3, 1)
  | _ => none
@[simp] theorem Tryz.pl90x0 : Tryz.pl90 0 = some (0, 1) := rfl
@[simp] theorem Tryz.pl90x1 : Tryz.pl90 1 = some (1, 1) := rfl
@[simp] theorem Tryz.pl90x2 : Tryz.pl90 2 = some (2, 1) := rfl
@[simp] theorem Tryz.pl90x3 : Tryz.pl90 3 = some (3, 1) := rfl
@[simp] theorem Tryz.bd90 {ps : List (Nat × V)} : buildV Tryz.prog 90 ps = (fillV Tryz.pl90 [(.int .i64 0), (.int .i64 0), (.int .i64 0), (.int .i64 0)] ps).map .agg := build_eq (pl := Tryz.pl90) Tryz.zr90 Tryz.underlying90 (by kernel_rfl) (fun i => by match i with | 0 => (show _ = _; kernel_rfl) | 1 => (show _ = _; kernel_rfl) | 2 => (show _ = _; kernel_rfl) | 3 => (show _ = _; kernel_rfl) | _ + 4 => (show _ = _; kernel_rfl))
@[simp] theorem Tryz.ixL92 {xs : List (List V)} {k : IntKind} {i : Int} : indexAddrV Tryz.prog 92 (.lst xs) (.int k i) = idxL 4 xs i := idxL_eq (show Tryz.prog.underlying 92 = some (.slice 95) by kernel_rfl) (show szOf Tryz.prog 95 = some 4 by kernel_rfl)
@[simp] theorem Tryz.ixS92 {b off len cap c : Nat} {k : IntKind} {i : Int} : indexAddrV Tryz.prog 92 (.sl b off len cap c) (.int k i) = idxS 4 b off len c i := idxS_eq (show Tryz.prog.underlying 92 = some (.slice 95) by kernel_rfl) (show szOf Tryz.prog 95 = some 4 by kernel_rfl)
@[simp] theorem Tryz.lnL92 {xs : List (List V)} : lenV Tryz.prog 92 (.lst xs) = some (.int .i64 xs.length) := lenL_eq (show Tryz.prog.underlying 92 = some (.slice 95) by kernel_rfl)
@[simp] theorem Tryz.lnS92 {b off len cap k : Nat} : lenV Tryz.prog 92 (.sl b off len cap k) = some (.int .i64 len) := lenS_eq (show Tryz.prog.underlying 92 = some (.slice 95) by kernel_rfl)
@[simp] theorem Tryz.lnN92 : lenV Tryz.prog 92 .nils = some (.int .i64 0) := lenN_eq (show Tryz.prog.underlying 92 = some (.slice 95) by kernel_rfl)
@[simp] theorem Tryz.ap92 {d x : V} : appendV Tryz.prog cfg h 92 92 d x = appS cfg h 4 48 d (srcCells h 4 x) := appS_eq (show Tryz.prog.underlying 92 = some (.slice 95) by kernel_rfl) (show szOf Tryz.prog 95 = some 4 by kernel_rfl) (by kernel_rfl) (by kernel_rfl) (by decide)
@[simp] theorem Tryz.bs92 {len : Nat} {vs : List V} : buildSliceV Tryz.prog h 92 len vs = (cellsAll 4 vs).bind fun cs => if vs.length = len && decide (len * 4 ≤ 16777216) then some (.sl h.length 0 len len 4, h ++ [some cs]) else none := buildSlice_eq (show Tryz.prog.underlying 92 = some (.slice 95) by kernel_rfl) (show szOf Tryz.prog 95 = some 4 by kernel_rfl) (by kernel_rfl) (by decide)
@[simp] theorem Tryz.pt95 {cs : List V} {off : Nat} : part Tryz.prog 95 cs off = if off + 4 ≤ cs.length then some (.agg ((cs.drop off).take 4)) else none := part_agg (by kernel_rfl) (by kernel_rfl)
@[simp] theorem Tryz.st95 {b off : Nat} {v : V} : storeV Tryz.prog cfg h 95 (.ptr b off) v = stv cfg h b off 4 (cellsOf v) := store_eq (by kernel_rfl)
@[simp] theorem Tryz.zr95 : zeroOf Tryz.prog 95 = some (.agg [(.int .i64 0), (.int .i64 0), (.int .i64 0), .nils]) := by kernel_rfl
@[simp] theorem Tryz.fa95x0 {b off : Nat} : fieldAddrV Tryz.prog 95 (.ptr b off) 0 = some (.ptr b off) := by kernel_rfl
@[simp] theorem Tryz.fl95x0 {cs : List V} {off : Nat} : fieldAddrV Tryz.prog 95 (.lptr cs off) 0 = some (.lptr cs off) := by kernel_rfl
@[simp] theorem Tryz.fa95x1 {b off : Nat} : fieldAddrV Tryz.prog 95 (.ptr b off) 1 = some (.ptr b (off + 1)) := by kernel_rfl
@[simp] theorem Tryz.fl95x1 {cs : List V} {off : Nat} : fieldAddrV Tryz.prog 95 (.lptr cs off) 1 = some (.lptr cs (off + 1)) := by kernel_rfl
@[simp] theorem Tryz.fa95x2 {b off : Nat} : fieldAddrV Tryz.prog 95 (.ptr b off) 2 = some (.ptr b (off + 2)) := by kernel_rfl
@[simp] theorem Tryz.fl95x2 {cs : List V} {off : Nat} : fieldAddrV Tryz.prog 95 (.lptr cs off) 2 = some (.lptr cs (off + 2)) := by kernel_rfl
@[simp] theorem Tryz.fa95x3 {b off : Nat} : fieldAddrV Tryz.prog 95 (.ptr b off) 3 = some (.ptr b (off + 3)) := by kernel_rfl
@[simp] theorem Tryz.fl95x3 {cs : List V} {off : Nat} : fieldAddrV Tryz.prog 95 (.lptr cs off) 3 = some (.lptr cs (off + 3)) := by kernel_rfl
def Tryz.pl95 : Nat → Option (Nat × Nat)
  | 0 => some (0, 1)
  | 1 => some (1, 1)
  | 2 => some (2, 1)
  | 3 => some (3, 1)
  | _ => none
@[simp] theorem Tryz.pl95x0 : Tryz.pl95 0 = some (0, 1) := rfl
@[simp] theorem Tryz.pl95x1 : Tryz.pl95 1 = some (1, 1) := rfl
@[simp] theorem Tryz.pl95x2 : Tryz.pl95 2 = some (2, 1) := rfl
@[simp] theorem Tryz.pl95x3 : Tryz.pl95 3 = some (3, 1) := rfl
@[simp] theorem Tryz.bd95 {ps : List (Nat × V)} : buildV Tryz.prog 95 ps = (fillV Tryz.pl95 [(.int .i64 0), (.int .i64 0), (.int .i64 0), .nils] ps).map .agg := build_eq (pl := Tryz.pl95) Tryz.zr95 Tryz.underlying95 (by kernel_rfl) (fun i => by match i with | 0 => (show _ = _; kernel_rfl) | 1 => (show _ = _; kernel_rfl) | 2 => (show _ = _; kernel_rfl) | 3 => (show _ = _; kernel_rfl) | _ + 4 => (show _ = _; kernel_rfl))
@[simp] theorem Tryz.pt100 {cs : List V} {off : Nat} : part Tryz.prog 100 cs off = if off + 8 ≤ cs.length then some (.agg ((cs.drop off).take 8)) else none := part_agg (by kernel_rfl) (by kernel_rfl)
@[simp] theorem Tryz.st100 {b off : Nat} {v : V} : storeV Tryz.prog cfg h 100 (.ptr b off) v = stv cfg h b off 8 (cellsOf v) := store_eq (by kernel_rfl)
@[simp] theorem Tryz.zr100 : zeroOf Tryz.prog 100 = some (.agg [(.int .i64 0), (.int .i64 0), (.int .i64 0), (.int .i64 0), (.int .i64 0), (.int .i64 0), (.int .i64 0), (.int .i64 0)]) := by kernel_rfl
@[simp] theorem Tryz.fa100x0 {b off : Nat} : fieldAddrV Tryz.prog 100 (.ptr b off) 0 = some (.ptr b off) := by kernel_rfl
@[simp] theorem Tryz.fl100x0 {cs : List V} {off : Nat} : fieldAddrV Tryz.prog 100 (.lptr cs off) 0 = some (.lptr cs off) := by kernel_rfl
@[simp] theorem Tryz.fa100x1 {b off : Nat} : fieldAddrV Tryz.prog 100 (.ptr b off) 1 = some (.ptr b (off + 1)) := by kernel_rfl
@[simp] theorem Tryz.fl100x1 {cs : List V} {off : Nat} : fieldAddrV Tryz.prog 100 (.lptr cs off) 1 = some (.lptr cs (off + 1)) := by kernel_rfl
@[simp] theorem Tryz.fa100x2 {b off : Nat} : fieldAddrV Tryz.prog 100 (.ptr b off) 2 = some (.ptr b (off + 2)) := by kernel_rfl
@[simp] theorem Tryz.fl100x2 {cs : List V} {off : Nat} : fieldAddrV Tryz.prog 100 (.lptr cs off) 2 = some (.lptr cs (off + 2)) := by kernel_rfl
@[simp] theorem Tryz.fa100x3 {b off : Nat} : fieldAddrV Tryz.prog 100 (.ptr b off) 3 = some (.ptr b (off + 3)) := by kernel_rfl
@[simp] theorem Tryz.fl100x3 {cs : List V} {off : Nat} : fieldAddrV Tryz.prog 100 (.lptr cs off) 3 = some (.lptr cs (off + 3)) := by kernel_rfl
@[simp] theorem Tryz.fa100x4 {b off : Nat} : fieldAddrV Tryz.prog 100 (.ptr b off) 4 = some (.ptr b (off + 4)) := by kernel_rfl
@[simp] theorem Tryz.fl100x4 {cs : List V} {off : Nat} : fieldAddrV Tryz.prog 100 (.lptr cs off) 4 = some (.lptr cs (off + 4)) := by kernel_rfl
@[simp] theorem Tryz.fa100x5 {b off : Nat} : fieldAddrV Tryz.prog 100 (.ptr b off) 5 = some (.ptr b (off + 5)) := by kernel_rfl
@[simp] theorem Tryz.fl100x5 {cs : List V} {off : Nat} : fieldAddrV Tryz.prog 100 (.lptr cs off) 5 = some (.lptr cs (off + 5)) := by kernel_rfl
@[simp] theorem Tryz.fa100x6 {b off : Nat} : fieldAddrV Tryz.prog 100 (.ptr b off) 6 = some (.ptr b (off + 6)) := by kernel_rfl
@[simp] theorem Tryz.fl100x6 {cs : List V} {off : Nat} : fieldAddrV Tryz.prog 100 (.lptr cs off) 6 = some (.lptr cs (off + 6)) := by kernel_rfl
@[simp] theorem Tryz.fa100x7 {b off : Nat} : fieldAddrV Tryz.prog 100 (.ptr b off) 7 = some (.ptr b (off + 7)) := by kernel_rfl
@[simp] theorem Tryz.fl100x7 {cs : List V} {off : Nat} : fieldAddrV Tryz.prog 100 (.lptr cs off) 7 = some (.lptr cs (off + 7)) := by kernel_rfl
def Tryz.pl100 : Nat → Option (Nat × Nat)
  | 0 => some (0, 1)
  | 1 => some (1, 1)
  | 2 => some (2, 1)
  | 3 => some (3, 1)
  | 4 => some (4, 1)
  | 5 => some (5, 1)
  | 6 => some (6, 1)
  | 7 => some (7, 1)
  | _ => none
@[simp] theorem Tryz.pl100x0 : Tryz.pl100 0 = some (0, 1) := rfl
@[simp] theorem Tryz.pl100x1 : Tryz.pl100 1 = some (1, 1) := rfl
@[simp] theorem Tryz.pl100x2 : Tryz.pl100 2 = some (2, 1) := rfl
@[simp] theorem Tryz.pl100x3 : Tryz.pl100 3 = some (3, 1) := rfl
@[simp] theorem Tryz.pl100x4 : Tryz.pl100 4 = some (4, 1) := rfl
@[simp] theorem Tryz.pl100x5 : Tryz.pl100 5 = some (5, 1) := rfl
@[simp] theorem Tryz.pl100x6 : Tryz.pl100 6 = some (6, 1) := rfl
@[simp] theorem Tryz.pl100x7 : Tryz.pl100 7 = some (7, 1) := rfl
@[simp] theorem Tryz.bd100 {ps : List (Nat × V)} : buildV Tryz.prog 100 ps = (fillV Tryz.pl100 [(.int .i64 0), (.int .i64 0), (.int .i64 0), (.int .i64 0), (.int .i64 0), (.int .i64 0), (.int .i64 0), (.int .i64 0)] ps).map .agg := build_eq (pl := Tryz.pl100) Tryz.zr100 Tryz.underlying100 (by kernel_rfl) (fun i => by match i with | 0 => (show _ = _; kernel_rfl) | 1 => (show _ = _; kernel_rfl) | 2 => (show _ = _; kernel_rfl) | 3 => (show _ = _; kernel_rfl) | 4 => (show _ = _; kernel_rfl) | 5 => (show _ = _; kernel_rfl) | 6 => (show _ = _; kernel_rfl) | 7 => (show _ = _; kernel_rfl) | _ + 8 => (show _ = _; kernel_rfl))
@[simp] theorem Tryz.pt104 {cs : List V} {off : Nat} : part Tryz.prog 104 cs off = if off + 3 ≤ cs.length then some (.agg ((cs.drop off).take 3)) else none := part_agg (by kernel_rfl) (by kernel_rfl)
@[simp] theorem Tryz.st104 {b off : Nat} {v : V} : storeV Tryz.prog cfg h 104 (.ptr b off) v = stv cfg h b off 3 (cellsOf v) := store_eq (by kernel_rfl)
@[simp] theorem Tryz.zr104 : zeroOf Tryz.prog 104 = some (.agg [.nils, .nils, .nils]) := by kernel_rfl
@[simp] theorem Tryz.fa104x0 {b off : Nat} : fieldAddrV Tryz.prog 104 (.ptr b off) 0 = some (.ptr b off) := by kernel_rfl
@[simp] theorem Tryz.fl104x0 {cs : List V} {off : Nat} : fieldAddrV Tryz.prog 104 (.lptr cs off) 0 = some (.lptr cs off) := by kernel_rfl
@[simp] theorem Tryz.fa104x1 {b off : Nat} : fieldAddrV Tryz.prog 104 (.ptr b off) 1 = some (.ptr b (off + 1)) := by kernel_rfl
@[simp] theorem Tryz.fl104x1 {cs : List V} {off : Nat} : fieldAddrV Tryz.prog 104 (.lptr cs off) 1 = some (.lptr cs (off + 1)) := by kernel_rfl
@[simp] theorem Tryz.fa104x2 {b off : Nat} : fieldAddrV Tryz.prog 104 (.ptr b off) 2 = some (.ptr b (off + 2)) := by kernel_rfl
@[simp] theorem Tryz.fl104x2 {cs : List V} {off : Nat} : fieldAddrV Tryz.prog 104 (.lptr cs off) 2 = some (.lptr cs (off + 2)) := by kernel_rfl
def Tryz.pl104 : Nat → Option (Nat × Nat)
  | 0 => some (0, 1)
  | 1 => some (1, 1)
  | 2 => some (2, 1)
  | _ => none
@[simp] theorem Tryz.pl104x0 : Tryz.pl104 0 = some (0, 1) := rfl
@[simp] theorem Tryz.pl104x1 : Tryz.pl104 1 = some (1, 1) := rfl
@[simp] theorem Tryz.pl104x2 : Tryz.pl104 2 = some (2, 1) := rfl
@[simp] theorem Tryz.bd104 {ps : List (Nat × V)} : buildV Tryz.prog 104 ps = (fillV Tryz.pl104 [.nils, .nils, .nils] ps).map .agg := build_eq (pl := Tryz.pl104) Tryz.zr104 Tryz.underlying104 (by kernel_rfl) (fun i => by match i with | 0 => (show _ = _; kernel_rfl) | 1 => (show _ = _; kernel_rfl) | 2 => (show _ = _; kernel_rfl) | _ + 3 => (show _ = _; kernel_rfl))
@[simp] theorem Tryz.pt118 {cs : List V} {off : Nat} : part Tryz.prog 118 cs off = if off + 3 ≤ cs.length then some (.agg ((cs.drop off).take 3)) else none := part_agg (by kernel_rfl) (by kernel_rfl)
@[simp] theorem Tryz.st118 {b off : Nat} {v : V} : storeV Tryz.prog cfg h 118 (.ptr b off) v = stv cfg h b off 3 (cellsOf v) := store_eq (by kernel_rfl)
@[simp] theorem Tryz.zr118 : zeroOf Tryz.prog 118 = some (.agg [(.int .i32 0), (.int .i32 0), (.int .i64 0)]) := by kernel_rfl
@[simp] theorem Tryz.fa118x0 {b off : Nat} : fieldAddrV Tryz.prog 118 (.ptr b off) 0 = some (.ptr b off) := by kernel_rfl
@[simp] theorem Tryz.fl118x0 {cs : List V} {off : Nat} : fieldAddrV Tryz.prog 118 (.lptr cs off) 0 = some (.lptr cs off) := by kernel_rfl
@[simp] theorem Tryz.fa118x1 {b off : Nat} : fieldAddrV Tryz.prog 118 (.ptr b off) 1 = some (.ptr b (off + 1)) := by kernel_rfl
@[simp] theorem Tryz.fl118x1 {cs : List V} {off : Nat} : fieldAddrV Tryz.prog 118 (.lptr cs off) 1 = some (.lptr cs (off + 1)) := by kernel_rfl
@[simp] theorem Tryz.fa118x2 {b off : Nat} : fieldAddrV Tryz.prog 118 (.ptr b off) 2 = some (.ptr b (off + 2)) := by kernel_rfl
@[simp] theorem Tryz.fl118x2 {cs : List V} {off : Nat} : fieldAddrV Tryz.prog 118 (.lptr cs off) 2 = some (.lptr cs (off + 2)) := by kernel_rfl
def Tryz.pl118 : Nat → Option (Nat × Nat)
  | 0 => some (0, 1)
  | 1 => some (1, 1)
  | 2 => some (2, 1)
  | _ => none
@[simp] theorem Tryz.pl118x0 : Tryz.pl118 0 = some (0, 1) := rfl
@[simp] theorem Tryz.pl118x1 : Tryz.pl118 1 = some (1, 1) := rfl
@[simp] theorem Tryz.pl118x2 : Tryz.pl118 2 = some (2, 1) := rfl
@[simp] theorem Tryz.bd118 {ps : List (Nat × V)} : buildV Tryz.prog 118 ps = (fillV Tryz.pl118 [(.int .i32 0), (.int .i32 0), (.int .i64 0)] ps).map .agg := build_eq (pl := Tryz.pl118) Tryz.zr118 Tryz.underlying118 (by kernel_rfl) (fun i => by match i with | 0 => (show _ = _; kernel_rfl) | 1 => (show _ = _; kernel_rfl) | 2 => (show _ = _; kernel_rfl) | _ + 3 => (show _ = _; kernel_rfl))
@[simp] theorem Tryz.pt120 {cs : List V} {off : Nat} : part Tryz.prog 120 cs off = if off + 3 ≤ cs.length then some (.agg ((cs.drop off).take 3)) else none := part_agg (by kernel_rfl) (by kernel_rfl)
@[simp] theorem Tryz.st120 {b off : Nat} {v : V} : storeV Tryz.prog cfg h 120 (.ptr b off) v = stv cfg h b off 3 (cellsOf v) := store_eq (by kernel_rfl)
@[simp] theorem Tryz.zr120 : zeroOf Tryz.prog 120 = some (.agg [(.int .i32 0), (.int .i32 0), (.int .i64 0)]) := by kernel_rfl
@[simp] theorem Tryz.fa120x0 {b off : Nat} : fieldAddrV Tryz.prog 120 (.ptr b off) 0 = some (.ptr b off) := by kernel_rfl
@[simp] theorem Tryz.fl120x0 {cs : List V} {off : Nat} : fieldAddrV Tryz.prog 120 (.lptr cs off) 0 = some (.lptr cs off) := by kernel_rfl
@[simp] theorem Tryz.fa120x1 {b off : Nat} : fieldAddrV Tryz.prog 120 (.ptr b off) 1 = some (.ptr b (off + 1)) := by kernel_rfl
@[simp] theorem Tryz.fl120x1 {cs : List V} {off : Nat} : fieldAddrV Tryz.prog 120 (.lptr cs off) 1 = some (.lptr cs (off + 1)) := by kernel_rfl
@[simp] theorem Tryz.fa120x2 {b off : Nat} : fieldAddrV Tryz.prog 120 (.ptr b off) 2 = some (.ptr b (off + 2)) := by kernel_rfl
@[simp] theorem Tryz.fl120x2 {cs : List V} {off : Nat} : fieldAddrV Tryz.prog 120 (.lptr cs off) 2 = some (.lptr cs (off + 2)) := by kernel_rfl
def Tryz.pl120 : Nat → Option (Nat × Nat)
  | 0 => some (0, 1)
  | 1 => some (1, 1)
  | 2 => some (2, 1)
  | _ => none
@[simp] theorem Tryz.pl120x0 : Tryz.pl120 0 = some (0, 1) := rfl
@[simp] theorem Tryz.pl120x1 : Tryz.pl120 1 = some (1, 1) := rfl
@[simp] theorem Tryz.pl120x2 : Tryz.pl120 2 = some (2, 1) := rfl
@[simp] theorem Tryz.bd120 {ps : List (Nat × V)} : buildV Tryz.prog 120 ps = (fillV Tryz.pl120 [(.int .i32 0), (.int .i32 0), (.int .i64 0)] ps).map .agg := build_eq (pl := Tryz.pl120) Tryz.zr120 Tryz.underlying120 (by kernel_rfl) (fun i => by match i with | 0 => (show _ = _; kernel_rfl) | 1 => (show _ = _; kernel_rfl) | 2 => (show _ = _; kernel_rfl) | _ + 3 => (show _ = _; kernel_rfl))
@[simp] theorem Tryz.pt122 {cs : List V} {off : Nat} : part Tryz.prog 122 cs off = if off + 4 ≤ cs.length then some (.agg ((cs.drop off).take 4)) else none := part_agg (by kernel_rfl) (by kernel_rfl)
@[simp] theorem Tryz.st122 {b off : Nat} {v : V} : storeV Tryz.prog cfg h 122 (.ptr b off) v = stv cfg h b off 4 (cellsOf v) := store_eq (by kernel_rfl)
@[simp] theorem Tryz.zr122 : zeroOf Tryz.prog 122 = some (.agg [(.int .i32 0), (.int .i32 0), (.int .i64 0), (.int .i64 0)]) := by kernel_rfl
@[simp] theorem Tryz.fa122x0 {b off : Nat} : fieldAddrV Tryz.prog 122 (.ptr b off) 0 = some (.ptr b off) := by kernel_rfl
@[simp] theorem Tryz.fl122x0 {cs : List V} {off : Nat} : fieldAddrV Tryz.prog 122 (.lptr cs off) 0 = some (.lptr cs off) := by kernel_rfl
@[simp] theorem Tryz.fa122x1 {b off : Nat} : fieldAddrV Tryz.prog 122 (.ptr b off) 1 = some (.ptr b (off + 1)) := by kernel_rfl
@[simp] theorem Tryz.fl122x1 {cs : List V} {off : Nat} : fieldAddrV Tryz.prog 122 (.lptr cs off) 1 = some (.lptr cs (off + 1)) := by kernel_rfl
@[simp] theorem Tryz.fa122x2 {b off : Nat} : fieldAddrV Tryz.prog 122 (.ptr b off) 2 = some (.ptr b (off + 2)) := by kernel_rfl
@[simp] theorem Tryz.fl122x2 {cs : List V} {off : Nat} : fieldAddrV Tryz.prog 122 (.lptr cs off) 2 = some (.lptr cs (off + 2)) := by kernel_rfl
@[simp] theorem Tryz.fa122x3 {b off : Nat} : fieldAddrV Tryz.prog 122 (.ptr b off) 3 = some (.ptr b (off + 3)) := by kernel_rfl
@[simp] theorem Tryz.fl122x3 {cs : List V} {off : Nat} : fieldAddrV Tryz.prog 122 (.lptr cs off) 3 = some (.lptr cs (off + 3)) := by kernel_rfl
def Tryz.pl122 : Nat → Option (Nat × Nat)
  | 0 => some (0, 1)
  | 1 => some (1, 1)
  | 2 => some (2, 1)
  | 3 => some (3, 1)
  | _ => none
@[simp] theorem Tryz.pl122x0 : Tryz.pl122 0 = some (0, 1) := rfl
@[simp] theorem Tryz.pl122x1 : Tryz.pl122 1 = some (1, 1) := rfl
@[simp] theorem Tryz.pl122x2 : Tryz.pl122 2 = some (2, 1) := rfl
@[simp] theorem Tryz.pl122x3 : Tryz.pl122 3 = some (3, 1) := rfl
@[simp] theorem Tryz.bd122 {ps : List (Nat × V)} : buildV Tryz.prog 122 ps = (fillV Tryz.pl122 [(.int .i32 0), (.int .i32 0), (.int .i64 0), (.int .i64 0)] ps).map .agg := build_eq (pl := Tryz.pl122) Tryz.zr122 Tryz.underlying122 (by kernel_rfl) (fun i => by match i with | 0 => (show _ = _; kernel_rfl) | 1 => (show _ = _; kernel_rfl) | 2 => (show _ = _; kernel_rfl) | 3 => (show _ = _; kernel_rfl) | _ + 4 => (show _ = _; kernel_rfl))
@[simp] theorem Tryz.pt135 {cs : List V} {off : Nat} : part Tryz.prog 135 cs off = if off + 7 ≤ cs.length then some (.agg ((cs.drop off).take 7)) else none := part_agg (by kernel_rfl) (by kernel_rfl)
@[simp] theorem Tryz.st135 {b off : Nat} {v : V} : storeV Tryz.prog cfg h 135 (.ptr b off) v = stv cfg h b off 7 (cellsOf v) := store_eq (by kernel_rfl)
@[simp] theorem Tryz.zr135 : zeroOf Tryz.prog 135 = some (.agg [(.int .i32 0), (.int .i32 0), (.int .u8 0), (.int .u8 0), (.int .u8 0), (.int .u8 0), (.int .u8 0)]) := by kernel_rfl
@[simp] theorem Tryz.fa135x0 {b off : Nat} : fieldAddrV Tryz.prog 135 (.ptr b off) 0 = some (.ptr b off) := by kernel_rfl
@[simp] theorem Tryz.fl135x0 {cs : List V} {off : Nat} : fieldAddrV Tryz.prog 135 (.lptr cs off) 0 = some (.lptr cs off) := by kernel_rfl
@[simp] theorem Tryz.fv135x0 {cs : List V} : fieldV Tryz.prog 135 (.agg cs) 0 = part Tryz.prog 21 cs 0 := by kernel_rfl
@[simp] theorem Tryz.fa135x1 {b off : Nat} : fieldAddrV Tryz.prog 135 (.ptr b off) 1 = some (.ptr b (off + 1)) := by kernel_rfl
@[simp] theorem Tryz.fl135x1 {cs : List V} {off : Nat} : fieldAddrV Tryz.prog 135 (.lptr cs off) 1 = some (.lptr cs (off + 1)) := by kernel_rfl
@[simp] theorem Tryz.fv135x1 {cs : List V} : fieldV Tryz.prog 135 (.agg cs) 1 = part Tryz.prog 21 cs 1 := by kernel_rfl
@[simp] theorem Tryz.fa135x2 {b off : Nat} : fieldAddrV Tryz.prog 135 (.ptr b off) 2 = some (.ptr b (off + 2)) := by kernel_rfl
@[simp] theorem Tryz.fl135x2 {cs : List V} {off : Nat} : fieldAddrV Tryz.prog 135 (.lptr cs off) 2 = some (.lptr cs (off + 2)) := by kernel_rfl
@[simp] theorem Tryz.fv135x2 {cs : List V} : fieldV Tryz.prog 135 (.agg cs) 2 = part Tryz.prog 5 cs 2 := by kernel_rfl
@[simp] theorem Tryz.fa135x3 {b off : Nat} : fieldAddrV Tryz.prog 135 (.ptr b off) 3 = some (.ptr b (off + 3)) := by kernel_rfl
@[simp] theorem Tryz.fl135x3 {cs : List V} {off : Nat} : fieldAddrV Tryz.prog 135 (.lptr cs off) 3 = some (.lptr cs (off + 3)) := by kernel_rfl
@[simp] theorem Tryz.fv135x3 {cs : List V} : fieldV Tryz.prog 135 (.agg cs) 3 = part Tryz.prog 5 cs 3 := by kernel_rfl
@[simp] theorem Tryz.fa135x4 {b off : Nat} : fieldAddrV Tryz.prog 135 (.ptr b off) 4 = some (.ptr b (off + 4)) := by kernel_rfl
@[simp] theorem Tryz.fl135x4 {cs : List V} {off : Nat} : fieldAddrV Tryz.prog 135 (.lptr cs off) 4 = some (.lptr cs (off + 4)) := by kernel_rfl
@[simp] theorem Tryz.fv135x4 {cs : List V} : fieldV Tryz.prog 135 (.agg cs) 4 = part Tryz.prog 5 cs 4 := by kernel_rfl
@[simp] theorem Tryz.fa135x5 {b off : Nat} : fieldAddrV Tryz.prog 135 (.ptr b off) 5 = some (.ptr b (off + 5)) := by kernel_rfl
@[simp] theorem Tryz.fl135x5 {cs : List V} {off : Nat} : fieldAddrV Tryz.prog 135 (.lptr cs off) 5 = some (.lptr cs (off + 5)) := by kernel_rfl
@[simp] theorem Tryz.fv135x5 {cs : List V} : fieldV Tryz.prog 135 (.agg cs) 5 = part Tryz.prog 5 cs 5 := by kernel_rfl
@[simp] theorem Tryz.fa135x6 {b off : Nat} : fieldAddrV Tryz.prog 135 (.ptr b off) 6 = some (.ptr b (off + 6)) := by kernel_rfl
@[simp] theorem Tryz.fl135x6 {cs : List V} {off : Nat} : fieldAddrV Tryz.prog 135 (.lptr cs off) 6 = some (.lptr cs (off + 6)) := by kernel_rfl
@[simp] theorem Tryz.fv135x6 {cs : List V} : fieldV Tryz.prog 135 (.agg cs) 6 = part Tryz.prog 5 cs 6 := by kernel_rfl
def Tryz.pl135 : Nat → Option (Nat × Nat)
  | 0 => some (0, 1)
  | 1 => some (1, 1)
  | 2 => some (2, 1)
  | 3 => some (3, 1)
  | 4 => some (4, 1)
  | 5 => some (5, 1)
  | 6 => some (6, 1)
  | _ => none
@[simp] theorem Tryz.pl135x0 : Tryz.pl135 0 = some (0, 1) := rfl
@[simp] theorem Tryz.pl135x1 : Tryz.pl135 1 = some (1, 1) := rfl
@[simp] theorem Tryz.pl135x2 : Tryz.pl135 2 = some (2, 1) := rfl
@[simp] theorem Tryz.pl135x3 : Tryz.pl135 3 = some (3, 1) := rfl
@[simp] theorem Tryz.pl135x4 : Tryz.pl135 4 = some (4, 1) := rfl
@[simp] theorem Tryz.pl135x5 : Tryz.pl135 5 = some (5, 1) := rfl
@[simp] theorem Tryz.pl135x6 : Tryz.pl135 6 = some (6, 1) := rfl
@[simp] theorem Tryz.bd135 {ps : List (Nat × V)} : buildV Tryz.prog 135 ps = (fillV Tryz.pl135 [(.int .i32 0), (.int .i32 0), (.int .u8 0), (.int .u8 0), (.int .u8 0), (.int .u8 0), (.int .u8 0)] ps).map .agg := build_eq (pl := Tryz.pl135) Tryz.zr135 Tryz.underlying135 (by kernel_rfl) (fun i => by match i with | 0 => (show _ = _; kernel_rfl) | 1 => (show _ = _; kernel_rfl) | 2 => (show _ = _; kernel_rfl) | 3 => (show _ = _; kernel_rfl) | 4 => (show _ = _; kernel_rfl) | 5 => (show _ = _; kernel_rfl) | 6 => (show _ = _; kernel_rfl) | _ + 7 => (show _ = _; kernel_rfl))
@[simp] theorem Tryz.ixL153 {xs : List (List V)} {k : IntKind} {i : Int} : indexAddrV Tryz.prog 153 (.lst xs) (.int k i) = idxL 1 xs i := idxL_eq (show Tryz.prog.underlying 153 = some (.slice 4) by kernel_rfl) (show szOf Tryz.prog 4 = some 1 by kernel_rfl)
@[simp] theorem Tryz.ixS153 {b off len cap c : Nat} {k : IntKind} {i : Int} : indexAddrV Tryz.prog 153 (.sl b off len cap c) (.int k i) = idxS 1 b off len c i := idxS_eq (show Tryz.prog.underlying 153 = some (.slice 4) by kernel_rfl) (show szOf Tryz.prog 4 = some 1 by kernel_rfl)
@[simp] theorem Tryz.mk153 {n m : Int} : makeSliceV Tryz.prog h 153 (.int .i64 n) (.int .i64 m) = mkS h 1 1 [(.bool false)] n m := mkS_eq (show Tryz.prog.underlying 153 = some (.slice 4) by kernel_rfl) (show szOf Tryz.prog 4 = some 1 by kernel_rfl) (by kernel_rfl) Tryz.zr4 rfl (by decide) (by decide)
@[simp] theorem Tryz.ixL159 {xs : List (List V)} {k : IntKind} {i : Int} : indexAddrV Tryz.prog 159 (.lst xs) (.int k i) = idxL 1 xs i := idxL_eq (show Tryz.prog.underlying 159 = some (.slice 22) by kernel_rfl) (show szOf Tryz.prog 22 = some 1 by kernel_rfl)
@[simp] theorem Tryz.ixS159 {b off len cap c : Nat} {k : IntKind} {i : Int} : indexAddrV Tryz.prog 159 (.sl b off len cap c) (.int k i) = idxS 1 b off len c i := idxS_eq (show Tryz.prog.underlying 159 = some (.slice 22) by kernel_rfl) (show szOf Tryz.prog 22 = some 1 by kernel_rfl)
@[simp] theorem Tryz.lnL159 {xs : List (List V)} : lenV Tryz.prog 159 (.lst xs) = some (.int .i64 xs.length) := lenL_eq (show Tryz.prog.underlying 159 = some (.slice 22) by kernel_rfl)
@[simp] theorem Tryz.lnS159 {b off len cap k : Nat} : lenV Tryz.prog 159 (.sl b off len cap k) = some (.int .i64 len) := lenS_eq (show Tryz.prog.underlying 159 = some (.slice 22) by kernel_rfl)
@[simp] theorem Tryz.lnN159 : lenV Tryz.prog 159 .nils = some (.int .i64 0) := lenN_eq (show Tryz.prog.underlying 159 = some (.slice 22) by kernel_rfl)
@[simp] theorem Tryz.ap159 {d x : V} : appendV Tryz.prog cfg h 159 159 d x = appS cfg h 1 24 d (srcCells h 1 x) := appS_eq (show Tryz.prog.underlying 159 = some (.slice 22) by kernel_rfl) (show szOf Tryz.prog 22 = some 1 by kernel_rfl) (by kernel_rfl) (by kernel_rfl) (by decide)
@[simp] theorem Tryz.bs159 {len : Nat} {vs : List V} : buildSliceV Tryz.prog h 159 len vs = (cellsAll 1 vs).bind fun cs => if vs.length = len && decide (len * 1 ≤ 16777216) then some (.sl h.length 0 len len 1, h ++ [some cs]) else none := buildSlice_eq (show Tryz.prog.underlying 159 = some (.slice 22) by kernel_rfl) (show szOf Tryz.prog 22 = some 1 by kernel_rfl) (by kernel_rfl) (by decide)
@[simp] theorem Tryz.pt174 {cs : List V} {off : Nat} : part Tryz.prog 174 cs off = if off + 308 ≤ cs.length then some (.agg ((cs.drop off).take 308)) else none := part_agg (by kernel_rfl) (by kernel_rfl)
@[simp] theorem Tryz.st174 {b off : Nat} {v : V} : storeV Tryz.prog cfg h 174 (.ptr b off) v = stv cfg h b off 308 (cellsOf v) := store_eq (by kernel_rfl)
@[simp] theorem Tryz.zr174 : zeroOf Tryz.prog 174 = some (.agg [(.int .i32 0), (.int .i32 0), (.int .u8 0), (.int .u8 0), (.int .u8 0), (.int .u8 0), (.int .u8 0), (.int .i32 0), (.int .i32 0), (.int .u8 0), (.int .u8 0), (.int .u8 0), (.int .u8 0), (.int .u8 0), (.int .i32 0), (.int .i32 0), (.int .u8 0), (.int .u8 0), (.int .u8 0), (.int .u8 0), (.int .u8 0), (.int .i32 0), (.int .i32 0), (.int .u8 0), (.int .u8 0), (.int .u8 0), (.int .u8 0), (.int .u8 0), (.int .i32 0), (.int .i32 0), (.int .u8 0), (.int .u8 0), (.int .u8 0), (.int .u8 0), (.int .u8 0), (.int .i32 0), (.int .i32 0), (.int .u8 0), (.int .u8 0), (.int .u8 0), (.int .u8 0), (.int .u8 0), (.int .i32 0), (.int .i32 0), (.int .u8 0), (.int .u8 0), (.int .u8 0), (.int .u8 0), (.int .u8 0), (.int .i32 0), (.int .i32 0), (.int .u8 0), (.int .u8 0), (.int .u8 0), (.int .u8 0), (.int .u8 0), (.int .i32 0), (.int .i32 0), (.int .u8 0), (.int .u8 0), (.int .u8 0), (.int .u8 0), (.int .u8 0), (.int .i32 0), (.int .i32 0), (.int .u8 0), (.int .u8 0), (.int .u8 0), (.int .u8 0), (.int .u8 0), (.int .i32 0), (.int .i32 0), (.int .u8 0), (.int .u8 0), (.int .u8 0), (.int .u8 0), (.int .u8 0), (.int .i32 0), (.int .i32 0), (.int .u8 0), (.int .u8 0), (.int .u8 0), (.int .u8 0), (.int .u8 0), (.int .i32 0), (.int .i32 0), (.int .u8 0), (.int .u8 0), (.int .u8 0), (.int .u8 0), (.int .u8 0), (.int .i32 0), (.int .i32 0), (.int .u8 0), (.int .u8 0), (.int .u8 0), (.int .u8 0), (.int .u8 0), (.int .i32 0), (.int .i32 0), (.int .u8 0), (.int .u8 0), (.int .u8 0), (.int .u8 0), (.int .u8 0), (.int .i32 0), (.int .i32 0), (.int .u8 0), (.int .u8 0), (.int .u8 0), (.int .u8 0), (.int .u8 0), (.int .i32 0), (.int .i32 0), (.int .u8 0), (.int .u8 0), (.int .u8 0), (.int .u8 0), (.int .u8 0), (.int .i32 0), (.int .i32 0), (.int .u8 0), (.int .u8 0), (.int .u8 0), (.int .u8 0), (.int .u8 0), (.int .i32 0), (.int .i32 0), (.int .u8 0), (.int .u8 0), (.int .u8 0), (.int .u8 0), (.int .u8 0), (.int .i32 0), (.int .i32 0), (.int .u8 0), (.int .u8 0), (.int .u8 0), (.int .u8 0), (.int .u8 0), (.int .i32 0), (.int .i32 0), (.int .u8 0), (.int .u8 0), (.int .u8 0), (.int .u8 0), (.int .u8 0), (.int .i32 0), (.int .i32 0), (.int .u8 0), (.int .u8 0), (.int .u8 0), (.int .u8 0), (.int .u8 0), (.int .i32 0), (.int .i32 0), (.int .u8 0), (.int .u8 0), (.int .u8 0), (.int .u8 0), (.int .u8 0), (.int .i32 0), (.int .i32 0), (.int .u8 0), (.int .u8 0), (.int .u8 0), (.int .u8 0), (.int .u8 0), (.int .i32 0), (.int .i32 0), (.int .u8 0), (.int .u8 0), (.int .u8 0), (.int .u8 0), (.int .u8 0), (.int .i32 0), (.int .i32 0), (.int .u8 0), (.int .u8 0), (.int .u8 0), (.int .u8 0), (.int .u8 0), (.int .i32 0), (.int .i32 0), (.int .u8 0), (.int .u8 0), (.int .u8 0), (.int .u8 0), (.int .u8 0), (.int .i32 0), (.int .i32 0), (.int .u8 0), (.int .u8 0), (.int .u8 0), (.int .u8 0), (.int .u8 0), (.int .i32 0), (.int .i32 0), (.int .u8 0), (.int .u8 0), (.int .u8 0), (.int .u8 0), (.int .u8 0), (.int .i32 0), (.int .i32 0), (.int .u8 0), (.int .u8 0), (.int .u8 0), (.int .u8 0), (.int .u8 0), (.int .i32 0), (.int .i32 0), (.int .u8 0), (.int .u8 0), (.int .u8 0), (.int .u8 0), (.int .u8 0), (.int .i32 0), (.int .i32 0), (.int .u8 0), (.int .u8 0), (.int .u8 0), (.int .u8 0), (.int .u8 0), (.int .i32 0), (.int .i32 0), (.int .u8 0), (.int .u8 0), (.int .u8 0), (.int .u8 0), (.int .u8 0), (.int .i32 0), (.int .i32 0), (.int .u8 0), (.int .u8 0), (.int .u8 0), (.int .u8 0), (.int .u8 0), (.int .i32 0), (.int .i32 0), (.int .u8 0), (.int .u8 0), (.int .u8 0), (.int .u8 0), (.int .u8 0), (.int .i32 0), (.int .i32 0), (.int .u8 0), (.int .u8 0), (.int .u8 0), (.int .u8 0), (.int .u8 0), (.int .i32 0), (.int .i32 0), (.int .u8 0), (.int .u8 0), (.int .u8 0), (.int .u8 0), (.int .u8 0), (.int .i32 0), (.int .i32 0), (.int .u8 0), (.int .u8 0), (.int .u8 0), (.int .u8 0), (.int .u8 0), (.int .i32 0), (.int .i32 0), (.int .u8 0), (.int .u8 0), (.int .u8 0), (.int .u8 0), (.int .u8 0), (.int .i32 0), (.int .i32 0), (.int .u8 0), (.int .u8 0), (.int .u8 0), (.int .u8 0), (.int .u8 0), (.int .i32 0), (.int .i32 0), (.int .u8 0), (.int .u8 0), (.int .u8 0), (.int .u8 0), (.int .u8 0), (.int .i32 0), (.int .i32 0), (.int .u8 0), (.int .u8 0), (.int .u8 0), (.int .u8 0), (.int .u8 0), (.int .i32 0), (.int .i32 0), (.int .u8 0), (.int .u8 0), (.int .u8 0), (.int .u8 0), (.int .u8 0), (.int .i32 0), (.int .i32 0), (.int .u8 0), (.int .u8 0), (.int .u8 0), (.int .u8 0), (.int .u8 0)]) := by kernel_rfl
@[simp] theorem Tryz.bd174 {ps : List (Nat × V)} : buildV Tryz.prog 174 ps = (fillV (fun i => some (i * 7, 7)) [(.int .i32 0), (.int .i32 0), (.int .u8 0), (.int .u8 0), (.int .u8 0), (.int .u8 0), (.int .u8 0), (.int .i32 0), (.int .i32 0), (.int .u8 0), (.int .u8 0), (.int .u8 0), (.int .u8 0), (.int .u8 0), (.int .i32 0), (.int .i32 0), (.int .u8 0), (.int .u8 0), (.int .u8 0), (.int .u8 0), (.int .u8 0), (.int .i32 0), (.int .i32 0), (.int .u8 0), (.int .u8 0), (.int .u8 0), (.int .u8 0), (.int .u8 0), (.int .i32 0), (.int .i32 0), (.int .u8 0), (.int .u8 0), (.int .u8 0), (.int .u8 0), (.int .u8 0), (.int .i32 0), (.int .i32 0), (.int .u8 0), (.int .u8 0), (.int .u8 0), (.int .u8 0), (.int .u8 0), (.int .i32 0), (.int .i32 0), (.int .u8 0), (.int .u8 0), (.int .u8 0), (.int .u8 0), (.int .u8 0), (.int .i32 0), (.int .i32 0), (.int .u8 0), (.int .u8 0), (.int .u8 0), (.int .u8 0), (.int .u8 0), (.int .i32 0), (.int .i32 0), (.int .u8 0), (.int .u8 0), (.int .u8 0), (.int .u8 0), (.int .u8 0), (.int .i32 0), (.int .i32 0), (.int .u8 0), (.int .u8 0), (.int .u8 0), (.int .u8 0), (.int .u8 0), (.int .i32 0), (.int .i32 0), (.int .u8 0), (.int .u8 0), (.int .u8 0), (.int .u8 0), (.int .u8 0), (.int .i32 0), (.int .i32 0), (.int .u8 0), (.int .u8 0), (.int .u8 0), (.int .u8 0), (.int .u8 0), (.int .i32 0), (.int .i32 0), (.int .u8 0), (.int .u8 0), (.int .u8 0), (.int .u8 0), (.int .u8 0), (.int .i32 0), (.int .i32 0), (.int .u8 0), (.int .u8 0), (.int .u8 0), (.int .u8 0), (.int .u8 0), (.int .i32 0), (.int .i32 0), (.int .u8 0), (.int .u8 0), (.int .u8 0), (.int .u8 0), (.int .u8 0), (.int .i32 0), (.int .i32 0), (.int .u8 0), (.int .u8 0), (.int .u8 0), (.int .u8 0), (.int .u8 0), (.int .i32 0), (.int .i32 0), (.int .u8 0), (.int .u8 0), (.int .u8 0), (.int .u8 0), (.int .u8 0), (.int .i32 0), (.int .i32 0), (.int .u8 0), (.int .u8 0), (.int .u8 0), (.int .u8 0), (.int .u8 0), (.int .i32 0), (.int .i32 0), (.int .u8 0), (.int .u8 0), (.int .u8 0), (.int .u8 0), (.int .u8 0), (.int .i32 0), (.int .i32 0), (.int .u8 0), (.int .u8 0), (.int .u8 0), (.int .u8 0), (.int .u8 0), (.int .i32 0), (.int .i32 0), (.int .u8 0), (.int .u8 0), (.int .u8 0), (.int .u8 0), (.int .u8 0), (.int .i32 0), (.int .i32 0), (.int .u8 0), (.int .u8 0), (.int .u8 0), (.int .u8 0), (.int .u8 0), (.int .i32 0), (.int .i32 0), (.int .u8 0), (.int .u8 0), (.int .u8 0), (.int .u8 0), (.int .u8 0), (.int .i32 0), (.int .i32 0), (.int .u8 0), (.int .u8 0), (.int .u8 0), (.int .u8 0), (.int .u8 0), (.int .i32 0), (.int .i32 0), (.int .u8 0), (.int .u8 0), (.int .u8 0), (.int .u8 0), (.int .u8 0), (.int .i32 0), (.int .i32 0), (.int .u8 0), (.int .u8 0), (.int .u8 0), (.int .u8 0), (.int .u8 0), (.int .i32 0), (.int .i32 0), (.int .u8 0), (.int .u8 0), (.int .u8 0), (.int .u8 0), (.int .u8 0), (.int .i32 0), (.int .i32 0), (.int .u8 0), (.int .u8 0), (.int .u8 0), (.int .u8 0), (.int .u8 0), (.int .i32 0), (.int .i32 0), (.int .u8 0), (.int .u8 0), (.int .u8 0), (.int .u8 0), (.int .u8 0), (.int .i32 0), (.int .i32 0), (.int .u8 0), (.int .u8 0), (.int .u8 0), (.int .u8 0), (.int .u8 0), (.int .i32 0), (.int .i32 0), (.int .u8 0), (.int .u8 0), (.int .u8 0), (.int .u8 0), (.int .u8 0), (.int .i32 0), (.int .i32 0), (.int .u8 0), (.int .u8 0), (.int .u8 0), (.int .u8 0), (.int .u8 0), (.int .i32 0), (.int .i32 0), (.int .u8 0), (.int .u8 0), (.int .u8 0), (.int .u8 0), (.int .u8 0), (.int .i32 0), (.int .i32 0), (.int .u8 0), (.int .u8 0), (.int .u8 0), (.int .u8 0), (.int .u8 0), (.int .i32 0), (.int .i32 0), (.int .u8 0), (.int .u8 0), (.int .u8 0), (.int .u8 0), (.int .u8 0), (.int .i32 0), (.int .i32 0), (.int .u8 0), (.int .u8 0), (.int .u8 0), (.int .u8 0), (.int .u8 0), (.int .i32 0), (.int .i32 0), (.int .u8 0), (.int .u8 0), (.int .u8 0), (.int .u8 0), (.int .u8 0), (.int .i32 0), (.int .i32 0), (.int .u8 0), (.int .u8 0), (.int .u8 0), (.int .u8 0), (.int .u8 0), (.int .i32 0), (.int .i32 0), (.int .u8 0), (.int .u8 0), (.int .u8 0), (.int .u8 0), (.int .u8 0), (.int .i32 0), (.int .i32 0), (.int .u8 0), (.int .u8 0), (.int .u8 0), (.int .u8 0), (.int .u8 0), (.int .i32 0), (.int .i32 0), (.int .u8 0), (.int .u8 0), (.int .u8 0), (.int .u8 0), (.int .u8 0), (.int .i32 0), (.int .i32 0), (.int .u8 0), (.int .u8 0), (.int .u8 0), (.int .u8 0), (.int .u8 0), (.int .i32 0), (.int .i32 0), (.int .u8 0), (.int .u8 0), (.int .u8 0), (.int .u8 0), (.int .u8 0), (.int .i32 0), (.int .i32 0), (.int .u8 0), (.int .u8 0), (.int .u8 0), (.int .u8 0), (.int .u8 0)] ps).map .agg := buildA_eq Tryz.zr174 (show Tryz.prog.underlying 174 = some (.array 44 135) by kernel_rfl) (show szOf Tryz.prog 135 = some 7 by kernel_rfl)
@[simp] theorem Tryz.ixL177 {xs : List (List V)} {k : IntKind} {i : Int} : indexAddrV Tryz.prog 177 (.lst xs) (.int k i) = idxL 7 xs i := idxL_eq (show Tryz.prog.underlying 177 = some (.slice 135) by kernel_rfl) (show szOf Tryz.prog 135 = some 7 by kernel_rfl)
@[simp] theorem Tryz.ixS177 {b off len cap c : Nat} {k : IntKind} {i : Int} : indexAddrV Tryz.prog 177 (.sl b off len cap c) (.int k i) = idxS 7 b off len c i := idxS_eq (show Tryz.prog.underlying 177 = some (.slice 135) by kernel_rfl) (show szOf Tryz.prog 135 = some 7 by kernel_rfl)
@[simp] theorem Tryz.lnL177 {xs : List (List V)} : lenV Tryz.prog 177 (.lst xs) = some (.int .i64 xs.length) := lenL_eq (show Tryz.prog.underlying 177 = some (.slice 135) by kernel_rfl)
@[simp] theorem Tryz.lnS177 {b off len cap k : Nat} : lenV Tryz.prog 177 (.sl b off len cap k) = some (.int .i64 len) := lenS_eq (show Tryz.prog.underlying 177 = some (.slice 135) by kernel_rfl)
@[simp] theorem Tryz.lnN177 : lenV Tryz.prog 177 .nils = some (.int .i64 0) := lenN_eq (show Tryz.prog.underlying 177 = some (.slice 135) by kernel_rfl)
@[simp] theorem Tryz.pt178 {cs : List V} {off : Nat} : part Tryz.prog 178 cs off = if off + 287 ≤ cs.length then some (.agg ((cs.drop off).take 287)) else none := part_agg (by kernel_rfl) (by kernel_rfl)
@[simp] theorem Tryz.st178 {b off : Nat} {v : V} : storeV Tryz.prog cfg h 178 (.ptr b off) v = stv cfg h b off 287 (cellsOf v) := store_eq (by kernel_rfl)
@[simp] theorem Tryz.zr178 : zeroOf Tryz.prog 178 = some (.agg [(.int .i32 0), (.int .i32 0), (.int .u8 0), (.int .u8 0), (.int .u8 0), (.int .u8 0), (.int .u8 0), (.int .i32 0), (.int .i32 0), (.int .u8 0), (.int .u8 0), (.int .u8 0), (.int .u8 0), (.int .u8 0), (.int .i32 0), (.int .i32 0), (.int .u8 0), (.int .u8 0), (.int .u8 0), (.int .u8 0), (.int .u8 0), (.int .i32 0), (.int .i32 0), (.int .u8 0), (.int .u8 0), (.int .u8 0), (.int .u8 0), (.int .u8 0), (.int .i32 0), (.int .i32 0), (.int .u8 0), (.int .u8 0), (.int .u8 0), (.int .u8 0), (.int .u8 0), (.int .i32 0), (.int .i32 0), (.int .u8 0), (.int .u8 0), (.int .u8 0), (.int .u8 0), (.int .u8 0), (.int .i32 0), (.int .i32 0), (.int .u8 0), (.int .u8 0), (.int .u8 0), (.int .u8 0), (.int .u8 0), (.int .i32 0), (.int .i32 0), (.int .u8 0), (.int .u8 0), (.int .u8 0), (.int .u8 0), (.int .u8 0), (.int .i32 0), (.int .i32 0), (.int .u8 0), (.int .u8 0), (.int .u8 0), (.int .u8 0), (.int .u8 0), (.int .i32 0), (.int .i32 0), (.int .u8 0), (.int .u8 0), (.int .u8 0), (.int .u8 0), (.int .u8 0), (.int .i32 0), (.int .i32 0), (.int .u8 0), (.int .u8 0), (.int .u8 0), (.int .u8 0), (.int .u8 0), (.int .i32 0), (.int .i32 0), (.int .u8 0), (.int .u8 0), (.int .u8 0), (.int .u8 0), (.int .u8 0), (.int .i32 0), (.int .i32 0), (.int .u8 0), (.int .u8 0), (.int .u8 0), (.int .u8 0), (.int .u8 0), (.int .i32 0), (.int .i32 0), (.int .u8 0), (.int .u8 0), (.int .u8 0), (.int .u8 0), (.int .u8 0), (.int .i32 0), (.int .i32 0), (.int .u8 0), (.int .u8 0), (.int .u8 0), (.int .u8 0), (.int .u8 0), (.int .i32 0), (.int .i32 0), (.int .u8 0), (.int .u8 0), (.int .u8 0), (.int .u8 0), (.int .u8 0), (.int .i32 0), (.int .i32 0), (.int .u8 0), (.int .u8 0), (.int .u8 0), (.int .u8 0), (.int .u8 0), (.int .i32 0), (.int .i32 0), (.int .u8 0), (.int .u8 0), (.int .u8 0), (.int .u8 0), (.int .u8 0), (.int .i32 0), (.int .i32 0), (.int .u8 0), (.int .u8 0), (.int .u8 0), (.int .u8 0), (.int .u8 0), (.int .i32 0), (.int .i32 0), (.int .u8 0), (.int .u8 0), (.int .u8 0), (.int .u8 0), (.int .u8 0), (.int .i32 0), (.int .i32 0), (.int .u8 0), (.int .u8 0), (.int .u8 0), (.int .u8 0), (.int .u8 0), (.int .i32 0), (.int .i32 0), (.int .u8 0), (.int .u8 0), (.int .u8 0), (.int .u8 0), (.int .u8 0), (.int .i32 0), (.int .i32 0), (.int .u8 0), (.int .u8 0), (.int .u8 0), (.int .u8 0), (.int .u8 0), (.int .i32 0), (.int .i32 0), (.int .u8 0), (.int .u8 0), (.int .u8 0), (.int .u8 0), (.int .u8 0), (.int .i32 0), (.int .i32 0), (.int .u8 0), (.int .u8 0), (.int .u8 0), (.int .u8 0), (.int .u8 0), (.int .i32 0), (.int .i32 0), (.int .u8 0), (.int .u8 0), (.int .u8 0), (.int .u8 0), (.int .u8 0), (.int .i32 0), (.int .i32 0), (.int .u8 0), (.int .u8 0), (.int .u8 0), (.int .u8 0), (.int .u8 0), (.int .i32 0), (.int .i32 0), (.int .u8 0), (.int .u8 0), (.int .u8 0), (.int .u8 0), (.int .u8 0), (.int .i32 0), (.int .i32 0), (.int .u8 0), (.int .u8 0), (.int .u8 0), (.int .u8 0), (.int .u8 0), (.int .i32 0), (.int .i32 0), (.int .u8 0), (.int .u8 0), (.int .u8 0), (.int .u8 0), (.int .u8 0), (.int .i32 0), (.int .i32 0), (.int .u8 0), (.int .u8 0), (.int .u8 0), (.int .u8 0), (.int .u8 0), (.int .i32 0), (.int .i32 0), (.int .u8 0), (.int .u8 0), (.int .u8 0), (.int .u8 0), (.int .u8 0), (.int .i32 0), (.int .i32 0), (.int .u8 0), (.int .u8 0), (.int .u8 0), (.int .u8 0), (.int .u8 0), (.int .i32 0), (.int .i32 0), (.int .u8 0), (.int .u8 0), (.int .u8 0), (.int .u8 0), (.int .u8 0), (.int .i32 0), (.int .i32 0), (.int .u8 0), (.int .u8 0), (.int .u8 0), (.int .u8 0), (.int .u8 0), (.int .i32 0), (.int .i32 0), (.int .u8 0), (.int .u8 0), (.int .u8 0), (.int .u8 0), (.int .u8 0), (.int .i32 0), (.int .i32 0), (.int .u8 0), (.int .u8 0), (.int .u8 0), (.int .u8 0), (.int .u8 0), (.int .i32 0), (.int .i32 0), (.int .u8 0), (.int .u8 0), (.int .u8 0), (.int .u8 0), (.int .u8 0), (.int .i32 0), (.int .i32 0), (.int .u8 0), (.int .u8 0), (.int .u8 0), (.int .u8 0), (.int .u8 0), (.int .i32 0), (.int .i32 0), (.int .u8 0), (.int .u8 0), (.int .u8 0), (.int .u8 0), (.int .u8 0), (.int .i32 0), (.int .i32 0), (.int .u8 0), (.int .u8 0), (.int .u8 0), (.int .u8 0), (.int .u8 0)]) := by kernel_rfl
@[simp] theorem Tryz.bd178 {ps : List (Nat × V)} : buildV Tryz.prog 178 ps = (fillV (fun i => some (i * 7, 7)) [(.int .i32 0), (.int .i32 0), (.int .u8 0), (.int .u8 0), (.int .u8 0), (.int .u8 0), (.int .u8 0), (.int .i32 0), (.int .i32 0), (.int .u8 0), (.int .u8 0), (.int .u8 0), (.int .u8 0), (.int .u8 0), (.int .i32 0), (.int .i32 0), (.int .u8 0), (.int .u8 0), (.int .u8 0), (.int .u8 0), (.int .u8 0), (.int .i32 0), (.int .i32 0), (.int .u8 0), (.int .u8 0), (.int .u8 0), (.int .u8 0), (.int .u8 0), (.int .i32 0), (.int .i32 0), (.int .u8 0), (.int .u8 0), (.int .u8 0), (.int .u8 0), (.int .u8 0), (.int .i32 0), (.int .i32 0), (.int .u8 0), (.int .u8 0), (.int .u8 0), (.int .u8 0), (.int .u8 0), (.int .i32 0), (.int .i32 0), (.int .u8 0), (.int .u8 0), (.int .u8 0), (.int .u8 0), (.int .u8 0), (.int .i32 0), (.int .i32 0), (.int .u8 0), (.int .u8 0), (.int .u8 0), (.int .u8 0), (.int .u8 0), (.int .i32 0), (.int .i32 0), (.int .u8 0), (.int .u8 0), (.int .u8 0), (.int .u8 0), (.int .u8 0), (.int .i32 0), (.int .i32 0), (.int .u8 0), (.int .u8 0), (.int .u8 0), (.int .u8 0), (.int .u8 0), (.int .i32 0), (.int .i32 0), (.int .u8 0), (.int .u8 0), (.int .u8 0), (.int .u8 0), (.int .u8 0), (.int .i32 0), (.int .i32 0), (.int .u8 0), (.int .u8 0), (.int .u8 0), (.int .u8 0), (.int .u8 0), (.int .i32 0), (.int .i32 0), (.int .u8 0), (.int .u8 0), (.int .u8 0), (.int .u8 0), (.int .u8 0), (.int .i32 0), (.int .i32 0), (.int .u8 0), (.int .u8 0), (.int .u8 0), (.int .u8 0), (.int .u8 0), (.int .i32 0), (.int .i32 0), (.int .u8 0), (.int .u8 0), (.int .u8 0), (.int .u8 0), (.int .u8 0), (.int .i32 0), (.int .i32 0), (.int .u8 0), (.int .u8 0), (.int .u8 0), (.int .u8 0), (.int .u8 0), (.int .i32 0), (.int .i32 0), (.int .u8 0), (.int .u8 0), (.int .u8 0), (.int .u8 0), (.int .u8 0), (.int .i32 0), (.int .i32 0), (.int .u8 0), (.int .u8 0), (.int .u8 0), (.int .u8 0), (.int .u8 0), (.int .i32 0), (.int .i32 0), (.int .u8 0), (.int .u8 0), (.int .u8 0), (.int .u8 0), (.int .u8 0), (.int .i32 0), (.int .i32 0), (.int .u8 0), (.int .u8 0), (.int .u8 0), (.int .u8 0), (.int .u8 0), (.int .i32 0), (.int .i32 0), (.int .u8 0), (.int .u8 0), (.int .u8 0), (.int .u8 0), (.int .u8 0), (.int .i32 0), (.int .i32 0), (.int .u8 0), (.int .u8 0), (.int .u8 0), (.int .u8 0), (.int .u8 0), (.int .i32 0), (.int .i32 0), (.int .u8 0), (.int .u8 0), (.int .u8 0), (.int .u8 0), (.int .u8 0), (.int .i32 0), (.int .i32 0), (.int .u8 0), (.int .u8 0), (.int .u8 0), (.int .u8 0), (.int .u8 0), (.int .i32 0), (.int .i32 0), (.int .u8 0), (.int .u8 0), (.int .u8 0), (.int .u8 0), (.int .u8 0), (.int .i32 0), (.int .i32 0), (.int .u8 0), (.int .u8 0), (.int .u8 0), (.int .u8 0), (.int .u8 0), (.int .i32 0), (.int .i32 0), (.int .u8 0), (.int .u8 0), (.int .u8 0), (.int .u8 0), (.int .u8 0), (.int .i32 0), (.int .i32 0), (.int .u8 0), (.int .u8 0), (.int .u8 0), (.int .u8 0), (.int .u8 0), (.int .i32 0), (.int .i32 0), (.int .u8 0), (.int .u8 0), (.int .u8 0), (.int .u8 0), (.int .u8 0), (.int .i32 0), (.int .i32 0), (.int .u8 0), (.int .u8 0), (.int .u8 0), (.int .u8 0), (.int .u8 0), (.int .i32 0), (.int .i32 0), (.int .u8 0), (.int .u8 0), (.int .u8 0), (.int .u8 0), (.int .u8 0), (.int .i32 0), (.int .i32 0), (.int .u8 0), (.int .u8 0), (.int .u8 0), (.int .u8 0), (.int .u8 0), (.int .i32 0), (.int .i32 0), (.int .u8 0), (.int .u8 0), (.int .u8 0), (.int .u8 0), (.int .u8 0), (.int .i32 0), (.int .i32 0), (.int .u8 0), (.int .u8 0), (.int .u8 0), (.int .u8 0), (.int .u8 0), (.int .i32 0), (.int .i32 0), (.int .u8 0), (.int .u8 0), (.int .u8 0), (.int .u8 0), (.int .u8 0), (.int .i32 0), (.int .i32 0), (.int .u8 0), (.int .u8 0), (.int .u8 0), (.int .u8 0), (.int .u8 0), (.int .i32 0), (.int .i32 0), (.int .u8 0), (.int .u8 0), (.int .u8 0), (.int .u8 0), (.int .u8 0), (.int .i32 0), (.int .i32 0), (.int .u8 0), (.int .u8 0), (.int .u8 0), (.int .u8 0), (.int .u8 0), (.int .i32 0), (.int .i32 0), (.int .u8 0), (.int .u8 0), (.int .u8 0), (.int .u8 0), (.int .u8 0), (.int .i32 0), (.int .i32 0), (.int .u8 0), (.int .u8 0), (.int .u8 0), (.int .u8 0), (.int .u8 0), (.int .i32 0), (.int .i32 0), (.int .u8 0), (.int .u8 0), (.int .u8 0), (.int .u8 0), (.int .u8 0)] ps).map .agg := buildA_eq Tryz.zr178 (show Tryz.prog.underlying 178 = some (.array 41 135) by kernel_rfl) (show szOf Tryz.prog 135 = some 7 by kernel_rfl)
@[simp] theorem Tryz.pt180 {cs : List V} {off : Nat} : part Tryz.prog 180 cs off = slot cs off := part_leaf (by kernel_rfl)
@[simp] theorem Tryz.st180 {b off : Nat} {v : V} : storeV Tryz.prog cfg h 180 (.ptr b off) v = stv cfg h b off 1 (cellsOf v) := store_eq (by kernel_rfl)
@[simp] theorem Tryz.zr180 : zeroOf Tryz.prog 180 = some (.int .u64 0) := by kernel_rfl
@[simp] theorem Tryz.pt187 {cs : List V} {off : Nat} : part Tryz.prog 187 cs off = if off + 5 ≤ cs.length then some (.agg ((cs.drop off).take 5)) else none := part_agg (by kernel_rfl) (by kernel_rfl)
@[simp] theorem Tryz.st187 {b off : Nat} {v : V} : storeV Tryz.prog cfg h 187 (.ptr b off) v = stv cfg h b off 5 (cellsOf v) := store_eq (by kernel_rfl)
@[simp] theorem Tryz.zr187 : zeroOf Tryz.prog 187 = some (.agg [(.int .i64 0), (.int .i64 0), (.int .i64 0), (.int .i64 0), (.int .i64 0)]) := by kernel_rfl
@[simp] theorem Tryz.fa187x0 {b off : Nat} : fieldAddrV Tryz.prog 187 (.ptr b off) 0 = some (.ptr b off) := by kernel_rfl
@[simp] theorem Tryz.fl187x0 {cs : List V} {off : Nat} : fieldAddrV Tryz.prog 187 (.lptr cs off) 0 = some (.lptr cs off) := by kernel_rfl
@[simp] theorem Tryz.fv187x0 {cs : List V} : fieldV Tryz.prog 187 (.agg cs) 0 = part Tryz.prog 3 cs 0 := by kernel_rfl
@[simp] theorem Tryz.fa187x1 {b off : Nat} : fieldAddrV Tryz.prog 187 (.ptr b off) 1 = some (.ptr b (off + 1)) := by kernel_rfl
@[simp] theorem Tryz.fl187x1 {cs : List V} {off : Nat} : fieldAddrV Tryz.prog 187 (.lptr cs off) 1 = some (.lptr cs (off + 1)) := by kernel_rfl
@[simp] theorem Tryz.fv187x1 {cs : List V} : fieldV Tryz.prog 187 (.agg cs) 1 = part Tryz.prog 3 cs 1 := by kernel_rfl
@[simp] theorem Tryz.fa187x2 {b off : Nat} : fieldAddrV Tryz.prog 187 (.ptr b off) 2 = some (.ptr b (off + 2)) := by kernel_rfl
@[simp] theorem Tryz.fl187x2 {cs : List V} {off : Nat} : fieldAddrV Tryz.prog 187 (.lptr cs off) 2 = some (.lptr cs (off + 2)) := by kernel_rfl
@[simp] theorem Tryz.fv187x2 {cs : List V} : fieldV Tryz.prog 187 (.agg cs) 2 = part Tryz.prog 3 cs 2 := by kernel_rfl
@[simp] theorem Tryz.fa187x3 {b off : Nat} : fieldAddrV Tryz.prog 187 (.ptr b off) 3 = some (.ptr b (off + 3)) := by kernel_rfl
@[simp] theorem Tryz.fl187x3 {cs : List V} {off : Nat} : fieldAddrV Tryz.prog 187 (.lptr cs off) 3 = some (.lptr cs (off + 3)) := by kernel_rfl
@[simp] theorem Tryz.fv187x3 {cs : List V} : fieldV Tryz.prog 187 (.agg cs) 3 = part Tryz.prog 3 cs 3 := by kernel_rfl
@[simp] theorem Tryz.fa187x4 {b off : Nat} : fieldAddrV Tryz.prog 187 (.ptr b off) 4 = some (.ptr b (off + 4)) := by kernel_rfl
@[simp] theorem Tryz.fl187x4 {cs : List V} {off : Nat} : fieldAddrV Tryz.prog 187 (.lptr cs off) 4 = some (.lptr cs (off + 4)) := by kernel_rfl
@[simp] theorem Tryz.fv187x4 {cs : List V} : fieldV Tryz.prog 187 (.agg cs) 4 = part Tryz.prog 3 cs 4 := by kernel_rfl
def Tryz.pl187 : Nat → Option (Nat × Nat)
  | 0 => some (0, 1)
  | 1 => some (1, 1)
  | 2 => some (2, 1)
  | 3 => some (3, 1)
  | 4 => some (4, 1)
  | _ => none
@[simp] theorem Tryz.pl187x0 : Tryz.pl187 0 = some (0, 1) := rfl
@[simp] theorem Tryz.pl187x1 : Tryz.pl187 1 = some (1, 1) := rfl
@[simp] theorem Tryz.pl187x2 : Tryz.pl187 2 = some (2, 1) := rfl
@[simp] theorem Tryz.pl187x3 : Tryz.pl187 3 = some (3, 1) := rfl
@[simp] theorem Tryz.pl187x4 : Tryz.pl187 4 = some (4, 1) := rfl
@[simp] theorem Tryz.bd187 {ps : List (Nat × V)} : buildV Tryz.prog 187 ps = (fillV Tryz.pl187 [(.int .i64 0), (.int .i64 0), (.int .i64 0), (.int .i64 0), (.int .i64 0)] ps).map .agg := build_eq (pl := Tryz.pl187) Tryz.zr187 Tryz.underlying187 (by kernel_rfl) (fun i => by match i with | 0 => (show _ = _; kernel_rfl) | 1 => (show _ = _; kernel_rfl) | 2 => (show _ = _; kernel_rfl) | 3 => (show _ = _; kernel_rfl) | 4 => (show _ = _; kernel_rfl) | _ + 5 => (show _ = _; kernel_rfl))
@[simp] theorem Tryz.pt190 {cs : List V} {off : Nat} : part Tryz.prog 190 cs off = if off + 3 ≤ cs.length then some (.agg ((cs.drop off).take 3)) else none := part_agg (by kernel_rfl) (by kernel_rfl)
@[simp] theorem Tryz.st190 {b off : Nat} {v : V} : storeV Tryz.prog cfg h 190 (.ptr b off) v = stv cfg h b off 3 (cellsOf v) := store_eq (by kernel_rfl)
@[simp] theorem Tryz.zr190 : zeroOf Tryz.prog 190 = some (.agg [(.int .i64 0), (.int .i64 0), (.bool false)]) := by kernel_rfl
@[simp] theorem Tryz.fa190x0 {b off : Nat} : fieldAddrV Tryz.prog 190 (.ptr b off) 0 = some (.ptr b off) := by kernel_rfl
@[simp] theorem Tryz.fl190x0 {cs : List V} {off : Nat} : fieldAddrV Tryz.prog 190 (.lptr cs off) 0 = some (.lptr cs off) := by kernel_rfl
@[simp] theorem Tryz.fa190x1 {b off : Nat} : fieldAddrV Tryz.prog 190 (.ptr b off) 1 = some (.ptr b (off + 1)) := by kernel_rfl
@[simp] theorem Tryz.fl190x1 {cs : List V} {off : Nat} : fieldAddrV Tryz.prog 190 (.lptr cs off) 1 = some (.lptr cs (off + 1)) := by kernel_rfl
@[simp] theorem Tryz.fa190x2 {b off : Nat} : fieldAddrV Tryz.prog 190 (.ptr b off) 2 = some (.ptr b (off + 2)) := by kernel_rfl
@[simp] theorem Tryz.fl190x2 {cs : List V} {off : Nat} : fieldAddrV Tryz.prog 190 (.lptr cs off) 2 = some (.lptr cs (off + 2)) := by kernel_rfl
def Tryz.pl190 : Nat → Option (Nat × Nat)
  | 0 => some (0, 1)
  | 1 => some (1, 1)
  | 2 => some (2, 1)
  | _ => none
@[simp] theorem Tryz.pl190x0 : Tryz.pl190 0 = some (0, 1) := rfl
@[simp] theorem Tryz.pl190x1 : Tryz.pl190 1 = some (1, 1) := rfl
@[simp] theorem Tryz.pl190x2 : Tryz.pl190 2 = some (2, 1) := rfl
@[simp] theorem Tryz.bd190 {ps : List (Nat × V)} : buildV Tryz.prog 190 ps = (fillV Tryz.pl190 [(.int .i64 0), (.int .i64 0), (.bool false)] ps).map .agg := build_eq (pl := Tryz.pl190) Tryz.zr190 Tryz.underlying190 (by kernel_rfl) (fun i => by match i with | 0 => (show _ = _; kernel_rfl) | 1 => (show _ = _; kernel_rfl) | 2 => (show _ = _; kernel_rfl) | _ + 3 => (show _ = _; kernel_rfl))
@[simp] theorem Tryz.ixL191 {xs : List (List V)} {k : IntKind} {i : Int} : indexAddrV Tryz.prog 191 (.lst xs) (.int k i) = idxL 3 xs i := idxL_eq (show Tryz.prog.underlying 191 = some (.slice 190) by kernel_rfl) (show szOf Tryz.prog 190 = some 3 by kernel_rfl)
@[simp] theorem Tryz.ixS191 {b off len cap c : Nat} {k : IntKind} {i : Int} : indexAddrV Tryz.prog 191 (.sl b off len cap c) (.int k i) = idxS 3 b off len c i := idxS_eq (show Tryz.prog.underlying 191 = some (.slice 190) by kernel_rfl) (show szOf Tryz.prog 190 = some 3 by kernel_rfl)
@[simp] theorem Tryz.slL191 {xs : List (List V)} {lo hi : Option (Option V)} : sliceV Tryz.prog h 191 (.lst xs) lo hi = slcL 3 xs (boundV 0 lo) (boundV xs.length hi) := slcL_eq (show Tryz.prog.underlying 191 = some (.slice 190) by kernel_rfl) (show szOf Tryz.prog 190 = some 3 by kernel_rfl)
@[simp] theorem Tryz.slS191 {b off len cap k : Nat} {lo hi : Option (Option V)} : sliceV Tryz.prog h 191 (.sl b off len cap k) lo hi = slcS 3 b off len cap k (boundV 0 lo) (boundV len hi) := slcS_eq (show Tryz.prog.underlying 191 = some (.slice 190) by kernel_rfl) (show szOf Tryz.prog 190 = some 3 by kernel_rfl)
@[simp] theorem Tryz.slN191 {lo hi : Option (Option V)} : sliceV Tryz.prog h 191 .nils lo hi = slcN (boundV 0 lo) (boundV 0 hi) := slcN_eq (show Tryz.prog.underlying 191 = some (.slice 190) by kernel_rfl) (show szOf Tryz.prog 190 = some 3 by kernel_rfl)
@[simp] theorem Tryz.lnL191 {xs : List (List V)} : lenV Tryz.prog 191 (.lst xs) = some (.int .i64 xs.length) := lenL_eq (show Tryz.prog.underlying 191 = some (.slice 190) by kernel_rfl)
@[simp] theorem Tryz.lnS191 {b off len cap k : Nat} : lenV Tryz.prog 191 (.sl b off len cap k) = some (.int .i64 len) := lenS_eq (show Tryz.prog.underlying 191 = some (.slice 190) by kernel_rfl)
@[simp] theorem Tryz.lnN191 : lenV Tryz.prog 191 .nils = some (.int .i64 0) := lenN_eq (show Tryz.prog.underlying 191 = some (.slice 190) by kernel_rfl)
@[simp] theorem Tryz.ap191 {d x : V} : appendV Tryz.prog cfg h 191 191 d x = appS cfg h 3 24 d (srcCells h 3 x) := appS_eq (show Tryz.prog.underlying 191 = some (.slice 190) by kernel_rfl) (show szOf Tryz.prog 190 = some 3 by kernel_rfl) (by kernel_rfl) (by kernel_rfl) (by decide)
@[simp] theorem Tryz.bs191 {len : Nat} {vs : List V} : buildSliceV Tryz.prog h 191 len vs = (cellsAll 3 vs).bind fun cs => if vs.length = len && decide (len * 3 ≤ 16777216) then some (.sl h.length 0 len len 3, h ++ [some cs]) else none := buildSlice_eq (show Tryz.prog.underlying 191 = some (.slice 190) by kernel_rfl) (show szOf Tryz.prog 190 = some 3 by kernel_rfl) (by kernel_rfl) (by decide)
@[simp] theorem Tryz.ixL193 {xs : List (List V)} {k : IntKind} {i : Int} : indexAddrV Tryz.prog 193 (.lst xs) (.int k i) = idxL 2 xs i := idxL_eq (show Tryz.prog.underlying 193 = some (.slice 195) by kernel_rfl) (show szOf Tryz.prog 195 = some 2 by kernel_rfl)
@[simp] theorem Tryz.ixS193 {b off len cap c : Nat} {k : IntKind} {i : Int} : indexAddrV Tryz.prog 193 (.sl b off len cap c) (.int k i) = idxS 2 b off len c i := idxS_eq (show Tryz.prog.underlying 193 = some (.slice 195) by kernel_rfl) (show szOf Tryz.prog 195 = some 2 by kernel_rfl)
@[simp] theorem Tryz.lnL193 {xs : List (List V)} : lenV Tryz.prog 193 (.lst xs) = some (.int .i64 xs.length) := lenL_eq (show Tryz.prog.underlying 193 = some (.slice 195) by kernel_rfl)
@[simp] theorem Tryz.lnS193 {b off len cap k : Nat} : lenV Tryz.prog 193 (.sl b off len cap k) = some (.int .i64 len) := lenS_eq (show Tryz.prog.underlying 193 = some (.slice 195) by kernel_rfl)
@[simp] theorem Tryz.lnN193 : lenV Tryz.prog 193 .nils = some (.int .i64 0) := lenN_eq (show Tryz.prog.underlying 193 = some (.slice 195) by kernel_rfl)
@[simp] theorem Tryz.ap193 {d x : V} : appendV Tryz.prog cfg h 193 193 d x = appS cfg h 2 16 d (srcCells h 2 x) := appS_eq (show Tryz.prog.underlying 193 = some (.slice 195) by kernel_rfl) (show szOf Tryz.prog 195 = some 2 by kernel_rfl) (by kernel_rfl) (by kernel_rfl) (by decide)
@[simp] theorem Tryz.bs193 {len : Nat} {vs : List V} : buildSliceV Tryz.prog h 193 len vs = (cellsAll 2 vs).bind fun cs => if vs.length = len && decide (len * 2 ≤ 16777216) then some (.sl h.length 0 len len 2, h ++ [some cs]) else none := buildSlice_eq (show Tryz.prog.underlying 193 = some (.slice 195) by kernel_rfl) (show szOf Tryz.prog 195 = some 2 by kernel_rfl) (by kernel_rfl) (by decide)
@[simp] theorem Tryz.pt195 {cs : List V} {off : Nat} : part Tryz.prog 195 cs off = if off + 2 ≤ cs.length then some (.agg ((cs.drop off).take 2)) else none := part_agg (by kernel_rfl) (by kernel_rfl)
@[simp] theorem Tryz.st195 {b off : Nat} {v : V} : storeV Tryz.prog cfg h 195 (.ptr b off) v = stv cfg h b off 2 (cellsOf v) := store_eq (by kernel_rfl)
@[simp] theorem Tryz.zr195 : zeroOf Tryz.prog 195 = some (.agg [(.int .i64 0), (.int .i64 0)]) := by kernel_rfl
@[simp] theorem Tryz.ixA195 {b off : Nat} {k : IntKind} {i : Int} : indexAddrV Tryz.prog 195 (.ptr b off) (.int k i) = if 0 ≤ i then (if i.toNat < 2 then some (.ptr b (off + i.toNat * 1)) else none) else none := idxA_eq (show Tryz.prog.underlying 195 = some (.array 2 3) by kernel_rfl) (show szOf Tryz.prog 3 = some 1 by kernel_rfl)
@[simp] theorem Tryz.ixB195 {cs : List V} {off : Nat} {k : IntKind} {i : Int} : indexAddrV Tryz.prog 195 (.lptr cs off) (.int k i) = if 0 ≤ i then (if i.toNat < 2 then some (.lptr cs (off + i.toNat * 1)) else none) else none := idxB_eq (show Tryz.prog.underlying 195 = some (.array 2 3) by kernel_rfl) (show szOf Tryz.prog 3 = some 1 by kernel_rfl)
@[simp] theorem Tryz.bd195 {ps : List (Nat × V)} : buildV Tryz.prog 195 ps = (fillV (fun i => some (i * 1, 1)) [(.int .i64 0), (.int .i64 0)] ps).map .agg := buildA_eq Tryz.zr195 (show Tryz.prog.underlying 195 = some (.array 2 3) by kernel_rfl) (show szOf Tryz.prog 3 = some 1 by kernel_rfl)
end
end Go.Ab
