/- Facts on the types of the seat's program, each by the kernel. Printed by wip/tools/Facts.lean. -/
import Derived.Test.YteogajcegmejgaaGreatAbW3
import Derived.Test.YteogajcegmejgaaGreatProg
import Derived.KernelRfl
namespace Go.Ab
open Go.Proofs
section
variable {cfg : Cfg} {h : Heap}
@[simp] theorem Tryz.pt3 {cs : List V} {off : Nat} : part Tryz.prog 3 cs off = slot cs off := part_leaf (by kernel_rfl)
@[simp] theorem Tryz.st3 {b off : Nat} {v : V} : storeV Tryz.prog cfg h 3 (.ptr b off) v = stv cfg h b off 1 (cellsOf v) := store_eq (by kernel_rfl)
@[simp] theorem Tryz.zr3 : zeroOf Tryz.prog 3 = some (.int .i64 0) := by kernel_rfl
@[simp] theorem Tryz.pt4 {cs : List V} {off : Nat} : part Tryz.prog 4 cs off = slot cs off := part_leaf (by kernel_rfl)
@[simp] theorem Tryz.st4 {b off : Nat} {v : V} : storeV Tryz.prog cfg h 4 (.ptr b off) v = stv cfg h b off 1 (cellsOf v) := store_eq (by kernel_rfl)
@[simp] theorem Tryz.zr4 : zeroOf Tryz.prog 4 = some (.bool false) := by kernel_rfl
@[simp] theorem Tryz.eq4 {a b : Bool} : eqV Tryz.prog 4 (.bool a) (.bool b) = some (a == b) := eqBool_eq (by kernel_rfl)
@[simp] theorem Tryz.pt5 {cs : List V} {off : Nat} : part Tryz.prog 5 cs off = slot cs off := part_leaf (by kernel_rfl)
@[simp] theorem Tryz.pt21 {cs : List V} {off : Nat} : part Tryz.prog 21 cs off = slot cs off := part_leaf (by kernel_rfl)
@[simp] theorem Tryz.pt22 {cs : List V} {off : Nat} : part Tryz.prog 22 cs off = slot cs off := part_leaf (by kernel_rfl)
@[simp] theorem Tryz.st22 {b off : Nat} {v : V} : storeV Tryz.prog cfg h 22 (.ptr b off) v = stv cfg h b off 1 (cellsOf v) := store_eq (by kernel_rfl)
@[simp] theorem Tryz.ixL22 {xs : List (List V)} {k : IntKind} {i : Int} : indexAddrV Tryz.prog 22 (.lst xs) (.int k i) = idxL 1 xs i := idxL_eq (show Tryz.prog.underlying 22 = some (.slice 3) by kernel_rfl) (show szOf Tryz.prog 3 = some 1 by kernel_rfl)
@[simp] theorem Tryz.ixS22 {b off len cap c : Nat} {k : IntKind} {i : Int} : indexAddrV Tryz.prog 22 (.sl b off len cap c) (.int k i) = idxS 1 b off len c i := idxS_eq (show Tryz.prog.underlying 22 = some (.slice 3) by kernel_rfl) (show szOf Tryz.prog 3 = some 1 by kernel_rfl)
@[simp] theorem Tryz.slL22 {xs : List (List V)} {lo hi : Option (Option V)} : sliceV Tryz.prog h 22 (.lst xs) lo hi = slcL 1 xs (boundV 0 lo) (boundV xs.length hi) := slcL_eq (show Tryz.prog.underlying 22 = some (.slice 3) by kernel_rfl) (show szOf Tryz.prog 3 = some 1 by kernel_rfl)
@[simp] theorem Tryz.slS22 {b off len cap k : Nat} {lo hi : Option (Option V)} : sliceV Tryz.prog h 22 (.sl b off len cap k) lo hi = slcS 1 b off len cap k (boundV 0 lo) (boundV len hi) := slcS_eq (show Tryz.prog.underlying 22 = some (.slice 3) by kernel_rfl) (show szOf Tryz.prog 3 = some 1 by kernel_rfl)
@[simp] theorem Tryz.slN22 {lo hi : Option (Option V)} : sliceV Tryz.prog h 22 .nils lo hi = slcN (boundV 0 lo) (boundV 0 hi) := slcN_eq (show Tryz.prog.underlying 22 = some (.slice 3) by kernel_rfl) (show szOf Tryz.prog 3 = some 1 by kernel_rfl)
@[simp] theorem Tryz.lnL22 {xs : List (List V)} : lenV Tryz.prog 22 (.lst xs) = some (.int .i64 xs.length) := lenL_eq (show Tryz.prog.underlying 22 = some (.slice 3) by kernel_rfl)
@[simp] theorem Tryz.lnS22 {b off len cap k : Nat} : lenV Tryz.prog 22 (.sl b off len cap k) = some (.int .i64 len) := lenS_eq (show Tryz.prog.underlying 22 = some (.slice 3) by kernel_rfl)
@[simp] theorem Tryz.lnN22 : lenV Tryz.prog 22 .nils = some (.int .i64 0) := lenN_eq (show Tryz.prog.underlying 22 = some (.slice 3) by kernel_rfl)
@[simp] theorem Tryz.ap22 {d x : V} : appendV Tryz.prog cfg h 22 22 d x = appS cfg h 1 8 d (srcCells h 1 x) := appS_eq (show Tryz.prog.underlying 22 = some (.slice 3) by kernel_rfl) (show szOf Tryz.prog 3 = some 1 by kernel_rfl) (by kernel_rfl) (by kernel_rfl) (by decide)
@[simp] theorem Tryz.bs22 {len : Nat} {vs : List V} : buildSliceV Tryz.prog h 22 len vs = (cellsAll 1 vs).bind fun cs => if vs.length = len && decide (len * 1 ≤ 16777216) then some (.sl h.length 0 len len 1, h ++ [some cs]) else none := buildSlice_eq (show Tryz.prog.underlying 22 = some (.slice 3) by kernel_rfl) (show szOf Tryz.prog 3 = some 1 by kernel_rfl) (by kernel_rfl) (by decide)
@[simp] theorem Tryz.mk22 {n m : Int} : makeSliceV Tryz.prog h 22 (.int .i64 n) (.int .i64 m) = mkS h 1 8 [(.int .i64 0)] n m := mkS_eq (show Tryz.prog.underlying 22 = some (.slice 3) by kernel_rfl) (show szOf Tryz.prog 3 = some 1 by kernel_rfl) (by kernel_rfl) (show zeroOf Tryz.prog 3 = some (.int .i64 0) by kernel_rfl) rfl (by decide) (by decide)
@[simp] theorem Tryz.pt25 {cs : List V} {off : Nat} : part Tryz.prog 25 cs off = slot cs off := part_leaf (by kernel_rfl)
@[simp] theorem Tryz.st25 {b off : Nat} {v : V} : storeV Tryz.prog cfg h 25 (.ptr b off) v = stv cfg h b off 1 (cellsOf v) := store_eq (by kernel_rfl)
@[simp] theorem Tryz.ixL25 {xs : List (List V)} {k : IntKind} {i : Int} : indexAddrV Tryz.prog 25 (.lst xs) (.int k i) = idxL 1 xs i := idxL_eq (show Tryz.prog.underlying 25 = some (.slice 21) by kernel_rfl) (show szOf Tryz.prog 21 = some 1 by kernel_rfl)
@[simp] theorem Tryz.ixS25 {b off len cap c : Nat} {k : IntKind} {i : Int} : indexAddrV Tryz.prog 25 (.sl b off len cap c) (.int k i) = idxS 1 b off len c i := idxS_eq (show Tryz.prog.underlying 25 = some (.slice 21) by kernel_rfl) (show szOf Tryz.prog 21 = some 1 by kernel_rfl)
@[simp] theorem Tryz.slL25 {xs : List (List V)} {lo hi : Option (Option V)} : sliceV Tryz.prog h 25 (.lst xs) lo hi = slcL 1 xs (boundV 0 lo) (boundV xs.length hi) := slcL_eq (show Tryz.prog.underlying 25 = some (.slice 21) by kernel_rfl) (show szOf Tryz.prog 21 = some 1 by kernel_rfl)
@[simp] theorem Tryz.slS25 {b off len cap k : Nat} {lo hi : Option (Option V)} : sliceV Tryz.prog h 25 (.sl b off len cap k) lo hi = slcS 1 b off len cap k (boundV 0 lo) (boundV len hi) := slcS_eq (show Tryz.prog.underlying 25 = some (.slice 21) by kernel_rfl) (show szOf Tryz.prog 21 = some 1 by kernel_rfl)
@[simp] theorem Tryz.slN25 {lo hi : Option (Option V)} : sliceV Tryz.prog h 25 .nils lo hi = slcN (boundV 0 lo) (boundV 0 hi) := slcN_eq (show Tryz.prog.underlying 25 = some (.slice 21) by kernel_rfl) (show szOf Tryz.prog 21 = some 1 by kernel_rfl)
@[simp] theorem Tryz.lnL25 {xs : List (List V)} : lenV Tryz.prog 25 (.lst xs) = some (.int .i64 xs.length) := lenL_eq (show Tryz.prog.underlying 25 = some (.slice 21) by kernel_rfl)
@[simp] theorem Tryz.lnS25 {b off len cap k : Nat} : lenV Tryz.prog 25 (.sl b off len cap k) = some (.int .i64 len) := lenS_eq (show Tryz.prog.underlying 25 = some (.slice 21) by kernel_rfl)
@[simp] theorem Tryz.lnN25 : lenV Tryz.prog 25 .nils = some (.int .i64 0) := lenN_eq (show Tryz.prog.underlying 25 = some (.slice 21) by kernel_rfl)
@[simp] theorem Tryz.ap25 {d x : V} : appendV Tryz.prog cfg h 25 25 d x = appS cfg h 1 4 d (srcCells h 1 x) := appS_eq (show Tryz.prog.underlying 25 = some (.slice 21) by kernel_rfl) (show szOf Tryz.prog 21 = some 1 by kernel_rfl) (by kernel_rfl) (by kernel_rfl) (by decide)
@[simp] theorem Tryz.bs25 {len : Nat} {vs : List V} : buildSliceV Tryz.prog h 25 len vs = (cellsAll 1 vs).bind fun cs => if vs.length = len && decide (len * 1 ≤ 16777216) then some (.sl h.length 0 len len 1, h ++ [some cs]) else none := buildSlice_eq (show Tryz.prog.underlying 25 = some (.slice 21) by kernel_rfl) (show szOf Tryz.prog 21 = some 1 by kernel_rfl) (by kernel_rfl) (by decide)
@[simp] theorem Tryz.pt26 {cs : List V} {off : Nat} : part Tryz.prog 26 cs off = slot cs off := part_leaf (by kernel_rfl)
@[simp] theorem Tryz.st26 {b off : Nat} {v : V} : storeV Tryz.prog cfg h 26 (.ptr b off) v = stv cfg h b off 1 (cellsOf v) := store_eq (by kernel_rfl)
@[simp] theorem Tryz.ixL26 {xs : List (List V)} {k : IntKind} {i : Int} : indexAddrV Tryz.prog 26 (.lst xs) (.int k i) = idxL 4 xs i := idxL_eq (show Tryz.prog.underlying 26 = some (.slice 72) by kernel_rfl) (show szOf Tryz.prog 72 = some 4 by kernel_rfl)
@[simp] theorem Tryz.ixS26 {b off len cap c : Nat} {k : IntKind} {i : Int} : indexAddrV Tryz.prog 26 (.sl b off len cap c) (.int k i) = idxS 4 b off len c i := idxS_eq (show Tryz.prog.underlying 26 = some (.slice 72) by kernel_rfl) (show szOf Tryz.prog 72 = some 4 by kernel_rfl)
@[simp] theorem Tryz.lnL26 {xs : List (List V)} : lenV Tryz.prog 26 (.lst xs) = some (.int .i64 xs.length) := lenL_eq (show Tryz.prog.underlying 26 = some (.slice 72) by kernel_rfl)
@[simp] theorem Tryz.lnS26 {b off len cap k : Nat} : lenV Tryz.prog 26 (.sl b off len cap k) = some (.int .i64 len) := lenS_eq (show Tryz.prog.underlying 26 = some (.slice 72) by kernel_rfl)
@[simp] theorem Tryz.lnN26 : lenV Tryz.prog 26 .nils = some (.int .i64 0) := lenN_eq (show Tryz.prog.underlying 26 = some (.slice 72) by kernel_rfl)
@[simp] theorem Tryz.ap26 {d x : V} : appendV Tryz.prog cfg h 26 26 d x = appS cfg h 4 32 d (srcCells h 4 x) := appS_eq (show Tryz.prog.underlying 26 = some (.slice 72) by kernel_rfl) (show szOf Tryz.prog 72 = some 4 by kernel_rfl) (by kernel_rfl) (by kernel_rfl) (by decide)
@[simp] theorem Tryz.bs26 {len : Nat} {vs : List V} : buildSliceV Tryz.prog h 26 len vs = (cellsAll 4 vs).bind fun cs => if vs.length = len && decide (len * 4 ≤ 16777216) then some (.sl h.length 0 len len 4, h ++ [some cs]) else none := buildSlice_eq (show Tryz.prog.underlying 26 = some (.slice 72) by kernel_rfl) (show szOf Tryz.prog 72 = some 4 by kernel_rfl) (by kernel_rfl) (by decide)
@[simp] theorem Tryz.pt28 {cs : List V} {off : Nat} : part Tryz.prog 28 cs off = if off + 5 ≤ cs.length then some (.agg ((cs.drop off).take 5)) else none := part_agg (by kernel_rfl) (by kernel_rfl)
@[simp] theorem Tryz.st28 {b off : Nat} {v : V} : storeV Tryz.prog cfg h 28 (.ptr b off) v = stv cfg h b off 5 (cellsOf v) := store_eq (by kernel_rfl)
@[simp] theorem Tryz.zr28 : zeroOf Tryz.prog 28 = some (.agg [.nils, .nils, (.int .i64 0), (.int .i64 0), (.int .i64 0)]) := by kernel_rfl
@[simp] theorem Tryz.fa28x0 {b off : Nat} : fieldAddrV Tryz.prog 28 (.ptr b off) 0 = some (.ptr b off) := by kernel_rfl
@[simp] theorem Tryz.fl28x0 {cs : List V} {off : Nat} : fieldAddrV Tryz.prog 28 (.lptr cs off) 0 = some (.lptr cs off) := by kernel_rfl
@[simp] theorem Tryz.fa28x1 {b off : Nat} : fieldAddrV Tryz.prog 28 (.ptr b off) 1 = some (.ptr b (off + 1)) := by kernel_rfl
@[simp] theorem Tryz.fl28x1 {cs : List V} {off : Nat} : fieldAddrV Tryz.prog 28 (.lptr cs off) 1 = some (.lptr cs (off + 1)) := by kernel_rfl
@[simp] theorem Tryz.fa28x2 {b off : Nat} : fieldAddrV Tryz.prog 28 (.ptr b off) 2 = some (.ptr b (off + 2)) := by kernel_rfl
@[simp] theorem Tryz.fl28x2 {cs : List V} {off : Nat} : fieldAddrV Tryz.prog 28 (.lptr cs off) 2 = some (.lptr cs (off + 2)) := by kernel_rfl
@[simp] theorem Tryz.fa28x3 {b off : Nat} : fieldAddrV Tryz.prog 28 (.ptr b off) 3 = some (.ptr b (off + 3)) := by kernel_rfl
@[simp] theorem Tryz.fl28x3 {cs : List V} {off : Nat} : fieldAddrV Tryz.prog 28 (.lptr cs off) 3 = some (.lptr cs (off + 3)) := by kernel_rfl
@[simp] theorem Tryz.fa28x4 {b off : Nat} : fieldAddrV Tryz.prog 28 (.ptr b off) 4 = some (.ptr b (off + 4)) := by kernel_rfl
@[simp] theorem Tryz.fl28x4 {cs : List V} {off : Nat} : fieldAddrV Tryz.prog 28 (.lptr cs off) 4 = some (.lptr cs (off + 4)) := by kernel_rfl
def Tryz.pl28 : Nat → Option (Nat × Nat)
  | 0 => some (0, 1)
  | 1 => some (1, 1)
  | 2 => some (2, 1)
  | 3 => some (3, 1)
  | 4 => some (4, 1)
  | _ => none
@[simp] theorem Tryz.pl28x0 : Tryz.pl28 0 = some (0, 1) := rfl
@[simp] theorem Tryz.pl28x1 : Tryz.pl28 1 = some (1, 1) := rfl
@[simp] theorem Tryz.pl28x2 : Tryz.pl28 2 = some (2, 1) := rfl
@[simp] theorem Tryz.pl28x3 : Tryz.pl28 3 = some (3, 1) := rfl
@[simp] theorem Tryz.pl28x4 : Tryz.pl28 4 = some (4, 1) := rfl
@[simp] theorem Tryz.bd28 {ps : List (Nat × V)} : buildV Tryz.prog 28 ps = (fillV Tryz.pl28 [.nils, .nils, (.int .i64 0), (.int .i64 0), (.int .i64 0)] ps).map .agg := build_eq (pl := Tryz.pl28) Tryz.zr28 Tryz.underlying28 (by kernel_rfl) (fun i => by match i with | 0 => (show _ = _; kernel_rfl) | 1 => (show _ = _; kernel_rfl) | 2 => (show _ = _; kernel_rfl) | 3 => (show _ = _; kernel_rfl) | 4 => (show _ = _; kernel_rfl) | _ + 5 => (show _ = _; kernel_rfl))
@[simp] theorem Tryz.ixL29 {xs : List (List V)} {k : IntKind} {i : Int} : indexAddrV Tryz.prog 29 (.lst xs) (.int k i) = idxL 10 xs i := idxL_eq (show Tryz.prog.underlying 29 = some (.slice 56) by kernel_rfl) (show szOf Tryz.prog 56 = some 10 by kernel_rfl)
@[simp] theorem Tryz.ixS29 {b off len cap c : Nat} {k : IntKind} {i : Int} : indexAddrV Tryz.prog 29 (.sl b off len cap c) (.int k i) = idxS 10 b off len c i := idxS_eq (show Tryz.prog.underlying 29 = some (.slice 56) by kernel_rfl) (show szOf Tryz.prog 56 = some 10 by kernel_rfl)
@[simp] theorem Tryz.lnL29 {xs : List (List V)} : lenV Tryz.prog 29 (.lst xs) = some (.int .i64 xs.length) := lenL_eq (show Tryz.prog.underlying 29 = some (.slice 56) by kernel_rfl)
@[simp] theorem Tryz.lnS29 {b off len cap k : Nat} : lenV Tryz.prog 29 (.sl b off len cap k) = some (.int .i64 len) := lenS_eq (show Tryz.prog.underlying 29 = some (.slice 56) by kernel_rfl)
@[simp] theorem Tryz.lnN29 : lenV Tryz.prog 29 .nils = some (.int .i64 0) := lenN_eq (show Tryz.prog.underlying 29 = some (.slice 56) by kernel_rfl)
@[simp] theorem Tryz.ap29 {d x : V} : appendV Tryz.prog cfg h 29 29 d x = appS cfg h 10 96 d (srcCells h 10 x) := appS_eq (show Tryz.prog.underlying 29 = some (.slice 56) by kernel_rfl) (show szOf Tryz.prog 56 = some 10 by kernel_rfl) (by kernel_rfl) (by kernel_rfl) (by decide)
@[simp] theorem Tryz.bs29 {len : Nat} {vs : List V} : buildSliceV Tryz.prog h 29 len vs = (cellsAll 10 vs).bind fun cs => if vs.length = len && decide (len * 10 ≤ 16777216) then some (.sl h.length 0 len len 10, h ++ [some cs]) else none := buildSlice_eq (show Tryz.prog.underlying 29 = some (.slice 56) by kernel_rfl) (show szOf Tryz.prog 56 = some 10 by kernel_rfl) (by kernel_rfl) (by decide)
@[simp] theorem Tryz.pt34 {cs : List V} {off : Nat} : part Tryz.prog 34 cs off = if off + 2 ≤ cs.length then some (.agg ((cs.drop off).take 2)) else none := part_agg (by kernel_rfl) (by kernel_rfl)
@[simp] theorem Tryz.st34 {b off : Nat} {v : V} : storeV Tryz.prog cfg h 34 (.ptr b off) v = stv cfg h b off 2 (cellsOf v) := store_eq (by kernel_rfl)
@[simp] theorem Tryz.zr34 : zeroOf Tryz.prog 34 = some (.agg [(.int .i64 0), (.int .i64 0)]) := by kernel_rfl
@[simp] theorem Tryz.fa34x0 {b off : Nat} : fieldAddrV Tryz.prog 34 (.ptr b off) 0 = some (.ptr b off) := by kernel_rfl
@[simp] theorem Tryz.fl34x0 {cs : List V} {off : Nat} : fieldAddrV Tryz.prog 34 (.lptr cs off) 0 = some (.lptr cs off) := by kernel_rfl
@[simp] theorem Tryz.fa34x1 {b off : Nat} : fieldAddrV Tryz.prog 34 (.ptr b off) 1 = some (.ptr b (off + 1)) := by kernel_rfl
@[simp] theorem Tryz.fl34x1 {cs : List V} {off : Nat} : fieldAddrV Tryz.prog 34 (.lptr cs off) 1 = some (.lptr cs (off + 1)) := by kernel_rfl
def Tryz.pl34 : Nat → Option (Nat × Nat)
  | 0 => some (0, 1)
  | 1 => some (1, 1)
  | _ => none
@[simp] theorem Tryz.pl34x0 : Tryz.pl34 0 = some (0, 1) := rfl
@[simp] theorem Tryz.pl34x1 : Tryz.pl34 1 = some (1, 1) := rfl
@[simp] theorem Tryz.bd34 {ps : List (Nat × V)} : buildV Tryz.prog 34 ps = (fillV Tryz.pl34 [(.int .i64 0), (.int .i64 0)] ps).map .agg := build_eq (pl := Tryz.pl34) Tryz.zr34 Tryz.underlying34 (by kernel_rfl) (fun i => by match i with | 0 => (show _ = _; kernel_rfl) | 1 => (show _ = _; kernel_rfl) | _ + 2 => (show _ = _; kernel_rfl))
@[simp] theorem Tryz.eq34 {xs ys : List V} : eqV Tryz.prog 34 (.agg xs) (.agg ys) = flatK [.int, .int] xs ys := eqAgg_eq Tryz.underlying34 (by kernel_rfl) (by kernel_rfl) (by kernel_rfl)
@[simp] theorem Tryz.zr44 : zeroOf Tryz.prog 44 = some (.agg [.nils, (.int .i64 0)]) := by kernel_rfl
@[simp] theorem Tryz.fa44x0 {b off : Nat} : fieldAddrV Tryz.prog 44 (.ptr b off) 0 = some (.ptr b off) := by kernel_rfl
@[simp] theorem Tryz.fl44x0 {cs : List V} {off : Nat} : fieldAddrV Tryz.prog 44 (.lptr cs off) 0 = some (.lptr cs off) := by kernel_rfl
@[simp] theorem Tryz.fa44x1 {b off : Nat} : fieldAddrV Tryz.prog 44 (.ptr b off) 1 = some (.ptr b (off + 1)) := by kernel_rfl
@[simp] theorem Tryz.fl44x1 {cs : List V} {off : Nat} : fieldAddrV Tryz.prog 44 (.lptr cs off) 1 = some (.lptr cs (off + 1)) := by kernel_rfl
def Tryz.pl44 : Nat → Option (Nat × Nat)
  | 0 => some (0, 1)
  | 1 => some (1, 1)
  | _ => none
@[simp] theorem Tryz.pl44x0 : Tryz.pl44 0 = some (0, 1) := rfl
@[simp] theorem Tryz.pl44x1 : Tryz.pl44 1 = some (1, 1) := rfl
@[simp] theorem Tryz.bd44 {ps : List (Nat × V)} : buildV Tryz.prog 44 ps = (fillV Tryz.pl44 [.nils, (.int .i64 0)] ps).map .agg := build_eq (pl := Tryz.pl44) Tryz.zr44 Tryz.underlying44 (by kernel_rfl) (fun i => by match i with | 0 => (show _ = _; kernel_rfl) | 1 => (show _ = _; kernel_rfl) | _ + 2 => (show _ = _; kernel_rfl))
@[simp] theorem Tryz.ixL45 {xs : List (List V)} {k : IntKind} {i : Int} : indexAddrV Tryz.prog 45 (.lst xs) (.int k i) = idxL 8 xs i := idxL_eq (show Tryz.prog.underlying 45 = some (.slice 68) by kernel_rfl) (show szOf Tryz.prog 68 = some 8 by kernel_rfl)
@[simp] theorem Tryz.ixS45 {b off len cap c : Nat} {k : IntKind} {i : Int} : indexAddrV Tryz.prog 45 (.sl b off len cap c) (.int k i) = idxS 8 b off len c i := idxS_eq (show Tryz.prog.underlying 45 = some (.slice 68) by kernel_rfl) (show szOf Tryz.prog 68 = some 8 by kernel_rfl)
@[simp] theorem Tryz.lnL45 {xs : List (List V)} : lenV Tryz.prog 45 (.lst xs) = some (.int .i64 xs.length) := lenL_eq (show Tryz.prog.underlying 45 = some (.slice 68) by kernel_rfl)
@[simp] theorem Tryz.lnS45 {b off len cap k : Nat} : lenV Tryz.prog 45 (.sl b off len cap k) = some (.int .i64 len) := lenS_eq (show Tryz.prog.underlying 45 = some (.slice 68) by kernel_rfl)
@[simp] theorem Tryz.lnN45 : lenV Tryz.prog 45 .nils = some (.int .i64 0) := lenN_eq (show Tryz.prog.underlying 45 = some (.slice 68) by kernel_rfl)
@[simp] theorem Tryz.ap45 {d x : V} : appendV Tryz.prog cfg h 45 45 d x = appS cfg h 8 112 d (srcCells h 8 x) := appS_eq (show Tryz.prog.underlying 45 = some (.slice 68) by kernel_rfl) (show szOf Tryz.prog 68 = some 8 by kernel_rfl) (by kernel_rfl) (by kernel_rfl) (by decide)
@[simp] theorem Tryz.bs45 {len : Nat} {vs : List V} : buildSliceV Tryz.prog h 45 len vs = (cellsAll 8 vs).bind fun cs => if vs.length = len && decide (len * 8 ≤ 16777216) then some (.sl h.length 0 len len 8, h ++ [some cs]) else none := buildSlice_eq (show Tryz.prog.underlying 45 = some (.slice 68) by kernel_rfl) (show szOf Tryz.prog 68 = some 8 by kernel_rfl) (by kernel_rfl) (by decide)
@[simp] theorem Tryz.pt54 {cs : List V} {off : Nat} : part Tryz.prog 54 cs off = slot cs off := part_leaf (by kernel_rfl)
@[simp] theorem Tryz.st54 {b off : Nat} {v : V} : storeV Tryz.prog cfg h 54 (.ptr b off) v = stv cfg h b off 1 (cellsOf v) := store_eq (by kernel_rfl)
@[simp] theorem Tryz.ixL54 {xs : List (List V)} {k : IntKind} {i : Int} : indexAddrV Tryz.prog 54 (.lst xs) (.int k i) = idxL 8 xs i := idxL_eq (show Tryz.prog.underlying 54 = some (.slice 82) by kernel_rfl) (show szOf Tryz.prog 82 = some 8 by kernel_rfl)
@[simp] theorem Tryz.ixS54 {b off len cap c : Nat} {k : IntKind} {i : Int} : indexAddrV Tryz.prog 54 (.sl b off len cap c) (.int k i) = idxS 8 b off len c i := idxS_eq (show Tryz.prog.underlying 54 = some (.slice 82) by kernel_rfl) (show szOf Tryz.prog 82 = some 8 by kernel_rfl)
@[simp] theorem Tryz.slL54 {xs : List (List V)} {lo hi : Option (Option V)} : sliceV Tryz.prog h 54 (.lst xs) lo hi = slcL 8 xs (boundV 0 lo) (boundV xs.length hi) := slcL_eq (show Tryz.prog.underlying 54 = some (.slice 82) by kernel_rfl) (show szOf Tryz.prog 82 = some 8 by kernel_rfl)
@[simp] theorem Tryz.slS54 {b off len cap k : Nat} {lo hi : Option (Option V)} : sliceV Tryz.prog h 54 (.sl b off len cap k) lo hi = slcS 8 b off len cap k (boundV 0 lo) (boundV len hi) := slcS_eq (show Tryz.prog.underlying 54 = some (.slice 82) by kernel_rfl) (show szOf Tryz.prog 82 = some 8 by kernel_rfl)
@[simp] theorem Tryz.slN54 {lo hi : Option (Option V)} : sliceV Tryz.prog h 54 .nils lo hi = slcN (boundV 0 lo) (boundV 0 hi) := slcN_eq (show Tryz.prog.underlying 54 = some (.slice 82) by kernel_rfl) (show szOf Tryz.prog 82 = some 8 by kernel_rfl)
@[simp] theorem Tryz.lnL54 {xs : List (List V)} : lenV Tryz.prog 54 (.lst xs) = some (.int .i64 xs.length) := lenL_eq (show Tryz.prog.underlying 54 = some (.slice 82) by kernel_rfl)
@[simp] theorem Tryz.lnS54 {b off len cap k : Nat} : lenV Tryz.prog 54 (.sl b off len cap k) = some (.int .i64 len) := lenS_eq (show Tryz.prog.underlying 54 = some (.slice 82) by kernel_rfl)
@[simp] theorem Tryz.lnN54 : lenV Tryz.prog 54 .nils = some (.int .i64 0) := lenN_eq (show Tryz.prog.underlying 54 = some (.slice 82) by kernel_rfl)
@[simp] theorem Tryz.ap54 {d x : V} : appendV Tryz.prog cfg h 54 54 d x = appS cfg h 8 64 d (srcCells h 8 x) := appS_eq (show Tryz.prog.underlying 54 = some (.slice 82) by kernel_rfl) (show szOf Tryz.prog 82 = some 8 by kernel_rfl) (by kernel_rfl) (by kernel_rfl) (by decide)
@[simp] theorem Tryz.bs54 {len : Nat} {vs : List V} : buildSliceV Tryz.prog h 54 len vs = (cellsAll 8 vs).bind fun cs => if vs.length = len && decide (len * 8 ≤ 16777216) then some (.sl h.length 0 len len 8, h ++ [some cs]) else none := buildSlice_eq (show Tryz.prog.underlying 54 = some (.slice 82) by kernel_rfl) (show szOf Tryz.prog 82 = some 8 by kernel_rfl) (by kernel_rfl) (by decide)
@[simp] theorem Tryz.pt56 {cs : List V} {off : Nat} : part Tryz.prog 56 cs off = if off + 10 ≤ cs.length then some (.agg ((cs.drop off).take 10)) else none := part_agg (by kernel_rfl) (by kernel_rfl)
@[simp] theorem Tryz.st56 {b off : Nat} {v : V} : storeV Tryz.prog cfg h 56 (.ptr b off) v = stv cfg h b off 10 (cellsOf v) := store_eq (by kernel_rfl)
@[simp] theorem Tryz.zr56 : zeroOf Tryz.prog 56 = some (.agg [(.int .i64 0), (.int .i64 0), (.int .i64 0), (.int .i64 0), (.int .i64 0), (.int .i64 0), (.int .i64 0), (.int .i64 0), (.int .i64 0), .nils]) := by kernel_rfl
@[simp] theorem Tryz.fa56x0 {b off : Nat} : fieldAddrV Tryz.prog 56 (.ptr b off) 0 = some (.ptr b off) := by kernel_rfl
@[simp] theorem Tryz.fl56x0 {cs : List V} {off : Nat} : fieldAddrV Tryz.prog 56 (.lptr cs off) 0 = some (.lptr cs off) := by kernel_rfl
@[simp] theorem Tryz.fa56x1 {b off : Nat} : fieldAddrV Tryz.prog 56 (.ptr b off) 1 = some (.ptr b (off + 1)) := by kernel_rfl
@[simp] theorem Tryz.fl56x1 {cs : List V} {off : Nat} : fieldAddrV Tryz.prog 56 (.lptr cs off) 1 = some (.lptr cs (off + 1)) := by kernel_rfl
@[simp] theorem Tryz.fa56x2 {b off : Nat} : fieldAddrV Tryz.prog 56 (.ptr b off) 2 = some (.ptr b (off + 2)) := by kernel_rfl
@[simp] theorem Tryz.fl56x2 {cs : List V} {off : Nat} : fieldAddrV Tryz.prog 56 (.lptr cs off) 2 = some (.lptr cs (off + 2)) := by kernel_rfl
@[simp] theorem Tryz.fa56x3 {b off : Nat} : fieldAddrV Tryz.prog 56 (.ptr b off) 3 = some (.ptr b (off + 3)) := by kernel_rfl
@[simp] theorem Tryz.fl56x3 {cs : List V} {off : Nat} : fieldAddrV Tryz.prog 56 (.lptr cs off) 3 = some (.lptr cs (off + 3)) := by kernel_rfl
@[simp] theorem Tryz.fa56x4 {b off : Nat} : fieldAddrV Tryz.prog 56 (.ptr b off) 4 = some (.ptr b (off + 4)) := by kernel_rfl
@[simp] theorem Tryz.fl56x4 {cs : List V} {off : Nat} : fieldAddrV Tryz.prog 56 (.lptr cs off) 4 = some (.lptr cs (off + 4)) := by kernel_rfl
@[simp] theorem Tryz.fa56x5 {b off : Nat} : fieldAddrV Tryz.prog 56 (.ptr b off) 5 = some (.ptr b (off + 5)) := by kernel_rfl
@[simp] theorem Tryz.fl56x5 {cs : List V} {off : Nat} : fieldAddrV Tryz.prog 56 (.lptr cs off) 5 = some (.lptr cs (off + 5)) := by kernel_rfl
@[simp] theorem Tryz.fa56x6 {b off : Nat} : fieldAddrV Tryz.prog 56 (.ptr b off) 6 = some (.ptr b (off + 6)) := by kernel_rfl
@[simp] theorem Tryz.fl56x6 {cs : List V} {off : Nat} : fieldAddrV Tryz.prog 56 (.lptr cs off) 6 = some (.lptr cs (off + 6)) := by kernel_rfl
@[simp] theorem Tryz.fa56x7 {b off : Nat} : fieldAddrV Tryz.prog 56 (.ptr b off) 7 = some (.ptr b (off + 7)) := by kernel_rfl
@[simp] theorem Tryz.fl56x7 {cs : List V} {off : Nat} : fieldAddrV Tryz.prog 56 (.lptr cs off) 7 = some (.lptr cs (off + 7)) := by kernel_rfl
@[simp] theorem Tryz.fa56x8 {b off : Nat} : fieldAddrV Tryz.prog 56 (.ptr b off) 8 = some (.ptr b (off + 8)) := by kernel_rfl
@[simp] theorem Tryz.fl56x8 {cs : List V} {off : Nat} : fieldAddrV Tryz.prog 56 (.lptr cs off) 8 = some (.lptr cs (off + 8)) := by kernel_rfl
@[simp] theorem Tryz.fa56x9 {b off : Nat} : fieldAddrV Tryz.prog 56 (.ptr b off) 9 = some (.ptr b (off + 9)) := by kernel_rfl
@[simp] theorem Tryz.fl56x9 {cs : List V} {off : Nat} : fieldAddrV Tryz.prog 56 (.lptr cs off) 9 = some (.lptr cs (off + 9)) := by kernel_rfl
def Tryz.pl56 : Nat → Option (Nat × Nat)
  | 0 => some (0, 1)
  | 1 => some (1, 1)
  | 2 => some (2, 1)
  | 3 => some (3, 1)
  | 4 => some (4, 1)
  | 5 => some (5, 1)
  | 6 => some (6, 1)
  | 7 => some (7, 1)
  | 8 => some (8, 1)
  | 9 => some (9, 1)
  | _ => none
@[simp] theorem Tryz.pl56x0 : Tryz.pl56 0 = some (0, 1) := rfl
@[simp] theorem Tryz.pl56x1 : Tryz.pl56 1 = some (1, 1) := rfl
@[simp] theorem Tryz.pl56x2 : Tryz.pl56 2 = some (2, 1) := rfl
@[simp] theorem Tryz.pl56x3 : Tryz.pl56 3 = some (3, 1) := rfl
@[simp] theorem Tryz.pl56x4 : Tryz.pl56 4 = some (4, 1) := rfl
@[simp] theorem Tryz.pl56x5 : Tryz.pl56 5 = some (5, 1) := rfl
@[simp] theorem Tryz.pl56x6 : Tryz.pl56 6 = some (6, 1) := rfl
@[simp] theorem Tryz.pl56x7 : Tryz.pl56 7 = some (7, 1) := rfl
@[simp] theorem Tryz.pl56x8 : Tryz.pl56 8 = some (8, 1) := rfl
@[simp] theorem Tryz.pl56x9 : Tryz.pl56 9 = some (9, 1) := rfl
@[simp] theorem Tryz.bd56 {ps : List (Nat × V)} : buildV Tryz.prog 56 ps = (fillV Tryz.pl56 [(.int .i64 0), (.int .i64 0), (.int .i64 0), (.int .i64 0), (.int .i64 0), (.int .i64 0), (.int .i64 0), (.int .i64 0), (.int .i64 0), .nils] ps).map .agg := build_eq (pl := Tryz.pl56) Tryz.zr56 Tryz.underlying56 (by kernel_rfl) (fun i => by match i with | 0 => (show _ = _; kernel_rfl) | 1 => (show _ = _; kernel_rfl) | 2 => (show _ = _; kernel_rfl) | 3 => (show _ = _; kernel_rfl) | 4 => (show _ = _; kernel_rfl) | 5 => (show _ = _; kernel_rfl) | 6 => (show _ = _; kernel_rfl) | 7 => (show _ = _; kernel_rfl) | 8 => (show _ = _; kernel_rfl) | 9 => (show _ = _; kernel_rfl) | _ + 10 => (show _ = _; kernel_rfl))
@[simp] theorem Tryz.pt64 {cs : List V} {off : Nat} : part Tryz.prog 64 cs off = slot cs off := part_leaf (by kernel_rfl)
@[simp] theorem Tryz.st64 {b off : Nat} {v : V} : storeV Tryz.prog cfg h 64 (.ptr b off) v = stv cfg h b off 1 (cellsOf v) := store_eq (by kernel_rfl)
@[simp] theorem Tryz.ixL64 {xs : List (List V)} {k : IntKind} {i : Int} : indexAddrV Tryz.prog 64 (.lst xs) (.int k i) = idxL 3 xs i := idxL_eq (show Tryz.prog.underlying 64 = some (.slice 97) by kernel_rfl) (show szOf Tryz.prog 97 = some 3 by kernel_rfl)
@[simp] theorem Tryz.ixS64 {b off len cap c : Nat} {k : IntKind} {i : Int} : indexAddrV Tryz.prog 64 (.sl b off len cap c) (.int k i) = idxS 3 b off len c i := idxS_eq (show Tryz.prog.underlying 64 = some (.slice 97) by kernel_rfl) (show szOf Tryz.prog 97 = some 3 by kernel_rfl)
@[simp] theorem Tryz.lnL64 {xs : List (List V)} : lenV Tryz.prog 64 (.lst xs) = some (.int .i64 xs.length) := lenL_eq (show Tryz.prog.underlying 64 = some (.slice 97) by kernel_rfl)
@[simp] theorem Tryz.lnS64 {b off len cap k : Nat} : lenV Tryz.prog 64 (.sl b off len cap k) = some (.int .i64 len) := lenS_eq (show Tryz.prog.underlying 64 = some (.slice 97) by kernel_rfl)
@[simp] theorem Tryz.lnN64 : lenV Tryz.prog 64 .nils = some (.int .i64 0) := lenN_eq (show Tryz.prog.underlying 64 = some (.slice 97) by kernel_rfl)
@[simp] theorem Tryz.ap64 {d x : V} : appendV Tryz.prog cfg h 64 64 d x = appS cfg h 3 16 d (srcCells h 3 x) := appS_eq (show Tryz.prog.underlying 64 = some (.slice 97) by kernel_rfl) (show szOf Tryz.prog 97 = some 3 by kernel_rfl) (by kernel_rfl) (by kernel_rfl) (by decide)
@[simp] theorem Tryz.bs64 {len : Nat} {vs : List V} : buildSliceV Tryz.prog h 64 len vs = (cellsAll 3 vs).bind fun cs => if vs.length = len && decide (len * 3 ≤ 16777216) then some (.sl h.length 0 len len 3, h ++ [some cs]) else none := buildSlice_eq (show Tryz.prog.underlying 64 = some (.slice 97) by kernel_rfl) (show szOf Tryz.prog 97 = some 3 by kernel_rfl) (by kernel_rfl) (by decide)
@[simp] theorem Tryz.pt65 {cs : List V} {off : Nat} : part Tryz.prog 65 cs off = slot cs off := part_leaf (by kernel_rfl)
@[simp] theorem Tryz.st65 {b off : Nat} {v : V} : storeV Tryz.prog cfg h 65 (.ptr b off) v = stv cfg h b off 1 (cellsOf v) := store_eq (by kernel_rfl)
@[simp] theorem Tryz.ixL65 {xs : List (List V)} {k : IntKind} {i : Int} : indexAddrV Tryz.prog 65 (.lst xs) (.int k i) = idxL 3 xs i := idxL_eq (show Tryz.prog.underlying 65 = some (.slice 99) by kernel_rfl) (show szOf Tryz.prog 99 = some 3 by kernel_rfl)
@[simp] theorem Tryz.ixS65 {b off len cap c : Nat} {k : IntKind} {i : Int} : indexAddrV Tryz.prog 65 (.sl b off len cap c) (.int k i) = idxS 3 b off len c i := idxS_eq (show Tryz.prog.underlying 65 = some (.slice 99) by kernel_rfl) (show szOf Tryz.prog 99 = some 3 by kernel_rfl)
@[simp] theorem Tryz.lnL65 {xs : List (List V)} : lenV Tryz.prog 65 (.lst xs) = some (.int .i64 xs.length) := lenL_eq (show Tryz.prog.underlying 65 = some (.slice 99) by kernel_rfl)
@[simp] theorem Tryz.lnS65 {b off len cap k : Nat} : lenV Tryz.prog 65 (.sl b off len cap k) = some (.int .i64 len) := lenS_eq (show Tryz.prog.underlying 65 = some (.slice 99) by kernel_rfl)
@[simp] theorem Tryz.lnN65 : lenV Tryz.prog 65 .nils = some (.int .i64 0) := lenN_eq (show Tryz.prog.underlying 65 = some (.slice 99) by kernel_rfl)
@[simp] theorem Tryz.ap65 {d x : V} : appendV Tryz.prog cfg h 65 65 d x = appS cfg h 3 16 d (srcCells h 3 x) := appS_eq (show Tryz.prog.underlying 65 = some (.slice 99) by kernel_rfl) (show szOf Tryz.prog 99 = some 3 by kernel_rfl) (by kernel_rfl) (by kernel_rfl) (by decide)
@[simp] theorem Tryz.bs65 {len : Nat} {vs : List V} : buildSliceV Tryz.prog h 65 len vs = (cellsAll 3 vs).bind fun cs => if vs.length = len && decide (len * 3 ≤ 16777216) then some (.sl h.length 0 len len 3, h ++ [some cs]) else none := buildSlice_eq (show Tryz.prog.underlying 65 = some (.slice 99) by kernel_rfl) (show szOf Tryz.prog 99 = some 3 by kernel_rfl) (by kernel_rfl) (by decide)
@[simp] theorem Tryz.pt66 {cs : List V} {off : Nat} : part Tryz.prog 66 cs off = slot cs off := part_leaf (by kernel_rfl)
@[simp] theorem Tryz.st66 {b off : Nat} {v : V} : storeV Tryz.prog cfg h 66 (.ptr b off) v = stv cfg h b off 1 (cellsOf v) := store_eq (by kernel_rfl)
@[simp] theorem Tryz.ixL66 {xs : List (List V)} {k : IntKind} {i : Int} : indexAddrV Tryz.prog 66 (.lst xs) (.int k i) = idxL 4 xs i := idxL_eq (show Tryz.prog.underlying 66 = some (.slice 101) by kernel_rfl) (show szOf Tryz.prog 101 = some 4 by kernel_rfl)
@[simp] theorem Tryz.ixS66 {b off len cap c : Nat} {k : IntKind} {i : Int} : indexAddrV Tryz.prog 66 (.sl b off len cap c) (.int k i) = idxS 4 b off len c i := idxS_eq (show Tryz.prog.underlying 66 = some (.slice 101) by kernel_rfl) (show szOf Tryz.prog 101 = some 4 by kernel_rfl)
@[simp] theorem Tryz.lnL66 {xs : List (List V)} : lenV Tryz.prog 66 (.lst xs) = some (.int .i64 xs.length) := lenL_eq (show Tryz.prog.underlying 66 = some (.slice 101) by kernel_rfl)
@[simp] theorem Tryz.lnS66 {b off len cap k : Nat} : lenV Tryz.prog 66 (.sl b off len cap k) = some (.int .i64 len) := lenS_eq (show Tryz.prog.underlying 66 = some (.slice 101) by kernel_rfl)
@[simp] theorem Tryz.lnN66 : lenV Tryz.prog 66 .nils = some (.int .i64 0) := lenN_eq (show Tryz.prog.underlying 66 = some (.slice 101) by kernel_rfl)
@[simp] theorem Tryz.ap66 {d x : V} : appendV Tryz.prog cfg h 66 66 d x = appS cfg h 4 24 d (srcCells h 4 x) := appS_eq (show Tryz.prog.underlying 66 = some (.slice 101) by kernel_rfl) (show szOf Tryz.prog 101 = some 4 by kernel_rfl) (by kernel_rfl) (by kernel_rfl) (by decide)
@[simp] theorem Tryz.bs66 {len : Nat} {vs : List V} : buildSliceV Tryz.prog h 66 len vs = (cellsAll 4 vs).bind fun cs => if vs.length = len && decide (len * 4 ≤ 16777216) then some (.sl h.length 0 len len 4, h ++ [some cs]) else none := buildSlice_eq (show Tryz.prog.underlying 66 = some (.slice 101) by kernel_rfl) (show szOf Tryz.prog 101 = some 4 by kernel_rfl) (by kernel_rfl) (by decide)
@[simp] theorem Tryz.pt68 {cs : List V} {off : Nat} : part Tryz.prog 68 cs off = if off + 8 ≤ cs.length then some (.agg ((cs.drop off).take 8)) else none := part_agg (by kernel_rfl) (by kernel_rfl)
@[simp] theorem Tryz.st68 {b off : Nat} {v : V} : storeV Tryz.prog cfg h 68 (.ptr b off) v = stv cfg h b off 8 (cellsOf v) := store_eq (by kernel_rfl)
@[simp] theorem Tryz.zr68 : zeroOf Tryz.prog 68 = some (.agg [(.int .i64 0), (.int .i64 0), (.int .i64 0), (.int .i64 0), (.int .i64 0), .nils, .nils, .nils]) := by kernel_rfl
@[simp] theorem Tryz.fa68x0 {b off : Nat} : fieldAddrV Tryz.prog 68 (.ptr b off) 0 = some (.ptr b off) := by kernel_rfl
@[simp] theorem Tryz.fl68x0 {cs : List V} {off : Nat} : fieldAddrV Tryz.prog 68 (.lptr cs off) 0 = some (.lptr cs off) := by kernel_rfl
@[simp] theorem Tryz.fa68x1 {b off : Nat} : fieldAddrV Tryz.prog 68 (.ptr b off) 1 = some (.ptr b (off + 1)) := by kernel_rfl
@[simp] theorem Tryz.fl68x1 {cs : List V} {off : Nat} : fieldAddrV Tryz.prog 68 (.lptr cs off) 1 = some (.lptr cs (off + 1)) := by kernel_rfl
@[simp] theorem Tryz.fa68x2 {b off : Nat} : fieldAddrV Tryz.prog 68 (.ptr b off) 2 = some (.ptr b (off + 2)) := by kernel_rfl
@[simp] theorem Tryz.fl68x2 {cs : List V} {off : Nat} : fieldAddrV Tryz.prog 68 (.lptr cs off) 2 = some (.lptr cs (off + 2)) := by kernel_rfl
@[simp] theorem Tryz.fa68x3 {b off : Nat} : fieldAddrV Tryz.prog 68 (.ptr b off) 3 = some (.ptr b (off + 3)) := by kernel_rfl
@[simp] theorem Tryz.fl68x3 {cs : List V} {off : Nat} : fieldAddrV Tryz.prog 68 (.lptr cs off) 3 = some (.lptr cs (off + 3)) := by kernel_rfl
@[simp] theorem Tryz.fa68x4 {b off : Nat} : fieldAddrV Tryz.prog 68 (.ptr b off) 4 = some (.ptr b (off + 4)) := by kernel_rfl
@[simp] theorem Tryz.fl68x4 {cs : List V} {off : Nat} : fieldAddrV Tryz.prog 68 (.lptr cs off) 4 = some (.lptr cs (off + 4)) := by kernel_rfl
@[simp] theorem Tryz.fa68x5 {b off : Nat} : fieldAddrV Tryz.prog 68 (.ptr b off) 5 = some (.ptr b (off + 5)) := by kernel_rfl
@[simp] theorem Tryz.fl68x5 {cs : List V} {off : Nat} : fieldAddrV Tryz.prog 68 (.lptr cs off) 5 = some (.lptr cs (off + 5)) := by kernel_rfl
@[simp] theorem Tryz.fa68x6 {b off : Nat} : fieldAddrV Tryz.prog 68 (.ptr b off) 6 = some (.ptr b (off + 6)) := by kernel_rfl
@[simp] theorem Tryz.fl68x6 {cs : List V} {off : Nat} : fieldAddrV Tryz.prog 68 (.lptr cs off) 6 = some (.lptr cs (off + 6)) := by kernel_rfl
@[simp] theorem Tryz.fa68x7 {b off : Nat} : fieldAddrV Tryz.prog 68 (.ptr b off) 7 = some (.ptr b (off + 7)) := by kernel_rfl
@[simp] theorem Tryz.fl68x7 {cs : List V} {off : Nat} : fieldAddrV Tryz.prog 68 (.lptr cs off) 7 = some (.lptr cs (off + 7)) := by kernel_rfl
def Tryz.pl68 : Nat → Option (Nat × Nat)
  | 0 => some (0, 1)
  | 1 => some (1, 1)
  | 2 => some (2, 1)
  | 3 => some (3, 1)
  | 4 => some (4, 1)
  | 5 => some (5, 1)
  | 6 => some (6, 1)
  | 7 => some (7, 1)
  | _ => none
@[simp] theorem Tryz.pl68x0 : Tryz.pl68 0 = some (0, 1) := rfl
@[simp] theorem Tryz.pl68x1 : Tryz.pl68 1 = some (1, 1) := rfl
@[simp] theorem Tryz.pl68x2 : Tryz.pl68 2 = some (2, 1) := rfl
@[simp] theorem Tryz.pl68x3 : Tryz.pl68 3 = some (3, 1) := rfl
@[simp] theorem Tryz.pl68x4 : Tryz.pl68 4 = some (4, 1) := rfl
@[simp] theorem Tryz.pl68x5 : Tryz.pl68 5 = some (5, 1) := rfl
@[simp] theorem Tryz.pl68x6 : Tryz.pl68 6 = some (6, 1) := rfl
@[simp] theorem Tryz.pl68x7 : Tryz.pl68 7 = some (7, 1) := rfl
@[simp] theorem Tryz.bd68 {ps : List (Nat × V)} : buildV Tryz.prog 68 ps = (fillV Tryz.pl68 [(.int .i64 0), (.int .i64 0), (.int .i64 0), (.int .i64 0), (.int .i64 0), .nils, .nils, .nils] ps).map .agg := build_eq (pl := Tryz.pl68) Tryz.zr68 Tryz.underlying68 (by kernel_rfl) (fun i => by match i with | 0 => (show _ = _; kernel_rfl) | 1 => (show _ = _; kernel_rfl) | 2 => (show _ = _; kernel_rfl) | 3 => (show _ = _; kernel_rfl) | 4 => (show _ = _; kernel_rfl) | 5 => (show _ = _; kernel_rfl) | 6 => (show _ = _; kernel_rfl) | 7 => (show _ = _; kernel_rfl) | _ + 8 => (show _ = _; kernel_rfl))
@[simp] theorem Tryz.pt72 {cs : List V} {off : Nat} : part Tryz.prog 72 cs off = if off + 4 ≤ cs.length then some (.agg ((cs.drop off).take 4)) else none := part_agg (by kernel_rfl) (by kernel_rfl)
@[simp] theorem Tryz.st72 {b off : Nat} {v : V} : storeV Tryz.prog cfg h 72 (.ptr b off) v = stv cfg h b off 4 (cellsOf v) := store_eq (by kernel_rfl)
@[simp] theorem Tryz.zr72 : zeroOf Tryz.prog 72 = some (.agg [(.int .i64 0), (.int .i64 0), (.int .i64 0), (.int .i64 0)]) := by kernel_rfl
@[simp] theorem Tryz.fa72x0 {b off : Nat} : fieldAddrV Tryz.prog 72 (.ptr b off) 0 = some (.ptr b off) := by kernel_rfl
@[simp] theorem Tryz.fl72x0 {cs : List V} {off : Nat} : fieldAddrV Tryz.prog 72 (.lptr cs off) 0 = some (.lptr cs off) := by kernel_rfl
@[simp] theorem Tryz.fa72x1 {b off : Nat} : fieldAddrV Tryz.prog 72 (.ptr b off) 1 = some (.ptr b (off + 1)) := by kernel_rfl
@[simp] theorem Tryz.fl72x1 {cs : List V} {off : Nat} : fieldAddrV Tryz.prog 72 (.lptr cs off) 1 = some (.lptr cs (off + 1)) := by kernel_rfl
@[simp] theorem Tryz.fa72x2 {b off : Nat} : fieldAddrV Tryz.prog 72 (.ptr b off) 2 = some (.ptr b (off + 2)) := by kernel_rfl
@[simp] theorem Tryz.fl72x2 {cs : List V} {off : Nat} : fieldAddrV Tryz.prog 72 (.lptr cs off) 2 = some (.lptr cs (off + 2)) := by kernel_rfl
@[simp] theorem Tryz.fa72x3 {b off : Nat} : fieldAddrV Tryz.prog 72 (.ptr b off) 3 = some (.ptr b (off + 3)) := by kernel_rfl
@[simp] theorem Tryz.fl72x3 {cs : List V} {off : Nat} : fieldAddrV Tryz.prog 72 (.lptr cs off) 3 = some (.lptr cs (off + 3)) := by kernel_rfl
def Tryz.pl72 : Nat → Option (Nat × Nat)
  | 0 => some (0, 1)
  | 1 => some (1, 1)
  | 2 => some (2, 1)
  | 3 => some (3, 1)
  | _ => none
@[simp] theorem Tryz.pl72x0 : Tryz.pl72 0 = some (0, 1) := rfl
@[simp] theorem Tryz.pl72x1 : Tryz.pl72 1 = some (1, 1) := rfl
@[simp] theorem Tryz.pl72x2 : Tryz.pl72 2 = some (2, 1) := rfl
@[simp] theorem Tryz.pl72x3 : Tryz.pl72 3 = some (3, 1) := rfl
@[simp] theorem Tryz.bd72 {ps : List (Nat × V)} : buildV Tryz.prog 72 ps = (fillV Tryz.pl72 [(.int .i64 0), (.int .i64 0), (.int .i64 0), (.int .i64 0)] ps).map .agg := build_eq (pl := Tryz.pl72) Tryz.zr72 Tryz.underlying72 (by kernel_rfl) (fun i => by match i with | 0 => (show _ = _; kernel_rfl) | 1 => (show _ = _; kernel_rfl) | 2 => (show _ = _; kernel_rfl) | 3 => (show _ = _; kernel_rfl) | _ + 4 => (show _ = _; kernel_rfl))
@[simp] theorem Tryz.ixL74 {xs : List (List V)} {k : IntKind} {i : Int} : indexAddrV Tryz.prog 74 (.lst xs) (.int k i) = idxL 4 xs i := idxL_eq (show Tryz.prog.underlying 74 = some (.slice 77) by kernel_rfl) (show szOf Tryz.prog 77 = some 4 by kernel_rfl)
@[simp] theorem Tryz.ixS74 {b off len cap c : Nat} {k : IntKind} {i : Int} : indexAddrV Tryz.prog 74 (.sl b off len cap c) (.int k i) = idxS 4 b off len c i := idxS_eq (show Tryz.prog.underlying 74 = some (.slice 77) by kernel_rfl) (show szOf Tryz.prog 77 = some 4 by kernel_rfl)
@[simp] theorem Tryz.lnL74 {xs : List (List V)} : lenV Tryz.prog 74 (.lst xs) = some (.int .i64 xs.length) := lenL_eq (show Tryz.prog.underlying 74 = some (.slice 77) by kernel_rfl)
@[simp] theorem Tryz.lnS74 {b off len cap k : Nat} : lenV Tryz.prog 74 (.sl b off len cap k) = some (.int .i64 len) := lenS_eq (show Tryz.prog.underlying 74 = some (.slice 77) by kernel_rfl)
@[simp] theorem Tryz.lnN74 : lenV Tryz.prog 74 .nils = some (.int .i64 0) := lenN_eq (show Tryz.prog.underlying 74 = some (.slice 77) by kernel_rfl)
@[simp] theorem Tryz.ap74 {d x : V} : appendV Tryz.prog cfg h 74 74 d x = appS cfg h 4 48 d (srcCells h 4 x) := appS_eq (show Tryz.prog.underlying 74 = some (.slice 77) by kernel_rfl) (show szOf Tryz.prog 77 = some 4 by kernel_rfl) (by kernel_rfl) (by kernel_rfl) (by decide)
@[simp] theorem Tryz.bs74 {len : Nat} {vs : List V} : buildSliceV Tryz.prog h 74 len vs = (cellsAll 4 vs).bind fun cs => if vs.length = len && decide (len * 4 ≤ 16777216) then some (.sl h.length 0 len len 4, h ++ [some cs]) else none := buildSlice_eq (show Tryz.prog.underlying 74 = some (.slice 77) by kernel_rfl) (show szOf Tryz.prog 77 = some 4 by kernel_rfl) (by kernel_rfl) (by decide)
@[simp] theorem Tryz.pt77 {cs : List V} {off : Nat} : part Tryz.prog 77 cs off = if off + 4 ≤ cs.length then some (.agg ((cs.drop off).take 4)) else none := part_agg (by kernel_rfl) (by kernel_rfl)
@[simp] theorem Tryz.st77 {b off : Nat} {v : V} : storeV Tryz.prog cfg h 77 (.ptr b off) v = stv cfg h b off 4 (cellsOf v) := store_eq (by kernel_rfl)
@[simp] theorem Tryz.zr77 : zeroOf Tryz.prog 77 = some (.agg [(.int .i64 0), (.int .i64 0), (.int .i64 0), .nils]) := by kernel_rfl
@[simp] theorem Tryz.fa77x0 {b off : Nat} : fieldAddrV Tryz.prog 77 (.ptr b off) 0 = some (.ptr b off) := by kernel_rfl
@[simp] theorem Tryz.fl77x0 {cs : List V} {off : Nat} : fieldAddrV Tryz.prog 77 (.lptr cs off) 0 = some (.lptr cs off) := by kernel_rfl
@[simp] theorem Tryz.fa77x1 {b off : Nat} : fieldAddrV Tryz.prog 77 (.ptr b off) 1 = some (.ptr b (off + 1)) := by kernel_rfl
@[simp] theorem Tryz.fl77x1 {cs : List V} {off : Nat} : fieldAddrV Tryz.prog 77 (.lptr cs off) 1 = some (.lptr cs (off + 1)) := by kernel_rfl
@[simp] theorem Tryz.fa77x2 {b off : Nat} : fieldAddrV Tryz.prog 77 (.ptr b off) 2 = some (.ptr b (off + 2)) := by kernel_rfl
@[simp] theorem Tryz.fl77x2 {cs : List V} {off : Nat} : fieldAddrV Tryz.prog 77 (.lptr cs off) 2 = some (.lptr cs (off + 2)) := by kernel_rfl
@[simp] theorem Tryz.fa77x3 {b off : Nat} : fieldAddrV Tryz.prog 77 (.ptr b off) 3 = some (.ptr b (off + 3)) := by kernel_rfl
@[simp] theorem Tryz.fl77x3 {cs : List V} {off : Nat} : fieldAddrV Tryz.prog 77 (.lptr cs off) 3 = some (.lptr cs (off + 3)) := by kernel_rfl
def Tryz.pl77 : Nat → Option (Nat × Nat)
  | 0 => some (0, 1)
  | 1 => some (1, 1)
  | 2 => some (2, 1)
  | 3 => some (3, 1)
  | _ => none
@[simp] theorem Tryz.pl77x0 : Tryz.pl77 0 = some (0, 1) := rfl
@[simp] theorem Tryz.pl77x1 : Tryz.pl77 1 = some (1, 1) := rfl
@[simp] theorem Tryz.pl77x2 : Tryz.pl77 2 = some (2, 1) := rfl
@[simp] theorem Tryz.pl77x3 : Tryz.pl77 3 = some (3, 1) := rfl
@[simp] theorem Tryz.bd77 {ps : List (Nat × V)} : buildV Tryz.prog 77 ps = (fillV Tryz.pl77 [(.int .i64 0), (.int .i64 0), (.int .i64 0), .nils] ps).map .agg := build_eq (pl := Tryz.pl77) Tryz.zr77 Tryz.underlying77 (by kernel_rfl) (fun i => by match i with | 0 => (show _ = _; kernel_rfl) | 1 => (show _ = _; kernel_rfl) | 2 => (show _ = _; kernel_rfl) | 3 => (show _ = _; kernel_rfl) | _ + 4 => (show _ = _; kernel_rfl))
@[simp] theorem Tryz.pt82 {cs : List V} {off : Nat} : part Tryz.prog 82 cs off = if off + 8 ≤ cs.length then some (.agg ((cs.drop off).take 8)) else none := part_agg (by kernel_rfl) (by kernel_rfl)
@[simp] theorem Tryz.st82 {b off : Nat} {v : V} : storeV Tryz.prog cfg h 82 (.ptr b off) v = stv cfg h b off 8 (cellsOf v) := store_eq (by kernel_rfl)
@[simp] theorem Tryz.zr82 : zeroOf Tryz.prog 82 = some (.agg [(.int .i64 0), (.int .i64 0), (.int .i64 0), (.int .i64 0), (.int .i64 0), (.int .i64 0), (.int .i64 0), (.int .i64 0)]) := by kernel_rfl
@[simp] theorem Tryz.fa82x0 {b off : Nat} : fieldAddrV Tryz.prog 82 (.ptr b off) 0 = some (.ptr b off) := by kernel_rfl
@[simp] theorem Tryz.fl82x0 {cs : List V} {off : Nat} : fieldAddrV Tryz.prog 82 (.lptr cs off) 0 = some (.lptr cs off) := by kernel_rfl
@[simp] theorem Tryz.fa82x1 {b off : Nat} : fieldAddrV Tryz.prog 82 (.ptr b off) 1 = some (.ptr b (off + 1)) := by kernel_rfl
@[simp] theorem Tryz.fl82x1 {cs : List V} {off : Nat} : fieldAddrV Tryz.prog 82 (.lptr cs off) 1 = some (.lptr cs (off + 1)) := by kernel_rfl
@[simp] theorem Tryz.fa82x2 {b off : Nat} : fieldAddrV Tryz.prog 82 (.ptr b off) 2 = some (.ptr b (off + 2)) := by kernel_rfl
@[simp] theorem Tryz.fl82x2 {cs : List V} {off : Nat} : fieldAddrV Tryz.prog 82 (.lptr cs off) 2 = some (.lptr cs (off + 2)) := by kernel_rfl
@[simp] theorem Tryz.fa82x3 {b off : Nat} : fieldAddrV Tryz.prog 82 (.ptr b off) 3 = some (.ptr b (off + 3)) := by kernel_rfl
@[simp] theorem Tryz.fl82x3 {cs : List V} {off : Nat} : fieldAddrV Tryz.prog 82 (.lptr cs off) 3 = some (.lptr cs (off + 3)) := by kernel_rfl
@[simp] theorem Tryz.fa82x4 {b off : Nat} : fieldAddrV Tryz.prog 82 (.ptr b off) 4 = some (.ptr b (off + 4)) := by kernel_rfl
@[simp] theorem Tryz.fl82x4 {cs : List V} {off : Nat} : fieldAddrV Tryz.prog 82 (.lptr cs off) 4 = some (.lptr cs (off + 4)) := by kernel_rfl
@[simp] theorem Tryz.fa82x5 {b off : Nat} : fieldAddrV Tryz.prog 82 (.ptr b off) 5 = some (.ptr b (off + 5)) := by kernel_rfl
@[simp] theorem Tryz.fl82x5 {cs : List V} {off : Nat} : fieldAddrV Tryz.prog 82 (.lptr cs off) 5 = some (.lptr cs (off + 5)) := by kernel_rfl
@[simp] theorem Tryz.fa82x6 {b off : Nat} : fieldAddrV Tryz.prog 82 (.ptr b off) 6 = some (.ptr b (off + 6)) := by kernel_rfl
@[simp] theorem Tryz.fl82x6 {cs : List V} {off : Nat} : fieldAddrV Tryz.prog 82 (.lptr cs off) 6 = some (.lptr cs (off + 6)) := by kernel_rfl
@[simp] theorem Tryz.fa82x7 {b off : Nat} : fieldAddrV Tryz.prog 82 (.ptr b off) 7 = some (.ptr b (off + 7)) := by kernel_rfl
@[simp] theorem Tryz.fl82x7 {cs : List V} {off : Nat} : fieldAddrV Tryz.prog 82 (.lptr cs off) 7 = some (.lptr cs (off + 7)) := by kernel_rfl
def Tryz.pl82 : Nat → Option (Nat × Nat)
  | 0 => some (0, 1)
  | 1 => some (1, 1)
  | 2 => some (2, 1)
  | 3 => some (3, 1)
  | 4 => some (4, 1)
  | 5 => some (5, 1)
  | 6 => some (6, 1)
  | 7 => some (7, 1)
  | _ => none
@[simp] theorem Tryz.pl82x0 : Tryz.pl82 0 = some (0, 1) := rfl
@[simp] theorem Tryz.pl82x1 : Tryz.pl82 1 = some (1, 1) := rfl
@[simp] theorem Tryz.pl82x2 : Tryz.pl82 2 = some (2, 1) := rfl
@[simp] theorem Tryz.pl82x3 : Tryz.pl82 3 = some (3, 1) := rfl
@[simp] theorem Tryz.pl82x4 : Tryz.pl82 4 = some (4, 1) := rfl
@[simp] theorem Tryz.pl82x5 : Tryz.pl82 5 = some (5, 1) := rfl
@[simp] theorem Tryz.pl82x6 : Tryz.pl82 6 = some (6, 1) := rfl
@[simp] theorem Tryz.pl82x7 : Tryz.pl82 7 = some (7, 1) := rfl
@[simp] theorem Tryz.bd82 {ps : List (Nat × V)} : buildV Tryz.prog 82 ps = (fillV Tryz.pl82 [(.int .i64 0), (.int .i64 0), (.int .i64 0), (.int .i64 0), (.int .i64 0), (.int .i64 0), (.int .i64 0), (.int .i64 0)] ps).map .agg := build_eq (pl := Tryz.pl82) Tryz.zr82 Tryz.underlying82 (by kernel_rfl) (fun i => by match i with | 0 => (show _ = _; kernel_rfl) | 1 => (show _ = _; kernel_rfl) | 2 => (show _ = _; kernel_rfl) | 3 => (show _ = _; kernel_rfl) | 4 => (show _ = _; kernel_rfl) | 5 => (show _ = _; kernel_rfl) | 6 => (show _ = _; kernel_rfl) | 7 => (show _ = _; kernel_rfl) | _ + 8 => (show _ = _; kernel_rfl))
@[simp] theorem Tryz.pt86 {cs : List V} {off : Nat} : part Tryz.prog 86 cs off = if off + 3 ≤ cs.length then some (.agg ((cs.drop off).take 3)) else none := part_agg (by kernel_rfl) (by kernel_rfl)
@[simp] theorem Tryz.st86 {b off : Nat} {v : V} : storeV Tryz.prog cfg h 86 (.ptr b off) v = stv cfg h b off 3 (cellsOf v) := store_eq (by kernel_rfl)
@[simp] theorem Tryz.zr86 : zeroOf Tryz.prog 86 = some (.agg [.nils, .nils, .nils]) := by kernel_rfl
@[simp] theorem Tryz.fa86x0 {b off : Nat} : fieldAddrV Tryz.prog 86 (.ptr b off) 0 = some (.ptr b off) := by kernel_rfl
@[simp] theorem Tryz.fl86x0 {cs : List V} {off : Nat} : fieldAddrV Tryz.prog 86 (.lptr cs off) 0 = some (.lptr cs off) := by kernel_rfl
@[simp] theorem Tryz.fa86x1 {b off : Nat} : fieldAddrV Tryz.prog 86 (.ptr b off) 1 = some (.ptr b (off + 1)) := by kernel_rfl
@[simp] theorem Tryz.fl86x1 {cs : List V} {off : Nat} : fieldAddrV Tryz.prog 86 (.lptr cs off) 1 = some (.lptr cs (off + 1)) := by kernel_rfl
@[simp] theorem Tryz.fa86x2 {b off : Nat} : fieldAddrV Tryz.prog 86 (.ptr b off) 2 = some (.ptr b (off + 2)) := by kernel_rfl
@[simp] theorem Tryz.fl86x2 {cs : List V} {off : Nat} : fieldAddrV Tryz.prog 86 (.lptr cs off) 2 = some (.lptr cs (off + 2)) := by kernel_rfl
def Tryz.pl86 : Nat → Option (Nat × Nat)
  | 0 => some (0, 1)
  | 1 => some (1, 1)
  | 2 => some (2, 1)
  | _ => none
@[simp] theorem Tryz.pl86x0 : Tryz.pl86 0 = some (0, 1) := rfl
@[simp] theorem Tryz.pl86x1 : Tryz.pl86 1 = some (1, 1) := rfl
@[simp] theorem Tryz.pl86x2 : Tryz.pl86 2 = some (2, 1) := rfl
@[simp] theorem Tryz.bd86 {ps : List (Nat × V)} : buildV Tryz.prog 86 ps = (fillV Tryz.pl86 [.nils, .nils, .nils] ps).map .agg := build_eq (pl := Tryz.pl86) Tryz.zr86 Tryz.underlying86 (by kernel_rfl) (fun i => by match i with | 0 => (show _ = _; kernel_rfl) | 1 => (show _ = _; kernel_rfl) | 2 => (show _ = _; kernel_rfl) | _ + 3 => (show _ = _; kernel_rfl))
@[simp] theorem Tryz.pt97 {cs : List V} {off : Nat} : part Tryz.prog 97 cs off = if off + 3 ≤ cs.length then some (.agg ((cs.drop off).take 3)) else none := part_agg (by kernel_rfl) (by kernel_rfl)
@[simp] theorem Tryz.st97 {b off : Nat} {v : V} : storeV Tryz.prog cfg h 97 (.ptr b off) v = stv cfg h b off 3 (cellsOf v) := store_eq (by kernel_rfl)
@[simp] theorem Tryz.zr97 : zeroOf Tryz.prog 97 = some (.agg [(.int .i32 0), (.int .i32 0), (.int .i64 0)]) := by kernel_rfl
@[simp] theorem Tryz.fa97x0 {b off : Nat} : fieldAddrV Tryz.prog 97 (.ptr b off) 0 = some (.ptr b off) := by kernel_rfl
@[simp] theorem Tryz.fl97x0 {cs : List V} {off : Nat} : fieldAddrV Tryz.prog 97 (.lptr cs off) 0 = some (.lptr cs off) := by kernel_rfl
@[simp] theorem Tryz.fa97x1 {b off : Nat} : fieldAddrV Tryz.prog 97 (.ptr b off) 1 = some (.ptr b (off + 1)) := by kernel_rfl
@[simp] theorem Tryz.fl97x1 {cs : List V} {off : Nat} : fieldAddrV Tryz.prog 97 (.lptr cs off) 1 = some (.lptr cs (off + 1)) := by kernel_rfl
@[simp] theorem Tryz.fa97x2 {b off : Nat} : fieldAddrV Tryz.prog 97 (.ptr b off) 2 = some (.ptr b (off + 2)) := by kernel_rfl
@[simp] theorem Tryz.fl97x2 {cs : List V} {off : Nat} : fieldAddrV Tryz.prog 97 (.lptr cs off) 2 = some (.lptr cs (off + 2)) := by kernel_rfl
def Tryz.pl97 : Nat → Option (Nat × Nat)
  | 0 => some (0, 1)
  | 1 => some (1, 1)
  | 2 => some (2, 1)
  | _ => none
@[simp] theorem Tryz.pl97x0 : Tryz.pl97 0 = some (0, 1) := rfl
@[simp] theorem Tryz.pl97x1 : Tryz.pl97 1 = some (1, 1) := rfl
@[simp] theorem Tryz.pl97x2 : Tryz.pl97 2 = some (2, 1) := rfl
@[simp] theorem Tryz.bd97 {ps : List (Nat × V)} : buildV Tryz.prog 97 ps = (fillV Tryz.pl97 [(.int .i32 0), (.int .i32 0), (.int .i64 0)] ps).map .agg := build_eq (pl := Tryz.pl97) Tryz.zr97 Tryz.underlying97 (by kernel_rfl) (fun i => by match i with | 0 => (show _ = _; kernel_rfl) | 1 => (show _ = _; kernel_rfl) | 2 => (show _ = _; kernel_rfl) | _ + 3 => (show _ = _; kernel_rfl))
@[simp] theorem Tryz.pt99 {cs : List V} {off : Nat} : part Tryz.prog 99 cs off = if off + 3 ≤ cs.length then some (.agg ((cs.drop off).take 3)) else none := part_agg (by kernel_rfl) (by kernel_rfl)
@[simp] theorem Tryz.st99 {b off : Nat} {v : V} : storeV Tryz.prog cfg h 99 (.ptr b off) v = stv cfg h b off 3 (cellsOf v) := store_eq (by kernel_rfl)
@[simp] theorem Tryz.zr99 : zeroOf Tryz.prog 99 = some (.agg [(.int .i32 0), (.int .i32 0), (.int .i64 0)]) := by kernel_rfl
@[simp] theorem Tryz.fa99x0 {b off : Nat} : fieldAddrV Tryz.prog 99 (.ptr b off) 0 = some (.ptr b off) := by kernel_rfl
@[simp] theorem Tryz.fl99x0 {cs : List V} {off : Nat} : fieldAddrV Tryz.prog 99 (.lptr cs off) 0 = some (.lptr cs off) := by kernel_rfl
@[simp] theorem Tryz.fa99x1 {b off : Nat} : fieldAddrV Tryz.prog 99 (.ptr b off) 1 = some (.ptr b (off + 1)) := by kernel_rfl
@[simp] theorem Tryz.fl99x1 {cs : List V} {off : Nat} : fieldAddrV Tryz.prog 99 (.lptr cs off) 1 = some (.lptr cs (off + 1)) := by kernel_rfl
@[simp] theorem Tryz.fa99x2 {b off : Nat} : fieldAddrV Tryz.prog 99 (.ptr b off) 2 = some (.ptr b (off + 2)) := by kernel_rfl
@[simp] theorem Tryz.fl99x2 {cs : List V} {off : Nat} : fieldAddrV Tryz.prog 99 (.lptr cs off) 2 = some (.lptr cs (off + 2)) := by kernel_rfl
def Tryz.pl99 : Nat → Option (Nat × Nat)
  | 0 => some (0, 1)
  | 1 => some (1, 1)
  | 2 => some (2, 1)
  | _ => none
@[simp] theorem Tryz.pl99x0 : Tryz.pl99 0 = some (0, 1) := rfl
@[simp] theorem Tryz.pl99x1 : Tryz.pl99 1 = some (1, 1) := rfl
@[simp] theorem Tryz.pl99x2 : Tryz.pl99 2 = some (2, 1) := rfl
@[simp] theorem Tryz.bd99 {ps : List (Nat × V)} : buildV Tryz.prog 99 ps = (fillV Tryz.pl99 [(.int .i32 0), (.int .i32 0), (.int .i64 0)] ps).map .agg := build_eq (pl := Tryz.pl99) Tryz.zr99 Tryz.underlying99 (by kernel_rfl) (fun i => by match i with | 0 => (show _ = _; kernel_rfl) | 1 => (show _ = _; kernel_rfl) | 2 => (show _ = _; kernel_rfl) | _ + 3 => (show _ = _; kernel_rfl))
@[simp] theorem Tryz.pt101 {cs : List V} {off : Nat} : part Tryz.prog 101 cs off = if off + 4 ≤ cs.length then some (.agg ((cs.drop off).take 4)) else none := part_agg (by kernel_rfl) (by kernel_rfl)
@[simp] theorem Tryz.st101 {b off : Nat} {v : V} : storeV Tryz.prog cfg h 101 (.ptr b off) v = stv cfg h b off 4 (cellsOf v) := store_eq (by kernel_rfl)
@[simp] theorem Tryz.zr101 : zeroOf Tryz.prog 101 = some (.agg [(.int .i32 0), (.int .i32 0), (.int .i64 0), (.int .i64 0)]) := by kernel_rfl
@[simp] theorem Tryz.fa101x0 {b off : Nat} : fieldAddrV Tryz.prog 101 (.ptr b off) 0 = some (.ptr b off) := by kernel_rfl
@[simp] theorem Tryz.fl101x0 {cs : List V} {off : Nat} : fieldAddrV Tryz.prog 101 (.lptr cs off) 0 = some (.lptr cs off) := by kernel_rfl
@[simp] theorem Tryz.fa101x1 {b off : Nat} : fieldAddrV Tryz.prog 101 (.ptr b off) 1 = some (.ptr b (off + 1)) := by kernel_rfl
@[simp] theorem Tryz.fl101x1 {cs : List V} {off : Nat} : fieldAddrV Tryz.prog 101 (.lptr cs off) 1 = some (.lptr cs (off + 1)) := by kernel_rfl
@[simp] theorem Tryz.fa101x2 {b off : Nat} : fieldAddrV Tryz.prog 101 (.ptr b off) 2 = some (.ptr b (off + 2)) := by kernel_rfl
@[simp] theorem Tryz.fl101x2 {cs : List V} {off : Nat} : fieldAddrV Tryz.prog 101 (.lptr cs off) 2 = some (.lptr cs (off + 2)) := by kernel_rfl
@[simp] theorem Tryz.fa101x3 {b off : Nat} : fieldAddrV Tryz.prog 101 (.ptr b off) 3 = some (.ptr b (off + 3)) := by kernel_rfl
@[simp] theorem Tryz.fl101x3 {cs : List V} {off : Nat} : fieldAddrV Tryz.prog 101 (.lptr cs off) 3 = some (.lptr cs (off + 3)) := by kernel_rfl
def Tryz.pl101 : Nat → Option (Nat × Nat)
  | 0 => some (0, 1)
  | 1 => some (1, 1)
  | 2 => some (2, 1)
  | 3 => some (3, 1)
  | _ => none
@[simp] theorem Tryz.pl101x0 : Tryz.pl101 0 = some (0, 1) := rfl
@[simp] theorem Tryz.pl101x1 : Tryz.pl101 1 = some (1, 1) := rfl
@[simp] theorem Tryz.pl101x2 : Tryz.pl101 2 = some (2, 1) := rfl
@[simp] theorem Tryz.pl101x3 : Tryz.pl101 3 = some (3, 1) := rfl
@[simp] theorem Tryz.bd101 {ps : List (Nat × V)} : buildV Tryz.prog 101 ps = (fillV Tryz.pl101 [(.int .i32 0), (.int .i32 0), (.int .i64 0), (.int .i64 0)] ps).map .agg := build_eq (pl := Tryz.pl101) Tryz.zr101 Tryz.underlying101 (by kernel_rfl) (fun i => by match i with | 0 => (show _ = _; kernel_rfl) | 1 => (show _ = _; kernel_rfl) | 2 => (show _ = _; kernel_rfl) | 3 => (show _ = _; kernel_rfl) | _ + 4 => (show _ = _; kernel_rfl))
@[simp] theorem Tryz.pt115 {cs : List V} {off : Nat} : part Tryz.prog 115 cs off = if off + 7 ≤ cs.length then some (.agg ((cs.drop off).take 7)) else none := part_agg (by kernel_rfl) (by kernel_rfl)
@[simp] theorem Tryz.st115 {b off : Nat} {v : V} : storeV Tryz.prog cfg h 115 (.ptr b off) v = stv cfg h b off 7 (cellsOf v) := store_eq (by kernel_rfl)
@[simp] theorem Tryz.zr115 : zeroOf Tryz.prog 115 = some (.agg [(.int .i32 0), (.int .i32 0), (.int .u8 0), (.int .u8 0), (.int .u8 0), (.int .u8 0), (.int .u8 0)]) := by kernel_rfl
@[simp] theorem Tryz.fa115x0 {b off : Nat} : fieldAddrV Tryz.prog 115 (.ptr b off) 0 = some (.ptr b off) := by kernel_rfl
@[simp] theorem Tryz.fl115x0 {cs : List V} {off : Nat} : fieldAddrV Tryz.prog 115 (.lptr cs off) 0 = some (.lptr cs off) := by kernel_rfl
@[simp] theorem Tryz.fv115x0 {cs : List V} : fieldV Tryz.prog 115 (.agg cs) 0 = part Tryz.prog 21 cs 0 := by kernel_rfl
@[simp] theorem Tryz.fa115x1 {b off : Nat} : fieldAddrV Tryz.prog 115 (.ptr b off) 1 = some (.ptr b (off + 1)) := by kernel_rfl
@[simp] theorem Tryz.fl115x1 {cs : List V} {off : Nat} : fieldAddrV Tryz.prog 115 (.lptr cs off) 1 = some (.lptr cs (off + 1)) := by kernel_rfl
@[simp] theorem Tryz.fv115x1 {cs : List V} : fieldV Tryz.prog 115 (.agg cs) 1 = part Tryz.prog 21 cs 1 := by kernel_rfl
@[simp] theorem Tryz.fa115x2 {b off : Nat} : fieldAddrV Tryz.prog 115 (.ptr b off) 2 = some (.ptr b (off + 2)) := by kernel_rfl
@[simp] theorem Tryz.fl115x2 {cs : List V} {off : Nat} : fieldAddrV Tryz.prog 115 (.lptr cs off) 2 = some (.lptr cs (off + 2)) := by kernel_rfl
@[simp] theorem Tryz.fv115x2 {cs : List V} : fieldV Tryz.prog 115 (.agg cs) 2 = part Tryz.prog 5 cs 2 := by kernel_rfl
@[simp] theorem Tryz.fa115x3 {b off : Nat} : fieldAddrV Tryz.prog 115 (.ptr b off) 3 = some (.ptr b (off + 3)) := by kernel_rfl
@[simp] theorem Tryz.fl115x3 {cs : List V} {off : Nat} : fieldAddrV Tryz.prog 115 (.lptr cs off) 3 = some (.lptr cs (off + 3)) := by kernel_rfl
@[simp] theorem Tryz.fv115x3 {cs : List V} : fieldV Tryz.prog 115 (.agg cs) 3 = part Tryz.prog 5 cs 3 := by kernel_rfl
@[simp] theorem Tryz.fa115x4 {b off : Nat} : fieldAddrV Tryz.prog 115 (.ptr b off) 4 = some (.ptr b (off + 4)) := by kernel_rfl
@[simp] theorem Tryz.fl115x4 {cs : List V} {off : Nat} : fieldAddrV Tryz.prog 115 (.lptr cs off) 4 = some (.lptr cs (off + 4)) := by kernel_rfl
@[simp] theorem Tryz.fv115x4 {cs : List V} : fieldV Tryz.prog 115 (.agg cs) 4 = part Tryz.prog 5 cs 4 := by kernel_rfl
@[simp] theorem Tryz.fa115x5 {b off : Nat} : fieldAddrV Tryz.prog 115 (.ptr b off) 5 = some (.ptr b (off + 5)) := by kernel_rfl
@[simp] theorem Tryz.fl115x5 {cs : List V} {off : Nat} : fieldAddrV Tryz.prog 115 (.lptr cs off) 5 = some (.lptr cs (off + 5)) := by kernel_rfl
@[simp] theorem Tryz.fv115x5 {cs : List V} : fieldV Tryz.prog 115 (.agg cs) 5 = part Tryz.prog 5 cs 5 := by kernel_rfl
@[simp] theorem Tryz.fa115x6 {b off : Nat} : fieldAddrV Tryz.prog 115 (.ptr b off) 6 = some (.ptr b (off + 6)) := by kernel_rfl
@[simp] theorem Tryz.fl115x6 {cs : List V} {off : Nat} : fieldAddrV Tryz.prog 115 (.lptr cs off) 6 = some (.lptr cs (off + 6)) := by kernel_rfl
@[simp] theorem Tryz.fv115x6 {cs : List V} : fieldV Tryz.prog 115 (.agg cs) 6 = part Tryz.prog 5 cs 6 := by kernel_rfl
def Tryz.pl115 : Nat → Option (Nat × Nat)
  | 0 => some (0, 1)
  | 1 => some (1, 1)
  | 2 => some (2, 1)
  | 3 => some (3, 1)
  | 4 => some (4, 1)
  | 5 => some (5, 1)
  | 6 => some (6, 1)
  | _ => none
@[simp] theorem Tryz.pl115x0 : Tryz.pl115 0 = some (0, 1) := rfl
@[simp] theorem Tryz.pl115x1 : Tryz.pl115 1 = some (1, 1) := rfl
@[simp] theorem Tryz.pl115x2 : Tryz.pl115 2 = some (2, 1) := rfl
@[simp] theorem Tryz.pl115x3 : Tryz.pl115 3 = some (3, 1) := rfl
@[simp] theorem Tryz.pl115x4 : Tryz.pl115 4 = some (4, 1) := rfl
@[simp] theorem Tryz.pl115x5 : Tryz.pl115 5 = some (5, 1) := rfl
@[simp] theorem Tryz.pl115x6 : Tryz.pl115 6 = some (6, 1) := rfl
@[simp] theorem Tryz.bd115 {ps : List (Nat × V)} : buildV Tryz.prog 115 ps = (fillV Tryz.pl115 [(.int .i32 0), (.int .i32 0), (.int .u8 0), (.int .u8 0), (.int .u8 0), (.int .u8 0), (.int .u8 0)] ps).map .agg := build_eq (pl := Tryz.pl115) Tryz.zr115 Tryz.underlying115 (by kernel_rfl) (fun i => by match i with | 0 => (show _ = _; kernel_rfl) | 1 => (show _ = _; kernel_rfl) | 2 => (show _ = _; kernel_rfl) | 3 => (show _ = _; kernel_rfl) | 4 => (show _ = _; kernel_rfl) | 5 => (show _ = _; kernel_rfl) | 6 => (show _ = _; kernel_rfl) | _ + 7 => (show _ = _; kernel_rfl))
@[simp] theorem Tryz.ixL133 {xs : List (List V)} {k : IntKind} {i : Int} : indexAddrV Tryz.prog 133 (.lst xs) (.int k i) = idxL 1 xs i := idxL_eq (show Tryz.prog.underlying 133 = some (.slice 4) by kernel_rfl) (show szOf Tryz.prog 4 = some 1 by kernel_rfl)
@[simp] theorem Tryz.ixS133 {b off len cap c : Nat} {k : IntKind} {i : Int} : indexAddrV Tryz.prog 133 (.sl b off len cap c) (.int k i) = idxS 1 b off len c i := idxS_eq (show Tryz.prog.underlying 133 = some (.slice 4) by kernel_rfl) (show szOf Tryz.prog 4 = some 1 by kernel_rfl)
@[simp] theorem Tryz.mk133 {n m : Int} : makeSliceV Tryz.prog h 133 (.int .i64 n) (.int .i64 m) = mkS h 1 1 [(.bool false)] n m := mkS_eq (show Tryz.prog.underlying 133 = some (.slice 4) by kernel_rfl) (show szOf Tryz.prog 4 = some 1 by kernel_rfl) (by kernel_rfl) (show zeroOf Tryz.prog 4 = some (.bool false) by kernel_rfl) rfl (by decide) (by decide)
@[simp] theorem Tryz.ixL139 {xs : List (List V)} {k : IntKind} {i : Int} : indexAddrV Tryz.prog 139 (.lst xs) (.int k i) = idxL 1 xs i := idxL_eq (show Tryz.prog.underlying 139 = some (.slice 22) by kernel_rfl) (show szOf Tryz.prog 22 = some 1 by kernel_rfl)
@[simp] theorem Tryz.ixS139 {b off len cap c : Nat} {k : IntKind} {i : Int} : indexAddrV Tryz.prog 139 (.sl b off len cap c) (.int k i) = idxS 1 b off len c i := idxS_eq (show Tryz.prog.underlying 139 = some (.slice 22) by kernel_rfl) (show szOf Tryz.prog 22 = some 1 by kernel_rfl)
@[simp] theorem Tryz.lnL139 {xs : List (List V)} : lenV Tryz.prog 139 (.lst xs) = some (.int .i64 xs.length) := lenL_eq (show Tryz.prog.underlying 139 = some (.slice 22) by kernel_rfl)
@[simp] theorem Tryz.lnS139 {b off len cap k : Nat} : lenV Tryz.prog 139 (.sl b off len cap k) = some (.int .i64 len) := lenS_eq (show Tryz.prog.underlying 139 = some (.slice 22) by kernel_rfl)
@[simp] theorem Tryz.lnN139 : lenV Tryz.prog 139 .nils = some (.int .i64 0) := lenN_eq (show Tryz.prog.underlying 139 = some (.slice 22) by kernel_rfl)
@[simp] theorem Tryz.ap139 {d x : V} : appendV Tryz.prog cfg h 139 139 d x = appS cfg h 1 24 d (srcCells h 1 x) := appS_eq (show Tryz.prog.underlying 139 = some (.slice 22) by kernel_rfl) (show szOf Tryz.prog 22 = some 1 by kernel_rfl) (by kernel_rfl) (by kernel_rfl) (by decide)
@[simp] theorem Tryz.bs139 {len : Nat} {vs : List V} : buildSliceV Tryz.prog h 139 len vs = (cellsAll 1 vs).bind fun cs => if vs.length = len && decide (len * 1 ≤ 16777216) then some (.sl h.length 0 len len 1, h ++ [some cs]) else none := buildSlice_eq (show Tryz.prog.underlying 139 = some (.slice 22) by kernel_rfl) (show szOf Tryz.prog 22 = some 1 by kernel_rfl) (by kernel_rfl) (by decide)
@[simp] theorem Tryz.pt154 {cs : List V} {off : Nat} : part Tryz.prog 154 cs off = if off + 308 ≤ cs.length then some (.agg ((cs.drop off).take 308)) else none := part_agg (by kernel_rfl) (by kernel_rfl)
@[simp] theorem Tryz.st154 {b off : Nat} {v : V} : storeV Tryz.prog cfg h 154 (.ptr b off) v = stv cfg h b off 308 (cellsOf v) := store_eq (by kernel_rfl)
@[simp] theorem Tryz.ixL157 {xs : List (List V)} {k : IntKind} {i : Int} : indexAddrV Tryz.prog 157 (.lst xs) (.int k i) = idxL 7 xs i := idxL_eq (show Tryz.prog.underlying 157 = some (.slice 115) by kernel_rfl) (show szOf Tryz.prog 115 = some 7 by kernel_rfl)
@[simp] theorem Tryz.ixS157 {b off len cap c : Nat} {k : IntKind} {i : Int} : indexAddrV Tryz.prog 157 (.sl b off len cap c) (.int k i) = idxS 7 b off len c i := idxS_eq (show Tryz.prog.underlying 157 = some (.slice 115) by kernel_rfl) (show szOf Tryz.prog 115 = some 7 by kernel_rfl)
@[simp] theorem Tryz.lnL157 {xs : List (List V)} : lenV Tryz.prog 157 (.lst xs) = some (.int .i64 xs.length) := lenL_eq (show Tryz.prog.underlying 157 = some (.slice 115) by kernel_rfl)
@[simp] theorem Tryz.lnS157 {b off len cap k : Nat} : lenV Tryz.prog 157 (.sl b off len cap k) = some (.int .i64 len) := lenS_eq (show Tryz.prog.underlying 157 = some (.slice 115) by kernel_rfl)
@[simp] theorem Tryz.lnN157 : lenV Tryz.prog 157 .nils = some (.int .i64 0) := lenN_eq (show Tryz.prog.underlying 157 = some (.slice 115) by kernel_rfl)
@[simp] theorem Tryz.pt158 {cs : List V} {off : Nat} : part Tryz.prog 158 cs off = if off + 287 ≤ cs.length then some (.agg ((cs.drop off).take 287)) else none := part_agg (by kernel_rfl) (by kernel_rfl)
@[simp] theorem Tryz.st158 {b off : Nat} {v : V} : storeV Tryz.prog cfg h 158 (.ptr b off) v = stv cfg h b off 287 (cellsOf v) := store_eq (by kernel_rfl)
@[simp] theorem Tryz.pt160 {cs : List V} {off : Nat} : part Tryz.prog 160 cs off = slot cs off := part_leaf (by kernel_rfl)
@[simp] theorem Tryz.st160 {b off : Nat} {v : V} : storeV Tryz.prog cfg h 160 (.ptr b off) v = stv cfg h b off 1 (cellsOf v) := store_eq (by kernel_rfl)
@[simp] theorem Tryz.zr160 : zeroOf Tryz.prog 160 = some (.int .u64 0) := by kernel_rfl
@[simp] theorem Tryz.pt167 {cs : List V} {off : Nat} : part Tryz.prog 167 cs off = if off + 5 ≤ cs.length then some (.agg ((cs.drop off).take 5)) else none := part_agg (by kernel_rfl) (by kernel_rfl)
@[simp] theorem Tryz.st167 {b off : Nat} {v : V} : storeV Tryz.prog cfg h 167 (.ptr b off) v = stv cfg h b off 5 (cellsOf v) := store_eq (by kernel_rfl)
@[simp] theorem Tryz.zr167 : zeroOf Tryz.prog 167 = some (.agg [(.int .i64 0), (.int .i64 0), (.int .i64 0), (.int .i64 0), (.int .i64 0)]) := by kernel_rfl
@[simp] theorem Tryz.fa167x0 {b off : Nat} : fieldAddrV Tryz.prog 167 (.ptr b off) 0 = some (.ptr b off) := by kernel_rfl
@[simp] theorem Tryz.fl167x0 {cs : List V} {off : Nat} : fieldAddrV Tryz.prog 167 (.lptr cs off) 0 = some (.lptr cs off) := by kernel_rfl
@[simp] theorem Tryz.fv167x0 {cs : List V} : fieldV Tryz.prog 167 (.agg cs) 0 = part Tryz.prog 3 cs 0 := by kernel_rfl
@[simp] theorem Tryz.fa167x1 {b off : Nat} : fieldAddrV Tryz.prog 167 (.ptr b off) 1 = some (.ptr b (off + 1)) := by kernel_rfl
@[simp] theorem Tryz.fl167x1 {cs : List V} {off : Nat} : fieldAddrV Tryz.prog 167 (.lptr cs off) 1 = some (.lptr cs (off + 1)) := by kernel_rfl
@[simp] theorem Tryz.fv167x1 {cs : List V} : fieldV Tryz.prog 167 (.agg cs) 1 = part Tryz.prog 3 cs 1 := by kernel_rfl
@[simp] theorem Tryz.fa167x2 {b off : Nat} : fieldAddrV Tryz.prog 167 (.ptr b off) 2 = some (.ptr b (off + 2)) := by kernel_rfl
@[simp] theorem Tryz.fl167x2 {cs : List V} {off : Nat} : fieldAddrV Tryz.prog 167 (.lptr cs off) 2 = some (.lptr cs (off + 2)) := by kernel_rfl
@[simp] theorem Tryz.fv167x2 {cs : List V} : fieldV Tryz.prog 167 (.agg cs) 2 = part Tryz.prog 3 cs 2 := by kernel_rfl
@[simp] theorem Tryz.fa167x3 {b off : Nat} : fieldAddrV Tryz.prog 167 (.ptr b off) 3 = some (.ptr b (off + 3)) := by kernel_rfl
@[simp] theorem Tryz.fl167x3 {cs : List V} {off : Nat} : fieldAddrV Tryz.prog 167 (.lptr cs off) 3 = some (.lptr cs (off + 3)) := by kernel_rfl
@[simp] theorem Tryz.fv167x3 {cs : List V} : fieldV Tryz.prog 167 (.agg cs) 3 = part Tryz.prog 3 cs 3 := by kernel_rfl
@[simp] theorem Tryz.fa167x4 {b off : Nat} : fieldAddrV Tryz.prog 167 (.ptr b off) 4 = some (.ptr b (off + 4)) := by kernel_rfl
@[simp] theorem Tryz.fl167x4 {cs : List V} {off : Nat} : fieldAddrV Tryz.prog 167 (.lptr cs off) 4 = some (.lptr cs (off + 4)) := by kernel_rfl
@[simp] theorem Tryz.fv167x4 {cs : List V} : fieldV Tryz.prog 167 (.agg cs) 4 = part Tryz.prog 3 cs 4 := by kernel_rfl
def Tryz.pl167 : Nat → Option (Nat × Nat)
  | 0 => some (0, 1)
  | 1 => some (1, 1)
  | 2 => some (2, 1)
  | 3 => some (3, 1)
  | 4 => some (4, 1)
  | _ => none
@[simp] theorem Tryz.pl167x0 : Tryz.pl167 0 = some (0, 1) := rfl
@[simp] theorem Tryz.pl167x1 : Tryz.pl167 1 = some (1, 1) := rfl
@[simp] theorem Tryz.pl167x2 : Tryz.pl167 2 = some (2, 1) := rfl
@[simp] theorem Tryz.pl167x3 : Tryz.pl167 3 = some (3, 1) := rfl
@[simp] theorem Tryz.pl167x4 : Tryz.pl167 4 = some (4, 1) := rfl
@[simp] theorem Tryz.bd167 {ps : List (Nat × V)} : buildV Tryz.prog 167 ps = (fillV Tryz.pl167 [(.int .i64 0), (.int .i64 0), (.int .i64 0), (.int .i64 0), (.int .i64 0)] ps).map .agg := build_eq (pl := Tryz.pl167) Tryz.zr167 Tryz.underlying167 (by kernel_rfl) (fun i => by match i with | 0 => (show _ = _; kernel_rfl) | 1 => (show _ = _; kernel_rfl) | 2 => (show _ = _; kernel_rfl) | 3 => (show _ = _; kernel_rfl) | 4 => (show _ = _; kernel_rfl) | _ + 5 => (show _ = _; kernel_rfl))
@[simp] theorem Tryz.pt170 {cs : List V} {off : Nat} : part Tryz.prog 170 cs off = if off + 3 ≤ cs.length then some (.agg ((cs.drop off).take 3)) else none := part_agg (by kernel_rfl) (by kernel_rfl)
@[simp] theorem Tryz.st170 {b off : Nat} {v : V} : storeV Tryz.prog cfg h 170 (.ptr b off) v = stv cfg h b off 3 (cellsOf v) := store_eq (by kernel_rfl)
@[simp] theorem Tryz.zr170 : zeroOf Tryz.prog 170 = some (.agg [(.int .i64 0), (.int .i64 0), (.bool false)]) := by kernel_rfl
@[simp] theorem Tryz.fa170x0 {b off : Nat} : fieldAddrV Tryz.prog 170 (.ptr b off) 0 = some (.ptr b off) := by kernel_rfl
@[simp] theorem Tryz.fl170x0 {cs : List V} {off : Nat} : fieldAddrV Tryz.prog 170 (.lptr cs off) 0 = some (.lptr cs off) := by kernel_rfl
@[simp] theorem Tryz.fa170x1 {b off : Nat} : fieldAddrV Tryz.prog 170 (.ptr b off) 1 = some (.ptr b (off + 1)) := by kernel_rfl
@[simp] theorem Tryz.fl170x1 {cs : List V} {off : Nat} : fieldAddrV Tryz.prog 170 (.lptr cs off) 1 = some (.lptr cs (off + 1)) := by kernel_rfl
@[simp] theorem Tryz.fa170x2 {b off : Nat} : fieldAddrV Tryz.prog 170 (.ptr b off) 2 = some (.ptr b (off + 2)) := by kernel_rfl
@[simp] theorem Tryz.fl170x2 {cs : List V} {off : Nat} : fieldAddrV Tryz.prog 170 (.lptr cs off) 2 = some (.lptr cs (off + 2)) := by kernel_rfl
def Tryz.pl170 : Nat → Option (Nat × Nat)
  | 0 => some (0, 1)
  | 1 => some (1, 1)
  | 2 => some (2, 1)
  | _ => none
@[simp] theorem Tryz.pl170x0 : Tryz.pl170 0 = some (0, 1) := rfl
@[simp] theorem Tryz.pl170x1 : Tryz.pl170 1 = some (1, 1) := rfl
@[simp] theorem Tryz.pl170x2 : Tryz.pl170 2 = some (2, 1) := rfl
@[simp] theorem Tryz.bd170 {ps : List (Nat × V)} : buildV Tryz.prog 170 ps = (fillV Tryz.pl170 [(.int .i64 0), (.int .i64 0), (.bool false)] ps).map .agg := build_eq (pl := Tryz.pl170) Tryz.zr170 Tryz.underlying170 (by kernel_rfl) (fun i => by match i with | 0 => (show _ = _; kernel_rfl) | 1 => (show _ = _; kernel_rfl) | 2 => (show _ = _; kernel_rfl) | _ + 3 => (show _ = _; kernel_rfl))
@[simp] theorem Tryz.ixL171 {xs : List (List V)} {k : IntKind} {i : Int} : indexAddrV Tryz.prog 171 (.lst xs) (.int k i) = idxL 3 xs i := idxL_eq (show Tryz.prog.underlying 171 = some (.slice 170) by kernel_rfl) (show szOf Tryz.prog 170 = some 3 by kernel_rfl)
@[simp] theorem Tryz.ixS171 {b off len cap c : Nat} {k : IntKind} {i : Int} : indexAddrV Tryz.prog 171 (.sl b off len cap c) (.int k i) = idxS 3 b off len c i := idxS_eq (show Tryz.prog.underlying 171 = some (.slice 170) by kernel_rfl) (show szOf Tryz.prog 170 = some 3 by kernel_rfl)
@[simp] theorem Tryz.slL171 {xs : List (List V)} {lo hi : Option (Option V)} : sliceV Tryz.prog h 171 (.lst xs) lo hi = slcL 3 xs (boundV 0 lo) (boundV xs.length hi) := slcL_eq (show Tryz.prog.underlying 171 = some (.slice 170) by kernel_rfl) (show szOf Tryz.prog 170 = some 3 by kernel_rfl)
@[simp] theorem Tryz.slS171 {b off len cap k : Nat} {lo hi : Option (Option V)} : sliceV Tryz.prog h 171 (.sl b off len cap k) lo hi = slcS 3 b off len cap k (boundV 0 lo) (boundV len hi) := slcS_eq (show Tryz.prog.underlying 171 = some (.slice 170) by kernel_rfl) (show szOf Tryz.prog 170 = some 3 by kernel_rfl)
@[simp] theorem Tryz.slN171 {lo hi : Option (Option V)} : sliceV Tryz.prog h 171 .nils lo hi = slcN (boundV 0 lo) (boundV 0 hi) := slcN_eq (show Tryz.prog.underlying 171 = some (.slice 170) by kernel_rfl) (show szOf Tryz.prog 170 = some 3 by kernel_rfl)
@[simp] theorem Tryz.lnL171 {xs : List (List V)} : lenV Tryz.prog 171 (.lst xs) = some (.int .i64 xs.length) := lenL_eq (show Tryz.prog.underlying 171 = some (.slice 170) by kernel_rfl)
@[simp] theorem Tryz.lnS171 {b off len cap k : Nat} : lenV Tryz.prog 171 (.sl b off len cap k) = some (.int .i64 len) := lenS_eq (show Tryz.prog.underlying 171 = some (.slice 170) by kernel_rfl)
@[simp] theorem Tryz.lnN171 : lenV Tryz.prog 171 .nils = some (.int .i64 0) := lenN_eq (show Tryz.prog.underlying 171 = some (.slice 170) by kernel_rfl)
@[simp] theorem Tryz.ap171 {d x : V} : appendV Tryz.prog cfg h 171 171 d x = appS cfg h 3 24 d (srcCells h 3 x) := appS_eq (show Tryz.prog.underlying 171 = some (.slice 170) by kernel_rfl) (show szOf Tryz.prog 170 = some 3 by kernel_rfl) (by kernel_rfl) (by kernel_rfl) (by decide)
@[simp] theorem Tryz.bs171 {len : Nat} {vs : List V} : buildSliceV Tryz.prog h 171 len vs = (cellsAll 3 vs).bind fun cs => if vs.length = len && decide (len * 3 ≤ 16777216) then some (.sl h.length 0 len len 3, h ++ [some cs]) else none := buildSlice_eq (show Tryz.prog.underlying 171 = some (.slice 170) by kernel_rfl) (show szOf Tryz.prog 170 = some 3 by kernel_rfl) (by kernel_rfl) (by decide)
@[simp] theorem Tryz.ixL173 {xs : List (List V)} {k : IntKind} {i : Int} : indexAddrV Tryz.prog 173 (.lst xs) (.int k i) = idxL 2 xs i := idxL_eq (show Tryz.prog.underlying 173 = some (.slice 175) by kernel_rfl) (show szOf Tryz.prog 175 = some 2 by kernel_rfl)
@[simp] theorem Tryz.ixS173 {b off len cap c : Nat} {k : IntKind} {i : Int} : indexAddrV Tryz.prog 173 (.sl b off len cap c) (.int k i) = idxS 2 b off len c i := idxS_eq (show Tryz.prog.underlying 173 = some (.slice 175) by kernel_rfl) (show szOf Tryz.prog 175 = some 2 by kernel_rfl)
@[simp] theorem Tryz.lnL173 {xs : List (List V)} : lenV Tryz.prog 173 (.lst xs) = some (.int .i64 xs.length) := lenL_eq (show Tryz.prog.underlying 173 = some (.slice 175) by kernel_rfl)
@[simp] theorem Tryz.lnS173 {b off len cap k : Nat} : lenV Tryz.prog 173 (.sl b off len cap k) = some (.int .i64 len) := lenS_eq (show Tryz.prog.underlying 173 = some (.slice 175) by kernel_rfl)
@[simp] theorem Tryz.lnN173 : lenV Tryz.prog 173 .nils = some (.int .i64 0) := lenN_eq (show Tryz.prog.underlying 173 = some (.slice 175) by kernel_rfl)
@[simp] theorem Tryz.ap173 {d x : V} : appendV Tryz.prog cfg h 173 173 d x = appS cfg h 2 16 d (srcCells h 2 x) := appS_eq (show Tryz.prog.underlying 173 = some (.slice 175) by kernel_rfl) (show szOf Tryz.prog 175 = some 2 by kernel_rfl) (by kernel_rfl) (by kernel_rfl) (by decide)
@[simp] theorem Tryz.bs173 {len : Nat} {vs : List V} : buildSliceV Tryz.prog h 173 len vs = (cellsAll 2 vs).bind fun cs => if vs.length = len && decide (len * 2 ≤ 16777216) then some (.sl h.length 0 len len 2, h ++ [some cs]) else none := buildSlice_eq (show Tryz.prog.underlying 173 = some (.slice 175) by kernel_rfl) (show szOf Tryz.prog 175 = some 2 by kernel_rfl) (by kernel_rfl) (by decide)
@[simp] theorem Tryz.pt175 {cs : List V} {off : Nat} : part Tryz.prog 175 cs off = if off + 2 ≤ cs.length then some (.agg ((cs.drop off).take 2)) else none := part_agg (by kernel_rfl) (by kernel_rfl)
@[simp] theorem Tryz.st175 {b off : Nat} {v : V} : storeV Tryz.prog cfg h 175 (.ptr b off) v = stv cfg h b off 2 (cellsOf v) := store_eq (by kernel_rfl)
@[simp] theorem Tryz.zr175 : zeroOf Tryz.prog 175 = some (.agg [(.int .i64 0), (.int .i64 0)]) := by kernel_rfl
@[simp] theorem Tryz.ixA175 {b off : Nat} {k : IntKind} {i : Int} : indexAddrV Tryz.prog 175 (.ptr b off) (.int k i) = if 0 ≤ i then (if i.toNat < 2 then some (.ptr b (off + i.toNat * 1)) else none) else none := idxA_eq (show Tryz.prog.underlying 175 = some (.array 2 3) by kernel_rfl) (show szOf Tryz.prog 3 = some 1 by kernel_rfl)
@[simp] theorem Tryz.ixB175 {cs : List V} {off : Nat} {k : IntKind} {i : Int} : indexAddrV Tryz.prog 175 (.lptr cs off) (.int k i) = if 0 ≤ i then (if i.toNat < 2 then some (.lptr cs (off + i.toNat * 1)) else none) else none := idxB_eq (show Tryz.prog.underlying 175 = some (.array 2 3) by kernel_rfl) (show szOf Tryz.prog 3 = some 1 by kernel_rfl)
@[simp] theorem Tryz.bd175 {ps : List (Nat × V)} : buildV Tryz.prog 175 ps = (fillV (fun i => some (i * 1, 1)) [(.int .i64 0), (.int .i64 0)] ps).map .agg := buildA_eq Tryz.zr175 (show Tryz.prog.underlying 175 = some (.array 2 3) by kernel_rfl) (show szOf Tryz.prog 3 = some 1 by kernel_rfl)
end
end Go.Ab
