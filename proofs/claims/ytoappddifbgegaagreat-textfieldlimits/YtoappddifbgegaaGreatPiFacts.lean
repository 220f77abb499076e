/- Facts on the types of the seat's program, each by the kernel. Printed by wip/tools/Facts.lean. -/
import Derived.Test.YtoappddifbgegaaGreatAbW3
import Derived.Test.YtoappddifbgegaaGreatProg
import Derived.KernelRfl
set_option linter.all false
namespace Go.Ab
open Go.Proofs
section
variable {cfg : Cfg} {h : Heap}
@[simp] theorem Tryz.pt3 {cs : List V} {off : Nat} : part Tryz.prog 3 cs off = slot cs off := part_leaf (by kernel_rfl)
@[simp] theorem Tryz.st3 {b off : Nat} {v : V} : storeV Tryz.prog cfg h 3 (.ptr b off) v = stv cfg h b off 1 (cellsOf v) := store_eq (by kernel_rfl)
@[simp] theorem Tryz.pt4 {cs : List V} {off : Nat} : part Tryz.prog 4 cs off = slot cs off := part_leaf (by kernel_rfl)
@[simp] theorem Tryz.st4 {b off : Nat} {v : V} : storeV Tryz.prog cfg h 4 (.ptr b off) v = stv cfg h b off 1 (cellsOf v) := store_eq (by kernel_rfl)
@[simp] theorem Tryz.pt5 {cs : List V} {off : Nat} : part Tryz.prog 5 cs off = slot cs off := part_leaf (by kernel_rfl)
@[simp] theorem Tryz.pt21 {cs : List V} {off : Nat} : part Tryz.prog 21 cs off = slot cs off := part_leaf (by kernel_rfl)
@[simp] theorem Tryz.st21 {b off : Nat} {v : V} : storeV Tryz.prog cfg h 21 (.ptr b off) v = stv cfg h b off 1 (cellsOf v) := store_eq (by kernel_rfl)
@[simp] theorem Tryz.pt23 {cs : List V} {off : Nat} : part Tryz.prog 23 cs off = if off + 9 ≤ cs.length then some (.agg ((cs.drop off).take 9)) else none := part_agg (by kernel_rfl) (by kernel_rfl)
@[simp] theorem Tryz.st23 {b off : Nat} {v : V} : storeV Tryz.prog cfg h 23 (.ptr b off) v = stv cfg h b off 9 (cellsOf v) := store_eq (by kernel_rfl)
@[simp] theorem Tryz.zr23 : zeroOf Tryz.prog 23 = some (.agg [(.bool false), (.bool false), (.int .i64 0), (.int .i64 0), (.int .i64 0), (.int .i64 0), (.int .i64 0), (.int .i64 0), (.int .i64 0)]) := by kernel_rfl
@[simp] theorem Tryz.fa23x0 {b off : Nat} : fieldAddrV Tryz.prog 23 (.ptr b off) 0 = some (.ptr b off) := by kernel_rfl
@[simp] theorem Tryz.fa23x1 {b off : Nat} : fieldAddrV Tryz.prog 23 (.ptr b off) 1 = some (.ptr b (off + 1)) := by kernel_rfl
@[simp] theorem Tryz.fa23x2 {b off : Nat} : fieldAddrV Tryz.prog 23 (.ptr b off) 2 = some (.ptr b (off + 2)) := by kernel_rfl
@[simp] theorem Tryz.fa23x3 {b off : Nat} : fieldAddrV Tryz.prog 23 (.ptr b off) 3 = some (.ptr b (off + 3)) := by kernel_rfl
@[simp] theorem Tryz.fa23x4 {b off : Nat} : fieldAddrV Tryz.prog 23 (.ptr b off) 4 = some (.ptr b (off + 4)) := by kernel_rfl
@[simp] theorem Tryz.fa23x5 {b off : Nat} : fieldAddrV Tryz.prog 23 (.ptr b off) 5 = some (.ptr b (off + 5)) := by kernel_rfl
@[simp] theorem Tryz.fa23x6 {b off : Nat} : fieldAddrV Tryz.prog 23 (.ptr b off) 6 = some (.ptr b (off + 6)) := by kernel_rfl
@[simp] theorem Tryz.fa23x7 {b off : Nat} : fieldAddrV Tryz.prog 23 (.ptr b off) 7 = some (.ptr b (off + 7)) := by kernel_rfl
@[simp] theorem Tryz.fa23x8 {b off : Nat} : fieldAddrV Tryz.prog 23 (.ptr b off) 8 = some (.ptr b (off + 8)) := by kernel_rfl
def Tryz.pl23 : Nat → Option (Nat × Nat)
  | 0 => some (0, 1)
  | 1 => some (1, 1)
  | 2 => some (2, 1)
  | 3 => some (3, 1)
  | 4 => some (4, 1)
  | 5 => some (5, 1)
  | 6 => some (6, 1)
  | 7 => some (7, 1)
  | 8 => some (8, 1)
  | _ => none
@[simp] theorem Tryz.pl23x0 : Tryz.pl23 0 = some (0, 1) := rfl
@[simp] theorem Tryz.pl23x1 : Tryz.pl23 1 = some (1, 1) := rfl
@[simp] theorem Tryz.pl23x2 : Tryz.pl23 2 = some (2, 1) := rfl
@[simp] theorem Tryz.pl23x3 : Tryz.pl23 3 = some (3, 1) := rfl
@[simp] theorem Tryz.pl23x4 : Tryz.pl23 4 = some (4, 1) := rfl
@[simp] theorem Tryz.pl23x5 : Tryz.pl23 5 = some (5, 1) := rfl
@[simp] theorem Tryz.pl23x6 : Tryz.pl23 6 = some (6, 1) := rfl
@[simp] theorem Tryz.pl23x7 : Tryz.pl23 7 = some (7, 1) := rfl
@[simp] theorem Tryz.pl23x8 : Tryz.pl23 8 = some (8, 1) := rfl
@[simp] theorem Tryz.pt24 {cs : List V} {off : Nat} : part Tryz.prog 24 cs off = slot cs off := part_leaf (by kernel_rfl)
@[simp] theorem Tryz.ixL24 {xs : List (List V)} {k : IntKind} {i : Int} : indexAddrV Tryz.prog 24 (.lst xs) (.int k i) = idxL 8 xs i := idxL_eq (show Tryz.prog.underlying 24 = some (.slice 43) by kernel_rfl) (show szOf Tryz.prog 43 = some 8 by kernel_rfl)
@[simp] theorem Tryz.lnL24 {xs : List (List V)} : lenV Tryz.prog 24 (.lst xs) = some (.int .i64 xs.length) := lenL_eq (show Tryz.prog.underlying 24 = some (.slice 43) by kernel_rfl)
@[simp] theorem Tryz.pt25 {cs : List V} {off : Nat} : part Tryz.prog 25 cs off = slot cs off := part_leaf (by kernel_rfl)
@[simp] theorem Tryz.st25 {b off : Nat} {v : V} : storeV Tryz.prog cfg h 25 (.ptr b off) v = stv cfg h b off 1 (cellsOf v) := store_eq (by kernel_rfl)
@[simp] theorem Tryz.ixL25 {xs : List (List V)} {k : IntKind} {i : Int} : indexAddrV Tryz.prog 25 (.lst xs) (.int k i) = idxL 1 xs i := idxL_eq (show Tryz.prog.underlying 25 = some (.slice 21) by kernel_rfl) (show szOf Tryz.prog 21 = some 1 by kernel_rfl)
@[simp] theorem Tryz.ixS25 {b off len cap c : Nat} {k : IntKind} {i : Int} : indexAddrV Tryz.prog 25 (.sl b off len cap c) (.int k i) = idxS 1 b off len c i := idxS_eq (show Tryz.prog.underlying 25 = some (.slice 21) by kernel_rfl) (show szOf Tryz.prog 21 = some 1 by kernel_rfl)
@[simp] theorem Tryz.slL25 {xs : List (List V)} {lo hi : Option (Option V)} : sliceV Tryz.prog h 25 (.lst xs) lo hi = slcL 1 xs (boundV 0 lo) (boundV xs.length hi) := slcL_eq (show Tryz.prog.underlying 25 = some (.slice 21) by kernel_rfl) (show szOf Tryz.prog 21 = some 1 by kernel_rfl)
@[simp] theorem Tryz.lnL25 {xs : List (List V)} : lenV Tryz.prog 25 (.lst xs) = some (.int .i64 xs.length) := lenL_eq (show Tryz.prog.underlying 25 = some (.slice 21) by kernel_rfl)
@[simp] theorem Tryz.lnS25 {b off len cap k : Nat} : lenV Tryz.prog 25 (.sl b off len cap k) = some (.int .i64 len) := lenS_eq (show Tryz.prog.underlying 25 = some (.slice 21) by kernel_rfl)
@[simp] theorem Tryz.lnN25 : lenV Tryz.prog 25 .nils = some (.int .i64 0) := lenN_eq (show Tryz.prog.underlying 25 = some (.slice 21) by kernel_rfl)
@[simp] theorem Tryz.ap25 {d x : V} : appendV Tryz.prog cfg h 25 25 d x = appS cfg h 1 4 d (srcCells h 1 x) := appS_eq (show Tryz.prog.underlying 25 = some (.slice 21) by kernel_rfl) (show szOf Tryz.prog 21 = some 1 by kernel_rfl) (by kernel_rfl) (by kernel_rfl) (by decide)
@[simp] theorem Tryz.bs25 {len : Nat} {vs : List V} : buildSliceV Tryz.prog h 25 len vs = (cellsAll 1 vs).bind fun cs => if vs.length = len && decide (len * 1 ≤ 16777216) then some (.sl h.length 0 len len 1, h ++ [some cs]) else none := buildSlice_eq (show Tryz.prog.underlying 25 = some (.slice 21) by kernel_rfl) (show szOf Tryz.prog 21 = some 1 by kernel_rfl) (by kernel_rfl) (by decide)
@[simp] theorem Tryz.pt26 {cs : List V} {off : Nat} : part Tryz.prog 26 cs off = slot cs off := part_leaf (by kernel_rfl)
@[simp] theorem Tryz.st26 {b off : Nat} {v : V} : storeV Tryz.prog cfg h 26 (.ptr b off) v = stv cfg h b off 1 (cellsOf v) := store_eq (by kernel_rfl)
@[simp] theorem Tryz.ixL26 {xs : List (List V)} {k : IntKind} {i : Int} : indexAddrV Tryz.prog 26 (.lst xs) (.int k i) = idxL 2 xs i := idxL_eq (show Tryz.prog.underlying 26 = some (.slice 124) by kernel_rfl) (show szOf Tryz.prog 124 = some 2 by kernel_rfl)
@[simp] theorem Tryz.lnL26 {xs : List (List V)} : lenV Tryz.prog 26 (.lst xs) = some (.int .i64 xs.length) := lenL_eq (show Tryz.prog.underlying 26 = some (.slice 124) by kernel_rfl)
@[simp] theorem Tryz.lnN26 : lenV Tryz.prog 26 .nils = some (.int .i64 0) := lenN_eq (show Tryz.prog.underlying 26 = some (.slice 124) by kernel_rfl)
@[simp] theorem Tryz.ap26 {d x : V} : appendV Tryz.prog cfg h 26 26 d x = appS cfg h 2 16 d (srcCells h 2 x) := appS_eq (show Tryz.prog.underlying 26 = some (.slice 124) by kernel_rfl) (show szOf Tryz.prog 124 = some 2 by kernel_rfl) (by kernel_rfl) (by kernel_rfl) (by decide)
@[simp] theorem Tryz.bs26 {len : Nat} {vs : List V} : buildSliceV Tryz.prog h 26 len vs = (cellsAll 2 vs).bind fun cs => if vs.length = len && decide (len * 2 ≤ 16777216) then some (.sl h.length 0 len len 2, h ++ [some cs]) else none := buildSlice_eq (show Tryz.prog.underlying 26 = some (.slice 124) by kernel_rfl) (show szOf Tryz.prog 124 = some 2 by kernel_rfl) (by kernel_rfl) (by decide)
@[simp] theorem Tryz.pt28 {cs : List V} {off : Nat} : part Tryz.prog 28 cs off = if off + 2 ≤ cs.length then some (.agg ((cs.drop off).take 2)) else none := part_agg (by kernel_rfl) (by kernel_rfl)
@[simp] theorem Tryz.st28 {b off : Nat} {v : V} : storeV Tryz.prog cfg h 28 (.ptr b off) v = stv cfg h b off 2 (cellsOf v) := store_eq (by kernel_rfl)
@[simp] theorem Tryz.zr28 : zeroOf Tryz.prog 28 = some (.agg [.nils, .nils]) := by kernel_rfl
@[simp] theorem Tryz.fa28x0 {b off : Nat} : fieldAddrV Tryz.prog 28 (.ptr b off) 0 = some (.ptr b off) := by kernel_rfl
@[simp] theorem Tryz.fa28x1 {b off : Nat} : fieldAddrV Tryz.prog 28 (.ptr b off) 1 = some (.ptr b (off + 1)) := by kernel_rfl
def Tryz.pl28 : Nat → Option (Nat × Nat)
  | 0 => some (0, 1)
  | 1 => some (1, 1)
  | _ => none
@[simp] theorem Tryz.pl28x0 : Tryz.pl28 0 = some (0, 1) := rfl
@[simp] theorem Tryz.pl28x1 : Tryz.pl28 1 = some (1, 1) := rfl
@[simp] theorem Tryz.bd28 {ps : List (Nat × V)} : buildV Tryz.prog 28 ps = (fillV Tryz.pl28 [.nils, .nils] ps).map .agg := build_eq (pl := Tryz.pl28) Tryz.zr28 Tryz.underlying28 (by kernel_rfl) (fun i => by match i with | 0 => (show _ = _; kernel_rfl) | 1 => (show _ = _; kernel_rfl) | _ + 2 => (show _ = _; kernel_rfl))
@[simp] theorem Tryz.pt30 {cs : List V} {off : Nat} : part Tryz.prog 30 cs off = if off + 3 ≤ cs.length then some (.agg ((cs.drop off).take 3)) else none := part_agg (by kernel_rfl) (by kernel_rfl)
@[simp] theorem Tryz.st30 {b off : Nat} {v : V} : storeV Tryz.prog cfg h 30 (.ptr b off) v = stv cfg h b off 3 (cellsOf v) := store_eq (by kernel_rfl)
@[simp] theorem Tryz.zr30 : zeroOf Tryz.prog 30 = some (.agg [(.int .i64 0), (.int .i64 0), (.bool false)]) := by kernel_rfl
@[simp] theorem Tryz.fa30x0 {b off : Nat} : fieldAddrV Tryz.prog 30 (.ptr b off) 0 = some (.ptr b off) := by kernel_rfl
@[simp] theorem Tryz.fa30x1 {b off : Nat} : fieldAddrV Tryz.prog 30 (.ptr b off) 1 = some (.ptr b (off + 1)) := by kernel_rfl
def Tryz.pl30 : Nat → Option (Nat × Nat)
  | 0 => some (0, 1)
  | 1 => some (1, 1)
  | 2 => some (2, 1)
  | _ => none
@[simp] theorem Tryz.pl30x0 : Tryz.pl30 0 = some (0, 1) := rfl
@[simp] theorem Tryz.pl30x1 : Tryz.pl30 1 = some (1, 1) := rfl
@[simp] theorem Tryz.pl30x2 : Tryz.pl30 2 = some (2, 1) := rfl
@[simp] theorem Tryz.bd30 {ps : List (Nat × V)} : buildV Tryz.prog 30 ps = (fillV Tryz.pl30 [(.int .i64 0), (.int .i64 0), (.bool false)] ps).map .agg := build_eq (pl := Tryz.pl30) Tryz.zr30 Tryz.underlying30 (by kernel_rfl) (fun i => by match i with | 0 => (show _ = _; kernel_rfl) | 1 => (show _ = _; kernel_rfl) | 2 => (show _ = _; kernel_rfl) | _ + 3 => (show _ = _; kernel_rfl))
@[simp] theorem Tryz.pt33 {cs : List V} {off : Nat} : part Tryz.prog 33 cs off = if off + 8 ≤ cs.length then some (.agg ((cs.drop off).take 8)) else none := part_agg (by kernel_rfl) (by kernel_rfl)
@[simp] theorem Tryz.fa33x0 {b off : Nat} : fieldAddrV Tryz.prog 33 (.ptr b off) 0 = some (.ptr b off) := by kernel_rfl
@[simp] theorem Tryz.fa33x1 {b off : Nat} : fieldAddrV Tryz.prog 33 (.ptr b off) 1 = some (.ptr b (off + 1)) := by kernel_rfl
@[simp] theorem Tryz.fa33x2 {b off : Nat} : fieldAddrV Tryz.prog 33 (.ptr b off) 2 = some (.ptr b (off + 2)) := by kernel_rfl
@[simp] theorem Tryz.fa33x3 {b off : Nat} : fieldAddrV Tryz.prog 33 (.ptr b off) 3 = some (.ptr b (off + 3)) := by kernel_rfl
@[simp] theorem Tryz.fa33x4 {b off : Nat} : fieldAddrV Tryz.prog 33 (.ptr b off) 4 = some (.ptr b (off + 5)) := by kernel_rfl
def Tryz.pl33 : Nat → Option (Nat × Nat)
  | 0 => some (0, 1)
  | 1 => some (1, 1)
  | 2 => some (2, 1)
  | 3 => some (3, 2)
  | 4 => some (5, 1)
  | 5 => some (6, 1)
  | 6 => some (7, 1)
  | _ => none
@[simp] theorem Tryz.pl33x0 : Tryz.pl33 0 = some (0, 1) := rfl
@[simp] theorem Tryz.pl33x1 : Tryz.pl33 1 = some (1, 1) := rfl
@[simp] theorem Tryz.pl33x2 : Tryz.pl33 2 = some (2, 1) := rfl
@[simp] theorem Tryz.pl33x3 : Tryz.pl33 3 = some (3, 2) := rfl
@[simp] theorem Tryz.pl33x4 : Tryz.pl33 4 = some (5, 1) := rfl
@[simp] theorem Tryz.pl33x5 : Tryz.pl33 5 = some (6, 1) := rfl
@[simp] theorem Tryz.pl33x6 : Tryz.pl33 6 = some (7, 1) := rfl
@[simp] theorem Tryz.pt34 {cs : List V} {off : Nat} : part Tryz.prog 34 cs off = slot cs off := part_leaf (by kernel_rfl)
@[simp] theorem Tryz.st34 {b off : Nat} {v : V} : storeV Tryz.prog cfg h 34 (.ptr b off) v = stv cfg h b off 1 (cellsOf v) := store_eq (by kernel_rfl)
@[simp] theorem Tryz.lnL34 {xs : List (List V)} : lenV Tryz.prog 34 (.lst xs) = some (.int .i64 xs.length) := lenL_eq (show Tryz.prog.underlying 34 = some (.slice 172) by kernel_rfl)
@[simp] theorem Tryz.lnS34 {b off len cap k : Nat} : lenV Tryz.prog 34 (.sl b off len cap k) = some (.int .i64 len) := lenS_eq (show Tryz.prog.underlying 34 = some (.slice 172) by kernel_rfl)
@[simp] theorem Tryz.lnN34 : lenV Tryz.prog 34 .nils = some (.int .i64 0) := lenN_eq (show Tryz.prog.underlying 34 = some (.slice 172) by kernel_rfl)
@[simp] theorem Tryz.ap34 {d x : V} : appendV Tryz.prog cfg h 34 34 d x = appS cfg h 3 40 d (srcCells h 3 x) := appS_eq (show Tryz.prog.underlying 34 = some (.slice 172) by kernel_rfl) (show szOf Tryz.prog 172 = some 3 by kernel_rfl) (by kernel_rfl) (by kernel_rfl) (by decide)
@[simp] theorem Tryz.bs34 {len : Nat} {vs : List V} : buildSliceV Tryz.prog h 34 len vs = (cellsAll 3 vs).bind fun cs => if vs.length = len && decide (len * 3 ≤ 16777216) then some (.sl h.length 0 len len 3, h ++ [some cs]) else none := buildSlice_eq (show Tryz.prog.underlying 34 = some (.slice 172) by kernel_rfl) (show szOf Tryz.prog 172 = some 3 by kernel_rfl) (by kernel_rfl) (by decide)
@[simp] theorem Tryz.pt36 {cs : List V} {off : Nat} : part Tryz.prog 36 cs off = if off + 4 ≤ cs.length then some (.agg ((cs.drop off).take 4)) else none := part_agg (by kernel_rfl) (by kernel_rfl)
@[simp] theorem Tryz.st36 {b off : Nat} {v : V} : storeV Tryz.prog cfg h 36 (.ptr b off) v = stv cfg h b off 4 (cellsOf v) := store_eq (by kernel_rfl)
@[simp] theorem Tryz.zr36 : zeroOf Tryz.prog 36 = some (.agg [.nils, .nils, (.bool false), (.int .i64 0)]) := by kernel_rfl
@[simp] theorem Tryz.fa36x0 {b off : Nat} : fieldAddrV Tryz.prog 36 (.ptr b off) 0 = some (.ptr b off) := by kernel_rfl
@[simp] theorem Tryz.fa36x1 {b off : Nat} : fieldAddrV Tryz.prog 36 (.ptr b off) 1 = some (.ptr b (off + 1)) := by kernel_rfl
@[simp] theorem Tryz.fa36x2 {b off : Nat} : fieldAddrV Tryz.prog 36 (.ptr b off) 2 = some (.ptr b (off + 2)) := by kernel_rfl
@[simp] theorem Tryz.fa36x3 {b off : Nat} : fieldAddrV Tryz.prog 36 (.ptr b off) 3 = some (.ptr b (off + 3)) := by kernel_rfl
def Tryz.pl36 : Nat → Option (Nat × Nat)
  | 0 => some (0, 1)
  | 1 => some (1, 1)
  | 2 => some (2, 1)
  | 3 => some (3, 1)
  | _ => none
@[simp] theorem Tryz.pl36x0 : Tryz.pl36 0 = some (0, 1) := rfl
@[simp] theorem Tryz.pl36x1 : Tryz.pl36 1 = some (1, 1) := rfl
@[simp] theorem Tryz.pl36x2 : Tryz.pl36 2 = some (2, 1) := rfl
@[simp] theorem Tryz.pl36x3 : Tryz.pl36 3 = some (3, 1) := rfl
@[simp] theorem Tryz.pt38 {cs : List V} {off : Nat} : part Tryz.prog 38 cs off = if off + 19 ≤ cs.length then some (.agg ((cs.drop off).take 19)) else none := part_agg (by kernel_rfl) (by kernel_rfl)
@[simp] theorem Tryz.st38 {b off : Nat} {v : V} : storeV Tryz.prog cfg h 38 (.ptr b off) v = stv cfg h b off 19 (cellsOf v) := store_eq (by kernel_rfl)
@[simp] theorem Tryz.zr38 : zeroOf Tryz.prog 38 = some (.agg [.nils, .nils, (.int .i64 0), (.int .i64 0), (.bool false), (.bool false), (.int .i64 0), (.int .i64 0), .nils, .nils, (.int .i64 0), (.int .i64 0), .nils, .nils, .nils, (.bool false), (.int .i64 0), (.int .i64 0), (.int .i64 0)]) := by kernel_rfl
@[simp] theorem Tryz.fa38x0 {b off : Nat} : fieldAddrV Tryz.prog 38 (.ptr b off) 0 = some (.ptr b off) := by kernel_rfl
@[simp] theorem Tryz.fa38x1 {b off : Nat} : fieldAddrV Tryz.prog 38 (.ptr b off) 1 = some (.ptr b (off + 2)) := by kernel_rfl
@[simp] theorem Tryz.fa38x2 {b off : Nat} : fieldAddrV Tryz.prog 38 (.ptr b off) 2 = some (.ptr b (off + 5)) := by kernel_rfl
@[simp] theorem Tryz.fa38x3 {b off : Nat} : fieldAddrV Tryz.prog 38 (.ptr b off) 3 = some (.ptr b (off + 13)) := by kernel_rfl
@[simp] theorem Tryz.fa38x4 {b off : Nat} : fieldAddrV Tryz.prog 38 (.ptr b off) 4 = some (.ptr b (off + 17)) := by kernel_rfl
@[simp] theorem Tryz.fa38x5 {b off : Nat} : fieldAddrV Tryz.prog 38 (.ptr b off) 5 = some (.ptr b (off + 18)) := by kernel_rfl
def Tryz.pl38 : Nat → Option (Nat × Nat)
  | 0 => some (0, 2)
  | 1 => some (2, 3)
  | 2 => some (5, 8)
  | 3 => some (13, 4)
  | 4 => some (17, 1)
  | 5 => some (18, 1)
  | _ => none
@[simp] theorem Tryz.pl38x0 : Tryz.pl38 0 = some (0, 2) := rfl
@[simp] theorem Tryz.pl38x1 : Tryz.pl38 1 = some (2, 3) := rfl
@[simp] theorem Tryz.pl38x2 : Tryz.pl38 2 = some (5, 8) := rfl
@[simp] theorem Tryz.pl38x3 : Tryz.pl38 3 = some (13, 4) := rfl
@[simp] theorem Tryz.pl38x4 : Tryz.pl38 4 = some (17, 1) := rfl
@[simp] theorem Tryz.pl38x5 : Tryz.pl38 5 = some (18, 1) := rfl
@[simp] theorem Tryz.bd38 {ps : List (Nat × V)} : buildV Tryz.prog 38 ps = (fillV Tryz.pl38 [.nils, .nils, (.int .i64 0), (.int .i64 0), (.bool false), (.bool false), (.int .i64 0), (.int .i64 0), .nils, .nils, (.int .i64 0), (.int .i64 0), .nils, .nils, .nils, (.bool false), (.int .i64 0), (.int .i64 0), (.int .i64 0)] ps).map .agg := build_eq (pl := Tryz.pl38) Tryz.zr38 Tryz.underlying38 (by kernel_rfl) (fun i => by match i with | 0 => (show _ = _; kernel_rfl) | 1 => (show _ = _; kernel_rfl) | 2 => (show _ = _; kernel_rfl) | 3 => (show _ = _; kernel_rfl) | 4 => (show _ = _; kernel_rfl) | 5 => (show _ = _; kernel_rfl) | _ + 6 => (show _ = _; kernel_rfl))
@[simp] theorem Tryz.pt39 {cs : List V} {off : Nat} : part Tryz.prog 39 cs off = slot cs off := part_leaf (by kernel_rfl)
@[simp] theorem Tryz.ixL39 {xs : List (List V)} {k : IntKind} {i : Int} : indexAddrV Tryz.prog 39 (.lst xs) (.int k i) = idxL 3 xs i := idxL_eq (show Tryz.prog.underlying 39 = some (.slice 112) by kernel_rfl) (show szOf Tryz.prog 112 = some 3 by kernel_rfl)
@[simp] theorem Tryz.lnL39 {xs : List (List V)} : lenV Tryz.prog 39 (.lst xs) = some (.int .i64 xs.length) := lenL_eq (show Tryz.prog.underlying 39 = some (.slice 112) by kernel_rfl)
@[simp] theorem Tryz.pt40 {cs : List V} {off : Nat} : part Tryz.prog 40 cs off = slot cs off := part_leaf (by kernel_rfl)
@[simp] theorem Tryz.ixL40 {xs : List (List V)} {k : IntKind} {i : Int} : indexAddrV Tryz.prog 40 (.lst xs) (.int k i) = idxL 3 xs i := idxL_eq (show Tryz.prog.underlying 40 = some (.slice 114) by kernel_rfl) (show szOf Tryz.prog 114 = some 3 by kernel_rfl)
@[simp] theorem Tryz.lnL40 {xs : List (List V)} : lenV Tryz.prog 40 (.lst xs) = some (.int .i64 xs.length) := lenL_eq (show Tryz.prog.underlying 40 = some (.slice 114) by kernel_rfl)
@[simp] theorem Tryz.pt41 {cs : List V} {off : Nat} : part Tryz.prog 41 cs off = slot cs off := part_leaf (by kernel_rfl)
@[simp] theorem Tryz.ixL41 {xs : List (List V)} {k : IntKind} {i : Int} : indexAddrV Tryz.prog 41 (.lst xs) (.int k i) = idxL 4 xs i := idxL_eq (show Tryz.prog.underlying 41 = some (.slice 116) by kernel_rfl) (show szOf Tryz.prog 116 = some 4 by kernel_rfl)
@[simp] theorem Tryz.lnL41 {xs : List (List V)} : lenV Tryz.prog 41 (.lst xs) = some (.int .i64 xs.length) := lenL_eq (show Tryz.prog.underlying 41 = some (.slice 116) by kernel_rfl)
@[simp] theorem Tryz.pt43 {cs : List V} {off : Nat} : part Tryz.prog 43 cs off = if off + 8 ≤ cs.length then some (.agg ((cs.drop off).take 8)) else none := part_agg (by kernel_rfl) (by kernel_rfl)
@[simp] theorem Tryz.st43 {b off : Nat} {v : V} : storeV Tryz.prog cfg h 43 (.ptr b off) v = stv cfg h b off 8 (cellsOf v) := store_eq (by kernel_rfl)
@[simp] theorem Tryz.zr43 : zeroOf Tryz.prog 43 = some (.agg [(.int .i64 0), (.int .i64 0), (.int .i64 0), (.int .i64 0), (.int .i64 0), .nils, .nils, .nils]) := by kernel_rfl
@[simp] theorem Tryz.fa43x0 {b off : Nat} : fieldAddrV Tryz.prog 43 (.ptr b off) 0 = some (.ptr b off) := by kernel_rfl
@[simp] theorem Tryz.fa43x1 {b off : Nat} : fieldAddrV Tryz.prog 43 (.ptr b off) 1 = some (.ptr b (off + 1)) := by kernel_rfl
@[simp] theorem Tryz.fa43x2 {b off : Nat} : fieldAddrV Tryz.prog 43 (.ptr b off) 2 = some (.ptr b (off + 2)) := by kernel_rfl
@[simp] theorem Tryz.fa43x3 {b off : Nat} : fieldAddrV Tryz.prog 43 (.ptr b off) 3 = some (.ptr b (off + 3)) := by kernel_rfl
@[simp] theorem Tryz.fa43x4 {b off : Nat} : fieldAddrV Tryz.prog 43 (.ptr b off) 4 = some (.ptr b (off + 4)) := by kernel_rfl
@[simp] theorem Tryz.fa43x5 {b off : Nat} : fieldAddrV Tryz.prog 43 (.ptr b off) 5 = some (.ptr b (off + 5)) := by kernel_rfl
@[simp] theorem Tryz.fa43x6 {b off : Nat} : fieldAddrV Tryz.prog 43 (.ptr b off) 6 = some (.ptr b (off + 6)) := by kernel_rfl
@[simp] theorem Tryz.fa43x7 {b off : Nat} : fieldAddrV Tryz.prog 43 (.ptr b off) 7 = some (.ptr b (off + 7)) := by kernel_rfl
def Tryz.pl43 : Nat → Option (Nat × Nat)
  | 0 => some (0, 1)
  | 1 => some (1, 1)
  | 2 => some (2, 1)
  | 3 => some (3, 1)
  | 4 => some (4, 1)
  | 5 => some (5, 1)
  | 6 => some (6, 1)
  | 7 => some (7, 1)
  | _ => none
@[simp] theorem Tryz.pl43x0 : Tryz.pl43 0 = some (0, 1) := rfl
@[simp] theorem Tryz.pl43x1 : Tryz.pl43 1 = some (1, 1) := rfl
@[simp] theorem Tryz.pl43x2 : Tryz.pl43 2 = some (2, 1) := rfl
@[simp] theorem Tryz.pl43x3 : Tryz.pl43 3 = some (3, 1) := rfl
@[simp] theorem Tryz.pl43x4 : Tryz.pl43 4 = some (4, 1) := rfl
@[simp] theorem Tryz.pl43x5 : Tryz.pl43 5 = some (5, 1) := rfl
@[simp] theorem Tryz.pl43x6 : Tryz.pl43 6 = some (6, 1) := rfl
@[simp] theorem Tryz.pl43x7 : Tryz.pl43 7 = some (7, 1) := rfl
@[simp] theorem Tryz.pt52 {cs : List V} {off : Nat} : part Tryz.prog 52 cs off = slot cs off := part_leaf (by kernel_rfl)
@[simp] theorem Tryz.ixL52 {xs : List (List V)} {k : IntKind} {i : Int} : indexAddrV Tryz.prog 52 (.lst xs) (.int k i) = idxL 1 xs i := idxL_eq (show Tryz.prog.underlying 52 = some (.slice 3) by kernel_rfl) (show szOf Tryz.prog 3 = some 1 by kernel_rfl)
@[simp] theorem Tryz.ixS52 {b off len cap c : Nat} {k : IntKind} {i : Int} : indexAddrV Tryz.prog 52 (.sl b off len cap c) (.int k i) = idxS 1 b off len c i := idxS_eq (show Tryz.prog.underlying 52 = some (.slice 3) by kernel_rfl) (show szOf Tryz.prog 3 = some 1 by kernel_rfl)
@[simp] theorem Tryz.slL52 {xs : List (List V)} {lo hi : Option (Option V)} : sliceV Tryz.prog h 52 (.lst xs) lo hi = slcL 1 xs (boundV 0 lo) (boundV xs.length hi) := slcL_eq (show Tryz.prog.underlying 52 = some (.slice 3) by kernel_rfl) (show szOf Tryz.prog 3 = some 1 by kernel_rfl)
@[simp] theorem Tryz.lnL52 {xs : List (List V)} : lenV Tryz.prog 52 (.lst xs) = some (.int .i64 xs.length) := lenL_eq (show Tryz.prog.underlying 52 = some (.slice 3) by kernel_rfl)
@[simp] theorem Tryz.ap52 {d x : V} : appendV Tryz.prog cfg h 52 52 d x = appS cfg h 1 8 d (srcCells h 1 x) := appS_eq (show Tryz.prog.underlying 52 = some (.slice 3) by kernel_rfl) (show szOf Tryz.prog 3 = some 1 by kernel_rfl) (by kernel_rfl) (by kernel_rfl) (by decide)
@[simp] theorem Tryz.bs52 {len : Nat} {vs : List V} : buildSliceV Tryz.prog h 52 len vs = (cellsAll 1 vs).bind fun cs => if vs.length = len && decide (len * 1 ≤ 16777216) then some (.sl h.length 0 len len 1, h ++ [some cs]) else none := buildSlice_eq (show Tryz.prog.underlying 52 = some (.slice 3) by kernel_rfl) (show szOf Tryz.prog 3 = some 1 by kernel_rfl) (by kernel_rfl) (by decide)
@[simp] theorem Tryz.mk52 {n m : Int} : makeSliceV Tryz.prog h 52 (.int .i64 n) (.int .i64 m) = mkS h 1 8 [(.int .i64 0)] n m := mkS_eq (show Tryz.prog.underlying 52 = some (.slice 3) by kernel_rfl) (show szOf Tryz.prog 3 = some 1 by kernel_rfl) (by kernel_rfl) (show zeroOf Tryz.prog 3 = some (.int .i64 0) by kernel_rfl) rfl (by decide) (by decide)
@[simp] theorem Tryz.pt58 {cs : List V} {off : Nat} : part Tryz.prog 58 cs off = slot cs off := part_leaf (by kernel_rfl)
@[simp] theorem Tryz.st58 {b off : Nat} {v : V} : storeV Tryz.prog cfg h 58 (.ptr b off) v = stv cfg h b off 1 (cellsOf v) := store_eq (by kernel_rfl)
@[simp] theorem Tryz.ap58 {d x : V} : appendV Tryz.prog cfg h 58 58 d x = appS cfg h 4 64 d (srcCells h 4 x) := appS_eq (show Tryz.prog.underlying 58 = some (.slice 175) by kernel_rfl) (show szOf Tryz.prog 175 = some 4 by kernel_rfl) (by kernel_rfl) (by kernel_rfl) (by decide)
@[simp] theorem Tryz.bs58 {len : Nat} {vs : List V} : buildSliceV Tryz.prog h 58 len vs = (cellsAll 4 vs).bind fun cs => if vs.length = len && decide (len * 4 ≤ 16777216) then some (.sl h.length 0 len len 4, h ++ [some cs]) else none := buildSlice_eq (show Tryz.prog.underlying 58 = some (.slice 175) by kernel_rfl) (show szOf Tryz.prog 175 = some 4 by kernel_rfl) (by kernel_rfl) (by decide)
@[simp] theorem Tryz.pt60 {cs : List V} {off : Nat} : part Tryz.prog 60 cs off = if off + 3 ≤ cs.length then some (.agg ((cs.drop off).take 3)) else none := part_agg (by kernel_rfl) (by kernel_rfl)
@[simp] theorem Tryz.st60 {b off : Nat} {v : V} : storeV Tryz.prog cfg h 60 (.ptr b off) v = stv cfg h b off 3 (cellsOf v) := store_eq (by kernel_rfl)
@[simp] theorem Tryz.zr60 : zeroOf Tryz.prog 60 = some (.agg [.nils, .nils, .nils]) := by kernel_rfl
@[simp] theorem Tryz.fa60x0 {b off : Nat} : fieldAddrV Tryz.prog 60 (.ptr b off) 0 = some (.ptr b off) := by kernel_rfl
def Tryz.pl60 : Nat → Option (Nat × Nat)
  | 0 => some (0, 1)
  | 1 => some (1, 2)
  | _ => none
@[simp] theorem Tryz.pl60x0 : Tryz.pl60 0 = some (0, 1) := rfl
@[simp] theorem Tryz.pl60x1 : Tryz.pl60 1 = some (1, 2) := rfl
def Tryz.pl65 : Nat → Option (Nat × Nat)
  | 0 => some (0, 1)
  | 1 => some (1, 1)
  | _ => none
@[simp] theorem Tryz.pl65x0 : Tryz.pl65 0 = some (0, 1) := rfl
@[simp] theorem Tryz.pl65x1 : Tryz.pl65 1 = some (1, 1) := rfl
@[simp] theorem Tryz.pt67 {cs : List V} {off : Nat} : part Tryz.prog 67 cs off = if off + 15 ≤ cs.length then some (.agg ((cs.drop off).take 15)) else none := part_agg (by kernel_rfl) (by kernel_rfl)
@[simp] theorem Tryz.zr67 : zeroOf Tryz.prog 67 = some (.agg [(.int .i64 0), .nils, .nils, .nils, (.int .i64 0), (.int .i64 0), (.bool false), (.int .i64 0), (.int .i64 0), (.int .i64 0), (.int .i64 0), (.int .i64 0), (.int .i64 0), .nils, (.int .i64 0)]) := by kernel_rfl
@[simp] theorem Tryz.fa67x0 {b off : Nat} : fieldAddrV Tryz.prog 67 (.ptr b off) 0 = some (.ptr b off) := by kernel_rfl
@[simp] theorem Tryz.fa67x1 {b off : Nat} : fieldAddrV Tryz.prog 67 (.ptr b off) 1 = some (.ptr b (off + 1)) := by kernel_rfl
@[simp] theorem Tryz.fa67x12 {b off : Nat} : fieldAddrV Tryz.prog 67 (.ptr b off) 12 = some (.ptr b (off + 14)) := by kernel_rfl
def Tryz.pl67 : Nat → Option (Nat × Nat)
  | 0 => some (0, 1)
  | 1 => some (1, 1)
  | 2 => some (2, 2)
  | 3 => some (4, 1)
  | 4 => some (5, 1)
  | 5 => some (6, 1)
  | 6 => some (7, 1)
  | 7 => some (8, 1)
  | 8 => some (9, 1)
  | 9 => some (10, 2)
  | 10 => some (12, 1)
  | 11 => some (13, 1)
  | 12 => some (14, 1)
  | _ => none
@[simp] theorem Tryz.pl67x0 : Tryz.pl67 0 = some (0, 1) := rfl
@[simp] theorem Tryz.pl67x1 : Tryz.pl67 1 = some (1, 1) := rfl
@[simp] theorem Tryz.pl67x2 : Tryz.pl67 2 = some (2, 2) := rfl
@[simp] theorem Tryz.pl67x3 : Tryz.pl67 3 = some (4, 1) := rfl
@[simp] theorem Tryz.pl67x4 : Tryz.pl67 4 = some (5, 1) := rfl
@[simp] theorem Tryz.pl67x5 : Tryz.pl67 5 = some (6, 1) := rfl
@[simp] theorem Tryz.pl67x6 : Tryz.pl67 6 = some (7, 1) := rfl
@[simp] theorem Tryz.pl67x7 : Tryz.pl67 7 = some (8, 1) := rfl
@[simp] theorem Tryz.pl67x8 : Tryz.pl67 8 = some (9, 1) := rfl
@[simp] theorem Tryz.pl67x9 : Tryz.pl67 9 = some (10, 2) := rfl
@[simp] theorem Tryz.pl67x10 : Tryz.pl67 10 = some (12, 1) := rfl
@[simp] theorem Tryz.pl67x11 : Tryz.pl67 11 = some (13, 1) := rfl
@[simp] theorem Tryz.pl67x12 : Tryz.pl67 12 = some (14, 1) := rfl
@[simp] theorem Tryz.bd67 {ps : List (Nat × V)} : buildV Tryz.prog 67 ps = (fillV Tryz.pl67 [(.int .i64 0), .nils, .nils, .nils, (.int .i64 0), (.int .i64 0), (.bool false), (.int .i64 0), (.int .i64 0), (.int .i64 0), (.int .i64 0), (.int .i64 0), (.int .i64 0), .nils, (.int .i64 0)] ps).map .agg := build_eq (pl := Tryz.pl67) Tryz.zr67 Tryz.underlying67 (by kernel_rfl) (fun i => by match i with | 0 => (show _ = _; kernel_rfl) | 1 => (show _ = _; kernel_rfl) | 2 => (show _ = _; kernel_rfl) | 3 => (show _ = _; kernel_rfl) | 4 => (show _ = _; kernel_rfl) | 5 => (show _ = _; kernel_rfl) | 6 => (show _ = _; kernel_rfl) | 7 => (show _ = _; kernel_rfl) | 8 => (show _ = _; kernel_rfl) | 9 => (show _ = _; kernel_rfl) | 10 => (show _ = _; kernel_rfl) | 11 => (show _ = _; kernel_rfl) | 12 => (show _ = _; kernel_rfl) | _ + 13 => (show _ = _; kernel_rfl))
@[simp] theorem Tryz.pt75 {cs : List V} {off : Nat} : part Tryz.prog 75 cs off = if off + 5 ≤ cs.length then some (.agg ((cs.drop off).take 5)) else none := part_agg (by kernel_rfl) (by kernel_rfl)
@[simp] theorem Tryz.st75 {b off : Nat} {v : V} : storeV Tryz.prog cfg h 75 (.ptr b off) v = stv cfg h b off 5 (cellsOf v) := store_eq (by kernel_rfl)
@[simp] theorem Tryz.zr75 : zeroOf Tryz.prog 75 = some (.agg [.nils, .nils, (.int .i64 0), (.int .i64 0), (.int .i64 0)]) := by kernel_rfl
def Tryz.pl75 : Nat → Option (Nat × Nat)
  | 0 => some (0, 1)
  | 1 => some (1, 1)
  | 2 => some (2, 1)
  | 3 => some (3, 1)
  | 4 => some (4, 1)
  | _ => none
@[simp] theorem Tryz.pl75x0 : Tryz.pl75 0 = some (0, 1) := rfl
@[simp] theorem Tryz.pl75x1 : Tryz.pl75 1 = some (1, 1) := rfl
@[simp] theorem Tryz.pl75x2 : Tryz.pl75 2 = some (2, 1) := rfl
@[simp] theorem Tryz.pl75x3 : Tryz.pl75 3 = some (3, 1) := rfl
@[simp] theorem Tryz.pl75x4 : Tryz.pl75 4 = some (4, 1) := rfl
@[simp] theorem Tryz.bd75 {ps : List (Nat × V)} : buildV Tryz.prog 75 ps = (fillV Tryz.pl75 [.nils, .nils, (.int .i64 0), (.int .i64 0), (.int .i64 0)] ps).map .agg := build_eq (pl := Tryz.pl75) Tryz.zr75 Tryz.underlying75 (by kernel_rfl) (fun i => by match i with | 0 => (show _ = _; kernel_rfl) | 1 => (show _ = _; kernel_rfl) | 2 => (show _ = _; kernel_rfl) | 3 => (show _ = _; kernel_rfl) | 4 => (show _ = _; kernel_rfl) | _ + 5 => (show _ = _; kernel_rfl))
@[simp] theorem Tryz.st76 {b off : Nat} {v : V} : storeV Tryz.prog cfg h 76 (.ptr b off) v = stv cfg h b off 1 (cellsOf v) := store_eq (by kernel_rfl)
def Tryz.pl81 : Nat → Option (Nat × Nat)
  | 0 => some (0, 1)
  | 1 => some (1, 1)
  | 2 => some (2, 1)
  | 3 => some (3, 1)
  | _ => none
@[simp] theorem Tryz.pl81x0 : Tryz.pl81 0 = some (0, 1) := rfl
@[simp] theorem Tryz.pl81x1 : Tryz.pl81 1 = some (1, 1) := rfl
@[simp] theorem Tryz.pl81x2 : Tryz.pl81 2 = some (2, 1) := rfl
@[simp] theorem Tryz.pl81x3 : Tryz.pl81 3 = some (3, 1) := rfl
@[simp] theorem Tryz.zr100 : zeroOf Tryz.prog 100 = some (.agg [.nils, (.int .i64 0)]) := by kernel_rfl
@[simp] theorem Tryz.fa100x0 {b off : Nat} : fieldAddrV Tryz.prog 100 (.ptr b off) 0 = some (.ptr b off) := by kernel_rfl
@[simp] theorem Tryz.fa100x1 {b off : Nat} : fieldAddrV Tryz.prog 100 (.ptr b off) 1 = some (.ptr b (off + 1)) := by kernel_rfl
def Tryz.pl100 : Nat → Option (Nat × Nat)
  | 0 => some (0, 1)
  | 1 => some (1, 1)
  | _ => none
@[simp] theorem Tryz.pl100x0 : Tryz.pl100 0 = some (0, 1) := rfl
@[simp] theorem Tryz.pl100x1 : Tryz.pl100 1 = some (1, 1) := rfl
@[simp] theorem Tryz.bd100 {ps : List (Nat × V)} : buildV Tryz.prog 100 ps = (fillV Tryz.pl100 [.nils, (.int .i64 0)] ps).map .agg := build_eq (pl := Tryz.pl100) Tryz.zr100 Tryz.underlying100 (by kernel_rfl) (fun i => by match i with | 0 => (show _ = _; kernel_rfl) | 1 => (show _ = _; kernel_rfl) | _ + 2 => (show _ = _; kernel_rfl))
@[simp] theorem Tryz.zr106 : zeroOf Tryz.prog 106 = some (.agg [(.bool false), (.bool false), (.int .i64 0), (.int .i64 0), (.int .i64 0), (.int .i64 0), (.int .i64 0), (.int .i64 0), (.int .i64 0), .nils, (.int .i64 0), .nils, .nils, .nils, (.int .i64 0), (.int .i64 0), (.bool false), (.int .i64 0), (.int .i64 0), (.int .i64 0), (.int .i64 0), (.int .i64 0), (.int .i64 0), .nils, (.int .i64 0), .nils, .nils, (.int .i64 0), (.int .i64 0), (.bool false), (.bool false), (.int .i64 0), (.int .i64 0), .nils, .nils, (.int .i64 0), (.int .i64 0), .nils, .nils, .nils, (.bool false), (.int .i64 0), (.int .i64 0), (.int .i64 0), .nils, .nils, (.int .i64 0), (.int .i64 0), (.int .i64 0), .nils, .nils, .nils, .nils]) := by kernel_rfl
@[simp] theorem Tryz.fa106x0 {b off : Nat} : fieldAddrV Tryz.prog 106 (.ptr b off) 0 = some (.ptr b off) := by kernel_rfl
@[simp] theorem Tryz.fa106x1 {b off : Nat} : fieldAddrV Tryz.prog 106 (.ptr b off) 1 = some (.ptr b (off + 9)) := by kernel_rfl
@[simp] theorem Tryz.fa106x2 {b off : Nat} : fieldAddrV Tryz.prog 106 (.ptr b off) 2 = some (.ptr b (off + 10)) := by kernel_rfl
@[simp] theorem Tryz.fa106x3 {b off : Nat} : fieldAddrV Tryz.prog 106 (.ptr b off) 3 = some (.ptr b (off + 25)) := by kernel_rfl
@[simp] theorem Tryz.fa106x4 {b off : Nat} : fieldAddrV Tryz.prog 106 (.ptr b off) 4 = some (.ptr b (off + 44)) := by kernel_rfl
@[simp] theorem Tryz.fa106x5 {b off : Nat} : fieldAddrV Tryz.prog 106 (.ptr b off) 5 = some (.ptr b (off + 49)) := by kernel_rfl
@[simp] theorem Tryz.fa106x6 {b off : Nat} : fieldAddrV Tryz.prog 106 (.ptr b off) 6 = some (.ptr b (off + 50)) := by kernel_rfl
def Tryz.pl106 : Nat → Option (Nat × Nat)
  | 0 => some (0, 9)
  | 1 => some (9, 1)
  | 2 => some (10, 15)
  | 3 => some (25, 19)
  | 4 => some (44, 5)
  | 5 => some (49, 1)
  | 6 => some (50, 3)
  | _ => none
@[simp] theorem Tryz.pl106x0 : Tryz.pl106 0 = some (0, 9) := rfl
@[simp] theorem Tryz.pl106x1 : Tryz.pl106 1 = some (9, 1) := rfl
@[simp] theorem Tryz.pl106x2 : Tryz.pl106 2 = some (10, 15) := rfl
@[simp] theorem Tryz.pl106x3 : Tryz.pl106 3 = some (25, 19) := rfl
@[simp] theorem Tryz.pl106x4 : Tryz.pl106 4 = some (44, 5) := rfl
@[simp] theorem Tryz.pl106x5 : Tryz.pl106 5 = some (49, 1) := rfl
@[simp] theorem Tryz.pl106x6 : Tryz.pl106 6 = some (50, 3) := rfl
@[simp] theorem Tryz.bd106 {ps : List (Nat × V)} : buildV Tryz.prog 106 ps = (fillV Tryz.pl106 [(.bool false), (.bool false), (.int .i64 0), (.int .i64 0), (.int .i64 0), (.int .i64 0), (.int .i64 0), (.int .i64 0), (.int .i64 0), .nils, (.int .i64 0), .nils, .nils, .nils, (.int .i64 0), (.int .i64 0), (.bool false), (.int .i64 0), (.int .i64 0), (.int .i64 0), (.int .i64 0), (.int .i64 0), (.int .i64 0), .nils, (.int .i64 0), .nils, .nils, (.int .i64 0), (.int .i64 0), (.bool false), (.bool false), (.int .i64 0), (.int .i64 0), .nils, .nils, (.int .i64 0), (.int .i64 0), .nils, .nils, .nils, (.bool false), (.int .i64 0), (.int .i64 0), (.int .i64 0), .nils, .nils, (.int .i64 0), (.int .i64 0), (.int .i64 0), .nils, .nils, .nils, .nils] ps).map .agg := build_eq (pl := Tryz.pl106) Tryz.zr106 Tryz.underlying106 (by kernel_rfl) (fun i => by match i with | 0 => (show _ = _; kernel_rfl) | 1 => (show _ = _; kernel_rfl) | 2 => (show _ = _; kernel_rfl) | 3 => (show _ = _; kernel_rfl) | 4 => (show _ = _; kernel_rfl) | 5 => (show _ = _; kernel_rfl) | 6 => (show _ = _; kernel_rfl) | _ + 7 => (show _ = _; kernel_rfl))
@[simp] theorem Tryz.pt112 {cs : List V} {off : Nat} : part Tryz.prog 112 cs off = if off + 3 ≤ cs.length then some (.agg ((cs.drop off).take 3)) else none := part_agg (by kernel_rfl) (by kernel_rfl)
@[simp] theorem Tryz.st112 {b off : Nat} {v : V} : storeV Tryz.prog cfg h 112 (.ptr b off) v = stv cfg h b off 3 (cellsOf v) := store_eq (by kernel_rfl)
@[simp] theorem Tryz.zr112 : zeroOf Tryz.prog 112 = some (.agg [(.int .i32 0), (.int .i32 0), (.int .i64 0)]) := by kernel_rfl
@[simp] theorem Tryz.fa112x0 {b off : Nat} : fieldAddrV Tryz.prog 112 (.ptr b off) 0 = some (.ptr b off) := by kernel_rfl
@[simp] theorem Tryz.fa112x1 {b off : Nat} : fieldAddrV Tryz.prog 112 (.ptr b off) 1 = some (.ptr b (off + 1)) := by kernel_rfl
@[simp] theorem Tryz.fa112x2 {b off : Nat} : fieldAddrV Tryz.prog 112 (.ptr b off) 2 = some (.ptr b (off + 2)) := by kernel_rfl
@[simp] theorem Tryz.pt114 {cs : List V} {off : Nat} : part Tryz.prog 114 cs off = if off + 3 ≤ cs.length then some (.agg ((cs.drop off).take 3)) else none := part_agg (by kernel_rfl) (by kernel_rfl)
@[simp] theorem Tryz.st114 {b off : Nat} {v : V} : storeV Tryz.prog cfg h 114 (.ptr b off) v = stv cfg h b off 3 (cellsOf v) := store_eq (by kernel_rfl)
@[simp] theorem Tryz.zr114 : zeroOf Tryz.prog 114 = some (.agg [(.int .i32 0), (.int .i32 0), (.int .i64 0)]) := by kernel_rfl
@[simp] theorem Tryz.fa114x0 {b off : Nat} : fieldAddrV Tryz.prog 114 (.ptr b off) 0 = some (.ptr b off) := by kernel_rfl
@[simp] theorem Tryz.fl114x0 {cs : List V} {off : Nat} : fieldAddrV Tryz.prog 114 (.lptr cs off) 0 = some (.lptr cs off) := by kernel_rfl
@[simp] theorem Tryz.fa114x1 {b off : Nat} : fieldAddrV Tryz.prog 114 (.ptr b off) 1 = some (.ptr b (off + 1)) := by kernel_rfl
@[simp] theorem Tryz.fl114x1 {cs : List V} {off : Nat} : fieldAddrV Tryz.prog 114 (.lptr cs off) 1 = some (.lptr cs (off + 1)) := by kernel_rfl
@[simp] theorem Tryz.fa114x2 {b off : Nat} : fieldAddrV Tryz.prog 114 (.ptr b off) 2 = some (.ptr b (off + 2)) := by kernel_rfl
def Tryz.pl114 : Nat → Option (Nat × Nat)
  | 0 => some (0, 1)
  | 1 => some (1, 1)
  | 2 => some (2, 1)
  | _ => none
@[simp] theorem Tryz.pl114x0 : Tryz.pl114 0 = some (0, 1) := rfl
@[simp] theorem Tryz.pl114x1 : Tryz.pl114 1 = some (1, 1) := rfl
@[simp] theorem Tryz.pl114x2 : Tryz.pl114 2 = some (2, 1) := rfl
@[simp] theorem Tryz.pt116 {cs : List V} {off : Nat} : part Tryz.prog 116 cs off = if off + 4 ≤ cs.length then some (.agg ((cs.drop off).take 4)) else none := part_agg (by kernel_rfl) (by kernel_rfl)
@[simp] theorem Tryz.st116 {b off : Nat} {v : V} : storeV Tryz.prog cfg h 116 (.ptr b off) v = stv cfg h b off 4 (cellsOf v) := store_eq (by kernel_rfl)
@[simp] theorem Tryz.zr116 : zeroOf Tryz.prog 116 = some (.agg [(.int .i32 0), (.int .i32 0), (.int .i64 0), (.int .i64 0)]) := by kernel_rfl
@[simp] theorem Tryz.fa116x0 {b off : Nat} : fieldAddrV Tryz.prog 116 (.ptr b off) 0 = some (.ptr b off) := by kernel_rfl
@[simp] theorem Tryz.fl116x0 {cs : List V} {off : Nat} : fieldAddrV Tryz.prog 116 (.lptr cs off) 0 = some (.lptr cs off) := by kernel_rfl
@[simp] theorem Tryz.fa116x1 {b off : Nat} : fieldAddrV Tryz.prog 116 (.ptr b off) 1 = some (.ptr b (off + 1)) := by kernel_rfl
@[simp] theorem Tryz.fl116x1 {cs : List V} {off : Nat} : fieldAddrV Tryz.prog 116 (.lptr cs off) 1 = some (.lptr cs (off + 1)) := by kernel_rfl
@[simp] theorem Tryz.fa116x2 {b off : Nat} : fieldAddrV Tryz.prog 116 (.ptr b off) 2 = some (.ptr b (off + 2)) := by kernel_rfl
@[simp] theorem Tryz.fa116x3 {b off : Nat} : fieldAddrV Tryz.prog 116 (.ptr b off) 3 = some (.ptr b (off + 3)) := by kernel_rfl
def Tryz.pl116 : Nat → Option (Nat × Nat)
  | 0 => some (0, 1)
  | 1 => some (1, 1)
  | 2 => some (2, 1)
  | 3 => some (3, 1)
  | _ => none
@[simp] theorem Tryz.pl116x0 : Tryz.pl116 0 = some (0, 1) := rfl
@[simp] theorem Tryz.pl116x1 : Tryz.pl116 1 = some (1, 1) := rfl
@[simp] theorem Tryz.pl116x2 : Tryz.pl116 2 = some (2, 1) := rfl
@[simp] theorem Tryz.pl116x3 : Tryz.pl116 3 = some (3, 1) := rfl
@[simp] theorem Tryz.pt124 {cs : List V} {off : Nat} : part Tryz.prog 124 cs off = if off + 2 ≤ cs.length then some (.agg ((cs.drop off).take 2)) else none := part_agg (by kernel_rfl) (by kernel_rfl)
@[simp] theorem Tryz.st124 {b off : Nat} {v : V} : storeV Tryz.prog cfg h 124 (.ptr b off) v = stv cfg h b off 2 (cellsOf v) := store_eq (by kernel_rfl)
@[simp] theorem Tryz.zr124 : zeroOf Tryz.prog 124 = some (.agg [(.int .i64 0), (.int .i64 0)]) := by kernel_rfl
@[simp] theorem Tryz.fa124x0 {b off : Nat} : fieldAddrV Tryz.prog 124 (.ptr b off) 0 = some (.ptr b off) := by kernel_rfl
@[simp] theorem Tryz.fa124x1 {b off : Nat} : fieldAddrV Tryz.prog 124 (.ptr b off) 1 = some (.ptr b (off + 1)) := by kernel_rfl
@[simp] theorem Tryz.fl124x1 {cs : List V} {off : Nat} : fieldAddrV Tryz.prog 124 (.lptr cs off) 1 = some (.lptr cs (off + 1)) := by kernel_rfl
def Tryz.pl124 : Nat → Option (Nat × Nat)
  | 0 => some (0, 1)
  | 1 => some (1, 1)
  | _ => none
@[simp] theorem Tryz.pl124x0 : Tryz.pl124 0 = some (0, 1) := rfl
@[simp] theorem Tryz.pl124x1 : Tryz.pl124 1 = some (1, 1) := rfl
@[simp] theorem Tryz.bd124 {ps : List (Nat × V)} : buildV Tryz.prog 124 ps = (fillV Tryz.pl124 [(.int .i64 0), (.int .i64 0)] ps).map .agg := build_eq (pl := Tryz.pl124) Tryz.zr124 Tryz.underlying124 (by kernel_rfl) (fun i => by match i with | 0 => (show _ = _; kernel_rfl) | 1 => (show _ = _; kernel_rfl) | _ + 2 => (show _ = _; kernel_rfl))
@[simp] theorem Tryz.zr129 : zeroOf Tryz.prog 129 = some (.agg [.nils, .nils]) := by kernel_rfl
@[simp] theorem Tryz.fa129x0 {b off : Nat} : fieldAddrV Tryz.prog 129 (.ptr b off) 0 = some (.ptr b off) := by kernel_rfl
def Tryz.pl133 : Nat → Option (Nat × Nat)
  | 0 => some (0, 1)
  | 1 => some (1, 1)
  | _ => none
@[simp] theorem Tryz.pl133x0 : Tryz.pl133 0 = some (0, 1) := rfl
@[simp] theorem Tryz.pl133x1 : Tryz.pl133 1 = some (1, 1) := rfl
@[simp] theorem Tryz.pt144 {cs : List V} {off : Nat} : part Tryz.prog 144 cs off = if off + 5 ≤ cs.length then some (.agg ((cs.drop off).take 5)) else none := part_agg (by kernel_rfl) (by kernel_rfl)
@[simp] theorem Tryz.st144 {b off : Nat} {v : V} : storeV Tryz.prog cfg h 144 (.ptr b off) v = stv cfg h b off 5 (cellsOf v) := store_eq (by kernel_rfl)
@[simp] theorem Tryz.zr144 : zeroOf Tryz.prog 144 = some (.agg [(.int .i64 0), (.int .i64 0), (.int .i64 0), (.int .i64 0), (.int .i64 0)]) := by kernel_rfl
@[simp] theorem Tryz.fa144x0 {b off : Nat} : fieldAddrV Tryz.prog 144 (.ptr b off) 0 = some (.ptr b off) := by kernel_rfl
@[simp] theorem Tryz.fv144x2 {cs : List V} : fieldV Tryz.prog 144 (.agg cs) 2 = part Tryz.prog 3 cs 2 := by kernel_rfl
def Tryz.pl144 : Nat → Option (Nat × Nat)
  | 0 => some (0, 1)
  | 1 => some (1, 1)
  | 2 => some (2, 1)
  | 3 => some (3, 1)
  | 4 => some (4, 1)
  | _ => none
@[simp] theorem Tryz.pl144x0 : Tryz.pl144 0 = some (0, 1) := rfl
@[simp] theorem Tryz.pl144x1 : Tryz.pl144 1 = some (1, 1) := rfl
@[simp] theorem Tryz.pl144x2 : Tryz.pl144 2 = some (2, 1) := rfl
@[simp] theorem Tryz.pl144x3 : Tryz.pl144 3 = some (3, 1) := rfl
@[simp] theorem Tryz.pl144x4 : Tryz.pl144 4 = some (4, 1) := rfl
@[simp] theorem Tryz.bd144 {ps : List (Nat × V)} : buildV Tryz.prog 144 ps = (fillV Tryz.pl144 [(.int .i64 0), (.int .i64 0), (.int .i64 0), (.int .i64 0), (.int .i64 0)] ps).map .agg := build_eq (pl := Tryz.pl144) Tryz.zr144 Tryz.underlying144 (by kernel_rfl) (fun i => by match i with | 0 => (show _ = _; kernel_rfl) | 1 => (show _ = _; kernel_rfl) | 2 => (show _ = _; kernel_rfl) | 3 => (show _ = _; kernel_rfl) | 4 => (show _ = _; kernel_rfl) | _ + 5 => (show _ = _; kernel_rfl))
def Tryz.pl153 : Nat → Option (Nat × Nat)
  | 0 => some (0, 1)
  | 1 => some (1, 1)
  | 2 => some (2, 1)
  | 3 => some (3, 1)
  | 4 => some (4, 1)
  | _ => none
@[simp] theorem Tryz.pl153x0 : Tryz.pl153 0 = some (0, 1) := rfl
@[simp] theorem Tryz.pl153x1 : Tryz.pl153 1 = some (1, 1) := rfl
@[simp] theorem Tryz.pl153x2 : Tryz.pl153 2 = some (2, 1) := rfl
@[simp] theorem Tryz.pl153x3 : Tryz.pl153 3 = some (3, 1) := rfl
@[simp] theorem Tryz.pl153x4 : Tryz.pl153 4 = some (4, 1) := rfl
def Tryz.pl156 : Nat → Option (Nat × Nat)
  | 0 => some (0, 5)
  | 1 => some (5, 1)
  | 2 => some (6, 1)
  | 3 => some (7, 1)
  | 4 => some (8, 1)
  | 5 => some (9, 1)
  | 6 => some (10, 5)
  | 7 => some (15, 1)
  | _ => none
@[simp] theorem Tryz.pl156x0 : Tryz.pl156 0 = some (0, 5) := rfl
@[simp] theorem Tryz.pl156x1 : Tryz.pl156 1 = some (5, 1) := rfl
@[simp] theorem Tryz.pl156x2 : Tryz.pl156 2 = some (6, 1) := rfl
@[simp] theorem Tryz.pl156x3 : Tryz.pl156 3 = some (7, 1) := rfl
@[simp] theorem Tryz.pl156x4 : Tryz.pl156 4 = some (8, 1) := rfl
@[simp] theorem Tryz.pl156x5 : Tryz.pl156 5 = some (9, 1) := rfl
@[simp] theorem Tryz.pl156x6 : Tryz.pl156 6 = some (10, 5) := rfl
@[simp] theorem Tryz.pl156x7 : Tryz.pl156 7 = some (15, 1) := rfl
def Tryz.pl158 : Nat → Option (Nat × Nat)
  | 0 => some (0, 1)
  | 1 => some (1, 1)
  | 2 => some (2, 1)
  | 3 => some (3, 1)
  | _ => none
@[simp] theorem Tryz.pl158x0 : Tryz.pl158 0 = some (0, 1) := rfl
@[simp] theorem Tryz.pl158x1 : Tryz.pl158 1 = some (1, 1) := rfl
@[simp] theorem Tryz.pl158x2 : Tryz.pl158 2 = some (2, 1) := rfl
@[simp] theorem Tryz.pl158x3 : Tryz.pl158 3 = some (3, 1) := rfl
def Tryz.pl162 : Nat → Option (Nat × Nat)
  | 0 => some (0, 1)
  | 1 => some (1, 1)
  | 2 => some (2, 1)
  | 3 => some (3, 1)
  | 4 => some (4, 1)
  | 5 => some (5, 1)
  | 6 => some (6, 1)
  | 7 => some (7, 1)
  | 8 => some (8, 1)
  | 9 => some (9, 1)
  | _ => none
@[simp] theorem Tryz.pl162x0 : Tryz.pl162 0 = some (0, 1) := rfl
@[simp] theorem Tryz.pl162x1 : Tryz.pl162 1 = some (1, 1) := rfl
@[simp] theorem Tryz.pl162x2 : Tryz.pl162 2 = some (2, 1) := rfl
@[simp] theorem Tryz.pl162x3 : Tryz.pl162 3 = some (3, 1) := rfl
@[simp] theorem Tryz.pl162x4 : Tryz.pl162 4 = some (4, 1) := rfl
@[simp] theorem Tryz.pl162x5 : Tryz.pl162 5 = some (5, 1) := rfl
@[simp] theorem Tryz.pl162x6 : Tryz.pl162 6 = some (6, 1) := rfl
@[simp] theorem Tryz.pl162x7 : Tryz.pl162 7 = some (7, 1) := rfl
@[simp] theorem Tryz.pl162x8 : Tryz.pl162 8 = some (8, 1) := rfl
@[simp] theorem Tryz.pl162x9 : Tryz.pl162 9 = some (9, 1) := rfl
@[simp] theorem Tryz.pt166 {cs : List V} {off : Nat} : part Tryz.prog 166 cs off = if off + 7 ≤ cs.length then some (.agg ((cs.drop off).take 7)) else none := part_agg (by kernel_rfl) (by kernel_rfl)
@[simp] theorem Tryz.st166 {b off : Nat} {v : V} : storeV Tryz.prog cfg h 166 (.ptr b off) v = stv cfg h b off 7 (cellsOf v) := store_eq (by kernel_rfl)
@[simp] theorem Tryz.zr166 : zeroOf Tryz.prog 166 = some (.agg [(.int .i32 0), (.int .i32 0), (.int .u8 0), (.int .u8 0), (.int .u8 0), (.int .u8 0), (.int .u8 0)]) := by kernel_rfl
@[simp] theorem Tryz.fl166x0 {cs : List V} {off : Nat} : fieldAddrV Tryz.prog 166 (.lptr cs off) 0 = some (.lptr cs off) := by kernel_rfl
@[simp] theorem Tryz.fl166x1 {cs : List V} {off : Nat} : fieldAddrV Tryz.prog 166 (.lptr cs off) 1 = some (.lptr cs (off + 1)) := by kernel_rfl
@[simp] theorem Tryz.fv166x2 {cs : List V} : fieldV Tryz.prog 166 (.agg cs) 2 = part Tryz.prog 5 cs 2 := by kernel_rfl
@[simp] theorem Tryz.fv166x4 {cs : List V} : fieldV Tryz.prog 166 (.agg cs) 4 = part Tryz.prog 5 cs 4 := by kernel_rfl
def Tryz.pl166 : Nat → Option (Nat × Nat)
  | 0 => some (0, 1)
  | 1 => some (1, 1)
  | 2 => some (2, 1)
  | 3 => some (3, 1)
  | 4 => some (4, 1)
  | 5 => some (5, 1)
  | 6 => some (6, 1)
  | _ => none
@[simp] theorem Tryz.pl166x0 : Tryz.pl166 0 = some (0, 1) := rfl
@[simp] theorem Tryz.pl166x1 : Tryz.pl166 1 = some (1, 1) := rfl
@[simp] theorem Tryz.pl166x2 : Tryz.pl166 2 = some (2, 1) := rfl
@[simp] theorem Tryz.pl166x3 : Tryz.pl166 3 = some (3, 1) := rfl
@[simp] theorem Tryz.pl166x4 : Tryz.pl166 4 = some (4, 1) := rfl
@[simp] theorem Tryz.pl166x5 : Tryz.pl166 5 = some (5, 1) := rfl
@[simp] theorem Tryz.pl166x6 : Tryz.pl166 6 = some (6, 1) := rfl
@[simp] theorem Tryz.bd166 {ps : List (Nat × V)} : buildV Tryz.prog 166 ps = (fillV Tryz.pl166 [(.int .i32 0), (.int .i32 0), (.int .u8 0), (.int .u8 0), (.int .u8 0), (.int .u8 0), (.int .u8 0)] ps).map .agg := build_eq (pl := Tryz.pl166) Tryz.zr166 Tryz.underlying166 (by kernel_rfl) (fun i => by match i with | 0 => (show _ = _; kernel_rfl) | 1 => (show _ = _; kernel_rfl) | 2 => (show _ = _; kernel_rfl) | 3 => (show _ = _; kernel_rfl) | 4 => (show _ = _; kernel_rfl) | 5 => (show _ = _; kernel_rfl) | 6 => (show _ = _; kernel_rfl) | _ + 7 => (show _ = _; kernel_rfl))
@[simp] theorem Tryz.bs170 {len : Nat} {vs : List V} : buildSliceV Tryz.prog h 170 len vs = (cellsAll 14 vs).bind fun cs => if vs.length = len && decide (len * 14 ≤ 16777216) then some (.sl h.length 0 len len 14, h ++ [some cs]) else none := buildSlice_eq (show Tryz.prog.underlying 170 = some (.slice 177) by kernel_rfl) (show szOf Tryz.prog 177 = some 14 by kernel_rfl) (by kernel_rfl) (by decide)
@[simp] theorem Tryz.zr172 : zeroOf Tryz.prog 172 = some (.agg [(.int .i64 0), (.int .i64 0), .nils]) := by kernel_rfl
def Tryz.pl172 : Nat → Option (Nat × Nat)
  | 0 => some (0, 1)
  | 1 => some (1, 1)
  | 2 => some (2, 1)
  | _ => none
@[simp] theorem Tryz.pl172x0 : Tryz.pl172 0 = some (0, 1) := rfl
@[simp] theorem Tryz.pl172x1 : Tryz.pl172 1 = some (1, 1) := rfl
@[simp] theorem Tryz.pl172x2 : Tryz.pl172 2 = some (2, 1) := rfl
@[simp] theorem Tryz.bd172 {ps : List (Nat × V)} : buildV Tryz.prog 172 ps = (fillV Tryz.pl172 [(.int .i64 0), (.int .i64 0), .nils] ps).map .agg := build_eq (pl := Tryz.pl172) Tryz.zr172 Tryz.underlying172 (by kernel_rfl) (fun i => by match i with | 0 => (show _ = _; kernel_rfl) | 1 => (show _ = _; kernel_rfl) | 2 => (show _ = _; kernel_rfl) | _ + 3 => (show _ = _; kernel_rfl))
@[simp] theorem Tryz.pt175 {cs : List V} {off : Nat} : part Tryz.prog 175 cs off = if off + 4 ≤ cs.length then some (.agg ((cs.drop off).take 4)) else none := part_agg (by kernel_rfl) (by kernel_rfl)
@[simp] theorem Tryz.st175 {b off : Nat} {v : V} : storeV Tryz.prog cfg h 175 (.ptr b off) v = stv cfg h b off 4 (cellsOf v) := store_eq (by kernel_rfl)
@[simp] theorem Tryz.zr175 : zeroOf Tryz.prog 175 = some (.agg [(.int .i64 0), (.int .i64 0), .nils, .nils]) := by kernel_rfl
@[simp] theorem Tryz.fa175x0 {b off : Nat} : fieldAddrV Tryz.prog 175 (.ptr b off) 0 = some (.ptr b off) := by kernel_rfl
@[simp] theorem Tryz.fa175x1 {b off : Nat} : fieldAddrV Tryz.prog 175 (.ptr b off) 1 = some (.ptr b (off + 1)) := by kernel_rfl
@[simp] theorem Tryz.fa175x2 {b off : Nat} : fieldAddrV Tryz.prog 175 (.ptr b off) 2 = some (.ptr b (off + 2)) := by kernel_rfl
def Tryz.pl175 : Nat → Option (Nat × Nat)
  | 0 => some (0, 1)
  | 1 => some (1, 1)
  | 2 => some (2, 2)
  | _ => none
@[simp] theorem Tryz.pl175x0 : Tryz.pl175 0 = some (0, 1) := rfl
@[simp] theorem Tryz.pl175x1 : Tryz.pl175 1 = some (1, 1) := rfl
@[simp] theorem Tryz.pl175x2 : Tryz.pl175 2 = some (2, 2) := rfl
@[simp] theorem Tryz.bd175 {ps : List (Nat × V)} : buildV Tryz.prog 175 ps = (fillV Tryz.pl175 [(.int .i64 0), (.int .i64 0), .nils, .nils] ps).map .agg := build_eq (pl := Tryz.pl175) Tryz.zr175 Tryz.underlying175 (by kernel_rfl) (fun i => by match i with | 0 => (show _ = _; kernel_rfl) | 1 => (show _ = _; kernel_rfl) | 2 => (show _ = _; kernel_rfl) | _ + 3 => (show _ = _; kernel_rfl))
@[simp] theorem Tryz.pt177 {cs : List V} {off : Nat} : part Tryz.prog 177 cs off = if off + 14 ≤ cs.length then some (.agg ((cs.drop off).take 14)) else none := part_agg (by kernel_rfl) (by kernel_rfl)
@[simp] theorem Tryz.st177 {b off : Nat} {v : V} : storeV Tryz.prog cfg h 177 (.ptr b off) v = stv cfg h b off 14 (cellsOf v) := store_eq (by kernel_rfl)
@[simp] theorem Tryz.zr177 : zeroOf Tryz.prog 177 = some (.agg [(.int .i64 0), (.int .i64 0), .nils, .nils, (.int .i64 0), (.int .i64 0), .nils, .nils, (.int .i64 0), (.int .i64 0), (.bool false), (.int .i64 0), (.int .i64 0), (.bool false)]) := by kernel_rfl
@[simp] theorem Tryz.fa177x0 {b off : Nat} : fieldAddrV Tryz.prog 177 (.ptr b off) 0 = some (.ptr b off) := by kernel_rfl
@[simp] theorem Tryz.fa177x1 {b off : Nat} : fieldAddrV Tryz.prog 177 (.ptr b off) 1 = some (.ptr b (off + 4)) := by kernel_rfl
def Tryz.pl177 : Nat → Option (Nat × Nat)
  | 0 => some (0, 4)
  | 1 => some (4, 4)
  | 2 => some (8, 3)
  | 3 => some (11, 3)
  | _ => none
@[simp] theorem Tryz.pl177x0 : Tryz.pl177 0 = some (0, 4) := rfl
@[simp] theorem Tryz.pl177x1 : Tryz.pl177 1 = some (4, 4) := rfl
@[simp] theorem Tryz.pl177x2 : Tryz.pl177 2 = some (8, 3) := rfl
@[simp] theorem Tryz.pl177x3 : Tryz.pl177 3 = some (11, 3) := rfl
@[simp] theorem Tryz.bd177 {ps : List (Nat × V)} : buildV Tryz.prog 177 ps = (fillV Tryz.pl177 [(.int .i64 0), (.int .i64 0), .nils, .nils, (.int .i64 0), (.int .i64 0), .nils, .nils, (.int .i64 0), (.int .i64 0), (.bool false), (.int .i64 0), (.int .i64 0), (.bool false)] ps).map .agg := build_eq (pl := Tryz.pl177) Tryz.zr177 Tryz.underlying177 (by kernel_rfl) (fun i => by match i with | 0 => (show _ = _; kernel_rfl) | 1 => (show _ = _; kernel_rfl) | 2 => (show _ = _; kernel_rfl) | 3 => (show _ = _; kernel_rfl) | _ + 4 => (show _ = _; kernel_rfl))
def Tryz.pl195 : Nat → Option (Nat × Nat)
  | 0 => some (0, 1)
  | 1 => some (1, 1)
  | _ => none
@[simp] theorem Tryz.pl195x0 : Tryz.pl195 0 = some (0, 1) := rfl
@[simp] theorem Tryz.pl195x1 : Tryz.pl195 1 = some (1, 1) := rfl
def Tryz.pl225 : Nat → Option (Nat × Nat)
  | 0 => some (0, 1)
  | 1 => some (1, 1)
  | 2 => some (2, 1)
  | 3 => some (3, 1)
  | 4 => some (4, 1)
  | 5 => some (5, 1)
  | 6 => some (6, 1)
  | 7 => some (7, 1)
  | _ => none
@[simp] theorem Tryz.pl225x0 : Tryz.pl225 0 = some (0, 1) := rfl
@[simp] theorem Tryz.pl225x1 : Tryz.pl225 1 = some (1, 1) := rfl
@[simp] theorem Tryz.pl225x2 : Tryz.pl225 2 = some (2, 1) := rfl
@[simp] theorem Tryz.pl225x3 : Tryz.pl225 3 = some (3, 1) := rfl
@[simp] theorem Tryz.pl225x4 : Tryz.pl225 4 = some (4, 1) := rfl
@[simp] theorem Tryz.pl225x5 : Tryz.pl225 5 = some (5, 1) := rfl
@[simp] theorem Tryz.pl225x6 : Tryz.pl225 6 = some (6, 1) := rfl
@[simp] theorem Tryz.pl225x7 : Tryz.pl225 7 = some (7, 1) := rfl
@[simp] theorem Tryz.st230 {b off : Nat} {v : V} : storeV Tryz.prog cfg h 230 (.ptr b off) v = stv cfg h b off 308 (cellsOf v) := store_eq (by kernel_rfl)
@[simp] theorem Tryz.zr230 : zeroOf Tryz.prog 230 = some (.agg [(.int .i32 0), (.int .i32 0), (.int .u8 0), (.int .u8 0), (.int .u8 0), (.int .u8 0), (.int .u8 0), (.int .i32 0), (.int .i32 0), (.int .u8 0), (.int .u8 0), (.int .u8 0), (.int .u8 0), (.int .u8 0), (.int .i32 0), (.int .i32 0), (.int .u8 0), (.int .u8 0), (.int .u8 0), (.int .u8 0), (.int .u8 0), (.int .i32 0), (.int .i32 0), (.int .u8 0), (.int .u8 0), (.int .u8 0), (.int .u8 0), (.int .u8 0), (.int .i32 0), (.int .i32 0), (.int .u8 0), (.int .u8 0), (.int .u8 0), (.int .u8 0), (.int .u8 0), (.int .i32 0), (.int .i32 0), (.int .u8 0), (.int .u8 0), (.int .u8 0), (.int .u8 0), (.int .u8 0), (.int .i32 0), (.int .i32 0), (.int .u8 0), (.int .u8 0), (.int .u8 0), (.int .u8 0), (.int .u8 0), (.int .i32 0), (.int .i32 0), (.int .u8 0), (.int .u8 0), (.int .u8 0), (.int .u8 0), (.int .u8 0), (.int .i32 0), (.int .i32 0), (.int .u8 0), (.int .u8 0), (.int .u8 0), (.int .u8 0), (.int .u8 0), (.int .i32 0), (.int .i32 0), (.int .u8 0), (.int .u8 0), (.int .u8 0), (.int .u8 0), (.int .u8 0), (.int .i32 0), (.int .i32 0), (.int .u8 0), (.int .u8 0), (.int .u8 0), (.int .u8 0), (.int .u8 0), (.int .i32 0), (.int .i32 0), (.int .u8 0), (.int .u8 0), (.int .u8 0), (.int .u8 0), (.int .u8 0), (.int .i32 0), (.int .i32 0), (.int .u8 0), (.int .u8 0), (.int .u8 0), (.int .u8 0), (.int .u8 0), (.int .i32 0), (.int .i32 0), (.int .u8 0), (.int .u8 0), (.int .u8 0), (.int .u8 0), (.int .u8 0), (.int .i32 0), (.int .i32 0), (.int .u8 0), (.int .u8 0), (.int .u8 0), (.int .u8 0), (.int .u8 0), (.int .i32 0), (.int .i32 0), (.int .u8 0), (.int .u8 0), (.int .u8 0), (.int .u8 0), (.int .u8 0), (.int .i32 0), (.int .i32 0), (.int .u8 0), (.int .u8 0), (.int .u8 0), (.int .u8 0), (.int .u8 0), (.int .i32 0), (.int .i32 0), (.int .u8 0), (.int .u8 0), (.int .u8 0), (.int .u8 0), (.int .u8 0), (.int .i32 0), (.int .i32 0), (.int .u8 0), (.int .u8 0), (.int .u8 0), (.int .u8 0), (.int .u8 0), (.int .i32 0), (.int .i32 0), (.int .u8 0), (.int .u8 0), (.int .u8 0), (.int .u8 0), (.int .u8 0), (.int .i32 0), (.int .i32 0), (.int .u8 0), (.int .u8 0), (.int .u8 0), (.int .u8 0), (.int .u8 0), (.int .i32 0), (.int .i32 0), (.int .u8 0), (.int .u8 0), (.int .u8 0), (.int .u8 0), (.int .u8 0), (.int .i32 0), (.int .i32 0), (.int .u8 0), (.int .u8 0), (.int .u8 0), (.int .u8 0), (.int .u8 0), (.int .i32 0), (.int .i32 0), (.int .u8 0), (.int .u8 0), (.int .u8 0), (.int .u8 0), (.int .u8 0), (.int .i32 0), (.int .i32 0), (.int .u8 0), (.int .u8 0), (.int .u8 0), (.int .u8 0), (.int .u8 0), (.int .i32 0), (.int .i32 0), (.int .u8 0), (.int .u8 0), (.int .u8 0), (.int .u8 0), (.int .u8 0), (.int .i32 0), (.int .i32 0), (.int .u8 0), (.int .u8 0), (.int .u8 0), (.int .u8 0), (.int .u8 0), (.int .i32 0), (.int .i32 0), (.int .u8 0), (.int .u8 0), (.int .u8 0), (.int .u8 0), (.int .u8 0), (.int .i32 0), (.int .i32 0), (.int .u8 0), (.int .u8 0), (.int .u8 0), (.int .u8 0), (.int .u8 0), (.int .i32 0), (.int .i32 0), (.int .u8 0), (.int .u8 0), (.int .u8 0), (.int .u8 0), (.int .u8 0), (.int .i32 0), (.int .i32 0), (.int .u8 0), (.int .u8 0), (.int .u8 0), (.int .u8 0), (.int .u8 0), (.int .i32 0), (.int .i32 0), (.int .u8 0), (.int .u8 0), (.int .u8 0), (.int .u8 0), (.int .u8 0), (.int .i32 0), (.int .i32 0), (.int .u8 0), (.int .u8 0), (.int .u8 0), (.int .u8 0), (.int .u8 0), (.int .i32 0), (.int .i32 0), (.int .u8 0), (.int .u8 0), (.int .u8 0), (.int .u8 0), (.int .u8 0), (.int .i32 0), (.int .i32 0), (.int .u8 0), (.int .u8 0), (.int .u8 0), (.int .u8 0), (.int .u8 0), (.int .i32 0), (.int .i32 0), (.int .u8 0), (.int .u8 0), (.int .u8 0), (.int .u8 0), (.int .u8 0), (.int .i32 0), (.int .i32 0), (.int .u8 0), (.int .u8 0), (.int .u8 0), (.int .u8 0), (.int .u8 0), (.int .i32 0), (.int .i32 0), (.int .u8 0), (.int .u8 0), (.int .u8 0), (.int .u8 0), (.int .u8 0), (.int .i32 0), (.int .i32 0), (.int .u8 0), (.int .u8 0), (.int .u8 0), (.int .u8 0), (.int .u8 0), (.int .i32 0), (.int .i32 0), (.int .u8 0), (.int .u8 0), (.int .u8 0), (.int .u8 0), (.int .u8 0), (.int .i32 0), (.int .i32 0), (.int .u8 0), (.int .u8 0), (.int .u8 0), (.int .u8 0), (.int .u8 0), (.int .i32 0), (.int .i32 0), (.int .u8 0), (.int .u8 0), (.int .u8 0), (.int .u8 0), (.int .u8 0), (.int .i32 0), (.int .i32 0), (.int .u8 0), (.int .u8 0), (.int .u8 0), (.int .u8 0), (.int .u8 0), (.int .i32 0), (.int .i32 0), (.int .u8 0), (.int .u8 0), (.int .u8 0), (.int .u8 0), (.int .u8 0)]) := by kernel_rfl
@[simp] theorem Tryz.ixL233 {xs : List (List V)} {k : IntKind} {i : Int} : indexAddrV Tryz.prog 233 (.lst xs) (.int k i) = idxL 7 xs i := idxL_eq (show Tryz.prog.underlying 233 = some (.slice 166) by kernel_rfl) (show szOf Tryz.prog 166 = some 7 by kernel_rfl)
@[simp] theorem Tryz.lnL233 {xs : List (List V)} : lenV Tryz.prog 233 (.lst xs) = some (.int .i64 xs.length) := lenL_eq (show Tryz.prog.underlying 233 = some (.slice 166) by kernel_rfl)
@[simp] theorem Tryz.st234 {b off : Nat} {v : V} : storeV Tryz.prog cfg h 234 (.ptr b off) v = stv cfg h b off 287 (cellsOf v) := store_eq (by kernel_rfl)
@[simp] theorem Tryz.zr234 : zeroOf Tryz.prog 234 = some (.agg [(.int .i32 0), (.int .i32 0), (.int .u8 0), (.int .u8 0), (.int .u8 0), (.int .u8 0), (.int .u8 0), (.int .i32 0), (.int .i32 0), (.int .u8 0), (.int .u8 0), (.int .u8 0), (.int .u8 0), (.int .u8 0), (.int .i32 0), (.int .i32 0), (.int .u8 0), (.int .u8 0), (.int .u8 0), (.int .u8 0), (.int .u8 0), (.int .i32 0), (.int .i32 0), (.int .u8 0), (.int .u8 0), (.int .u8 0), (.int .u8 0), (.int .u8 0), (.int .i32 0), (.int .i32 0), (.int .u8 0), (.int .u8 0), (.int .u8 0), (.int .u8 0), (.int .u8 0), (.int .i32 0), (.int .i32 0), (.int .u8 0), (.int .u8 0), (.int .u8 0), (.int .u8 0), (.int .u8 0), (.int .i32 0), (.int .i32 0), (.int .u8 0), (.int .u8 0), (.int .u8 0), (.int .u8 0), (.int .u8 0), (.int .i32 0), (.int .i32 0), (.int .u8 0), (.int .u8 0), (.int .u8 0), (.int .u8 0), (.int .u8 0), (.int .i32 0), (.int .i32 0), (.int .u8 0), (.int .u8 0), (.int .u8 0), (.int .u8 0), (.int .u8 0), (.int .i32 0), (.int .i32 0), (.int .u8 0), (.int .u8 0), (.int .u8 0), (.int .u8 0), (.int .u8 0), (.int .i32 0), (.int .i32 0), (.int .u8 0), (.int .u8 0), (.int .u8 0), (.int .u8 0), (.int .u8 0), (.int .i32 0), (.int .i32 0), (.int .u8 0), (.int .u8 0), (.int .u8 0), (.int .u8 0), (.int .u8 0), (.int .i32 0), (.int .i32 0), (.int .u8 0), (.int .u8 0), (.int .u8 0), (.int .u8 0), (.int .u8 0), (.int .i32 0), (.int .i32 0), (.int .u8 0), (.int .u8 0), (.int .u8 0), (.int .u8 0), (.int .u8 0), (.int .i32 0), (.int .i32 0), (.int .u8 0), (.int .u8 0), (.int .u8 0), (.int .u8 0), (.int .u8 0), (.int .i32 0), (.int .i32 0), (.int .u8 0), (.int .u8 0), (.int .u8 0), (.int .u8 0), (.int .u8 0), (.int .i32 0), (.int .i32 0), (.int .u8 0), (.int .u8 0), (.int .u8 0), (.int .u8 0), (.int .u8 0), (.int .i32 0), (.int .i32 0), (.int .u8 0), (.int .u8 0), (.int .u8 0), (.int .u8 0), (.int .u8 0), (.int .i32 0), (.int .i32 0), (.int .u8 0), (.int .u8 0), (.int .u8 0), (.int .u8 0), (.int .u8 0), (.int .i32 0), (.int .i32 0), (.int .u8 0), (.int .u8 0), (.int .u8 0), (.int .u8 0), (.int .u8 0), (.int .i32 0), (.int .i32 0), (.int .u8 0), (.int .u8 0), (.int .u8 0), (.int .u8 0), (.int .u8 0), (.int .i32 0), (.int .i32 0), (.int .u8 0), (.int .u8 0), (.int .u8 0), (.int .u8 0), (.int .u8 0), (.int .i32 0), (.int .i32 0), (.int .u8 0), (.int .u8 0), (.int .u8 0), (.int .u8 0), (.int .u8 0), (.int .i32 0), (.int .i32 0), (.int .u8 0), (.int .u8 0), (.int .u8 0), (.int .u8 0), (.int .u8 0), (.int .i32 0), (.int .i32 0), (.int .u8 0), (.int .u8 0), (.int .u8 0), (.int .u8 0), (.int .u8 0), (.int .i32 0), (.int .i32 0), (.int .u8 0), (.int .u8 0), (.int .u8 0), (.int .u8 0), (.int .u8 0), (.int .i32 0), (.int .i32 0), (.int .u8 0), (.int .u8 0), (.int .u8 0), (.int .u8 0), (.int .u8 0), (.int .i32 0), (.int .i32 0), (.int .u8 0), (.int .u8 0), (.int .u8 0), (.int .u8 0), (.int .u8 0), (.int .i32 0), (.int .i32 0), (.int .u8 0), (.int .u8 0), (.int .u8 0), (.int .u8 0), (.int .u8 0), (.int .i32 0), (.int .i32 0), (.int .u8 0), (.int .u8 0), (.int .u8 0), (.int .u8 0), (.int .u8 0), (.int .i32 0), (.int .i32 0), (.int .u8 0), (.int .u8 0), (.int .u8 0), (.int .u8 0), (.int .u8 0), (.int .i32 0), (.int .i32 0), (.int .u8 0), (.int .u8 0), (.int .u8 0), (.int .u8 0), (.int .u8 0), (.int .i32 0), (.int .i32 0), (.int .u8 0), (.int .u8 0), (.int .u8 0), (.int .u8 0), (.int .u8 0), (.int .i32 0), (.int .i32 0), (.int .u8 0), (.int .u8 0), (.int .u8 0), (.int .u8 0), (.int .u8 0), (.int .i32 0), (.int .i32 0), (.int .u8 0), (.int .u8 0), (.int .u8 0), (.int .u8 0), (.int .u8 0), (.int .i32 0), (.int .i32 0), (.int .u8 0), (.int .u8 0), (.int .u8 0), (.int .u8 0), (.int .u8 0), (.int .i32 0), (.int .i32 0), (.int .u8 0), (.int .u8 0), (.int .u8 0), (.int .u8 0), (.int .u8 0), (.int .i32 0), (.int .i32 0), (.int .u8 0), (.int .u8 0), (.int .u8 0), (.int .u8 0), (.int .u8 0), (.int .i32 0), (.int .i32 0), (.int .u8 0), (.int .u8 0), (.int .u8 0), (.int .u8 0), (.int .u8 0), (.int .i32 0), (.int .i32 0), (.int .u8 0), (.int .u8 0), (.int .u8 0), (.int .u8 0), (.int .u8 0), (.int .i32 0), (.int .i32 0), (.int .u8 0), (.int .u8 0), (.int .u8 0), (.int .u8 0), (.int .u8 0)]) := by kernel_rfl
def Tryz.pl256 : Nat → Option (Nat × Nat)
  | 0 => some (0, 1)
  | 1 => some (1, 1)
  | 2 => some (2, 1)
  | 3 => some (3, 1)
  | _ => none
@[simp] theorem Tryz.pl256x0 : Tryz.pl256 0 = some (0, 1) := rfl
@[simp] theorem Tryz.pl256x1 : Tryz.pl256 1 = some (1, 1) := rfl
@[simp] theorem Tryz.pl256x2 : Tryz.pl256 2 = some (2, 1) := rfl
@[simp] theorem Tryz.pl256x3 : Tryz.pl256 3 = some (3, 1) := rfl
def Tryz.pl261 : Nat → Option (Nat × Nat)
  | 0 => some (0, 1)
  | 1 => some (1, 1)
  | 2 => some (2, 1)
  | 3 => some (3, 1)
  | 4 => some (4, 1)
  | _ => none
@[simp] theorem Tryz.pl261x0 : Tryz.pl261 0 = some (0, 1) := rfl
@[simp] theorem Tryz.pl261x1 : Tryz.pl261 1 = some (1, 1) := rfl
@[simp] theorem Tryz.pl261x2 : Tryz.pl261 2 = some (2, 1) := rfl
@[simp] theorem Tryz.pl261x3 : Tryz.pl261 3 = some (3, 1) := rfl
@[simp] theorem Tryz.pl261x4 : Tryz.pl261 4 = some (4, 1) := rfl
def Tryz.pl272 : Nat → Option (Nat × Nat)
  | 0 => some (0, 1)
  | 1 => some (1, 1)
  | 2 => some (2, 1)
  | _ => none
@[simp] theorem Tryz.pl272x0 : Tryz.pl272 0 = some (0, 1) := rfl
@[simp] theorem Tryz.pl272x1 : Tryz.pl272 1 = some (1, 1) := rfl
@[simp] theorem Tryz.pl272x2 : Tryz.pl272 2 = some (2, 1) := rfl
def Tryz.pl301 : Nat → Option (Nat × Nat)
  | 0 => some (0, 1)
  | 1 => some (1, 1)
  | 2 => some (2, 1)
  | _ => none
@[simp] theorem Tryz.pl301x0 : Tryz.pl301 0 = some (0, 1) := rfl
@[simp] theorem Tryz.pl301x1 : Tryz.pl301 1 = some (1, 1) := rfl
@[simp] theorem Tryz.pl301x2 : Tryz.pl301 2 = some (2, 1) := rfl
def Tryz.pl308 : Nat → Option (Nat × Nat)
  | 0 => some (0, 1)
  | 1 => some (1, 1)
  | 2 => some (2, 1)
  | 3 => some (3, 1)
  | 4 => some (4, 1)
  | 5 => some (5, 1)
  | _ => none
@[simp] theorem Tryz.pl308x0 : Tryz.pl308 0 = some (0, 1) := rfl
@[simp] theorem Tryz.pl308x1 : Tryz.pl308 1 = some (1, 1) := rfl
@[simp] theorem Tryz.pl308x2 : Tryz.pl308 2 = some (2, 1) := rfl
@[simp] theorem Tryz.pl308x3 : Tryz.pl308 3 = some (3, 1) := rfl
@[simp] theorem Tryz.pl308x4 : Tryz.pl308 4 = some (4, 1) := rfl
@[simp] theorem Tryz.pl308x5 : Tryz.pl308 5 = some (5, 1) := rfl
def Tryz.pl312 : Nat → Option (Nat × Nat)
  | 0 => some (0, 1)
  | 1 => some (1, 1)
  | 2 => some (2, 1)
  | 3 => some (3, 1)
  | _ => none
@[simp] theorem Tryz.pl312x0 : Tryz.pl312 0 = some (0, 1) := rfl
@[simp] theorem Tryz.pl312x1 : Tryz.pl312 1 = some (1, 1) := rfl
@[simp] theorem Tryz.pl312x2 : Tryz.pl312 2 = some (2, 1) := rfl
@[simp] theorem Tryz.pl312x3 : Tryz.pl312 3 = some (3, 1) := rfl
def Tryz.pl317 : Nat → Option (Nat × Nat)
  | 0 => some (0, 1)
  | 1 => some (1, 1)
  | 2 => some (2, 1)
  | 3 => some (3, 1)
  | 4 => some (4, 1)
  | _ => none
@[simp] theorem Tryz.pl317x0 : Tryz.pl317 0 = some (0, 1) := rfl
@[simp] theorem Tryz.pl317x1 : Tryz.pl317 1 = some (1, 1) := rfl
@[simp] theorem Tryz.pl317x2 : Tryz.pl317 2 = some (2, 1) := rfl
@[simp] theorem Tryz.pl317x3 : Tryz.pl317 3 = some (3, 1) := rfl
@[simp] theorem Tryz.pl317x4 : Tryz.pl317 4 = some (4, 1) := rfl
def Tryz.pl326 : Nat → Option (Nat × Nat)
  | 0 => some (0, 1)
  | 1 => some (1, 1)
  | 2 => some (2, 1)
  | _ => none
@[simp] theorem Tryz.pl326x0 : Tryz.pl326 0 = some (0, 1) := rfl
@[simp] theorem Tryz.pl326x1 : Tryz.pl326 1 = some (1, 1) := rfl
@[simp] theorem Tryz.pl326x2 : Tryz.pl326 2 = some (2, 1) := rfl
def Tryz.pl350 : Nat → Option (Nat × Nat)
  | 0 => some (0, 1)
  | 1 => some (1, 1)
  | _ => none
@[simp] theorem Tryz.pl350x0 : Tryz.pl350 0 = some (0, 1) := rfl
@[simp] theorem Tryz.pl350x1 : Tryz.pl350 1 = some (1, 1) := rfl
end
end Go.Ab
