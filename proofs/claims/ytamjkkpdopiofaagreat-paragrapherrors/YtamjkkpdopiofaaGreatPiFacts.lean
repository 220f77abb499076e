/- Facts on the types of the seat's program, each by the kernel. Printed by wip/tools/Facts.lean. -/
import Derived.Test.YtamjkkpdopiofaaGreatAbW3
import Derived.Test.YtamjkkpdopiofaaGreatProg
import Derived.KernelRfl
namespace Go.Ab
open Go.Proofs
section
variable {cfg : Cfg} {h : Heap}
@[simp] theorem Tryz.pt3 {cs : List V} {off : Nat} : part Tryz.prog 3 cs off = slot cs off := part_leaf (by kernel_rfl)
@[simp] theorem Tryz.st3 {b off : Nat} {v : V} : storeV Tryz.prog cfg h 3 (.ptr b off) v = stv cfg h b off 1 (cellsOf v) := store_eq (by kernel_rfl)
@[simp] theorem Tryz.zr3 : zeroOf Tryz.prog 3 = some (.int .i64 0) := by kernel_rfl
@[simp] theorem Tryz.pt4 {cs : List V} {off : Nat} : part Tryz.prog 4 cs off = slot cs off := part_leaf (by kernel_rfl)
@[simp] theorem Tryz.st4 {b off : Nat} {v : V} : storeV Tryz.prog cfg h 4 (.ptr b off) v = stv cfg h b off 1 (cellsOf v) := store_eq (by kernel_rfl)
@[simp] theorem Tryz.zr4 : zeroOf Tryz.prog 4 = some (.bool false) := by kernel_rfl
@[simp] theorem Tryz.eq4 {a b : Bool} : eqV Tryz.prog 4 (.bool a) (.bool b) = some (a == b) := eqBool_eq (by kernel_rfl)
@[simp] theorem Tryz.pt5 {cs : List V} {off : Nat} : part Tryz.prog 5 cs off = slot cs off := part_leaf (by kernel_rfl)
@[simp] theorem Tryz.pt21 {cs : List V} {off : Nat} : part Tryz.prog 21 cs off = slot cs off := part_leaf (by kernel_rfl)
@[simp] theorem Tryz.pt22 {cs : List V} {off : Nat} : part Tryz.prog 22 cs off = slot cs off := part_leaf (by kernel_rfl)
@[simp] theorem Tryz.st22 {b off : Nat} {v : V} : storeV Tryz.prog cfg h 22 (.ptr b off) v = stv cfg h b off 1 (cellsOf v) := store_eq (by kernel_rfl)
@[simp] theorem Tryz.ixL22 {xs : List (List V)} {k : IntKind} {i : Int} : indexAddrV Tryz.prog 22 (.lst xs) (.int k i) = idxL 1 xs i := idxL_eq (show Tryz.prog.underlying 22 = some (.slice 3) by kernel_rfl) (show szOf Tryz.prog 3 = some 1 by kernel_rfl)
@[simp] theorem Tryz.ixS22 {b off len cap c : Nat} {k : IntKind} {i : Int} : indexAddrV Tryz.prog 22 (.sl b off len cap c) (.int k i) = idxS 1 b off len c i := idxS_eq (show Tryz.prog.underlying 22 = some (.slice 3) by kernel_rfl) (show szOf Tryz.prog 3 = some 1 by kernel_rfl)
@[simp] theorem Tryz.slL22 {xs : List (List V)} {lo hi : Option (Option V)} : sliceV Tryz.prog h 22 (.lst xs) lo hi = slcL 1 xs (boundV 0 lo) (boundV xs.length hi) := slcL_eq (show Tryz.prog.underlying 22 = some (.slice 3) by kernel_rfl) (show szOf Tryz.prog 3 = some 1 by kernel_rfl)
@[simp] theorem Tryz.slS22 {b off len cap k : Nat} {lo hi : Option (Option V)} : sliceV Tryz.prog h 22 (.sl b off len cap k) lo hi = slcS 1 b off len cap k (boundV 0 lo) (boundV len hi) := slcS_eq (show Tryz.prog.underlying 22 = some (.slice 3) by kernel_rfl) (show szOf Tryz.prog 3 = some 1 by kernel_rfl)
@[simp] theorem Tryz.slN22 {lo hi : Option (Option V)} : sliceV Tryz.prog h 22 .nils lo hi = slcN (boundV 0 lo) (boundV 0 hi) := slcN_eq (show Tryz.prog.underlying 22 = some (.slice 3) by kernel_rfl) (show szOf Tryz.prog 3 = some 1 by kernel_rfl)
@[simp] theorem Tryz.lnL22 {xs : List (List V)} : lenV Tryz.prog 22 (.lst xs) = some (.int .i64 xs.length) := lenL_eq (show Tryz.prog.underlying 22 = some (.slice 3) by kernel_rfl)
@[simp] theorem Tryz.lnS22 {b off len cap k : Nat} : lenV Tryz.prog 22 (.sl b off len cap k) = some (.int .i64 len) := lenS_eq (show Tryz.prog.underlying 22 = some (.slice 3) by kernel_rfl)
@[simp] theorem Tryz.lnN22 : lenV Tryz.prog 22 .nils = some (.int .i64 0) := lenN_eq (show Tryz.prog.underlying 22 = some (.slice 3) by kernel_rfl)
@[simp] theorem Tryz.ap22 {d x : V} : appendV Tryz.prog cfg h 22 22 d x = appS cfg h 1 8 d (srcCells h 1 x) := appS_eq (show Tryz.prog.underlying 22 = some (.slice 3) by kernel_rfl) (show szOf Tryz.prog 3 = some 1 by kernel_rfl) (by kernel_rfl) (by kernel_rfl) (by decide)
@[simp] theorem Tryz.bs22 {len : Nat} {vs : List V} : buildSliceV Tryz.prog h 22 len vs = (cellsAll 1 vs).bind fun cs => if vs.length = len && decide (len * 1 ≤ 16777216) then some (.sl h.length 0 len len 1, h ++ [some cs]) else none := buildSlice_eq (show Tryz.prog.underlying 22 = some (.slice 3) by kernel_rfl) (show szOf Tryz.prog 3 = some 1 by kernel_rfl) (by kernel_rfl) (by decide)
@[simp] theorem Tryz.mk22 {n m : Int} : makeSliceV Tryz.prog h 22 (.int .i64 n) (.int .i64 m) = mkS h 1 8 [(.int .i64 0)] n m := mkS_eq (show Tryz.prog.underlying 22 = some (.slice 3) by kernel_rfl) (show szOf Tryz.prog 3 = some 1 by kernel_rfl) (by kernel_rfl) (show zeroOf Tryz.prog 3 = some (.int .i64 0) by kernel_rfl) rfl (by decide) (by decide)
@[simp] theorem Tryz.pt25 {cs : List V} {off : Nat} : part Tryz.prog 25 cs off = slot cs off := part_leaf (by kernel_rfl)
@[simp] theorem Tryz.ixL25 {xs : List (List V)} {k : IntKind} {i : Int} : indexAddrV Tryz.prog 25 (.lst xs) (.int k i) = idxL 8 xs i := idxL_eq (show Tryz.prog.underlying 25 = some (.slice 40) by kernel_rfl) (show szOf Tryz.prog 40 = some 8 by kernel_rfl)
@[simp] theorem Tryz.ixS25 {b off len cap c : Nat} {k : IntKind} {i : Int} : indexAddrV Tryz.prog 25 (.sl b off len cap c) (.int k i) = idxS 8 b off len c i := idxS_eq (show Tryz.prog.underlying 25 = some (.slice 40) by kernel_rfl) (show szOf Tryz.prog 40 = some 8 by kernel_rfl)
@[simp] theorem Tryz.lnL25 {xs : List (List V)} : lenV Tryz.prog 25 (.lst xs) = some (.int .i64 xs.length) := lenL_eq (show Tryz.prog.underlying 25 = some (.slice 40) by kernel_rfl)
@[simp] theorem Tryz.lnS25 {b off len cap k : Nat} : lenV Tryz.prog 25 (.sl b off len cap k) = some (.int .i64 len) := lenS_eq (show Tryz.prog.underlying 25 = some (.slice 40) by kernel_rfl)
@[simp] theorem Tryz.lnN25 : lenV Tryz.prog 25 .nils = some (.int .i64 0) := lenN_eq (show Tryz.prog.underlying 25 = some (.slice 40) by kernel_rfl)
@[simp] theorem Tryz.ap25 {d x : V} : appendV Tryz.prog cfg h 25 25 d x = appS cfg h 8 112 d (srcCells h 8 x) := appS_eq (show Tryz.prog.underlying 25 = some (.slice 40) by kernel_rfl) (show szOf Tryz.prog 40 = some 8 by kernel_rfl) (by kernel_rfl) (by kernel_rfl) (by decide)
@[simp] theorem Tryz.bs25 {len : Nat} {vs : List V} : buildSliceV Tryz.prog h 25 len vs = (cellsAll 8 vs).bind fun cs => if vs.length = len && decide (len * 8 ≤ 16777216) then some (.sl h.length 0 len len 8, h ++ [some cs]) else none := buildSlice_eq (show Tryz.prog.underlying 25 = some (.slice 40) by kernel_rfl) (show szOf Tryz.prog 40 = some 8 by kernel_rfl) (by kernel_rfl) (by decide)
@[simp] theorem Tryz.pt27 {cs : List V} {off : Nat} : part Tryz.prog 27 cs off = slot cs off := part_leaf (by kernel_rfl)
@[simp] theorem Tryz.st27 {b off : Nat} {v : V} : storeV Tryz.prog cfg h 27 (.ptr b off) v = stv cfg h b off 1 (cellsOf v) := store_eq (by kernel_rfl)
@[simp] theorem Tryz.ixL27 {xs : List (List V)} {k : IntKind} {i : Int} : indexAddrV Tryz.prog 27 (.lst xs) (.int k i) = idxL 1 xs i := idxL_eq (show Tryz.prog.underlying 27 = some (.slice 21) by kernel_rfl) (show szOf Tryz.prog 21 = some 1 by kernel_rfl)
@[simp] theorem Tryz.ixS27 {b off len cap c : Nat} {k : IntKind} {i : Int} : indexAddrV Tryz.prog 27 (.sl b off len cap c) (.int k i) = idxS 1 b off len c i := idxS_eq (show Tryz.prog.underlying 27 = some (.slice 21) by kernel_rfl) (show szOf Tryz.prog 21 = some 1 by kernel_rfl)
@[simp] theorem Tryz.slL27 {xs : List (List V)} {lo hi : Option (Option V)} : sliceV Tryz.prog h 27 (.lst xs) lo hi = slcL 1 xs (boundV 0 lo) (boundV xs.length hi) := slcL_eq (show Tryz.prog.underlying 27 = some (.slice 21) by kernel_rfl) (show szOf Tryz.prog 21 = some 1 by kernel_rfl)
@[simp] theorem Tryz.slS27 {b off len cap k : Nat} {lo hi : Option (Option V)} : sliceV Tryz.prog h 27 (.sl b off len cap k) lo hi = slcS 1 b off len cap k (boundV 0 lo) (boundV len hi) := slcS_eq (show Tryz.prog.underlying 27 = some (.slice 21) by kernel_rfl) (show szOf Tryz.prog 21 = some 1 by kernel_rfl)
@[simp] theorem Tryz.slN27 {lo hi : Option (Option V)} : sliceV Tryz.prog h 27 .nils lo hi = slcN (boundV 0 lo) (boundV 0 hi) := slcN_eq (show Tryz.prog.underlying 27 = some (.slice 21) by kernel_rfl) (show szOf Tryz.prog 21 = some 1 by kernel_rfl)
@[simp] theorem Tryz.lnL27 {xs : List (List V)} : lenV Tryz.prog 27 (.lst xs) = some (.int .i64 xs.length) := lenL_eq (show Tryz.prog.underlying 27 = some (.slice 21) by kernel_rfl)
@[simp] theorem Tryz.lnS27 {b off len cap k : Nat} : lenV Tryz.prog 27 (.sl b off len cap k) = some (.int .i64 len) := lenS_eq (show Tryz.prog.underlying 27 = some (.slice 21) by kernel_rfl)
@[simp] theorem Tryz.lnN27 : lenV Tryz.prog 27 .nils = some (.int .i64 0) := lenN_eq (show Tryz.prog.underlying 27 = some (.slice 21) by kernel_rfl)
@[simp] theorem Tryz.ap27 {d x : V} : appendV Tryz.prog cfg h 27 27 d x = appS cfg h 1 4 d (srcCells h 1 x) := appS_eq (show Tryz.prog.underlying 27 = some (.slice 21) by kernel_rfl) (show szOf Tryz.prog 21 = some 1 by kernel_rfl) (by kernel_rfl) (by kernel_rfl) (by decide)
@[simp] theorem Tryz.bs27 {len : Nat} {vs : List V} : buildSliceV Tryz.prog h 27 len vs = (cellsAll 1 vs).bind fun cs => if vs.length = len && decide (len * 1 ≤ 16777216) then some (.sl h.length 0 len len 1, h ++ [some cs]) else none := buildSlice_eq (show Tryz.prog.underlying 27 = some (.slice 21) by kernel_rfl) (show szOf Tryz.prog 21 = some 1 by kernel_rfl) (by kernel_rfl) (by decide)
@[simp] theorem Tryz.pt28 {cs : List V} {off : Nat} : part Tryz.prog 28 cs off = slot cs off := part_leaf (by kernel_rfl)
@[simp] theorem Tryz.st28 {b off : Nat} {v : V} : storeV Tryz.prog cfg h 28 (.ptr b off) v = stv cfg h b off 1 (cellsOf v) := store_eq (by kernel_rfl)
@[simp] theorem Tryz.ixL28 {xs : List (List V)} {k : IntKind} {i : Int} : indexAddrV Tryz.prog 28 (.lst xs) (.int k i) = idxL 4 xs i := idxL_eq (show Tryz.prog.underlying 28 = some (.slice 35) by kernel_rfl) (show szOf Tryz.prog 35 = some 4 by kernel_rfl)
@[simp] theorem Tryz.ixS28 {b off len cap c : Nat} {k : IntKind} {i : Int} : indexAddrV Tryz.prog 28 (.sl b off len cap c) (.int k i) = idxS 4 b off len c i := idxS_eq (show Tryz.prog.underlying 28 = some (.slice 35) by kernel_rfl) (show szOf Tryz.prog 35 = some 4 by kernel_rfl)
@[simp] theorem Tryz.lnL28 {xs : List (List V)} : lenV Tryz.prog 28 (.lst xs) = some (.int .i64 xs.length) := lenL_eq (show Tryz.prog.underlying 28 = some (.slice 35) by kernel_rfl)
@[simp] theorem Tryz.lnS28 {b off len cap k : Nat} : lenV Tryz.prog 28 (.sl b off len cap k) = some (.int .i64 len) := lenS_eq (show Tryz.prog.underlying 28 = some (.slice 35) by kernel_rfl)
@[simp] theorem Tryz.lnN28 : lenV Tryz.prog 28 .nils = some (.int .i64 0) := lenN_eq (show Tryz.prog.underlying 28 = some (.slice 35) by kernel_rfl)
@[simp] theorem Tryz.ap28 {d x : V} : appendV Tryz.prog cfg h 28 28 d x = appS cfg h 4 32 d (srcCells h 4 x) := appS_eq (show Tryz.prog.underlying 28 = some (.slice 35) by kernel_rfl) (show szOf Tryz.prog 35 = some 4 by kernel_rfl) (by kernel_rfl) (by kernel_rfl) (by decide)
@[simp] theorem Tryz.bs28 {len : Nat} {vs : List V} : buildSliceV Tryz.prog h 28 len vs = (cellsAll 4 vs).bind fun cs => if vs.length = len && decide (len * 4 ≤ 16777216) then some (.sl h.length 0 len len 4, h ++ [some cs]) else none := buildSlice_eq (show Tryz.prog.underlying 28 = some (.slice 35) by kernel_rfl) (show szOf Tryz.prog 35 = some 4 by kernel_rfl) (by kernel_rfl) (by decide)
@[simp] theorem Tryz.pt30 {cs : List V} {off : Nat} : part Tryz.prog 30 cs off = if off + 5 ≤ cs.length then some (.agg ((cs.drop off).take 5)) else none := part_agg (by kernel_rfl) (by kernel_rfl)
@[simp] theorem Tryz.st30 {b off : Nat} {v : V} : storeV Tryz.prog cfg h 30 (.ptr b off) v = stv cfg h b off 5 (cellsOf v) := store_eq (by kernel_rfl)
@[simp] theorem Tryz.zr30 : zeroOf Tryz.prog 30 = some (.agg [.nils, .nils, (.int .i64 0), (.int .i64 0), (.int .i64 0)]) := by kernel_rfl
@[simp] theorem Tryz.fa30x0 {b off : Nat} : fieldAddrV Tryz.prog 30 (.ptr b off) 0 = some (.ptr b off) := by kernel_rfl
@[simp] theorem Tryz.fl30x0 {cs : List V} {off : Nat} : fieldAddrV Tryz.prog 30 (.lptr cs off) 0 = some (.lptr cs off) := by kernel_rfl
@[simp] theorem Tryz.fa30x1 {b off : Nat} : fieldAddrV Tryz.prog 30 (.ptr b off) 1 = some (.ptr b (off + 1)) := by kernel_rfl
@[simp] theorem Tryz.fl30x1 {cs : List V} {off : Nat} : fieldAddrV Tryz.prog 30 (.lptr cs off) 1 = some (.lptr cs (off + 1)) := by kernel_rfl
@[simp] theorem Tryz.fa30x2 {b off : Nat} : fieldAddrV Tryz.prog 30 (.ptr b off) 2 = some (.ptr b (off + 2)) := by kernel_rfl
@[simp] theorem Tryz.fl30x2 {cs : List V} {off : Nat} : fieldAddrV Tryz.prog 30 (.lptr cs off) 2 = some (.lptr cs (off + 2)) := by kernel_rfl
@[simp] theorem Tryz.fa30x3 {b off : Nat} : fieldAddrV Tryz.prog 30 (.ptr b off) 3 = some (.ptr b (off + 3)) := by kernel_rfl
@[simp] theorem Tryz.fl30x3 {cs : List V} {off : Nat} : fieldAddrV Tryz.prog 30 (.lptr cs off) 3 = some (.lptr cs (off + 3)) := by kernel_rfl
@[simp] theorem Tryz.fa30x4 {b off : Nat} : fieldAddrV Tryz.prog 30 (.ptr b off) 4 = some (.ptr b (off + 4)) := by kernel_rfl
@[simp] theorem Tryz.fl30x4 {cs : List V} {off : Nat} : fieldAddrV Tryz.prog 30 (.lptr cs off) 4 = some (.lptr cs (off + 4)) := by kernel_rfl
def Tryz.pl30 : Nat → Option (Nat × Nat)
  | 0 => some (0, 1)
  | 1 => some (1, 1)
  | 2 => some (2, 1)
  | 3 => some (3, 1)
  | 4 => some (4, 1)
  | _ => none
@[simp] theorem Tryz.pl30x0 : Tryz.pl30 0 = some (0, 1) := rfl
@[simp] theorem Tryz.pl30x1 : Tryz.pl30 1 = some (1, 1) := rfl
@[simp] theorem Tryz.pl30x2 : Tryz.pl30 2 = some (2, 1) := rfl
@[simp] theorem Tryz.pl30x3 : Tryz.pl30 3 = some (3, 1) := rfl
@[simp] theorem Tryz.pl30x4 : Tryz.pl30 4 = some (4, 1) := rfl
@[simp] theorem Tryz.bd30 {ps : List (Nat × V)} : buildV Tryz.prog 30 ps = (fillV Tryz.pl30 [.nils, .nils, (.int .i64 0), (.int .i64 0), (.int .i64 0)] ps).map .agg := build_eq (pl := Tryz.pl30) Tryz.zr30 Tryz.underlying30 (by kernel_rfl) (fun i => by match i with | 0 => (show _ = _; kernel_rfl) | 1 => (show _ = _; kernel_rfl) | 2 => (show _ = _; kernel_rfl) | 3 => (show _ = _; kernel_rfl) | 4 => (show _ = _; kernel_rfl) | _ + 5 => (show _ = _; kernel_rfl))
@[simp] theorem Tryz.pt35 {cs : List V} {off : Nat} : part Tryz.prog 35 cs off = if off + 4 ≤ cs.length then some (.agg ((cs.drop off).take 4)) else none := part_agg (by kernel_rfl) (by kernel_rfl)
@[simp] theorem Tryz.st35 {b off : Nat} {v : V} : storeV Tryz.prog cfg h 35 (.ptr b off) v = stv cfg h b off 4 (cellsOf v) := store_eq (by kernel_rfl)
@[simp] theorem Tryz.zr35 : zeroOf Tryz.prog 35 = some (.agg [(.int .i64 0), (.int .i64 0), (.int .i64 0), (.int .i64 0)]) := by kernel_rfl
@[simp] theorem Tryz.fa35x0 {b off : Nat} : fieldAddrV Tryz.prog 35 (.ptr b off) 0 = some (.ptr b off) := by kernel_rfl
@[simp] theorem Tryz.fl35x0 {cs : List V} {off : Nat} : fieldAddrV Tryz.prog 35 (.lptr cs off) 0 = some (.lptr cs off) := by kernel_rfl
@[simp] theorem Tryz.fa35x1 {b off : Nat} : fieldAddrV Tryz.prog 35 (.ptr b off) 1 = some (.ptr b (off + 1)) := by kernel_rfl
@[simp] theorem Tryz.fl35x1 {cs : List V} {off : Nat} : fieldAddrV Tryz.prog 35 (.lptr cs off) 1 = some (.lptr cs (off + 1)) := by kernel_rfl
@[simp] theorem Tryz.fa35x2 {b off : Nat} : fieldAddrV Tryz.prog 35 (.ptr b off) 2 = some (.ptr b (off + 2)) := by kernel_rfl
@[simp] theorem Tryz.fl35x2 {cs : List V} {off : Nat} : fieldAddrV Tryz.prog 35 (.lptr cs off) 2 = some (.lptr cs (off + 2)) := by kernel_rfl
@[simp] theorem Tryz.fa35x3 {b off : Nat} : fieldAddrV Tryz.prog 35 (.ptr b off) 3 = some (.ptr b (off + 3)) := by kernel_rfl
@[simp] theorem Tryz.fl35x3 {cs : List V} {off : Nat} : fieldAddrV Tryz.prog 35 (.lptr cs off) 3 = some (.lptr cs (off + 3)) := by kernel_rfl
def Tryz.pl35 : Nat → Option (Nat × Nat)
  | 0 => some (0, 1)
  | 1 => some (1, 1)
  | 2 => some (2, 1)
  | 3 => some (3, 1)
  | _ => none
@[simp] theorem Tryz.pl35x0 : Tryz.pl35 0 = some (0, 1) := rfl
@[simp] theorem Tryz.pl35x1 : Tryz.pl35 1 = some (1, 1) := rfl
@[simp] theorem Tryz.pl35x2 : Tryz.pl35 2 = some (2, 1) := rfl
@[simp] theorem Tryz.pl35x3 : Tryz.pl35 3 = some (3, 1) := rfl
@[simp] theorem Tryz.bd35 {ps : List (Nat × V)} : buildV Tryz.prog 35 ps = (fillV Tryz.pl35 [(.int .i64 0), (.int .i64 0), (.int .i64 0), (.int .i64 0)] ps).map .agg := build_eq (pl := Tryz.pl35) Tryz.zr35 Tryz.underlying35 (by kernel_rfl) (fun i => by match i with | 0 => (show _ = _; kernel_rfl) | 1 => (show _ = _; kernel_rfl) | 2 => (show _ = _; kernel_rfl) | 3 => (show _ = _; kernel_rfl) | _ + 4 => (show _ = _; kernel_rfl))
@[simp] theorem Tryz.pt36 {cs : List V} {off : Nat} : part Tryz.prog 36 cs off = slot cs off := part_leaf (by kernel_rfl)
@[simp] theorem Tryz.st36 {b off : Nat} {v : V} : storeV Tryz.prog cfg h 36 (.ptr b off) v = stv cfg h b off 1 (cellsOf v) := store_eq (by kernel_rfl)
@[simp] theorem Tryz.ixL36 {xs : List (List V)} {k : IntKind} {i : Int} : indexAddrV Tryz.prog 36 (.lst xs) (.int k i) = idxL 3 xs i := idxL_eq (show Tryz.prog.underlying 36 = some (.slice 61) by kernel_rfl) (show szOf Tryz.prog 61 = some 3 by kernel_rfl)
@[simp] theorem Tryz.ixS36 {b off len cap c : Nat} {k : IntKind} {i : Int} : indexAddrV Tryz.prog 36 (.sl b off len cap c) (.int k i) = idxS 3 b off len c i := idxS_eq (show Tryz.prog.underlying 36 = some (.slice 61) by kernel_rfl) (show szOf Tryz.prog 61 = some 3 by kernel_rfl)
@[simp] theorem Tryz.lnL36 {xs : List (List V)} : lenV Tryz.prog 36 (.lst xs) = some (.int .i64 xs.length) := lenL_eq (show Tryz.prog.underlying 36 = some (.slice 61) by kernel_rfl)
@[simp] theorem Tryz.lnS36 {b off len cap k : Nat} : lenV Tryz.prog 36 (.sl b off len cap k) = some (.int .i64 len) := lenS_eq (show Tryz.prog.underlying 36 = some (.slice 61) by kernel_rfl)
@[simp] theorem Tryz.lnN36 : lenV Tryz.prog 36 .nils = some (.int .i64 0) := lenN_eq (show Tryz.prog.underlying 36 = some (.slice 61) by kernel_rfl)
@[simp] theorem Tryz.ap36 {d x : V} : appendV Tryz.prog cfg h 36 36 d x = appS cfg h 3 16 d (srcCells h 3 x) := appS_eq (show Tryz.prog.underlying 36 = some (.slice 61) by kernel_rfl) (show szOf Tryz.prog 61 = some 3 by kernel_rfl) (by kernel_rfl) (by kernel_rfl) (by decide)
@[simp] theorem Tryz.bs36 {len : Nat} {vs : List V} : buildSliceV Tryz.prog h 36 len vs = (cellsAll 3 vs).bind fun cs => if vs.length = len && decide (len * 3 ≤ 16777216) then some (.sl h.length 0 len len 3, h ++ [some cs]) else none := buildSlice_eq (show Tryz.prog.underlying 36 = some (.slice 61) by kernel_rfl) (show szOf Tryz.prog 61 = some 3 by kernel_rfl) (by kernel_rfl) (by decide)
@[simp] theorem Tryz.pt37 {cs : List V} {off : Nat} : part Tryz.prog 37 cs off = slot cs off := part_leaf (by kernel_rfl)
@[simp] theorem Tryz.st37 {b off : Nat} {v : V} : storeV Tryz.prog cfg h 37 (.ptr b off) v = stv cfg h b off 1 (cellsOf v) := store_eq (by kernel_rfl)
@[simp] theorem Tryz.ixL37 {xs : List (List V)} {k : IntKind} {i : Int} : indexAddrV Tryz.prog 37 (.lst xs) (.int k i) = idxL 3 xs i := idxL_eq (show Tryz.prog.underlying 37 = some (.slice 63) by kernel_rfl) (show szOf Tryz.prog 63 = some 3 by kernel_rfl)
@[simp] theorem Tryz.ixS37 {b off len cap c : Nat} {k : IntKind} {i : Int} : indexAddrV Tryz.prog 37 (.sl b off len cap c) (.int k i) = idxS 3 b off len c i := idxS_eq (show Tryz.prog.underlying 37 = some (.slice 63) by kernel_rfl) (show szOf Tryz.prog 63 = some 3 by kernel_rfl)
@[simp] theorem Tryz.lnL37 {xs : List (List V)} : lenV Tryz.prog 37 (.lst xs) = some (.int .i64 xs.length) := lenL_eq (show Tryz.prog.underlying 37 = some (.slice 63) by kernel_rfl)
@[simp] theorem Tryz.lnS37 {b off len cap k : Nat} : lenV Tryz.prog 37 (.sl b off len cap k) = some (.int .i64 len) := lenS_eq (show Tryz.prog.underlying 37 = some (.slice 63) by kernel_rfl)
@[simp] theorem Tryz.lnN37 : lenV Tryz.prog 37 .nils = some (.int .i64 0) := lenN_eq (show Tryz.prog.underlying 37 = some (.slice 63) by kernel_rfl)
@[simp] theorem Tryz.ap37 {d x : V} : appendV Tryz.prog cfg h 37 37 d x = appS cfg h 3 16 d (srcCells h 3 x) := appS_eq (show Tryz.prog.underlying 37 = some (.slice 63) by kernel_rfl) (show szOf Tryz.prog 63 = some 3 by kernel_rfl) (by kernel_rfl) (by kernel_rfl) (by decide)
@[simp] theorem Tryz.bs37 {len : Nat} {vs : List V} : buildSliceV Tryz.prog h 37 len vs = (cellsAll 3 vs).bind fun cs => if vs.length = len && decide (len * 3 ≤ 16777216) then some (.sl h.length 0 len len 3, h ++ [some cs]) else none := buildSlice_eq (show Tryz.prog.underlying 37 = some (.slice 63) by kernel_rfl) (show szOf Tryz.prog 63 = some 3 by kernel_rfl) (by kernel_rfl) (by decide)
@[simp] theorem Tryz.pt38 {cs : List V} {off : Nat} : part Tryz.prog 38 cs off = slot cs off := part_leaf (by kernel_rfl)
@[simp] theorem Tryz.st38 {b off : Nat} {v : V} : storeV Tryz.prog cfg h 38 (.ptr b off) v = stv cfg h b off 1 (cellsOf v) := store_eq (by kernel_rfl)
@[simp] theorem Tryz.ixL38 {xs : List (List V)} {k : IntKind} {i : Int} : indexAddrV Tryz.prog 38 (.lst xs) (.int k i) = idxL 4 xs i := idxL_eq (show Tryz.prog.underlying 38 = some (.slice 65) by kernel_rfl) (show szOf Tryz.prog 65 = some 4 by kernel_rfl)
@[simp] theorem Tryz.ixS38 {b off len cap c : Nat} {k : IntKind} {i : Int} : indexAddrV Tryz.prog 38 (.sl b off len cap c) (.int k i) = idxS 4 b off len c i := idxS_eq (show Tryz.prog.underlying 38 = some (.slice 65) by kernel_rfl) (show szOf Tryz.prog 65 = some 4 by kernel_rfl)
@[simp] theorem Tryz.lnL38 {xs : List (List V)} : lenV Tryz.prog 38 (.lst xs) = some (.int .i64 xs.length) := lenL_eq (show Tryz.prog.underlying 38 = some (.slice 65) by kernel_rfl)
@[simp] theorem Tryz.lnS38 {b off len cap k : Nat} : lenV Tryz.prog 38 (.sl b off len cap k) = some (.int .i64 len) := lenS_eq (show Tryz.prog.underlying 38 = some (.slice 65) by kernel_rfl)
@[simp] theorem Tryz.lnN38 : lenV Tryz.prog 38 .nils = some (.int .i64 0) := lenN_eq (show Tryz.prog.underlying 38 = some (.slice 65) by kernel_rfl)
@[simp] theorem Tryz.ap38 {d x : V} : appendV Tryz.prog cfg h 38 38 d x = appS cfg h 4 24 d (srcCells h 4 x) := appS_eq (show Tryz.prog.underlying 38 = some (.slice 65) by kernel_rfl) (show szOf Tryz.prog 65 = some 4 by kernel_rfl) (by kernel_rfl) (by kernel_rfl) (by decide)
@[simp] theorem Tryz.bs38 {len : Nat} {vs : List V} : buildSliceV Tryz.prog h 38 len vs = (cellsAll 4 vs).bind fun cs => if vs.length = len && decide (len * 4 ≤ 16777216) then some (.sl h.length 0 len len 4, h ++ [some cs]) else none := buildSlice_eq (show Tryz.prog.underlying 38 = some (.slice 65) by kernel_rfl) (show szOf Tryz.prog 65 = some 4 by kernel_rfl) (by kernel_rfl) (by decide)
@[simp] theorem Tryz.pt40 {cs : List V} {off : Nat} : part Tryz.prog 40 cs off = if off + 8 ≤ cs.length then some (.agg ((cs.drop off).take 8)) else none := part_agg (by kernel_rfl) (by kernel_rfl)
@[simp] theorem Tryz.st40 {b off : Nat} {v : V} : storeV Tryz.prog cfg h 40 (.ptr b off) v = stv cfg h b off 8 (cellsOf v) := store_eq (by kernel_rfl)
@[simp] theorem Tryz.zr40 : zeroOf Tryz.prog 40 = some (.agg [(.int .i64 0), (.int .i64 0), (.int .i64 0), (.int .i64 0), (.int .i64 0), .nils, .nils, .nils]) := by kernel_rfl
@[simp] theorem Tryz.fa40x0 {b off : Nat} : fieldAddrV Tryz.prog 40 (.ptr b off) 0 = some (.ptr b off) := by kernel_rfl
@[simp] theorem Tryz.fl40x0 {cs : List V} {off : Nat} : fieldAddrV Tryz.prog 40 (.lptr cs off) 0 = some (.lptr cs off) := by kernel_rfl
@[simp] theorem Tryz.fa40x1 {b off : Nat} : fieldAddrV Tryz.prog 40 (.ptr b off) 1 = some (.ptr b (off + 1)) := by kernel_rfl
@[simp] theorem Tryz.fl40x1 {cs : List V} {off : Nat} : fieldAddrV Tryz.prog 40 (.lptr cs off) 1 = some (.lptr cs (off + 1)) := by kernel_rfl
@[simp] theorem Tryz.fa40x2 {b off : Nat} : fieldAddrV Tryz.prog 40 (.ptr b off) 2 = some (.ptr b (off + 2)) := by kernel_rfl
@[simp] theorem Tryz.fl40x2 {cs : List V} {off : Nat} : fieldAddrV Tryz.prog 40 (.lptr cs off) 2 = some (.lptr cs (off + 2)) := by kernel_rfl
@[simp] theorem Tryz.fa40x3 {b off : Nat} : fieldAddrV Tryz.prog 40 (.ptr b off) 3 = some (.ptr b (off + 3)) := by kernel_rfl
@[simp] theorem Tryz.fl40x3 {cs : List V} {off : Nat} : fieldAddrV Tryz.prog 40 (.lptr cs off) 3 = some (.lptr cs (off + 3)) := by kernel_rfl
@[simp] theorem Tryz.fa40x4 {b off : Nat} : fieldAddrV Tryz.prog 40 (.ptr b off) 4 = some (.ptr b (off + 4)) := by kernel_rfl
@[simp] theorem Tryz.fl40x4 {cs : List V} {off : Nat} : fieldAddrV Tryz.prog 40 (.lptr cs off) 4 = some (.lptr cs (off + 4)) := by kernel_rfl
@[simp] theorem Tryz.fa40x5 {b off : Nat} : fieldAddrV Tryz.prog 40 (.ptr b off) 5 = some (.ptr b (off + 5)) := by kernel_rfl
@[simp] theorem Tryz.fl40x5 {cs : List V} {off : Nat} : fieldAddrV Tryz.prog 40 (.lptr cs off) 5 = some (.lptr cs (off + 5)) := by kernel_rfl
@[simp] theorem Tryz.fa40x6 {b off : Nat} : fieldAddrV Tryz.prog 40 (.ptr b off) 6 = some (.ptr b (off + 6)) := by kernel_rfl
@[simp] theorem Tryz.fl40x6 {cs : List V} {off : Nat} : fieldAddrV Tryz.prog 40 (.lptr cs off) 6 = some (.lptr cs (off + 6)) := by kernel_rfl
@[simp] theorem Tryz.fa40x7 {b off : Nat} : fieldAddrV Tryz.prog 40 (.ptr b off) 7 = some (.ptr b (off + 7)) := by kernel_rfl
@[simp] theorem Tryz.fl40x7 {cs : List V} {off : Nat} : fieldAddrV Tryz.prog 40 (.lptr cs off) 7 = some (.lptr cs (off + 7)) := by kernel_rfl
def Tryz.pl40 : Nat → Option (Nat × Nat)
  | 0 => some (0, 1)
  | 1 => some (1, 1)
  | 2 => some (2, 1)
  | 3 => some (3, 1)
  | 4 => some (4, 1)
  | 5 => some (5, 1)
  | 6 => some (6, 1)
  | 7 => some (7, 1)
  | _ => none
@[simp] theorem Tryz.pl40x0 : Tryz.pl40 0 = some (0, 1) := rfl
@[simp] theorem Tryz.pl40x1 : Tryz.pl40 1 = some (1, 1) := rfl
@[simp] theorem Tryz.pl40x2 : Tryz.pl40 2 = some (2, 1) := rfl
@[simp] theorem Tryz.pl40x3 : Tryz.pl40 3 = some (3, 1) := rfl
@[simp] theorem Tryz.pl40x4 : Tryz.pl40 4 = some (4, 1) := rfl
@[simp] theorem Tryz.pl40x5 : Tryz.pl40 5 = some (5, 1) := rfl
@[simp] theorem Tryz.pl40x6 : Tryz.pl40 6 = some (6, 1) := rfl
@[simp] theorem Tryz.pl40x7 : Tryz.pl40 7 = some (7, 1) := rfl
@[simp] theorem Tryz.bd40 {ps : List (Nat × V)} : buildV Tryz.prog 40 ps = (fillV Tryz.pl40 [(.int .i64 0), (.int .i64 0), (.int .i64 0), (.int .i64 0), (.int .i64 0), .nils, .nils, .nils] ps).map .agg := build_eq (pl := Tryz.pl40) Tryz.zr40 Tryz.underlying40 (by kernel_rfl) (fun i => by match i with | 0 => (show _ = _; kernel_rfl) | 1 => (show _ = _; kernel_rfl) | 2 => (show _ = _; kernel_rfl) | 3 => (show _ = _; kernel_rfl) | 4 => (show _ = _; kernel_rfl) | 5 => (show _ = _; kernel_rfl) | 6 => (show _ = _; kernel_rfl) | 7 => (show _ = _; kernel_rfl) | _ + 8 => (show _ = _; kernel_rfl))
@[simp] theorem Tryz.zr46 : zeroOf Tryz.prog 46 = some (.agg [.nils, (.int .i64 0)]) := by kernel_rfl
@[simp] theorem Tryz.fa46x0 {b off : Nat} : fieldAddrV Tryz.prog 46 (.ptr b off) 0 = some (.ptr b off) := by kernel_rfl
@[simp] theorem Tryz.fl46x0 {cs : List V} {off : Nat} : fieldAddrV Tryz.prog 46 (.lptr cs off) 0 = some (.lptr cs off) := by kernel_rfl
@[simp] theorem Tryz.fa46x1 {b off : Nat} : fieldAddrV Tryz.prog 46 (.ptr b off) 1 = some (.ptr b (off + 1)) := by kernel_rfl
@[simp] theorem Tryz.fl46x1 {cs : List V} {off : Nat} : fieldAddrV Tryz.prog 46 (.lptr cs off) 1 = some (.lptr cs (off + 1)) := by kernel_rfl
def Tryz.pl46 : Nat → Option (Nat × Nat)
  | 0 => some (0, 1)
  | 1 => some (1, 1)
  | _ => none
@[simp] theorem Tryz.pl46x0 : Tryz.pl46 0 = some (0, 1) := rfl
@[simp] theorem Tryz.pl46x1 : Tryz.pl46 1 = some (1, 1) := rfl
@[simp] theorem Tryz.bd46 {ps : List (Nat × V)} : buildV Tryz.prog 46 ps = (fillV Tryz.pl46 [.nils, (.int .i64 0)] ps).map .agg := build_eq (pl := Tryz.pl46) Tryz.zr46 Tryz.underlying46 (by kernel_rfl) (fun i => by match i with | 0 => (show _ = _; kernel_rfl) | 1 => (show _ = _; kernel_rfl) | _ + 2 => (show _ = _; kernel_rfl))
@[simp] theorem Tryz.ixL51 {xs : List (List V)} {k : IntKind} {i : Int} : indexAddrV Tryz.prog 51 (.lst xs) (.int k i) = idxL 10 xs i := idxL_eq (show Tryz.prog.underlying 51 = some (.slice 57) by kernel_rfl) (show szOf Tryz.prog 57 = some 10 by kernel_rfl)
@[simp] theorem Tryz.ixS51 {b off len cap c : Nat} {k : IntKind} {i : Int} : indexAddrV Tryz.prog 51 (.sl b off len cap c) (.int k i) = idxS 10 b off len c i := idxS_eq (show Tryz.prog.underlying 51 = some (.slice 57) by kernel_rfl) (show szOf Tryz.prog 57 = some 10 by kernel_rfl)
@[simp] theorem Tryz.lnL51 {xs : List (List V)} : lenV Tryz.prog 51 (.lst xs) = some (.int .i64 xs.length) := lenL_eq (show Tryz.prog.underlying 51 = some (.slice 57) by kernel_rfl)
@[simp] theorem Tryz.lnS51 {b off len cap k : Nat} : lenV Tryz.prog 51 (.sl b off len cap k) = some (.int .i64 len) := lenS_eq (show Tryz.prog.underlying 51 = some (.slice 57) by kernel_rfl)
@[simp] theorem Tryz.lnN51 : lenV Tryz.prog 51 .nils = some (.int .i64 0) := lenN_eq (show Tryz.prog.underlying 51 = some (.slice 57) by kernel_rfl)
@[simp] theorem Tryz.ap51 {d x : V} : appendV Tryz.prog cfg h 51 51 d x = appS cfg h 10 96 d (srcCells h 10 x) := appS_eq (show Tryz.prog.underlying 51 = some (.slice 57) by kernel_rfl) (show szOf Tryz.prog 57 = some 10 by kernel_rfl) (by kernel_rfl) (by kernel_rfl) (by decide)
@[simp] theorem Tryz.bs51 {len : Nat} {vs : List V} : buildSliceV Tryz.prog h 51 len vs = (cellsAll 10 vs).bind fun cs => if vs.length = len && decide (len * 10 ≤ 16777216) then some (.sl h.length 0 len len 10, h ++ [some cs]) else none := buildSlice_eq (show Tryz.prog.underlying 51 = some (.slice 57) by kernel_rfl) (show szOf Tryz.prog 57 = some 10 by kernel_rfl) (by kernel_rfl) (by decide)
@[simp] theorem Tryz.pt55 {cs : List V} {off : Nat} : part Tryz.prog 55 cs off = slot cs off := part_leaf (by kernel_rfl)
@[simp] theorem Tryz.st55 {b off : Nat} {v : V} : storeV Tryz.prog cfg h 55 (.ptr b off) v = stv cfg h b off 1 (cellsOf v) := store_eq (by kernel_rfl)
@[simp] theorem Tryz.ixL55 {xs : List (List V)} {k : IntKind} {i : Int} : indexAddrV Tryz.prog 55 (.lst xs) (.int k i) = idxL 8 xs i := idxL_eq (show Tryz.prog.underlying 55 = some (.slice 94) by kernel_rfl) (show szOf Tryz.prog 94 = some 8 by kernel_rfl)
@[simp] theorem Tryz.ixS55 {b off len cap c : Nat} {k : IntKind} {i : Int} : indexAddrV Tryz.prog 55 (.sl b off len cap c) (.int k i) = idxS 8 b off len c i := idxS_eq (show Tryz.prog.underlying 55 = some (.slice 94) by kernel_rfl) (show szOf Tryz.prog 94 = some 8 by kernel_rfl)
@[simp] theorem Tryz.slL55 {xs : List (List V)} {lo hi : Option (Option V)} : sliceV Tryz.prog h 55 (.lst xs) lo hi = slcL 8 xs (boundV 0 lo) (boundV xs.length hi) := slcL_eq (show Tryz.prog.underlying 55 = some (.slice 94) by kernel_rfl) (show szOf Tryz.prog 94 = some 8 by kernel_rfl)
@[simp] theorem Tryz.slS55 {b off len cap k : Nat} {lo hi : Option (Option V)} : sliceV Tryz.prog h 55 (.sl b off len cap k) lo hi = slcS 8 b off len cap k (boundV 0 lo) (boundV len hi) := slcS_eq (show Tryz.prog.underlying 55 = some (.slice 94) by kernel_rfl) (show szOf Tryz.prog 94 = some 8 by kernel_rfl)
@[simp] theorem Tryz.slN55 {lo hi : Option (Option V)} : sliceV Tryz.prog h 55 .nils lo hi = slcN (boundV 0 lo) (boundV 0 hi) := slcN_eq (show Tryz.prog.underlying 55 = some (.slice 94) by kernel_rfl) (show szOf Tryz.prog 94 = some 8 by kernel_rfl)
@[simp] theorem Tryz.lnL55 {xs : List (List V)} : lenV Tryz.prog 55 (.lst xs) = some (.int .i64 xs.length) := lenL_eq (show Tryz.prog.underlying 55 = some (.slice 94) by kernel_rfl)
@[simp] theorem Tryz.lnS55 {b off len cap k : Nat} : lenV Tryz.prog 55 (.sl b off len cap k) = some (.int .i64 len) := lenS_eq (show Tryz.prog.underlying 55 = some (.slice 94) by kernel_rfl)
@[simp] theorem Tryz.lnN55 : lenV Tryz.prog 55 .nils = some (.int .i64 0) := lenN_eq (show Tryz.prog.underlying 55 = some (.slice 94) by kernel_rfl)
@[simp] theorem Tryz.ap55 {d x : V} : appendV Tryz.prog cfg h 55 55 d x = appS cfg h 8 64 d (srcCells h 8 x) := appS_eq (show Tryz.prog.underlying 55 = some (.slice 94) by kernel_rfl) (show szOf Tryz.prog 94 = some 8 by kernel_rfl) (by kernel_rfl) (by kernel_rfl) (by decide)
@[simp] theorem Tryz.bs55 {len : Nat} {vs : List V} : buildSliceV Tryz.prog h 55 len vs = (cellsAll 8 vs).bind fun cs => if vs.length = len && decide (len * 8 ≤ 16777216) then some (.sl h.length 0 len len 8, h ++ [some cs]) else none := buildSlice_eq (show Tryz.prog.underlying 55 = some (.slice 94) by kernel_rfl) (show szOf Tryz.prog 94 = some 8 by kernel_rfl) (by kernel_rfl) (by decide)
@[simp] theorem Tryz.pt57 {cs : List V} {off : Nat} : part Tryz.prog 57 cs off = if off + 10 ≤ cs.length then some (.agg ((cs.drop off).take 10)) else none := part_agg (by kernel_rfl) (by kernel_rfl)
@[simp] theorem Tryz.st57 {b off : Nat} {v : V} : storeV Tryz.prog cfg h 57 (.ptr b off) v = stv cfg h b off 10 (cellsOf v) := store_eq (by kernel_rfl)
@[simp] theorem Tryz.zr57 : zeroOf Tryz.prog 57 = some (.agg [(.int .i64 0), (.int .i64 0), (.int .i64 0), (.int .i64 0), (.int .i64 0), (.int .i64 0), (.int .i64 0), (.int .i64 0), (.int .i64 0), .nils]) := by kernel_rfl
@[simp] theorem Tryz.fa57x0 {b off : Nat} : fieldAddrV Tryz.prog 57 (.ptr b off) 0 = some (.ptr b off) := by kernel_rfl
@[simp] theorem Tryz.fl57x0 {cs : List V} {off : Nat} : fieldAddrV Tryz.prog 57 (.lptr cs off) 0 = some (.lptr cs off) := by kernel_rfl
@[simp] theorem Tryz.fa57x1 {b off : Nat} : fieldAddrV Tryz.prog 57 (.ptr b off) 1 = some (.ptr b (off + 1)) := by kernel_rfl
@[simp] theorem Tryz.fl57x1 {cs : List V} {off : Nat} : fieldAddrV Tryz.prog 57 (.lptr cs off) 1 = some (.lptr cs (off + 1)) := by kernel_rfl
@[simp] theorem Tryz.fa57x2 {b off : Nat} : fieldAddrV Tryz.prog 57 (.ptr b off) 2 = some (.ptr b (off + 2)) := by kernel_rfl
@[simp] theorem Tryz.fl57x2 {cs : List V} {off : Nat} : fieldAddrV Tryz.prog 57 (.lptr cs off) 2 = some (.lptr cs (off + 2)) := by kernel_rfl
@[simp] theorem Tryz.fa57x3 {b off : Nat} : fieldAddrV Tryz.prog 57 (.ptr b off) 3 = some (.ptr b (off + 3)) := by kernel_rfl
@[simp] theorem Tryz.fl57x3 {cs : List V} {off : Nat} : fieldAddrV Tryz.prog 57 (.lptr cs off) 3 = some (.lptr cs (off + 3)) := by kernel_rfl
@[simp] theorem Tryz.fa57x4 {b off : Nat} : fieldAddrV Tryz.prog 57 (.ptr b off) 4 = some (.ptr b (off + 4)) := by kernel_rfl
@[simp] theorem Tryz.fl57x4 {cs : List V} {off : Nat} : fieldAddrV Tryz.prog 57 (.lptr cs off) 4 = some (.lptr cs (off + 4)) := by kernel_rfl
@[simp] theorem Tryz.fa57x5 {b off : Nat} : fieldAddrV Tryz.prog 57 (.ptr b off) 5 = some (.ptr b (off + 5)) := by kernel_rfl
@[simp] theorem Tryz.fl57x5 {cs : List V} {off : Nat} : fieldAddrV Tryz.prog 57 (.lptr cs off) 5 = some (.lptr cs (off + 5)) := by kernel_rfl
@[simp] theorem Tryz.fa57x6 {b off : Nat} : fieldAddrV Tryz.prog 57 (.ptr b off) 6 = some (.ptr b (off + 6)) := by kernel_rfl
@[simp] theorem Tryz.fl57x6 {cs : List V} {off : Nat} : fieldAddrV Tryz.prog 57 (.lptr cs off) 6 = some (.lptr cs (off + 6)) := by kernel_rfl
@[simp] theorem Tryz.fa57x7 {b off : Nat} : fieldAddrV Tryz.prog 57 (.ptr b off) 7 = some (.ptr b (off + 7)) := by kernel_rfl
@[simp] theorem Tryz.fl57x7 {cs : List V} {off : Nat} : fieldAddrV Tryz.prog 57 (.lptr cs off) 7 = some (.lptr cs (off + 7)) := by kernel_rfl
@[simp] theorem Tryz.fa57x8 {b off : Nat} : fieldAddrV Tryz.prog 57 (.ptr b off) 8 = some (.ptr b (off + 8)) := by kernel_rfl
@[simp] theorem Tryz.fl57x8 {cs : List V} {off : Nat} : fieldAddrV Tryz.prog 57 (.lptr cs off) 8 = some (.lptr cs (off + 8)) := by kernel_rfl
@[simp] theorem Tryz.fa57x9 {b off : Nat} : fieldAddrV Tryz.prog 57 (.ptr b off) 9 = some (.ptr b (off + 9)) := by kernel_rfl
@[simp] theorem Tryz.fl57x9 {cs : List V} {off : Nat} : fieldAddrV Tryz.prog 57 (.lptr cs off) 9 = some (.lptr cs (off + 9)) := by kernel_rfl
def Tryz.pl57 : Nat → Option (Nat × Nat)
  | 0 => some (0, 1)
  | 1 => some (1, 1)
  | 2 => some (2, 1)
  | 3 => some (3, 1)
  | 4 => some (4, 1)
  | 5 => some (5, 1)
  | 6 => some (6, 1)
  | 7 => some (7, 1)
  | 8 => some (8, 1)
  | 9 => some (9, 1)
  | _ => none
@[simp] theorem Tryz.pl57x0 : Tryz.pl57 0 = some (0, 1) := rfl
@[simp] theorem Tryz.pl57x1 : Tryz.pl57 1 = some (1, 1) := rfl
@[simp] theorem Tryz.pl57x2 : Tryz.pl57 2 = some (2, 1) := rfl
@[simp] theorem Tryz.pl57x3 : Tryz.pl57 3 = some (3, 1) := rfl
@[simp] theorem Tryz.pl57x4 : Tryz.pl57 4 = some (4, 1) := rfl
@[simp] theorem Tryz.pl57x5 : Tryz.pl57 5 = some (5, 1) := rfl
@[simp] theorem Tryz.pl57x6 : Tryz.pl57 6 = some (6, 1) := rfl
@[simp] theorem Tryz.pl57x7 : Tryz.pl57 7 = some (7, 1) := rfl
@[simp] theorem Tryz.pl57x8 : Tryz.pl57 8 = some (8, 1) := rfl
@[simp] theorem Tryz.pl57x9 : Tryz.pl57 9 = some (9, 1) := rfl
@[simp] theorem Tryz.bd57 {ps : List (Nat × V)} : buildV Tryz.prog 57 ps = (fillV Tryz.pl57 [(.int .i64 0), (.int .i64 0), (.int .i64 0), (.int .i64 0), (.int .i64 0), (.int .i64 0), (.int .i64 0), (.int .i64 0), (.int .i64 0), .nils] ps).map .agg := build_eq (pl := Tryz.pl57) Tryz.zr57 Tryz.underlying57 (by kernel_rfl) (fun i => by match i with | 0 => (show _ = _; kernel_rfl) | 1 => (show _ = _; kernel_rfl) | 2 => (show _ = _; kernel_rfl) | 3 => (show _ = _; kernel_rfl) | 4 => (show _ = _; kernel_rfl) | 5 => (show _ = _; kernel_rfl) | 6 => (show _ = _; kernel_rfl) | 7 => (show _ = _; kernel_rfl) | 8 => (show _ = _; kernel_rfl) | 9 => (show _ = _; kernel_rfl) | _ + 10 => (show _ = _; kernel_rfl))
@[simp] theorem Tryz.pt61 {cs : List V} {off : Nat} : part Tryz.prog 61 cs off = if off + 3 ≤ cs.length then some (.agg ((cs.drop off).take 3)) else none := part_agg (by kernel_rfl) (by kernel_rfl)
@[simp] theorem Tryz.st61 {b off : Nat} {v : V} : storeV Tryz.prog cfg h 61 (.ptr b off) v = stv cfg h b off 3 (cellsOf v) := store_eq (by kernel_rfl)
@[simp] theorem Tryz.zr61 : zeroOf Tryz.prog 61 = some (.agg [(.int .i32 0), (.int .i32 0), (.int .i64 0)]) := by kernel_rfl
@[simp] theorem Tryz.fa61x0 {b off : Nat} : fieldAddrV Tryz.prog 61 (.ptr b off) 0 = some (.ptr b off) := by kernel_rfl
@[simp] theorem Tryz.fl61x0 {cs : List V} {off : Nat} : fieldAddrV Tryz.prog 61 (.lptr cs off) 0 = some (.lptr cs off) := by kernel_rfl
@[simp] theorem Tryz.fa61x1 {b off : Nat} : fieldAddrV Tryz.prog 61 (.ptr b off) 1 = some (.ptr b (off + 1)) := by kernel_rfl
@[simp] theorem Tryz.fl61x1 {cs : List V} {off : Nat} : fieldAddrV Tryz.prog 61 (.lptr cs off) 1 = some (.lptr cs (off + 1)) := by kernel_rfl
@[simp] theorem Tryz.fa61x2 {b off : Nat} : fieldAddrV Tryz.prog 61 (.ptr b off) 2 = some (.ptr b (off + 2)) := by kernel_rfl
@[simp] theorem Tryz.fl61x2 {cs : List V} {off : Nat} : fieldAddrV Tryz.prog 61 (.lptr cs off) 2 = some (.lptr cs (off + 2)) := by kernel_rfl
def Tryz.pl61 : Nat → Option (Nat × Nat)
  | 0 => some (0, 1)
  | 1 => some (1, 1)
  | 2 => some (2, 1)
  | _ => none
@[simp] theorem Tryz.pl61x0 : Tryz.pl61 0 = some (0, 1) := rfl
@[simp] theorem Tryz.pl61x1 : Tryz.pl61 1 = some (1, 1) := rfl
@[simp] theorem Tryz.pl61x2 : Tryz.pl61 2 = some (2, 1) := rfl
@[simp] theorem Tryz.bd61 {ps : List (Nat × V)} : buildV Tryz.prog 61 ps = (fillV Tryz.pl61 [(.int .i32 0), (.int .i32 0), (.int .i64 0)] ps).map .agg := build_eq (pl := Tryz.pl61) Tryz.zr61 Tryz.underlying61 (by kernel_rfl) (fun i => by match i with | 0 => (show _ = _; kernel_rfl) | 1 => (show _ = _; kernel_rfl) | 2 => (show _ = _; kernel_rfl) | _ + 3 => (show _ = _; kernel_rfl))
@[simp] theorem Tryz.pt63 {cs : List V} {off : Nat} : part Tryz.prog 63 cs off = if off + 3 ≤ cs.length then some (.agg ((cs.drop off).take 3)) else none := part_agg (by kernel_rfl) (by kernel_rfl)
@[simp] theorem Tryz.st63 {b off : Nat} {v : V} : storeV Tryz.prog cfg h 63 (.ptr b off) v = stv cfg h b off 3 (cellsOf v) := store_eq (by kernel_rfl)
@[simp] theorem Tryz.zr63 : zeroOf Tryz.prog 63 = some (.agg [(.int .i32 0), (.int .i32 0), (.int .i64 0)]) := by kernel_rfl
@[simp] theorem Tryz.fa63x0 {b off : Nat} : fieldAddrV Tryz.prog 63 (.ptr b off) 0 = some (.ptr b off) := by kernel_rfl
@[simp] theorem Tryz.fl63x0 {cs : List V} {off : Nat} : fieldAddrV Tryz.prog 63 (.lptr cs off) 0 = some (.lptr cs off) := by kernel_rfl
@[simp] theorem Tryz.fa63x1 {b off : Nat} : fieldAddrV Tryz.prog 63 (.ptr b off) 1 = some (.ptr b (off + 1)) := by kernel_rfl
@[simp] theorem Tryz.fl63x1 {cs : List V} {off : Nat} : fieldAddrV Tryz.prog 63 (.lptr cs off) 1 = some (.lptr cs (off + 1)) := by kernel_rfl
@[simp] theorem Tryz.fa63x2 {b off : Nat} : fieldAddrV Tryz.prog 63 (.ptr b off) 2 = some (.ptr b (off + 2)) := by kernel_rfl
@[simp] theorem Tryz.fl63x2 {cs : List V} {off : Nat} : fieldAddrV Tryz.prog 63 (.lptr cs off) 2 = some (.lptr cs (off + 2)) := by kernel_rfl
def Tryz.pl63 : Nat → Option (Nat × Nat)
  | 0 => some (0, 1)
  | 1 => some (1, 1)
  | 2 => some (2, 1)
  | _ => none
@[simp] theorem Tryz.pl63x0 : Tryz.pl63 0 = some (0, 1) := rfl
@[simp] theorem Tryz.pl63x1 : Tryz.pl63 1 = some (1, 1) := rfl
@[simp] theorem Tryz.pl63x2 : Tryz.pl63 2 = some (2, 1) := rfl
@[simp] theorem Tryz.bd63 {ps : List (Nat × V)} : buildV Tryz.prog 63 ps = (fillV Tryz.pl63 [(.int .i32 0), (.int .i32 0), (.int .i64 0)] ps).map .agg := build_eq (pl := Tryz.pl63) Tryz.zr63 Tryz.underlying63 (by kernel_rfl) (fun i => by match i with | 0 => (show _ = _; kernel_rfl) | 1 => (show _ = _; kernel_rfl) | 2 => (show _ = _; kernel_rfl) | _ + 3 => (show _ = _; kernel_rfl))
@[simp] theorem Tryz.pt65 {cs : List V} {off : Nat} : part Tryz.prog 65 cs off = if off + 4 ≤ cs.length then some (.agg ((cs.drop off).take 4)) else none := part_agg (by kernel_rfl) (by kernel_rfl)
@[simp] theorem Tryz.st65 {b off : Nat} {v : V} : storeV Tryz.prog cfg h 65 (.ptr b off) v = stv cfg h b off 4 (cellsOf v) := store_eq (by kernel_rfl)
@[simp] theorem Tryz.zr65 : zeroOf Tryz.prog 65 = some (.agg [(.int .i32 0), (.int .i32 0), (.int .i64 0), (.int .i64 0)]) := by kernel_rfl
@[simp] theorem Tryz.fa65x0 {b off : Nat} : fieldAddrV Tryz.prog 65 (.ptr b off) 0 = some (.ptr b off) := by kernel_rfl
@[simp] theorem Tryz.fl65x0 {cs : List V} {off : Nat} : fieldAddrV Tryz.prog 65 (.lptr cs off) 0 = some (.lptr cs off) := by kernel_rfl
@[simp] theorem Tryz.fa65x1 {b off : Nat} : fieldAddrV Tryz.prog 65 (.ptr b off) 1 = some (.ptr b (off + 1)) := by kernel_rfl
@[simp] theorem Tryz.fl65x1 {cs : List V} {off : Nat} : fieldAddrV Tryz.prog 65 (.lptr cs off) 1 = some (.lptr cs (off + 1)) := by kernel_rfl
@[simp] theorem Tryz.fa65x2 {b off : Nat} : fieldAddrV Tryz.prog 65 (.ptr b off) 2 = some (.ptr b (off + 2)) := by kernel_rfl
@[simp] theorem Tryz.fl65x2 {cs : List V} {off : Nat} : fieldAddrV Tryz.prog 65 (.lptr cs off) 2 = some (.lptr cs (off + 2)) := by kernel_rfl
@[simp] theorem Tryz.fa65x3 {b off : Nat} : fieldAddrV Tryz.prog 65 (.ptr b off) 3 = some (.ptr b (off + 3)) := by kernel_rfl
@[simp] theorem Tryz.fl65x3 {cs : List V} {off : Nat} : fieldAddrV Tryz.prog 65 (.lptr cs off) 3 = some (.lptr cs (off + 3)) := by kernel_rfl
def Tryz.pl65 : Nat → Option (Nat × Nat)
  | 0 => some (0, 1)
  | 1 => some (1, 1)
  | 2 => some (2, 1)
  | 3 => some (3, 1)
  | _ => none
@[simp] theorem Tryz.pl65x0 : Tryz.pl65 0 = some (0, 1) := rfl
@[simp] theorem Tryz.pl65x1 : Tryz.pl65 1 = some (1, 1) := rfl
@[simp] theorem Tryz.pl65x2 : Tryz.pl65 2 = some (2, 1) := rfl
@[simp] theorem Tryz.pl65x3 : Tryz.pl65 3 = some (3, 1) := rfl
@[simp] theorem Tryz.bd65 {ps : List (Nat × V)} : buildV Tryz.prog 65 ps = (fillV Tryz.pl65 [(.int .i32 0), (.int .i32 0), (.int .i64 0), (.int .i64 0)] ps).map .agg := build_eq (pl := Tryz.pl65) Tryz.zr65 Tryz.underlying65 (by kernel_rfl) (fun i => by match i with | 0 => (show _ = _; kernel_rfl) | 1 => (show _ = _; kernel_rfl) | 2 => (show _ = _; kernel_rfl) | 3 => (show _ = _; kernel_rfl) | _ + 4 => (show _ = _; kernel_rfl))
@[simp] theorem Tryz.pt73 {cs : List V} {off : Nat} : part Tryz.prog 73 cs off = slot cs off := part_leaf (by kernel_rfl)
@[simp] theorem Tryz.ixL73 {xs : List (List V)} {k : IntKind} {i : Int} : indexAddrV Tryz.prog 73 (.lst xs) (.int k i) = idxL 1 xs i := idxL_eq (show Tryz.prog.underlying 73 = some (.slice 4) by kernel_rfl) (show szOf Tryz.prog 4 = some 1 by kernel_rfl)
@[simp] theorem Tryz.ixS73 {b off len cap c : Nat} {k : IntKind} {i : Int} : indexAddrV Tryz.prog 73 (.sl b off len cap c) (.int k i) = idxS 1 b off len c i := idxS_eq (show Tryz.prog.underlying 73 = some (.slice 4) by kernel_rfl) (show szOf Tryz.prog 4 = some 1 by kernel_rfl)
@[simp] theorem Tryz.mk73 {n m : Int} : makeSliceV Tryz.prog h 73 (.int .i64 n) (.int .i64 m) = mkS h 1 1 [(.bool false)] n m := mkS_eq (show Tryz.prog.underlying 73 = some (.slice 4) by kernel_rfl) (show szOf Tryz.prog 4 = some 1 by kernel_rfl) (by kernel_rfl) (show zeroOf Tryz.prog 4 = some (.bool false) by kernel_rfl) rfl (by decide) (by decide)
@[simp] theorem Tryz.pt74 {cs : List V} {off : Nat} : part Tryz.prog 74 cs off = slot cs off := part_leaf (by kernel_rfl)
@[simp] theorem Tryz.pt75 {cs : List V} {off : Nat} : part Tryz.prog 75 cs off = slot cs off := part_leaf (by kernel_rfl)
@[simp] theorem Tryz.pt77 {cs : List V} {off : Nat} : part Tryz.prog 77 cs off = if off + 5 ≤ cs.length then some (.agg ((cs.drop off).take 5)) else none := part_agg (by kernel_rfl) (by kernel_rfl)
@[simp] theorem Tryz.st77 {b off : Nat} {v : V} : storeV Tryz.prog cfg h 77 (.ptr b off) v = stv cfg h b off 5 (cellsOf v) := store_eq (by kernel_rfl)
@[simp] theorem Tryz.zr77 : zeroOf Tryz.prog 77 = some (.agg [.nils, .nils, .nils, .nilm, .nilm]) := by kernel_rfl
@[simp] theorem Tryz.fa77x0 {b off : Nat} : fieldAddrV Tryz.prog 77 (.ptr b off) 0 = some (.ptr b off) := by kernel_rfl
@[simp] theorem Tryz.fl77x0 {cs : List V} {off : Nat} : fieldAddrV Tryz.prog 77 (.lptr cs off) 0 = some (.lptr cs off) := by kernel_rfl
@[simp] theorem Tryz.fa77x1 {b off : Nat} : fieldAddrV Tryz.prog 77 (.ptr b off) 1 = some (.ptr b (off + 1)) := by kernel_rfl
@[simp] theorem Tryz.fl77x1 {cs : List V} {off : Nat} : fieldAddrV Tryz.prog 77 (.lptr cs off) 1 = some (.lptr cs (off + 1)) := by kernel_rfl
@[simp] theorem Tryz.fa77x2 {b off : Nat} : fieldAddrV Tryz.prog 77 (.ptr b off) 2 = some (.ptr b (off + 2)) := by kernel_rfl
@[simp] theorem Tryz.fl77x2 {cs : List V} {off : Nat} : fieldAddrV Tryz.prog 77 (.lptr cs off) 2 = some (.lptr cs (off + 2)) := by kernel_rfl
@[simp] theorem Tryz.fa77x3 {b off : Nat} : fieldAddrV Tryz.prog 77 (.ptr b off) 3 = some (.ptr b (off + 3)) := by kernel_rfl
@[simp] theorem Tryz.fl77x3 {cs : List V} {off : Nat} : fieldAddrV Tryz.prog 77 (.lptr cs off) 3 = some (.lptr cs (off + 3)) := by kernel_rfl
@[simp] theorem Tryz.fa77x4 {b off : Nat} : fieldAddrV Tryz.prog 77 (.ptr b off) 4 = some (.ptr b (off + 4)) := by kernel_rfl
@[simp] theorem Tryz.fl77x4 {cs : List V} {off : Nat} : fieldAddrV Tryz.prog 77 (.lptr cs off) 4 = some (.lptr cs (off + 4)) := by kernel_rfl
def Tryz.pl77 : Nat → Option (Nat × Nat)
  | 0 => some (0, 1)
  | 1 => some (1, 1)
  | 2 => some (2, 1)
  | 3 => some (3, 1)
  | 4 => some (4, 1)
  | _ => none
@[simp] theorem Tryz.pl77x0 : Tryz.pl77 0 = some (0, 1) := rfl
@[simp] theorem Tryz.pl77x1 : Tryz.pl77 1 = some (1, 1) := rfl
@[simp] theorem Tryz.pl77x2 : Tryz.pl77 2 = some (2, 1) := rfl
@[simp] theorem Tryz.pl77x3 : Tryz.pl77 3 = some (3, 1) := rfl
@[simp] theorem Tryz.pl77x4 : Tryz.pl77 4 = some (4, 1) := rfl
@[simp] theorem Tryz.bd77 {ps : List (Nat × V)} : buildV Tryz.prog 77 ps = (fillV Tryz.pl77 [.nils, .nils, .nils, .nilm, .nilm] ps).map .agg := build_eq (pl := Tryz.pl77) Tryz.zr77 Tryz.underlying77 (by kernel_rfl) (fun i => by match i with | 0 => (show _ = _; kernel_rfl) | 1 => (show _ = _; kernel_rfl) | 2 => (show _ = _; kernel_rfl) | 3 => (show _ = _; kernel_rfl) | 4 => (show _ = _; kernel_rfl) | _ + 5 => (show _ = _; kernel_rfl))
@[simp] theorem Tryz.pt78 {cs : List V} {off : Nat} : part Tryz.prog 78 cs off = slot cs off := part_leaf (by kernel_rfl)
@[simp] theorem Tryz.st78 {b off : Nat} {v : V} : storeV Tryz.prog cfg h 78 (.ptr b off) v = stv cfg h b off 1 (cellsOf v) := store_eq (by kernel_rfl)
@[simp] theorem Tryz.ixL78 {xs : List (List V)} {k : IntKind} {i : Int} : indexAddrV Tryz.prog 78 (.lst xs) (.int k i) = idxL 4 xs i := idxL_eq (show Tryz.prog.underlying 78 = some (.slice 82) by kernel_rfl) (show szOf Tryz.prog 82 = some 4 by kernel_rfl)
@[simp] theorem Tryz.ixS78 {b off len cap c : Nat} {k : IntKind} {i : Int} : indexAddrV Tryz.prog 78 (.sl b off len cap c) (.int k i) = idxS 4 b off len c i := idxS_eq (show Tryz.prog.underlying 78 = some (.slice 82) by kernel_rfl) (show szOf Tryz.prog 82 = some 4 by kernel_rfl)
@[simp] theorem Tryz.lnL78 {xs : List (List V)} : lenV Tryz.prog 78 (.lst xs) = some (.int .i64 xs.length) := lenL_eq (show Tryz.prog.underlying 78 = some (.slice 82) by kernel_rfl)
@[simp] theorem Tryz.lnS78 {b off len cap k : Nat} : lenV Tryz.prog 78 (.sl b off len cap k) = some (.int .i64 len) := lenS_eq (show Tryz.prog.underlying 78 = some (.slice 82) by kernel_rfl)
@[simp] theorem Tryz.lnN78 : lenV Tryz.prog 78 .nils = some (.int .i64 0) := lenN_eq (show Tryz.prog.underlying 78 = some (.slice 82) by kernel_rfl)
@[simp] theorem Tryz.ap78 {d x : V} : appendV Tryz.prog cfg h 78 78 d x = appS cfg h 4 48 d (srcCells h 4 x) := appS_eq (show Tryz.prog.underlying 78 = some (.slice 82) by kernel_rfl) (show szOf Tryz.prog 82 = some 4 by kernel_rfl) (by kernel_rfl) (by kernel_rfl) (by decide)
@[simp] theorem Tryz.bs78 {len : Nat} {vs : List V} : buildSliceV Tryz.prog h 78 len vs = (cellsAll 4 vs).bind fun cs => if vs.length = len && decide (len * 4 ≤ 16777216) then some (.sl h.length 0 len len 4, h ++ [some cs]) else none := buildSlice_eq (show Tryz.prog.underlying 78 = some (.slice 82) by kernel_rfl) (show szOf Tryz.prog 82 = some 4 by kernel_rfl) (by kernel_rfl) (by decide)
@[simp] theorem Tryz.zr80 : zeroOf Tryz.prog 80 = some (.agg [.nils, .nils, (.int .i64 0), (.int .i64 0), (.int .i64 0), .nils, .nils, .nils, .nils, .nils, .nils, .nils, .nils, .nilm, .nilm, .nils]) := by kernel_rfl
@[simp] theorem Tryz.fa80x0 {b off : Nat} : fieldAddrV Tryz.prog 80 (.ptr b off) 0 = some (.ptr b off) := by kernel_rfl
@[simp] theorem Tryz.fl80x0 {cs : List V} {off : Nat} : fieldAddrV Tryz.prog 80 (.lptr cs off) 0 = some (.lptr cs off) := by kernel_rfl
@[simp] theorem Tryz.fa80x1 {b off : Nat} : fieldAddrV Tryz.prog 80 (.ptr b off) 1 = some (.ptr b (off + 5)) := by kernel_rfl
@[simp] theorem Tryz.fl80x1 {cs : List V} {off : Nat} : fieldAddrV Tryz.prog 80 (.lptr cs off) 1 = some (.lptr cs (off + 5)) := by kernel_rfl
@[simp] theorem Tryz.fa80x2 {b off : Nat} : fieldAddrV Tryz.prog 80 (.ptr b off) 2 = some (.ptr b (off + 6)) := by kernel_rfl
@[simp] theorem Tryz.fl80x2 {cs : List V} {off : Nat} : fieldAddrV Tryz.prog 80 (.lptr cs off) 2 = some (.lptr cs (off + 6)) := by kernel_rfl
@[simp] theorem Tryz.fa80x3 {b off : Nat} : fieldAddrV Tryz.prog 80 (.ptr b off) 3 = some (.ptr b (off + 7)) := by kernel_rfl
@[simp] theorem Tryz.fl80x3 {cs : List V} {off : Nat} : fieldAddrV Tryz.prog 80 (.lptr cs off) 3 = some (.lptr cs (off + 7)) := by kernel_rfl
@[simp] theorem Tryz.fa80x4 {b off : Nat} : fieldAddrV Tryz.prog 80 (.ptr b off) 4 = some (.ptr b (off + 8)) := by kernel_rfl
@[simp] theorem Tryz.fl80x4 {cs : List V} {off : Nat} : fieldAddrV Tryz.prog 80 (.lptr cs off) 4 = some (.lptr cs (off + 8)) := by kernel_rfl
@[simp] theorem Tryz.fa80x5 {b off : Nat} : fieldAddrV Tryz.prog 80 (.ptr b off) 5 = some (.ptr b (off + 9)) := by kernel_rfl
@[simp] theorem Tryz.fl80x5 {cs : List V} {off : Nat} : fieldAddrV Tryz.prog 80 (.lptr cs off) 5 = some (.lptr cs (off + 9)) := by kernel_rfl
@[simp] theorem Tryz.fa80x6 {b off : Nat} : fieldAddrV Tryz.prog 80 (.ptr b off) 6 = some (.ptr b (off + 10)) := by kernel_rfl
@[simp] theorem Tryz.fl80x6 {cs : List V} {off : Nat} : fieldAddrV Tryz.prog 80 (.lptr cs off) 6 = some (.lptr cs (off + 10)) := by kernel_rfl
@[simp] theorem Tryz.fa80x7 {b off : Nat} : fieldAddrV Tryz.prog 80 (.ptr b off) 7 = some (.ptr b (off + 15)) := by kernel_rfl
@[simp] theorem Tryz.fl80x7 {cs : List V} {off : Nat} : fieldAddrV Tryz.prog 80 (.lptr cs off) 7 = some (.lptr cs (off + 15)) := by kernel_rfl
def Tryz.pl80 : Nat → Option (Nat × Nat)
  | 0 => some (0, 5)
  | 1 => some (5, 1)
  | 2 => some (6, 1)
  | 3 => some (7, 1)
  | 4 => some (8, 1)
  | 5 => some (9, 1)
  | 6 => some (10, 5)
  | 7 => some (15, 1)
  | _ => none
@[simp] theorem Tryz.pl80x0 : Tryz.pl80 0 = some (0, 5) := rfl
@[simp] theorem Tryz.pl80x1 : Tryz.pl80 1 = some (5, 1) := rfl
@[simp] theorem Tryz.pl80x2 : Tryz.pl80 2 = some (6, 1) := rfl
@[simp] theorem Tryz.pl80x3 : Tryz.pl80 3 = some (7, 1) := rfl
@[simp] theorem Tryz.pl80x4 : Tryz.pl80 4 = some (8, 1) := rfl
@[simp] theorem Tryz.pl80x5 : Tryz.pl80 5 = some (9, 1) := rfl
@[simp] theorem Tryz.pl80x6 : Tryz.pl80 6 = some (10, 5) := rfl
@[simp] theorem Tryz.pl80x7 : Tryz.pl80 7 = some (15, 1) := rfl
@[simp] theorem Tryz.bd80 {ps : List (Nat × V)} : buildV Tryz.prog 80 ps = (fillV Tryz.pl80 [.nils, .nils, (.int .i64 0), (.int .i64 0), (.int .i64 0), .nils, .nils, .nils, .nils, .nils, .nils, .nils, .nils, .nilm, .nilm, .nils] ps).map .agg := build_eq (pl := Tryz.pl80) Tryz.zr80 Tryz.underlying80 (by kernel_rfl) (fun i => by match i with | 0 => (show _ = _; kernel_rfl) | 1 => (show _ = _; kernel_rfl) | 2 => (show _ = _; kernel_rfl) | 3 => (show _ = _; kernel_rfl) | 4 => (show _ = _; kernel_rfl) | 5 => (show _ = _; kernel_rfl) | 6 => (show _ = _; kernel_rfl) | 7 => (show _ = _; kernel_rfl) | _ + 8 => (show _ = _; kernel_rfl))
@[simp] theorem Tryz.pt82 {cs : List V} {off : Nat} : part Tryz.prog 82 cs off = if off + 4 ≤ cs.length then some (.agg ((cs.drop off).take 4)) else none := part_agg (by kernel_rfl) (by kernel_rfl)
@[simp] theorem Tryz.st82 {b off : Nat} {v : V} : storeV Tryz.prog cfg h 82 (.ptr b off) v = stv cfg h b off 4 (cellsOf v) := store_eq (by kernel_rfl)
@[simp] theorem Tryz.zr82 : zeroOf Tryz.prog 82 = some (.agg [(.int .i64 0), (.int .i64 0), (.int .i64 0), .nils]) := by kernel_rfl
@[simp] theorem Tryz.fa82x0 {b off : Nat} : fieldAddrV Tryz.prog 82 (.ptr b off) 0 = some (.ptr b off) := by kernel_rfl
@[simp] theorem Tryz.fl82x0 {cs : List V} {off : Nat} : fieldAddrV Tryz.prog 82 (.lptr cs off) 0 = some (.lptr cs off) := by kernel_rfl
@[simp] theorem Tryz.fa82x1 {b off : Nat} : fieldAddrV Tryz.prog 82 (.ptr b off) 1 = some (.ptr b (off + 1)) := by kernel_rfl
@[simp] theorem Tryz.fl82x1 {cs : List V} {off : Nat} : fieldAddrV Tryz.prog 82 (.lptr cs off) 1 = some (.lptr cs (off + 1)) := by kernel_rfl
@[simp] theorem Tryz.fa82x2 {b off : Nat} : fieldAddrV Tryz.prog 82 (.ptr b off) 2 = some (.ptr b (off + 2)) := by kernel_rfl
@[simp] theorem Tryz.fl82x2 {cs : List V} {off : Nat} : fieldAddrV Tryz.prog 82 (.lptr cs off) 2 = some (.lptr cs (off + 2)) := by kernel_rfl
@[simp] theorem Tryz.fa82x3 {b off : Nat} : fieldAddrV Tryz.prog 82 (.ptr b off) 3 = some (.ptr b (off + 3)) := by kernel_rfl
@[simp] theorem Tryz.fl82x3 {cs : List V} {off : Nat} : fieldAddrV Tryz.prog 82 (.lptr cs off) 3 = some (.lptr cs (off + 3)) := by kernel_rfl
def Tryz.pl82 : Nat → Option (Nat × Nat)
  | 0 => some (0, 1)
  | 1 => some (1, 1)
  | 2 => some (2, 1)
  | 3 => some (3, 1)
  | _ => none
@[simp] theorem Tryz.pl82x0 : Tryz.pl82 0 = some (0, 1) := rfl
@[simp] theorem Tryz.pl82x1 : Tryz.pl82 1 = some (1, 1) := rfl
@[simp] theorem Tryz.pl82x2 : Tryz.pl82 2 = some (2, 1) := rfl
@[simp] theorem Tryz.pl82x3 : Tryz.pl82 3 = some (3, 1) := rfl
@[simp] theorem Tryz.bd82 {ps : List (Nat × V)} : buildV Tryz.prog 82 ps = (fillV Tryz.pl82 [(.int .i64 0), (.int .i64 0), (.int .i64 0), .nils] ps).map .agg := build_eq (pl := Tryz.pl82) Tryz.zr82 Tryz.underlying82 (by kernel_rfl) (fun i => by match i with | 0 => (show _ = _; kernel_rfl) | 1 => (show _ = _; kernel_rfl) | 2 => (show _ = _; kernel_rfl) | 3 => (show _ = _; kernel_rfl) | _ + 4 => (show _ = _; kernel_rfl))
@[simp] theorem Tryz.pt94 {cs : List V} {off : Nat} : part Tryz.prog 94 cs off = if off + 8 ≤ cs.length then some (.agg ((cs.drop off).take 8)) else none := part_agg (by kernel_rfl) (by kernel_rfl)
@[simp] theorem Tryz.st94 {b off : Nat} {v : V} : storeV Tryz.prog cfg h 94 (.ptr b off) v = stv cfg h b off 8 (cellsOf v) := store_eq (by kernel_rfl)
@[simp] theorem Tryz.zr94 : zeroOf Tryz.prog 94 = some (.agg [(.int .i64 0), (.int .i64 0), (.int .i64 0), (.int .i64 0), (.int .i64 0), (.int .i64 0), (.int .i64 0), (.int .i64 0)]) := by kernel_rfl
@[simp] theorem Tryz.fa94x0 {b off : Nat} : fieldAddrV Tryz.prog 94 (.ptr b off) 0 = some (.ptr b off) := by kernel_rfl
@[simp] theorem Tryz.fl94x0 {cs : List V} {off : Nat} : fieldAddrV Tryz.prog 94 (.lptr cs off) 0 = some (.lptr cs off) := by kernel_rfl
@[simp] theorem Tryz.fa94x1 {b off : Nat} : fieldAddrV Tryz.prog 94 (.ptr b off) 1 = some (.ptr b (off + 1)) := by kernel_rfl
@[simp] theorem Tryz.fl94x1 {cs : List V} {off : Nat} : fieldAddrV Tryz.prog 94 (.lptr cs off) 1 = some (.lptr cs (off + 1)) := by kernel_rfl
@[simp] theorem Tryz.fa94x2 {b off : Nat} : fieldAddrV Tryz.prog 94 (.ptr b off) 2 = some (.ptr b (off + 2)) := by kernel_rfl
@[simp] theorem Tryz.fl94x2 {cs : List V} {off : Nat} : fieldAddrV Tryz.prog 94 (.lptr cs off) 2 = some (.lptr cs (off + 2)) := by kernel_rfl
@[simp] theorem Tryz.fa94x3 {b off : Nat} : fieldAddrV Tryz.prog 94 (.ptr b off) 3 = some (.ptr b (off + 3)) := by kernel_rfl
@[simp] theorem Tryz.fl94x3 {cs : List V} {off : Nat} : fieldAddrV Tryz.prog 94 (.lptr cs off) 3 = some (.lptr cs (off + 3)) := by kernel_rfl
@[simp] theorem Tryz.fa94x4 {b off : Nat} : fieldAddrV Tryz.prog 94 (.ptr b off) 4 = some (.ptr b (off + 4)) := by kernel_rfl
@[simp] theorem Tryz.fl94x4 {cs : List V} {off : Nat} : fieldAddrV Tryz.prog 94 (.lptr cs off) 4 = some (.lptr cs (off + 4)) := by kernel_rfl
@[simp] theorem Tryz.fa94x5 {b off : Nat} : fieldAddrV Tryz.prog 94 (.ptr b off) 5 = some (.ptr b (off + 5)) := by kernel_rfl
@[simp] theorem Tryz.fl94x5 {cs : List V} {off : Nat} : fieldAddrV Tryz.prog 94 (.lptr cs off) 5 = some (.lptr cs (off + 5)) := by kernel_rfl
@[simp] theorem Tryz.fa94x6 {b off : Nat} : fieldAddrV Tryz.prog 94 (.ptr b off) 6 = some (.ptr b (off + 6)) := by kernel_rfl
@[simp] theorem Tryz.fl94x6 {cs : List V} {off : Nat} : fieldAddrV Tryz.prog 94 (.lptr cs off) 6 = some (.lptr cs (off + 6)) := by kernel_rfl
@[simp] theorem Tryz.fa94x7 {b off : Nat} : fieldAddrV Tryz.prog 94 (.ptr b off) 7 = some (.ptr b (off + 7)) := by kernel_rfl
@[simp] theorem Tryz.fl94x7 {cs : List V} {off : Nat} : fieldAddrV Tryz.prog 94 (.lptr cs off) 7 = some (.lptr cs (off + 7)) := by kernel_rfl
def Tryz.pl94 : Nat → Option (Nat × Nat)
  | 0 => some (0, 1)
  | 1 => some (1, 1)
  | 2 => some (2, 1)
  | 3 => some (3, 1)
  | 4 => some (4, 1)
  | 5 => some (5, 1)
  | 6 => some (6, 1)
  | 7 => some (7, 1)
  | _ => none
@[simp] theorem Tryz.pl94x0 : Tryz.pl94 0 = some (0, 1) := rfl
@[simp] theorem Tryz.pl94x1 : Tryz.pl94 1 = some (1, 1) := rfl
@[simp] theorem Tryz.pl94x2 : Tryz.pl94 2 = some (2, 1) := rfl
@[simp] theorem Tryz.pl94x3 : Tryz.pl94 3 = some (3, 1) := rfl
@[simp] theorem Tryz.pl94x4 : Tryz.pl94 4 = some (4, 1) := rfl
@[simp] theorem Tryz.pl94x5 : Tryz.pl94 5 = some (5, 1) := rfl
@[simp] theorem Tryz.pl94x6 : Tryz.pl94 6 = some (6, 1) := rfl
@[simp] theorem Tryz.pl94x7 : Tryz.pl94 7 = some (7, 1) := rfl
@[simp] theorem Tryz.bd94 {ps : List (Nat × V)} : buildV Tryz.prog 94 ps = (fillV Tryz.pl94 [(.int .i64 0), (.int .i64 0), (.int .i64 0), (.int .i64 0), (.int .i64 0), (.int .i64 0), (.int .i64 0), (.int .i64 0)] ps).map .agg := build_eq (pl := Tryz.pl94) Tryz.zr94 Tryz.underlying94 (by kernel_rfl) (fun i => by match i with | 0 => (show _ = _; kernel_rfl) | 1 => (show _ = _; kernel_rfl) | 2 => (show _ = _; kernel_rfl) | 3 => (show _ = _; kernel_rfl) | 4 => (show _ = _; kernel_rfl) | 5 => (show _ = _; kernel_rfl) | 6 => (show _ = _; kernel_rfl) | 7 => (show _ = _; kernel_rfl) | _ + 8 => (show _ = _; kernel_rfl))
@[simp] theorem Tryz.pt100 {cs : List V} {off : Nat} : part Tryz.prog 100 cs off = if off + 3 ≤ cs.length then some (.agg ((cs.drop off).take 3)) else none := part_agg (by kernel_rfl) (by kernel_rfl)
@[simp] theorem Tryz.st100 {b off : Nat} {v : V} : storeV Tryz.prog cfg h 100 (.ptr b off) v = stv cfg h b off 3 (cellsOf v) := store_eq (by kernel_rfl)
@[simp] theorem Tryz.zr100 : zeroOf Tryz.prog 100 = some (.agg [.nils, .nils, .nils]) := by kernel_rfl
@[simp] theorem Tryz.fa100x0 {b off : Nat} : fieldAddrV Tryz.prog 100 (.ptr b off) 0 = some (.ptr b off) := by kernel_rfl
@[simp] theorem Tryz.fl100x0 {cs : List V} {off : Nat} : fieldAddrV Tryz.prog 100 (.lptr cs off) 0 = some (.lptr cs off) := by kernel_rfl
@[simp] theorem Tryz.fa100x1 {b off : Nat} : fieldAddrV Tryz.prog 100 (.ptr b off) 1 = some (.ptr b (off + 1)) := by kernel_rfl
@[simp] theorem Tryz.fl100x1 {cs : List V} {off : Nat} : fieldAddrV Tryz.prog 100 (.lptr cs off) 1 = some (.lptr cs (off + 1)) := by kernel_rfl
@[simp] theorem Tryz.fa100x2 {b off : Nat} : fieldAddrV Tryz.prog 100 (.ptr b off) 2 = some (.ptr b (off + 2)) := by kernel_rfl
@[simp] theorem Tryz.fl100x2 {cs : List V} {off : Nat} : fieldAddrV Tryz.prog 100 (.lptr cs off) 2 = some (.lptr cs (off + 2)) := by kernel_rfl
def Tryz.pl100 : Nat → Option (Nat × Nat)
  | 0 => some (0, 1)
  | 1 => some (1, 1)
  | 2 => some (2, 1)
  | _ => none
@[simp] theorem Tryz.pl100x0 : Tryz.pl100 0 = some (0, 1) := rfl
@[simp] theorem Tryz.pl100x1 : Tryz.pl100 1 = some (1, 1) := rfl
@[simp] theorem Tryz.pl100x2 : Tryz.pl100 2 = some (2, 1) := rfl
@[simp] theorem Tryz.bd100 {ps : List (Nat × V)} : buildV Tryz.prog 100 ps = (fillV Tryz.pl100 [.nils, .nils, .nils] ps).map .agg := build_eq (pl := Tryz.pl100) Tryz.zr100 Tryz.underlying100 (by kernel_rfl) (fun i => by match i with | 0 => (show _ = _; kernel_rfl) | 1 => (show _ = _; kernel_rfl) | 2 => (show _ = _; kernel_rfl) | _ + 3 => (show _ = _; kernel_rfl))
@[simp] theorem Tryz.ixL107 {xs : List (List V)} {k : IntKind} {i : Int} : indexAddrV Tryz.prog 107 (.lst xs) (.int k i) = idxL 2 xs i := idxL_eq (show Tryz.prog.underlying 107 = some (.slice 108) by kernel_rfl) (show szOf Tryz.prog 108 = some 2 by kernel_rfl)
@[simp] theorem Tryz.ixS107 {b off len cap c : Nat} {k : IntKind} {i : Int} : indexAddrV Tryz.prog 107 (.sl b off len cap c) (.int k i) = idxS 2 b off len c i := idxS_eq (show Tryz.prog.underlying 107 = some (.slice 108) by kernel_rfl) (show szOf Tryz.prog 108 = some 2 by kernel_rfl)
@[simp] theorem Tryz.lnL107 {xs : List (List V)} : lenV Tryz.prog 107 (.lst xs) = some (.int .i64 xs.length) := lenL_eq (show Tryz.prog.underlying 107 = some (.slice 108) by kernel_rfl)
@[simp] theorem Tryz.lnS107 {b off len cap k : Nat} : lenV Tryz.prog 107 (.sl b off len cap k) = some (.int .i64 len) := lenS_eq (show Tryz.prog.underlying 107 = some (.slice 108) by kernel_rfl)
@[simp] theorem Tryz.lnN107 : lenV Tryz.prog 107 .nils = some (.int .i64 0) := lenN_eq (show Tryz.prog.underlying 107 = some (.slice 108) by kernel_rfl)
@[simp] theorem Tryz.ap107 {d x : V} : appendV Tryz.prog cfg h 107 107 d x = appS cfg h 2 16 d (srcCells h 2 x) := appS_eq (show Tryz.prog.underlying 107 = some (.slice 108) by kernel_rfl) (show szOf Tryz.prog 108 = some 2 by kernel_rfl) (by kernel_rfl) (by kernel_rfl) (by decide)
@[simp] theorem Tryz.bs107 {len : Nat} {vs : List V} : buildSliceV Tryz.prog h 107 len vs = (cellsAll 2 vs).bind fun cs => if vs.length = len && decide (len * 2 ≤ 16777216) then some (.sl h.length 0 len len 2, h ++ [some cs]) else none := buildSlice_eq (show Tryz.prog.underlying 107 = some (.slice 108) by kernel_rfl) (show szOf Tryz.prog 108 = some 2 by kernel_rfl) (by kernel_rfl) (by decide)
@[simp] theorem Tryz.pt108 {cs : List V} {off : Nat} : part Tryz.prog 108 cs off = if off + 2 ≤ cs.length then some (.agg ((cs.drop off).take 2)) else none := part_agg (by kernel_rfl) (by kernel_rfl)
@[simp] theorem Tryz.st108 {b off : Nat} {v : V} : storeV Tryz.prog cfg h 108 (.ptr b off) v = stv cfg h b off 2 (cellsOf v) := store_eq (by kernel_rfl)
@[simp] theorem Tryz.zr108 : zeroOf Tryz.prog 108 = some (.agg [(.int .i64 0), (.int .i64 0)]) := by kernel_rfl
@[simp] theorem Tryz.ixA108 {b off : Nat} {k : IntKind} {i : Int} : indexAddrV Tryz.prog 108 (.ptr b off) (.int k i) = if 0 ≤ i then (if i.toNat < 2 then some (.ptr b (off + i.toNat * 1)) else none) else none := idxA_eq (show Tryz.prog.underlying 108 = some (.array 2 3) by kernel_rfl) (show szOf Tryz.prog 3 = some 1 by kernel_rfl)
@[simp] theorem Tryz.ixB108 {cs : List V} {off : Nat} {k : IntKind} {i : Int} : indexAddrV Tryz.prog 108 (.lptr cs off) (.int k i) = if 0 ≤ i then (if i.toNat < 2 then some (.lptr cs (off + i.toNat * 1)) else none) else none := idxB_eq (show Tryz.prog.underlying 108 = some (.array 2 3) by kernel_rfl) (show szOf Tryz.prog 3 = some 1 by kernel_rfl)
@[simp] theorem Tryz.ixV108 {cs : List V} {k : IntKind} {i : Int} : indexV Tryz.prog 108 (.agg cs) (.int k i) = if 0 ≤ i then (if i.toNat < 2 then part Tryz.prog 3 cs (i.toNat * 1) else none) else none := idxV_eq (show Tryz.prog.underlying 108 = some (.array 2 3) by kernel_rfl) (show szOf Tryz.prog 3 = some 1 by kernel_rfl)
@[simp] theorem Tryz.bd108 {ps : List (Nat × V)} : buildV Tryz.prog 108 ps = (fillV (fun i => some (i * 1, 1)) [(.int .i64 0), (.int .i64 0)] ps).map .agg := buildA_eq Tryz.zr108 (show Tryz.prog.underlying 108 = some (.array 2 3) by kernel_rfl) (show szOf Tryz.prog 3 = some 1 by kernel_rfl)
@[simp] theorem Tryz.pt116 {cs : List V} {off : Nat} : part Tryz.prog 116 cs off = if off + 7 ≤ cs.length then some (.agg ((cs.drop off).take 7)) else none := part_agg (by kernel_rfl) (by kernel_rfl)
@[simp] theorem Tryz.st116 {b off : Nat} {v : V} : storeV Tryz.prog cfg h 116 (.ptr b off) v = stv cfg h b off 7 (cellsOf v) := store_eq (by kernel_rfl)
@[simp] theorem Tryz.zr116 : zeroOf Tryz.prog 116 = some (.agg [(.int .i32 0), (.int .i32 0), (.int .u8 0), (.int .u8 0), (.int .u8 0), (.int .u8 0), (.int .u8 0)]) := by kernel_rfl
@[simp] theorem Tryz.fa116x0 {b off : Nat} : fieldAddrV Tryz.prog 116 (.ptr b off) 0 = some (.ptr b off) := by kernel_rfl
@[simp] theorem Tryz.fl116x0 {cs : List V} {off : Nat} : fieldAddrV Tryz.prog 116 (.lptr cs off) 0 = some (.lptr cs off) := by kernel_rfl
@[simp] theorem Tryz.fv116x0 {cs : List V} : fieldV Tryz.prog 116 (.agg cs) 0 = part Tryz.prog 21 cs 0 := by kernel_rfl
@[simp] theorem Tryz.fa116x1 {b off : Nat} : fieldAddrV Tryz.prog 116 (.ptr b off) 1 = some (.ptr b (off + 1)) := by kernel_rfl
@[simp] theorem Tryz.fl116x1 {cs : List V} {off : Nat} : fieldAddrV Tryz.prog 116 (.lptr cs off) 1 = some (.lptr cs (off + 1)) := by kernel_rfl
@[simp] theorem Tryz.fv116x1 {cs : List V} : fieldV Tryz.prog 116 (.agg cs) 1 = part Tryz.prog 21 cs 1 := by kernel_rfl
@[simp] theorem Tryz.fa116x2 {b off : Nat} : fieldAddrV Tryz.prog 116 (.ptr b off) 2 = some (.ptr b (off + 2)) := by kernel_rfl
@[simp] theorem Tryz.fl116x2 {cs : List V} {off : Nat} : fieldAddrV Tryz.prog 116 (.lptr cs off) 2 = some (.lptr cs (off + 2)) := by kernel_rfl
@[simp] theorem Tryz.fv116x2 {cs : List V} : fieldV Tryz.prog 116 (.agg cs) 2 = part Tryz.prog 5 cs 2 := by kernel_rfl
@[simp] theorem Tryz.fa116x3 {b off : Nat} : fieldAddrV Tryz.prog 116 (.ptr b off) 3 = some (.ptr b (off + 3)) := by kernel_rfl
@[simp] theorem Tryz.fl116x3 {cs : List V} {off : Nat} : fieldAddrV Tryz.prog 116 (.lptr cs off) 3 = some (.lptr cs (off + 3)) := by kernel_rfl
@[simp] theorem Tryz.fv116x3 {cs : List V} : fieldV Tryz.prog 116 (.agg cs) 3 = part Tryz.prog 5 cs 3 := by kernel_rfl
@[simp] theorem Tryz.fa116x4 {b off : Nat} : fieldAddrV Tryz.prog 116 (.ptr b off) 4 = some (.ptr b (off + 4)) := by kernel_rfl
@[simp] theorem Tryz.fl116x4 {cs : List V} {off : Nat} : fieldAddrV Tryz.prog 116 (.lptr cs off) 4 = some (.lptr cs (off + 4)) := by kernel_rfl
@[simp] theorem Tryz.fv116x4 {cs : List V} : fieldV Tryz.prog 116 (.agg cs) 4 = part Tryz.prog 5 cs 4 := by kernel_rfl
@[simp] theorem Tryz.fa116x5 {b off : Nat} : fieldAddrV Tryz.prog 116 (.ptr b off) 5 = some (.ptr b (off + 5)) := by kernel_rfl
@[simp] theorem Tryz.fl116x5 {cs : List V} {off : Nat} : fieldAddrV Tryz.prog 116 (.lptr cs off) 5 = some (.lptr cs (off + 5)) := by kernel_rfl
@[simp] theorem Tryz.fv116x5 {cs : List V} : fieldV Tryz.prog 116 (.agg cs) 5 = part Tryz.prog 5 cs 5 := by kernel_rfl
@[simp] theorem Tryz.fa116x6 {b off : Nat} : fieldAddrV Tryz.prog 116 (.ptr b off) 6 = some (.ptr b (off + 6)) := by kernel_rfl
@[simp] theorem Tryz.fl116x6 {cs : List V} {off : Nat} : fieldAddrV Tryz.prog 116 (.lptr cs off) 6 = some (.lptr cs (off + 6)) := by kernel_rfl
@[simp] theorem Tryz.fv116x6 {cs : List V} : fieldV Tryz.prog 116 (.agg cs) 6 = part Tryz.prog 5 cs 6 := by kernel_rfl
def Tryz.pl116 : Nat → Option (Nat × Nat)
  | 0 => some (0, 1)
  | 1 => some (1, 1)
  | 2 => some (2, 1)
  | 3 => some (3, 1)
  | 4 => some (4, 1)
  | 5 => some (5, 1)
  | 6 => some (6, 1)
  | _ => none
@[simp] theorem Tryz.pl116x0 : Tryz.pl116 0 = some (0, 1) := rfl
@[simp] theorem Tryz.pl116x1 : Tryz.pl116 1 = some (1, 1) := rfl
@[simp] theorem Tryz.pl116x2 : Tryz.pl116 2 = some (2, 1) := rfl
@[simp] theorem Tryz.pl116x3 : Tryz.pl116 3 = some (3, 1) := rfl
@[simp] theorem Tryz.pl116x4 : Tryz.pl116 4 = some (4, 1) := rfl
@[simp] theorem Tryz.pl116x5 : Tryz.pl116 5 = some (5, 1) := rfl
@[simp] theorem Tryz.pl116x6 : Tryz.pl116 6 = some (6, 1) := rfl
@[simp] theorem Tryz.bd116 {ps : List (Nat × V)} : buildV Tryz.prog 116 ps = (fillV Tryz.pl116 [(.int .i32 0), (.int .i32 0), (.int .u8 0), (.int .u8 0), (.int .u8 0), (.int .u8 0), (.int .u8 0)] ps).map .agg := build_eq (pl := Tryz.pl116) Tryz.zr116 Tryz.underlying116 (by kernel_rfl) (fun i => by match i with | 0 => (show _ = _; kernel_rfl) | 1 => (show _ = _; kernel_rfl) | 2 => (show _ = _; kernel_rfl) | 3 => (show _ = _; kernel_rfl) | 4 => (show _ = _; kernel_rfl) | 5 => (show _ = _; kernel_rfl) | 6 => (show _ = _; kernel_rfl) | _ + 7 => (show _ = _; kernel_rfl))
@[simp] theorem Tryz.pt120 {cs : List V} {off : Nat} : part Tryz.prog 120 cs off = slot cs off := part_leaf (by kernel_rfl)
@[simp] theorem Tryz.zr122 : zeroOf Tryz.prog 122 = some (.agg [.nils, .nils, .nils, .nils, .nils, (.int .i64 0)]) := by kernel_rfl
@[simp] theorem Tryz.fa122x0 {b off : Nat} : fieldAddrV Tryz.prog 122 (.ptr b off) 0 = some (.ptr b off) := by kernel_rfl
@[simp] theorem Tryz.fl122x0 {cs : List V} {off : Nat} : fieldAddrV Tryz.prog 122 (.lptr cs off) 0 = some (.lptr cs off) := by kernel_rfl
@[simp] theorem Tryz.fa122x1 {b off : Nat} : fieldAddrV Tryz.prog 122 (.ptr b off) 1 = some (.ptr b (off + 1)) := by kernel_rfl
@[simp] theorem Tryz.fl122x1 {cs : List V} {off : Nat} : fieldAddrV Tryz.prog 122 (.lptr cs off) 1 = some (.lptr cs (off + 1)) := by kernel_rfl
@[simp] theorem Tryz.fa122x2 {b off : Nat} : fieldAddrV Tryz.prog 122 (.ptr b off) 2 = some (.ptr b (off + 2)) := by kernel_rfl
@[simp] theorem Tryz.fl122x2 {cs : List V} {off : Nat} : fieldAddrV Tryz.prog 122 (.lptr cs off) 2 = some (.lptr cs (off + 2)) := by kernel_rfl
@[simp] theorem Tryz.fa122x3 {b off : Nat} : fieldAddrV Tryz.prog 122 (.ptr b off) 3 = some (.ptr b (off + 3)) := by kernel_rfl
@[simp] theorem Tryz.fl122x3 {cs : List V} {off : Nat} : fieldAddrV Tryz.prog 122 (.lptr cs off) 3 = some (.lptr cs (off + 3)) := by kernel_rfl
@[simp] theorem Tryz.fa122x4 {b off : Nat} : fieldAddrV Tryz.prog 122 (.ptr b off) 4 = some (.ptr b (off + 4)) := by kernel_rfl
@[simp] theorem Tryz.fl122x4 {cs : List V} {off : Nat} : fieldAddrV Tryz.prog 122 (.lptr cs off) 4 = some (.lptr cs (off + 4)) := by kernel_rfl
@[simp] theorem Tryz.fa122x5 {b off : Nat} : fieldAddrV Tryz.prog 122 (.ptr b off) 5 = some (.ptr b (off + 5)) := by kernel_rfl
@[simp] theorem Tryz.fl122x5 {cs : List V} {off : Nat} : fieldAddrV Tryz.prog 122 (.lptr cs off) 5 = some (.lptr cs (off + 5)) := by kernel_rfl
def Tryz.pl122 : Nat → Option (Nat × Nat)
  | 0 => some (0, 1)
  | 1 => some (1, 1)
  | 2 => some (2, 1)
  | 3 => some (3, 1)
  | 4 => some (4, 1)
  | 5 => some (5, 1)
  | _ => none
@[simp] theorem Tryz.pl122x0 : Tryz.pl122 0 = some (0, 1) := rfl
@[simp] theorem Tryz.pl122x1 : Tryz.pl122 1 = some (1, 1) := rfl
@[simp] theorem Tryz.pl122x2 : Tryz.pl122 2 = some (2, 1) := rfl
@[simp] theorem Tryz.pl122x3 : Tryz.pl122 3 = some (3, 1) := rfl
@[simp] theorem Tryz.pl122x4 : Tryz.pl122 4 = some (4, 1) := rfl
@[simp] theorem Tryz.pl122x5 : Tryz.pl122 5 = some (5, 1) := rfl
@[simp] theorem Tryz.bd122 {ps : List (Nat × V)} : buildV Tryz.prog 122 ps = (fillV Tryz.pl122 [.nils, .nils, .nils, .nils, .nils, (.int .i64 0)] ps).map .agg := build_eq (pl := Tryz.pl122) Tryz.zr122 Tryz.underlying122 (by kernel_rfl) (fun i => by match i with | 0 => (show _ = _; kernel_rfl) | 1 => (show _ = _; kernel_rfl) | 2 => (show _ = _; kernel_rfl) | 3 => (show _ = _; kernel_rfl) | 4 => (show _ = _; kernel_rfl) | 5 => (show _ = _; kernel_rfl) | _ + 6 => (show _ = _; kernel_rfl))
@[simp] theorem Tryz.ixL123 {xs : List (List V)} {k : IntKind} {i : Int} : indexAddrV Tryz.prog 123 (.lst xs) (.int k i) = idxL 4 xs i := idxL_eq (show Tryz.prog.underlying 123 = some (.slice 126) by kernel_rfl) (show szOf Tryz.prog 126 = some 4 by kernel_rfl)
@[simp] theorem Tryz.ixS123 {b off len cap c : Nat} {k : IntKind} {i : Int} : indexAddrV Tryz.prog 123 (.sl b off len cap c) (.int k i) = idxS 4 b off len c i := idxS_eq (show Tryz.prog.underlying 123 = some (.slice 126) by kernel_rfl) (show szOf Tryz.prog 126 = some 4 by kernel_rfl)
@[simp] theorem Tryz.lnL123 {xs : List (List V)} : lenV Tryz.prog 123 (.lst xs) = some (.int .i64 xs.length) := lenL_eq (show Tryz.prog.underlying 123 = some (.slice 126) by kernel_rfl)
@[simp] theorem Tryz.lnS123 {b off len cap k : Nat} : lenV Tryz.prog 123 (.sl b off len cap k) = some (.int .i64 len) := lenS_eq (show Tryz.prog.underlying 123 = some (.slice 126) by kernel_rfl)
@[simp] theorem Tryz.lnN123 : lenV Tryz.prog 123 .nils = some (.int .i64 0) := lenN_eq (show Tryz.prog.underlying 123 = some (.slice 126) by kernel_rfl)
@[simp] theorem Tryz.ap123 {d x : V} : appendV Tryz.prog cfg h 123 123 d x = appS cfg h 4 48 d (srcCells h 4 x) := appS_eq (show Tryz.prog.underlying 123 = some (.slice 126) by kernel_rfl) (show szOf Tryz.prog 126 = some 4 by kernel_rfl) (by kernel_rfl) (by kernel_rfl) (by decide)
@[simp] theorem Tryz.bs123 {len : Nat} {vs : List V} : buildSliceV Tryz.prog h 123 len vs = (cellsAll 4 vs).bind fun cs => if vs.length = len && decide (len * 4 ≤ 16777216) then some (.sl h.length 0 len len 4, h ++ [some cs]) else none := buildSlice_eq (show Tryz.prog.underlying 123 = some (.slice 126) by kernel_rfl) (show szOf Tryz.prog 126 = some 4 by kernel_rfl) (by kernel_rfl) (by decide)
@[simp] theorem Tryz.pt126 {cs : List V} {off : Nat} : part Tryz.prog 126 cs off = if off + 4 ≤ cs.length then some (.agg ((cs.drop off).take 4)) else none := part_agg (by kernel_rfl) (by kernel_rfl)
@[simp] theorem Tryz.st126 {b off : Nat} {v : V} : storeV Tryz.prog cfg h 126 (.ptr b off) v = stv cfg h b off 4 (cellsOf v) := store_eq (by kernel_rfl)
@[simp] theorem Tryz.zr126 : zeroOf Tryz.prog 126 = some (.agg [.nils, (.int .i64 0), (.int .i64 0), (.int .i64 0)]) := by kernel_rfl
@[simp] theorem Tryz.fa126x0 {b off : Nat} : fieldAddrV Tryz.prog 126 (.ptr b off) 0 = some (.ptr b off) := by kernel_rfl
@[simp] theorem Tryz.fl126x0 {cs : List V} {off : Nat} : fieldAddrV Tryz.prog 126 (.lptr cs off) 0 = some (.lptr cs off) := by kernel_rfl
@[simp] theorem Tryz.fa126x1 {b off : Nat} : fieldAddrV Tryz.prog 126 (.ptr b off) 1 = some (.ptr b (off + 1)) := by kernel_rfl
@[simp] theorem Tryz.fl126x1 {cs : List V} {off : Nat} : fieldAddrV Tryz.prog 126 (.lptr cs off) 1 = some (.lptr cs (off + 1)) := by kernel_rfl
@[simp] theorem Tryz.fa126x2 {b off : Nat} : fieldAddrV Tryz.prog 126 (.ptr b off) 2 = some (.ptr b (off + 2)) := by kernel_rfl
@[simp] theorem Tryz.fl126x2 {cs : List V} {off : Nat} : fieldAddrV Tryz.prog 126 (.lptr cs off) 2 = some (.lptr cs (off + 2)) := by kernel_rfl
@[simp] theorem Tryz.fa126x3 {b off : Nat} : fieldAddrV Tryz.prog 126 (.ptr b off) 3 = some (.ptr b (off + 3)) := by kernel_rfl
@[simp] theorem Tryz.fl126x3 {cs : List V} {off : Nat} : fieldAddrV Tryz.prog 126 (.lptr cs off) 3 = some (.lptr cs (off + 3)) := by kernel_rfl
def Tryz.pl126 : Nat → Option (Nat × Nat)
  | 0 => some (0, 1)
  | 1 => some (1, 1)
  | 2 => some (2, 1)
  | 3 => some (3, 1)
  | _ => none
@[simp] theorem Tryz.pl126x0 : Tryz.pl126 0 = some (0, 1) := rfl
@[simp] theorem Tryz.pl126x1 : Tryz.pl126 1 = some (1, 1) := rfl
@[simp] theorem Tryz.pl126x2 : Tryz.pl126 2 = some (2, 1) := rfl
@[simp] theorem Tryz.pl126x3 : Tryz.pl126 3 = some (3, 1) := rfl
@[simp] theorem Tryz.bd126 {ps : List (Nat × V)} : buildV Tryz.prog 126 ps = (fillV Tryz.pl126 [.nils, (.int .i64 0), (.int .i64 0), (.int .i64 0)] ps).map .agg := build_eq (pl := Tryz.pl126) Tryz.zr126 Tryz.underlying126 (by kernel_rfl) (fun i => by match i with | 0 => (show _ = _; kernel_rfl) | 1 => (show _ = _; kernel_rfl) | 2 => (show _ = _; kernel_rfl) | 3 => (show _ = _; kernel_rfl) | _ + 4 => (show _ = _; kernel_rfl))
@[simp] theorem Tryz.pt131 {cs : List V} {off : Nat} : part Tryz.prog 131 cs off = if off + 5 ≤ cs.length then some (.agg ((cs.drop off).take 5)) else none := part_agg (by kernel_rfl) (by kernel_rfl)
@[simp] theorem Tryz.st131 {b off : Nat} {v : V} : storeV Tryz.prog cfg h 131 (.ptr b off) v = stv cfg h b off 5 (cellsOf v) := store_eq (by kernel_rfl)
@[simp] theorem Tryz.zr131 : zeroOf Tryz.prog 131 = some (.agg [(.int .i64 0), (.int .i64 0), (.int .i32 0), (.int .i32 0), (.bool false)]) := by kernel_rfl
@[simp] theorem Tryz.fa131x0 {b off : Nat} : fieldAddrV Tryz.prog 131 (.ptr b off) 0 = some (.ptr b off) := by kernel_rfl
@[simp] theorem Tryz.fl131x0 {cs : List V} {off : Nat} : fieldAddrV Tryz.prog 131 (.lptr cs off) 0 = some (.lptr cs off) := by kernel_rfl
@[simp] theorem Tryz.fa131x1 {b off : Nat} : fieldAddrV Tryz.prog 131 (.ptr b off) 1 = some (.ptr b (off + 1)) := by kernel_rfl
@[simp] theorem Tryz.fl131x1 {cs : List V} {off : Nat} : fieldAddrV Tryz.prog 131 (.lptr cs off) 1 = some (.lptr cs (off + 1)) := by kernel_rfl
@[simp] theorem Tryz.fa131x2 {b off : Nat} : fieldAddrV Tryz.prog 131 (.ptr b off) 2 = some (.ptr b (off + 2)) := by kernel_rfl
@[simp] theorem Tryz.fl131x2 {cs : List V} {off : Nat} : fieldAddrV Tryz.prog 131 (.lptr cs off) 2 = some (.lptr cs (off + 2)) := by kernel_rfl
@[simp] theorem Tryz.fa131x3 {b off : Nat} : fieldAddrV Tryz.prog 131 (.ptr b off) 3 = some (.ptr b (off + 3)) := by kernel_rfl
@[simp] theorem Tryz.fl131x3 {cs : List V} {off : Nat} : fieldAddrV Tryz.prog 131 (.lptr cs off) 3 = some (.lptr cs (off + 3)) := by kernel_rfl
@[simp] theorem Tryz.fa131x4 {b off : Nat} : fieldAddrV Tryz.prog 131 (.ptr b off) 4 = some (.ptr b (off + 4)) := by kernel_rfl
@[simp] theorem Tryz.fl131x4 {cs : List V} {off : Nat} : fieldAddrV Tryz.prog 131 (.lptr cs off) 4 = some (.lptr cs (off + 4)) := by kernel_rfl
def Tryz.pl131 : Nat → Option (Nat × Nat)
  | 0 => some (0, 1)
  | 1 => some (1, 1)
  | 2 => some (2, 1)
  | 3 => some (3, 1)
  | 4 => some (4, 1)
  | _ => none
@[simp] theorem Tryz.pl131x0 : Tryz.pl131 0 = some (0, 1) := rfl
@[simp] theorem Tryz.pl131x1 : Tryz.pl131 1 = some (1, 1) := rfl
@[simp] theorem Tryz.pl131x2 : Tryz.pl131 2 = some (2, 1) := rfl
@[simp] theorem Tryz.pl131x3 : Tryz.pl131 3 = some (3, 1) := rfl
@[simp] theorem Tryz.pl131x4 : Tryz.pl131 4 = some (4, 1) := rfl
@[simp] theorem Tryz.bd131 {ps : List (Nat × V)} : buildV Tryz.prog 131 ps = (fillV Tryz.pl131 [(.int .i64 0), (.int .i64 0), (.int .i32 0), (.int .i32 0), (.bool false)] ps).map .agg := build_eq (pl := Tryz.pl131) Tryz.zr131 Tryz.underlying131 (by kernel_rfl) (fun i => by match i with | 0 => (show _ = _; kernel_rfl) | 1 => (show _ = _; kernel_rfl) | 2 => (show _ = _; kernel_rfl) | 3 => (show _ = _; kernel_rfl) | 4 => (show _ = _; kernel_rfl) | _ + 5 => (show _ = _; kernel_rfl))
@[simp] theorem Tryz.pt135 {cs : List V} {off : Nat} : part Tryz.prog 135 cs off = if off + 308 ≤ cs.length then some (.agg ((cs.drop off).take 308)) else none := part_agg (by kernel_rfl) (by kernel_rfl)
@[simp] theorem Tryz.st135 {b off : Nat} {v : V} : storeV Tryz.prog cfg h 135 (.ptr b off) v = stv cfg h b off 308 (cellsOf v) := store_eq (by kernel_rfl)
@[simp] theorem Tryz.zr135 : zeroOf Tryz.prog 135 = some (.agg [(.int .i32 0), (.int .i32 0), (.int .u8 0), (.int .u8 0), (.int .u8 0), (.int .u8 0), (.int .u8 0), (.int .i32 0), (.int .i32 0), (.int .u8 0), (.int .u8 0), (.int .u8 0), (.int .u8 0), (.int .u8 0), (.int .i32 0), (.int .i32 0), (.int .u8 0), (.int .u8 0), (.int .u8 0), (.int .u8 0), (.int .u8 0), (.int .i32 0), (.int .i32 0), (.int .u8 0), (.int .u8 0), (.int .u8 0), (.int .u8 0), (.int .u8 0), (.int .i32 0), (.int .i32 0), (.int .u8 0), (.int .u8 0), (.int .u8 0), (.int .u8 0), (.int .u8 0), (.int .i32 0), (.int .i32 0), (.int .u8 0), (.int .u8 0), (.int .u8 0), (.int .u8 0), (.int .u8 0), (.int .i32 0), (.int .i32 0), (.int .u8 0), (.int .u8 0), (.int .u8 0), (.int .u8 0), (.int .u8 0), (.int .i32 0), (.int .i32 0), (.int .u8 0), (.int .u8 0), (.int .u8 0), (.int .u8 0), (.int .u8 0), (.int .i32 0), (.int .i32 0), (.int .u8 0), (.int .u8 0), (.int .u8 0), (.int .u8 0), (.int .u8 0), (.int .i32 0), (.int .i32 0), (.int .u8 0), (.int .u8 0), (.int .u8 0), (.int .u8 0), (.int .u8 0), (.int .i32 0), (.int .i32 0), (.int .u8 0), (.int .u8 0), (.int .u8 0), (.int .u8 0), (.int .u8 0), (.int .i32 0), (.int .i32 0), (.int .u8 0), (.int .u8 0), (.int .u8 0), (.int .u8 0), (.int .u8 0), (.int .i32 0), (.int .i32 0), (.int .u8 0), (.int .u8 0), (.int .u8 0), (.int .u8 0), (.int .u8 0), (.int .i32 0), (.int .i32 0), (.int .u8 0), (.int .u8 0), (.int .u8 0), (.int .u8 0), (.int .u8 0), (.int .i32 0), (.int .i32 0), (.int .u8 0), (.int .u8 0), (.int .u8 0), (.int .u8 0), (.int .u8 0), (.int .i32 0), (.int .i32 0), (.int .u8 0), (.int .u8 0), (.int .u8 0), (.int .u8 0), (.int .u8 0), (.int .i32 0), (.int .i32 0), (.int .u8 0), (.int .u8 0), (.int .u8 0), (.int .u8 0), (.int .u8 0), (.int .i32 0), (.int .i32 0), (.int .u8 0), (.int .u8 0), (.int .u8 0), (.int .u8 0), (.int .u8 0), (.int .i32 0), (.int .i32 0), (.int .u8 0), (.int .u8 0), (.int .u8 0), (.int .u8 0), (.int .u8 0), (.int .i32 0), (.int .i32 0), (.int .u8 0), (.int .u8 0), (.int .u8 0), (.int .u8 0), (.int .u8 0), (.int .i32 0), (.int .i32 0), (.int .u8 0), (.int .u8 0), (.int .u8 0), (.int .u8 0), (.int .u8 0), (.int .i32 0), (.int .i32 0), (.int .u8 0), (.int .u8 0), (.int .u8 0), (.int .u8 0), (.int .u8 0), (.int .i32 0), (.int .i32 0), (.int .u8 0), (.int .u8 0), (.int .u8 0), (.int .u8 0), (.int .u8 0), (.int .i32 0), (.int .i32 0), (.int .u8 0), (.int .u8 0), (.int .u8 0), (.int .u8 0), (.int .u8 0), (.int .i32 0), (.int .i32 0), (.int .u8 0), (.int .u8 0), (.int .u8 0), (.int .u8 0), (.int .u8 0), (.int .i32 0), (.int .i32 0), (.int .u8 0), (.int .u8 0), (.int .u8 0), (.int .u8 0), (.int .u8 0), (.int .i32 0), (.int .i32 0), (.int .u8 0), (.int .u8 0), (.int .u8 0), (.int .u8 0), (.int .u8 0), (.int .i32 0), (.int .i32 0), (.int .u8 0), (.int .u8 0), (.int .u8 0), (.int .u8 0), (.int .u8 0), (.int .i32 0), (.int .i32 0), (.int .u8 0), (.int .u8 0), (.int .u8 0), (.int .u8 0), (.int .u8 0), (.int .i32 0), (.int .i32 0), (.int .u8 0), (.int .u8 0), (.int .u8 0), (.int .u8 0), (.int .u8 0), (.int .i32 0), (.int .i32 0), (.int .u8 0), (.int .u8 0), (.int .u8 0), (.int .u8 0), (.int .u8 0), (.int .i32 0), (.int .i32 0), (.int .u8 0), (.int .u8 0), (.int .u8 0), (.int .u8 0), (.int .u8 0), (.int .i32 0), (.int .i32 0), (.int .u8 0), (.int .u8 0), (.int .u8 0), (.int .u8 0), (.int .u8 0), (.int .i32 0), (.int .i32 0), (.int .u8 0), (.int .u8 0), (.int .u8 0), (.int .u8 0), (.int .u8 0), (.int .i32 0), (.int .i32 0), (.int .u8 0), (.int .u8 0), (.int .u8 0), (.int .u8 0), (.int .u8 0), (.int .i32 0), (.int .i32 0), (.int .u8 0), (.int .u8 0), (.int .u8 0), (.int .u8 0), (.int .u8 0), (.int .i32 0), (.int .i32 0), (.int .u8 0), (.int .u8 0), (.int .u8 0), (.int .u8 0), (.int .u8 0), (.int .i32 0), (.int .i32 0), (.int .u8 0), (.int .u8 0), (.int .u8 0), (.int .u8 0), (.int .u8 0), (.int .i32 0), (.int .i32 0), (.int .u8 0), (.int .u8 0), (.int .u8 0), (.int .u8 0), (.int .u8 0), (.int .i32 0), (.int .i32 0), (.int .u8 0), (.int .u8 0), (.int .u8 0), (.int .u8 0), (.int .u8 0), (.int .i32 0), (.int .i32 0), (.int .u8 0), (.int .u8 0), (.int .u8 0), (.int .u8 0), (.int .u8 0), (.int .i32 0), (.int .i32 0), (.int .u8 0), (.int .u8 0), (.int .u8 0), (.int .u8 0), (.int .u8 0), (.int .i32 0), (.int .i32 0), (.int .u8 0), (.int .u8 0), (.int .u8 0), (.int .u8 0), (.int .u8 0), (.int .i32 0), (.int .i32 0), (.int .u8 0), (.int .u8 0), (.int .u8 0), (.int .u8 0), (.int .u8 0)]) := by kernel_rfl
@[simp] theorem Tryz.bd135 {ps : List (Nat × V)} : buildV Tryz.prog 135 ps = (fillV (fun i => some (i * 7, 7)) [(.int .i32 0), (.int .i32 0), (.int .u8 0), (.int .u8 0), (.int .u8 0), (.int .u8 0), (.int .u8 0), (.int .i32 0), (.int .i32 0), (.int .u8 0), (.int .u8 0), (.int .u8 0), (.int .u8 0), (.int .u8 0), (.int .i32 0), (.int .i32 0), (.int .u8 0), (.int .u8 0), (.int .u8 0), (.int .u8 0), (.int .u8 0), (.int .i32 0), (.int .i32 0), (.int .u8 0), (.int .u8 0), (.int .u8 0), (.int .u8 0), (.int .u8 0), (.int .i32 0), (.int .i32 0), (.int .u8 0), (.int .u8 0), (.int .u8 0), (.int .u8 0), (.int .u8 0), (.int .i32 0), (.int .i32 0), (.int .u8 0), (.int .u8 0), (.int .u8 0), (.int .u8 0), (.int .u8 0), (.int .i32 0), (.int .i32 0), (.int .u8 0), (.int .u8 0), (.int .u8 0), (.int .u8 0), (.int .u8 0), (.int .i32 0), (.int .i32 0), (.int .u8 0), (.int .u8 0), (.int .u8 0), (.int .u8 0), (.int .u8 0), (.int .i32 0), (.int .i32 0), (.int .u8 0), (.int .u8 0), (.int .u8 0), (.int .u8 0), (.int .u8 0), (.int .i32 0), (.int .i32 0), (.int .u8 0), (.int .u8 0), (.int .u8 0), (.int .u8 0), (.int .u8 0), (.int .i32 0), (.int .i32 0), (.int .u8 0), (.int .u8 0), (.int .u8 0), (.int .u8 0), (.int .u8 0), (.int .i32 0), (.int .i32 0), (.int .u8 0), (.int .u8 0), (.int .u8 0), (.int .u8 0), (.int .u8 0), (.int .i32 0), (.int .i32 0), (.int .u8 0), (.int .u8 0), (.int .u8 0), (.int .u8 0), (.int .u8 0), (.int .i32 0), (.int .i32 0), (.int .u8 0), (.int .u8 0), (.int .u8 0), (.int .u8 0), (.int .u8 0), (.int .i32 0), (.int .i32 0), (.int .u8 0), (.int .u8 0), (.int .u8 0), (.int .u8 0), (.int .u8 0), (.int .i32 0), (.int .i32 0), (.int .u8 0), (.int .u8 0), (.int .u8 0), (.int .u8 0), (.int .u8 0), (.int .i32 0), (.int .i32 0), (.int .u8 0), (.int .u8 0), (.int .u8 0), (.int .u8 0), (.int .u8 0), (.int .i32 0), (.int .i32 0), (.int .u8 0), (.int .u8 0), (.int .u8 0), (.int .u8 0), (.int .u8 0), (.int .i32 0), (.int .i32 0), (.int .u8 0), (.int .u8 0), (.int .u8 0), (.int .u8 0), (.int .u8 0), (.int .i32 0), (.int .i32 0), (.int .u8 0), (.int .u8 0), (.int .u8 0), (.int .u8 0), (.int .u8 0), (.int .i32 0), (.int .i32 0), (.int .u8 0), (.int .u8 0), (.int .u8 0), (.int .u8 0), (.int .u8 0), (.int .i32 0), (.int .i32 0), (.int .u8 0), (.int .u8 0), (.int .u8 0), (.int .u8 0), (.int .u8 0), (.int .i32 0), (.int .i32 0), (.int .u8 0), (.int .u8 0), (.int .u8 0), (.int .u8 0), (.int .u8 0), (.int .i32 0), (.int .i32 0), (.int .u8 0), (.int .u8 0), (.int .u8 0), (.int .u8 0), (.int .u8 0), (.int .i32 0), (.int .i32 0), (.int .u8 0), (.int .u8 0), (.int .u8 0), (.int .u8 0), (.int .u8 0), (.int .i32 0), (.int .i32 0), (.int .u8 0), (.int .u8 0), (.int .u8 0), (.int .u8 0), (.int .u8 0), (.int .i32 0), (.int .i32 0), (.int .u8 0), (.int .u8 0), (.int .u8 0), (.int .u8 0), (.int .u8 0), (.int .i32 0), (.int .i32 0), (.int .u8 0), (.int .u8 0), (.int .u8 0), (.int .u8 0), (.int .u8 0), (.int .i32 0), (.int .i32 0), (.int .u8 0), (.int .u8 0), (.int .u8 0), (.int .u8 0), (.int .u8 0), (.int .i32 0), (.int .i32 0), (.int .u8 0), (.int .u8 0), (.int .u8 0), (.int .u8 0), (.int .u8 0), (.int .i32 0), (.int .i32 0), (.int .u8 0), (.int .u8 0), (.int .u8 0), (.int .u8 0), (.int .u8 0), (.int .i32 0), (.int .i32 0), (.int .u8 0), (.int .u8 0), (.int .u8 0), (.int .u8 0), (.int .u8 0), (.int .i32 0), (.int .i32 0), (.int .u8 0), (.int .u8 0), (.int .u8 0), (.int .u8 0), (.int .u8 0), (.int .i32 0), (.int .i32 0), (.int .u8 0), (.int .u8 0), (.int .u8 0), (.int .u8 0), (.int .u8 0), (.int .i32 0), (.int .i32 0), (.int .u8 0), (.int .u8 0), (.int .u8 0), (.int .u8 0), (.int .u8 0), (.int .i32 0), (.int .i32 0), (.int .u8 0), (.int .u8 0), (.int .u8 0), (.int .u8 0), (.int .u8 0), (.int .i32 0), (.int .i32 0), (.int .u8 0), (.int .u8 0), (.int .u8 0), (.int .u8 0), (.int .u8 0), (.int .i32 0), (.int .i32 0), (.int .u8 0), (.int .u8 0), (.int .u8 0), (.int .u8 0), (.int .u8 0), (.int .i32 0), (.int .i32 0), (.int .u8 0), (.int .u8 0), (.int .u8 0), (.int .u8 0), (.int .u8 0), (.int .i32 0), (.int .i32 0), (.int .u8 0), (.int .u8 0), (.int .u8 0), (.int .u8 0), (.int .u8 0), (.int .i32 0), (.int .i32 0), (.int .u8 0), (.int .u8 0), (.int .u8 0), (.int .u8 0), (.int .u8 0), (.int .i32 0), (.int .i32 0), (.int .u8 0), (.int .u8 0), (.int .u8 0), (.int .u8 0), (.int .u8 0), (.int .i32 0), (.int .i32 0), (.int .u8 0), (.int .u8 0), (.int .u8 0), (.int .u8 0), (.int .u8 0), (.int .i32 0), (.int .i32 0), (.int .u8 0), (.int .u8 0), (.int .u8 0), (.int .u8 0), (.int .u8 0)] ps).map .agg := buildA_eq Tryz.zr135 (show Tryz.prog.underlying 135 = some (.array 44 116) by kernel_rfl) (show szOf Tryz.prog 116 = some 7 by kernel_rfl)
@[simp] theorem Tryz.ixL138 {xs : List (List V)} {k : IntKind} {i : Int} : indexAddrV Tryz.prog 138 (.lst xs) (.int k i) = idxL 7 xs i := idxL_eq (show Tryz.prog.underlying 138 = some (.slice 116) by kernel_rfl) (show szOf Tryz.prog 116 = some 7 by kernel_rfl)
@[simp] theorem Tryz.ixS138 {b off len cap c : Nat} {k : IntKind} {i : Int} : indexAddrV Tryz.prog 138 (.sl b off len cap c) (.int k i) = idxS 7 b off len c i := idxS_eq (show Tryz.prog.underlying 138 = some (.slice 116) by kernel_rfl) (show szOf Tryz.prog 116 = some 7 by kernel_rfl)
@[simp] theorem Tryz.lnL138 {xs : List (List V)} : lenV Tryz.prog 138 (.lst xs) = some (.int .i64 xs.length) := lenL_eq (show Tryz.prog.underlying 138 = some (.slice 116) by kernel_rfl)
@[simp] theorem Tryz.lnS138 {b off len cap k : Nat} : lenV Tryz.prog 138 (.sl b off len cap k) = some (.int .i64 len) := lenS_eq (show Tryz.prog.underlying 138 = some (.slice 116) by kernel_rfl)
@[simp] theorem Tryz.lnN138 : lenV Tryz.prog 138 .nils = some (.int .i64 0) := lenN_eq (show Tryz.prog.underlying 138 = some (.slice 116) by kernel_rfl)
@[simp] theorem Tryz.pt139 {cs : List V} {off : Nat} : part Tryz.prog 139 cs off = if off + 287 ≤ cs.length then some (.agg ((cs.drop off).take 287)) else none := part_agg (by kernel_rfl) (by kernel_rfl)
@[simp] theorem Tryz.st139 {b off : Nat} {v : V} : storeV Tryz.prog cfg h 139 (.ptr b off) v = stv cfg h b off 287 (cellsOf v) := store_eq (by kernel_rfl)
@[simp] theorem Tryz.zr139 : zeroOf Tryz.prog 139 = some (.agg [(.int .i32 0), (.int .i32 0), (.int .u8 0), (.int .u8 0), (.int .u8 0), (.int .u8 0), (.int .u8 0), (.int .i32 0), (.int .i32 0), (.int .u8 0), (.int .u8 0), (.int .u8 0), (.int .u8 0), (.int .u8 0), (.int .i32 0), (.int .i32 0), (.int .u8 0), (.int .u8 0), (.int .u8 0), (.int .u8 0), (.int .u8 0), (.int .i32 0), (.int .i32 0), (.int .u8 0), (.int .u8 0), (.int .u8 0), (.int .u8 0), (.int .u8 0), (.int .i32 0), (.int .i32 0), (.int .u8 0), (.int .u8 0), (.int .u8 0), (.int .u8 0), (.int .u8 0), (.int .i32 0), (.int .i32 0), (.int .u8 0), (.int .u8 0), (.int .u8 0), (.int .u8 0), (.int .u8 0), (.int .i32 0), (.int .i32 0), (.int .u8 0), (.int .u8 0), (.int .u8 0), (.int .u8 0), (.int .u8 0), (.int .i32 0), (.int .i32 0), (.int .u8 0), (.int .u8 0), (.int .u8 0), (.int .u8 0), (.int .u8 0), (.int .i32 0), (.int .i32 0), (.int .u8 0), (.int .u8 0), (.int .u8 0), (.int .u8 0), (.int .u8 0), (.int .i32 0), (.int .i32 0), (.int .u8 0), (.int .u8 0), (.int .u8 0), (.int .u8 0), (.int .u8 0), (.int .i32 0), (.int .i32 0), (.int .u8 0), (.int .u8 0), (.int .u8 0), (.int .u8 0), (.int .u8 0), (.int .i32 0), (.int .i32 0), (.int .u8 0), (.int .u8 0), (.int .u8 0), (.int .u8 0), (.int .u8 0), (.int .i32 0), (.int .i32 0), (.int .u8 0), (.int .u8 0), (.int .u8 0), (.int .u8 0), (.int .u8 0), (.int .i32 0), (.int .i32 0), (.int .u8 0), (.int .u8 0), (.int .u8 0), (.int .u8 0), (.int .u8 0), (.int .i32 0), (.int .i32 0), (.int .u8 0), (.int .u8 0), (.int .u8 0), (.int .u8 0), (.int .u8 0), (.int .i32 0), (.int .i32 0), (.int .u8 0), (.int .u8 0), (.int .u8 0), (.int .u8 0), (.int .u8 0), (.int .i32 0), (.int .i32 0), (.int .u8 0), (.int .u8 0), (.int .u8 0), (.int .u8 0), (.int .u8 0), (.int .i32 0), (.int .i32 0), (.int .u8 0), (.int .u8 0), (.int .u8 0), (.int .u8 0), (.int .u8 0), (.int .i32 0), (.int .i32 0), (.int .u8 0), (.int .u8 0), (.int .u8 0), (.int .u8 0), (.int .u8 0), (.int .i32 0), (.int .i32 0), (.int .u8 0), (.int .u8 0), (.int .u8 0), (.int .u8 0), (.int .u8 0), (.int .i32 0), (.int .i32 0), (.int .u8 0), (.int .u8 0), (.int .u8 0), (.int .u8 0), (.int .u8 0), (.int .i32 0), (.int .i32 0), (.int .u8 0), (.int .u8 0), (.int .u8 0), (.int .u8 0), (.int .u8 0), (.int .i32 0), (.int .i32 0), (.int .u8 0), (.int .u8 0), (.int .u8 0), (.int .u8 0), (.int .u8 0), (.int .i32 0), (.int .i32 0), (.int .u8 0), (.int .u8 0), (.int .u8 0), (.int .u8 0), (.int .u8 0), (.int .i32 0), (.int .i32 0), (.int .u8 0), (.int .u8 0), (.int .u8 0), (.int .u8 0), (.int .u8 0), (.int .i32 0), (.int .i32 0), (.int .u8 0), (.int .u8 0), (.int .u8 0), (.int .u8 0), (.int .u8 0), (.int .i32 0), (.int .i32 0), (.int .u8 0), (.int .u8 0), (.int .u8 0), (.int .u8 0), (.int .u8 0), (.int .i32 0), (.int .i32 0), (.int .u8 0), (.int .u8 0), (.int .u8 0), (.int .u8 0), (.int .u8 0), (.int .i32 0), (.int .i32 0), (.int .u8 0), (.int .u8 0), (.int .u8 0), (.int .u8 0), (.int .u8 0), (.int .i32 0), (.int .i32 0), (.int .u8 0), (.int .u8 0), (.int .u8 0), (.int .u8 0), (.int .u8 0), (.int .i32 0), (.int .i32 0), (.int .u8 0), (.int .u8 0), (.int .u8 0), (.int .u8 0), (.int .u8 0), (.int .i32 0), (.int .i32 0), (.int .u8 0), (.int .u8 0), (.int .u8 0), (.int .u8 0), (.int .u8 0), (.int .i32 0), (.int .i32 0), (.int .u8 0), (.int .u8 0), (.int .u8 0), (.int .u8 0), (.int .u8 0), (.int .i32 0), (.int .i32 0), (.int .u8 0), (.int .u8 0), (.int .u8 0), (.int .u8 0), (.int .u8 0), (.int .i32 0), (.int .i32 0), (.int .u8 0), (.int .u8 0), (.int .u8 0), (.int .u8 0), (.int .u8 0), (.int .i32 0), (.int .i32 0), (.int .u8 0), (.int .u8 0), (.int .u8 0), (.int .u8 0), (.int .u8 0), (.int .i32 0), (.int .i32 0), (.int .u8 0), (.int .u8 0), (.int .u8 0), (.int .u8 0), (.int .u8 0), (.int .i32 0), (.int .i32 0), (.int .u8 0), (.int .u8 0), (.int .u8 0), (.int .u8 0), (.int .u8 0), (.int .i32 0), (.int .i32 0), (.int .u8 0), (.int .u8 0), (.int .u8 0), (.int .u8 0), (.int .u8 0), (.int .i32 0), (.int .i32 0), (.int .u8 0), (.int .u8 0), (.int .u8 0), (.int .u8 0), (.int .u8 0), (.int .i32 0), (.int .i32 0), (.int .u8 0), (.int .u8 0), (.int .u8 0), (.int .u8 0), (.int .u8 0)]) := by kernel_rfl
@[simp] theorem Tryz.bd139 {ps : List (Nat × V)} : buildV Tryz.prog 139 ps = (fillV (fun i => some (i * 7, 7)) [(.int .i32 0), (.int .i32 0), (.int .u8 0), (.int .u8 0), (.int .u8 0), (.int .u8 0), (.int .u8 0), (.int .i32 0), (.int .i32 0), (.int .u8 0), (.int .u8 0), (.int .u8 0), (.int .u8 0), (.int .u8 0), (.int .i32 0), (.int .i32 0), (.int .u8 0), (.int .u8 0), (.int .u8 0), (.int .u8 0), (.int .u8 0), (.int .i32 0), (.int .i32 0), (.int .u8 0), (.int .u8 0), (.int .u8 0), (.int .u8 0), (.int .u8 0), (.int .i32 0), (.int .i32 0), (.int .u8 0), (.int .u8 0), (.int .u8 0), (.int .u8 0), (.int .u8 0), (.int .i32 0), (.int .i32 0), (.int .u8 0), (.int .u8 0), (.int .u8 0), (.int .u8 0), (.int .u8 0), (.int .i32 0), (.int .i32 0), (.int .u8 0), (.int .u8 0), (.int .u8 0), (.int .u8 0), (.int .u8 0), (.int .i32 0), (.int .i32 0), (.int .u8 0), (.int .u8 0), (.int .u8 0), (.int .u8 0), (.int .u8 0), (.int .i32 0), (.int .i32 0), (.int .u8 0), (.int .u8 0), (.int .u8 0), (.int .u8 0), (.int .u8 0), (.int .i32 0), (.int .i32 0), (.int .u8 0), (.int .u8 0), (.int .u8 0), (.int .u8 0), (.int .u8 0), (.int .i32 0), (.int .i32 0), (.int .u8 0), (.int .u8 0), (.int .u8 0), (.int .u8 0), (.int .u8 0), (.int .i32 0), (.int .i32 0), (.int .u8 0), (.int .u8 0), (.int .u8 0), (.int .u8 0), (.int .u8 0), (.int .i32 0), (.int .i32 0), (.int .u8 0), (.int .u8 0), (.int .u8 0), (.int .u8 0), (.int .u8 0), (.int .i32 0), (.int .i32 0), (.int .u8 0), (.int .u8 0), (.int .u8 0), (.int .u8 0), (.int .u8 0), (.int .i32 0), (.int .i32 0), (.int .u8 0), (.int .u8 0), (.int .u8 0), (.int .u8 0), (.int .u8 0), (.int .i32 0), (.int .i32 0), (.int .u8 0), (.int .u8 0), (.int .u8 0), (.int .u8 0), (.int .u8 0), (.int .i32 0), (.int .i32 0), (.int .u8 0), (.int .u8 0), (.int .u8 0), (.int .u8 0), (.int .u8 0), (.int .i32 0), (.int .i32 0), (.int .u8 0), (.int .u8 0), (.int .u8 0), (.int .u8 0), (.int .u8 0), (.int .i32 0), (.int .i32 0), (.int .u8 0), (.int .u8 0), (.int .u8 0), (.int .u8 0), (.int .u8 0), (.int .i32 0), (.int .i32 0), (.int .u8 0), (.int .u8 0), (.int .u8 0), (.int .u8 0), (.int .u8 0), (.int .i32 0), (.int .i32 0), (.int .u8 0), (.int .u8 0), (.int .u8 0), (.int .u8 0), (.int .u8 0), (.int .i32 0), (.int .i32 0), (.int .u8 0), (.int .u8 0), (.int .u8 0), (.int .u8 0), (.int .u8 0), (.int .i32 0), (.int .i32 0), (.int .u8 0), (.int .u8 0), (.int .u8 0), (.int .u8 0), (.int .u8 0), (.int .i32 0), (.int .i32 0), (.int .u8 0), (.int .u8 0), (.int .u8 0), (.int .u8 0), (.int .u8 0), (.int .i32 0), (.int .i32 0), (.int .u8 0), (.int .u8 0), (.int .u8 0), (.int .u8 0), (.int .u8 0), (.int .i32 0), (.int .i32 0), (.int .u8 0), (.int .u8 0), (.int .u8 0), (.int .u8 0), (.int .u8 0), (.int .i32 0), (.int .i32 0), (.int .u8 0), (.int .u8 0), (.int .u8 0), (.int .u8 0), (.int .u8 0), (.int .i32 0), (.int .i32 0), (.int .u8 0), (.int .u8 0), (.int .u8 0), (.int .u8 0), (.int .u8 0), (.int .i32 0), (.int .i32 0), (.int .u8 0), (.int .u8 0), (.int .u8 0), (.int .u8 0), (.int .u8 0), (.int .i32 0), (.int .i32 0), (.int .u8 0), (.int .u8 0), (.int .u8 0), (.int .u8 0), (.int .u8 0), (.int .i32 0), (.int .i32 0), (.int .u8 0), (.int .u8 0), (.int .u8 0), (.int .u8 0), (.int .u8 0), (.int .i32 0), (.int .i32 0), (.int .u8 0), (.int .u8 0), (.int .u8 0), (.int .u8 0), (.int .u8 0), (.int .i32 0), (.int .i32 0), (.int .u8 0), (.int .u8 0), (.int .u8 0), (.int .u8 0), (.int .u8 0), (.int .i32 0), (.int .i32 0), (.int .u8 0), (.int .u8 0), (.int .u8 0), (.int .u8 0), (.int .u8 0), (.int .i32 0), (.int .i32 0), (.int .u8 0), (.int .u8 0), (.int .u8 0), (.int .u8 0), (.int .u8 0), (.int .i32 0), (.int .i32 0), (.int .u8 0), (.int .u8 0), (.int .u8 0), (.int .u8 0), (.int .u8 0), (.int .i32 0), (.int .i32 0), (.int .u8 0), (.int .u8 0), (.int .u8 0), (.int .u8 0), (.int .u8 0), (.int .i32 0), (.int .i32 0), (.int .u8 0), (.int .u8 0), (.int .u8 0), (.int .u8 0), (.int .u8 0), (.int .i32 0), (.int .i32 0), (.int .u8 0), (.int .u8 0), (.int .u8 0), (.int .u8 0), (.int .u8 0), (.int .i32 0), (.int .i32 0), (.int .u8 0), (.int .u8 0), (.int .u8 0), (.int .u8 0), (.int .u8 0), (.int .i32 0), (.int .i32 0), (.int .u8 0), (.int .u8 0), (.int .u8 0), (.int .u8 0), (.int .u8 0)] ps).map .agg := buildA_eq Tryz.zr139 (show Tryz.prog.underlying 139 = some (.array 41 116) by kernel_rfl) (show szOf Tryz.prog 116 = some 7 by kernel_rfl)
@[simp] theorem Tryz.pt142 {cs : List V} {off : Nat} : part Tryz.prog 142 cs off = if off + 3 ≤ cs.length then some (.agg ((cs.drop off).take 3)) else none := part_agg (by kernel_rfl) (by kernel_rfl)
@[simp] theorem Tryz.st142 {b off : Nat} {v : V} : storeV Tryz.prog cfg h 142 (.ptr b off) v = stv cfg h b off 3 (cellsOf v) := store_eq (by kernel_rfl)
@[simp] theorem Tryz.zr142 : zeroOf Tryz.prog 142 = some (.agg [(.int .i64 0), (.int .i64 0), (.bool false)]) := by kernel_rfl
@[simp] theorem Tryz.fa142x0 {b off : Nat} : fieldAddrV Tryz.prog 142 (.ptr b off) 0 = some (.ptr b off) := by kernel_rfl
@[simp] theorem Tryz.fl142x0 {cs : List V} {off : Nat} : fieldAddrV Tryz.prog 142 (.lptr cs off) 0 = some (.lptr cs off) := by kernel_rfl
@[simp] theorem Tryz.fa142x1 {b off : Nat} : fieldAddrV Tryz.prog 142 (.ptr b off) 1 = some (.ptr b (off + 1)) := by kernel_rfl
@[simp] theorem Tryz.fl142x1 {cs : List V} {off : Nat} : fieldAddrV Tryz.prog 142 (.lptr cs off) 1 = some (.lptr cs (off + 1)) := by kernel_rfl
@[simp] theorem Tryz.fa142x2 {b off : Nat} : fieldAddrV Tryz.prog 142 (.ptr b off) 2 = some (.ptr b (off + 2)) := by kernel_rfl
@[simp] theorem Tryz.fl142x2 {cs : List V} {off : Nat} : fieldAddrV Tryz.prog 142 (.lptr cs off) 2 = some (.lptr cs (off + 2)) := by kernel_rfl
def Tryz.pl142 : Nat → Option (Nat × Nat)
  | 0 => some (0, 1)
  | 1 => some (1, 1)
  | 2 => some (2, 1)
  | _ => none
@[simp] theorem Tryz.pl142x0 : Tryz.pl142 0 = some (0, 1) := rfl
@[simp] theorem Tryz.pl142x1 : Tryz.pl142 1 = some (1, 1) := rfl
@[simp] theorem Tryz.pl142x2 : Tryz.pl142 2 = some (2, 1) := rfl
@[simp] theorem Tryz.bd142 {ps : List (Nat × V)} : buildV Tryz.prog 142 ps = (fillV Tryz.pl142 [(.int .i64 0), (.int .i64 0), (.bool false)] ps).map .agg := build_eq (pl := Tryz.pl142) Tryz.zr142 Tryz.underlying142 (by kernel_rfl) (fun i => by match i with | 0 => (show _ = _; kernel_rfl) | 1 => (show _ = _; kernel_rfl) | 2 => (show _ = _; kernel_rfl) | _ + 3 => (show _ = _; kernel_rfl))
@[simp] theorem Tryz.pt143 {cs : List V} {off : Nat} : part Tryz.prog 143 cs off = slot cs off := part_leaf (by kernel_rfl)
@[simp] theorem Tryz.st143 {b off : Nat} {v : V} : storeV Tryz.prog cfg h 143 (.ptr b off) v = stv cfg h b off 1 (cellsOf v) := store_eq (by kernel_rfl)
@[simp] theorem Tryz.zr143 : zeroOf Tryz.prog 143 = some .nils := by kernel_rfl
@[simp] theorem Tryz.ixL143 {xs : List (List V)} {k : IntKind} {i : Int} : indexAddrV Tryz.prog 143 (.lst xs) (.int k i) = idxL 3 xs i := idxL_eq (show Tryz.prog.underlying 143 = some (.slice 142) by kernel_rfl) (show szOf Tryz.prog 142 = some 3 by kernel_rfl)
@[simp] theorem Tryz.ixS143 {b off len cap c : Nat} {k : IntKind} {i : Int} : indexAddrV Tryz.prog 143 (.sl b off len cap c) (.int k i) = idxS 3 b off len c i := idxS_eq (show Tryz.prog.underlying 143 = some (.slice 142) by kernel_rfl) (show szOf Tryz.prog 142 = some 3 by kernel_rfl)
@[simp] theorem Tryz.slL143 {xs : List (List V)} {lo hi : Option (Option V)} : sliceV Tryz.prog h 143 (.lst xs) lo hi = slcL 3 xs (boundV 0 lo) (boundV xs.length hi) := slcL_eq (show Tryz.prog.underlying 143 = some (.slice 142) by kernel_rfl) (show szOf Tryz.prog 142 = some 3 by kernel_rfl)
@[simp] theorem Tryz.slS143 {b off len cap k : Nat} {lo hi : Option (Option V)} : sliceV Tryz.prog h 143 (.sl b off len cap k) lo hi = slcS 3 b off len cap k (boundV 0 lo) (boundV len hi) := slcS_eq (show Tryz.prog.underlying 143 = some (.slice 142) by kernel_rfl) (show szOf Tryz.prog 142 = some 3 by kernel_rfl)
@[simp] theorem Tryz.slN143 {lo hi : Option (Option V)} : sliceV Tryz.prog h 143 .nils lo hi = slcN (boundV 0 lo) (boundV 0 hi) := slcN_eq (show Tryz.prog.underlying 143 = some (.slice 142) by kernel_rfl) (show szOf Tryz.prog 142 = some 3 by kernel_rfl)
@[simp] theorem Tryz.lnL143 {xs : List (List V)} : lenV Tryz.prog 143 (.lst xs) = some (.int .i64 xs.length) := lenL_eq (show Tryz.prog.underlying 143 = some (.slice 142) by kernel_rfl)
@[simp] theorem Tryz.lnS143 {b off len cap k : Nat} : lenV Tryz.prog 143 (.sl b off len cap k) = some (.int .i64 len) := lenS_eq (show Tryz.prog.underlying 143 = some (.slice 142) by kernel_rfl)
@[simp] theorem Tryz.lnN143 : lenV Tryz.prog 143 .nils = some (.int .i64 0) := lenN_eq (show Tryz.prog.underlying 143 = some (.slice 142) by kernel_rfl)
@[simp] theorem Tryz.ap143 {d x : V} : appendV Tryz.prog cfg h 143 143 d x = appS cfg h 3 24 d (srcCells h 3 x) := appS_eq (show Tryz.prog.underlying 143 = some (.slice 142) by kernel_rfl) (show szOf Tryz.prog 142 = some 3 by kernel_rfl) (by kernel_rfl) (by kernel_rfl) (by decide)
@[simp] theorem Tryz.bs143 {len : Nat} {vs : List V} : buildSliceV Tryz.prog h 143 len vs = (cellsAll 3 vs).bind fun cs => if vs.length = len && decide (len * 3 ≤ 16777216) then some (.sl h.length 0 len len 3, h ++ [some cs]) else none := buildSlice_eq (show Tryz.prog.underlying 143 = some (.slice 142) by kernel_rfl) (show szOf Tryz.prog 142 = some 3 by kernel_rfl) (by kernel_rfl) (by decide)
@[simp] theorem Tryz.ixL145 {xs : List (List V)} {k : IntKind} {i : Int} : indexAddrV Tryz.prog 145 (.lst xs) (.int k i) = idxL 1 xs i := idxL_eq (show Tryz.prog.underlying 145 = some (.slice 22) by kernel_rfl) (show szOf Tryz.prog 22 = some 1 by kernel_rfl)
@[simp] theorem Tryz.ixS145 {b off len cap c : Nat} {k : IntKind} {i : Int} : indexAddrV Tryz.prog 145 (.sl b off len cap c) (.int k i) = idxS 1 b off len c i := idxS_eq (show Tryz.prog.underlying 145 = some (.slice 22) by kernel_rfl) (show szOf Tryz.prog 22 = some 1 by kernel_rfl)
@[simp] theorem Tryz.lnL145 {xs : List (List V)} : lenV Tryz.prog 145 (.lst xs) = some (.int .i64 xs.length) := lenL_eq (show Tryz.prog.underlying 145 = some (.slice 22) by kernel_rfl)
@[simp] theorem Tryz.lnS145 {b off len cap k : Nat} : lenV Tryz.prog 145 (.sl b off len cap k) = some (.int .i64 len) := lenS_eq (show Tryz.prog.underlying 145 = some (.slice 22) by kernel_rfl)
@[simp] theorem Tryz.lnN145 : lenV Tryz.prog 145 .nils = some (.int .i64 0) := lenN_eq (show Tryz.prog.underlying 145 = some (.slice 22) by kernel_rfl)
@[simp] theorem Tryz.ap145 {d x : V} : appendV Tryz.prog cfg h 145 145 d x = appS cfg h 1 24 d (srcCells h 1 x) := appS_eq (show Tryz.prog.underlying 145 = some (.slice 22) by kernel_rfl) (show szOf Tryz.prog 22 = some 1 by kernel_rfl) (by kernel_rfl) (by kernel_rfl) (by decide)
@[simp] theorem Tryz.bs145 {len : Nat} {vs : List V} : buildSliceV Tryz.prog h 145 len vs = (cellsAll 1 vs).bind fun cs => if vs.length = len && decide (len * 1 ≤ 16777216) then some (.sl h.length 0 len len 1, h ++ [some cs]) else none := buildSlice_eq (show Tryz.prog.underlying 145 = some (.slice 22) by kernel_rfl) (show szOf Tryz.prog 22 = some 1 by kernel_rfl) (by kernel_rfl) (by decide)
@[simp] theorem Tryz.ixL154 {xs : List (List V)} {k : IntKind} {i : Int} : indexAddrV Tryz.prog 154 (.lst xs) (.int k i) = idxL 2 xs i := idxL_eq (show Tryz.prog.underlying 154 = some (.slice 172) by kernel_rfl) (show szOf Tryz.prog 172 = some 2 by kernel_rfl)
@[simp] theorem Tryz.ixS154 {b off len cap c : Nat} {k : IntKind} {i : Int} : indexAddrV Tryz.prog 154 (.sl b off len cap c) (.int k i) = idxS 2 b off len c i := idxS_eq (show Tryz.prog.underlying 154 = some (.slice 172) by kernel_rfl) (show szOf Tryz.prog 172 = some 2 by kernel_rfl)
@[simp] theorem Tryz.lnL154 {xs : List (List V)} : lenV Tryz.prog 154 (.lst xs) = some (.int .i64 xs.length) := lenL_eq (show Tryz.prog.underlying 154 = some (.slice 172) by kernel_rfl)
@[simp] theorem Tryz.lnS154 {b off len cap k : Nat} : lenV Tryz.prog 154 (.sl b off len cap k) = some (.int .i64 len) := lenS_eq (show Tryz.prog.underlying 154 = some (.slice 172) by kernel_rfl)
@[simp] theorem Tryz.lnN154 : lenV Tryz.prog 154 .nils = some (.int .i64 0) := lenN_eq (show Tryz.prog.underlying 154 = some (.slice 172) by kernel_rfl)
@[simp] theorem Tryz.bs154 {len : Nat} {vs : List V} : buildSliceV Tryz.prog h 154 len vs = (cellsAll 2 vs).bind fun cs => if vs.length = len && decide (len * 2 ≤ 16777216) then some (.sl h.length 0 len len 2, h ++ [some cs]) else none := buildSlice_eq (show Tryz.prog.underlying 154 = some (.slice 172) by kernel_rfl) (show szOf Tryz.prog 172 = some 2 by kernel_rfl) (by kernel_rfl) (by decide)
@[simp] theorem Tryz.pt157 {cs : List V} {off : Nat} : part Tryz.prog 157 cs off = if off + 5 ≤ cs.length then some (.agg ((cs.drop off).take 5)) else none := part_agg (by kernel_rfl) (by kernel_rfl)
@[simp] theorem Tryz.st157 {b off : Nat} {v : V} : storeV Tryz.prog cfg h 157 (.ptr b off) v = stv cfg h b off 5 (cellsOf v) := store_eq (by kernel_rfl)
@[simp] theorem Tryz.zr157 : zeroOf Tryz.prog 157 = some (.agg [(.int .i32 0), (.int .i32 0), (.int .i64 0), (.int .i64 0), (.bool false)]) := by kernel_rfl
@[simp] theorem Tryz.fa157x0 {b off : Nat} : fieldAddrV Tryz.prog 157 (.ptr b off) 0 = some (.ptr b off) := by kernel_rfl
@[simp] theorem Tryz.fl157x0 {cs : List V} {off : Nat} : fieldAddrV Tryz.prog 157 (.lptr cs off) 0 = some (.lptr cs off) := by kernel_rfl
@[simp] theorem Tryz.fa157x1 {b off : Nat} : fieldAddrV Tryz.prog 157 (.ptr b off) 1 = some (.ptr b (off + 4)) := by kernel_rfl
@[simp] theorem Tryz.fl157x1 {cs : List V} {off : Nat} : fieldAddrV Tryz.prog 157 (.lptr cs off) 1 = some (.lptr cs (off + 4)) := by kernel_rfl
@[simp] theorem Tryz.ixL159 {xs : List (List V)} {k : IntKind} {i : Int} : indexAddrV Tryz.prog 159 (.lst xs) (.int k i) = idxL 1 xs i := idxL_eq (show Tryz.prog.underlying 159 = some (.slice 55) by kernel_rfl) (show szOf Tryz.prog 55 = some 1 by kernel_rfl)
@[simp] theorem Tryz.ixS159 {b off len cap c : Nat} {k : IntKind} {i : Int} : indexAddrV Tryz.prog 159 (.sl b off len cap c) (.int k i) = idxS 1 b off len c i := idxS_eq (show Tryz.prog.underlying 159 = some (.slice 55) by kernel_rfl) (show szOf Tryz.prog 55 = some 1 by kernel_rfl)
@[simp] theorem Tryz.lnL159 {xs : List (List V)} : lenV Tryz.prog 159 (.lst xs) = some (.int .i64 xs.length) := lenL_eq (show Tryz.prog.underlying 159 = some (.slice 55) by kernel_rfl)
@[simp] theorem Tryz.lnS159 {b off len cap k : Nat} : lenV Tryz.prog 159 (.sl b off len cap k) = some (.int .i64 len) := lenS_eq (show Tryz.prog.underlying 159 = some (.slice 55) by kernel_rfl)
@[simp] theorem Tryz.lnN159 : lenV Tryz.prog 159 .nils = some (.int .i64 0) := lenN_eq (show Tryz.prog.underlying 159 = some (.slice 55) by kernel_rfl)
@[simp] theorem Tryz.ap159 {d x : V} : appendV Tryz.prog cfg h 159 159 d x = appS cfg h 1 24 d (srcCells h 1 x) := appS_eq (show Tryz.prog.underlying 159 = some (.slice 55) by kernel_rfl) (show szOf Tryz.prog 55 = some 1 by kernel_rfl) (by kernel_rfl) (by kernel_rfl) (by decide)
@[simp] theorem Tryz.bs159 {len : Nat} {vs : List V} : buildSliceV Tryz.prog h 159 len vs = (cellsAll 1 vs).bind fun cs => if vs.length = len && decide (len * 1 ≤ 16777216) then some (.sl h.length 0 len len 1, h ++ [some cs]) else none := buildSlice_eq (show Tryz.prog.underlying 159 = some (.slice 55) by kernel_rfl) (show szOf Tryz.prog 55 = some 1 by kernel_rfl) (by kernel_rfl) (by decide)
@[simp] theorem Tryz.ixL163 {xs : List (List V)} {k : IntKind} {i : Int} : indexAddrV Tryz.prog 163 (.lst xs) (.int k i) = idxL 2 xs i := idxL_eq (show Tryz.prog.underlying 163 = some (.slice 167) by kernel_rfl) (show szOf Tryz.prog 167 = some 2 by kernel_rfl)
@[simp] theorem Tryz.ixS163 {b off len cap c : Nat} {k : IntKind} {i : Int} : indexAddrV Tryz.prog 163 (.sl b off len cap c) (.int k i) = idxS 2 b off len c i := idxS_eq (show Tryz.prog.underlying 163 = some (.slice 167) by kernel_rfl) (show szOf Tryz.prog 167 = some 2 by kernel_rfl)
@[simp] theorem Tryz.slL163 {xs : List (List V)} {lo hi : Option (Option V)} : sliceV Tryz.prog h 163 (.lst xs) lo hi = slcL 2 xs (boundV 0 lo) (boundV xs.length hi) := slcL_eq (show Tryz.prog.underlying 163 = some (.slice 167) by kernel_rfl) (show szOf Tryz.prog 167 = some 2 by kernel_rfl)
@[simp] theorem Tryz.slS163 {b off len cap k : Nat} {lo hi : Option (Option V)} : sliceV Tryz.prog h 163 (.sl b off len cap k) lo hi = slcS 2 b off len cap k (boundV 0 lo) (boundV len hi) := slcS_eq (show Tryz.prog.underlying 163 = some (.slice 167) by kernel_rfl) (show szOf Tryz.prog 167 = some 2 by kernel_rfl)
@[simp] theorem Tryz.slN163 {lo hi : Option (Option V)} : sliceV Tryz.prog h 163 .nils lo hi = slcN (boundV 0 lo) (boundV 0 hi) := slcN_eq (show Tryz.prog.underlying 163 = some (.slice 167) by kernel_rfl) (show szOf Tryz.prog 167 = some 2 by kernel_rfl)
@[simp] theorem Tryz.lnL163 {xs : List (List V)} : lenV Tryz.prog 163 (.lst xs) = some (.int .i64 xs.length) := lenL_eq (show Tryz.prog.underlying 163 = some (.slice 167) by kernel_rfl)
@[simp] theorem Tryz.lnS163 {b off len cap k : Nat} : lenV Tryz.prog 163 (.sl b off len cap k) = some (.int .i64 len) := lenS_eq (show Tryz.prog.underlying 163 = some (.slice 167) by kernel_rfl)
@[simp] theorem Tryz.lnN163 : lenV Tryz.prog 163 .nils = some (.int .i64 0) := lenN_eq (show Tryz.prog.underlying 163 = some (.slice 167) by kernel_rfl)
@[simp] theorem Tryz.ap163 {d x : V} : appendV Tryz.prog cfg h 163 163 d x = appS cfg h 2 16 d (srcCells h 2 x) := appS_eq (show Tryz.prog.underlying 163 = some (.slice 167) by kernel_rfl) (show szOf Tryz.prog 167 = some 2 by kernel_rfl) (by kernel_rfl) (by kernel_rfl) (by decide)
@[simp] theorem Tryz.bs163 {len : Nat} {vs : List V} : buildSliceV Tryz.prog h 163 len vs = (cellsAll 2 vs).bind fun cs => if vs.length = len && decide (len * 2 ≤ 16777216) then some (.sl h.length 0 len len 2, h ++ [some cs]) else none := buildSlice_eq (show Tryz.prog.underlying 163 = some (.slice 167) by kernel_rfl) (show szOf Tryz.prog 167 = some 2 by kernel_rfl) (by kernel_rfl) (by decide)
@[simp] theorem Tryz.zr167 : zeroOf Tryz.prog 167 = some (.agg [(.int .i32 0), (.int .i64 0)]) := by kernel_rfl
@[simp] theorem Tryz.fa167x0 {b off : Nat} : fieldAddrV Tryz.prog 167 (.ptr b off) 0 = some (.ptr b off) := by kernel_rfl
@[simp] theorem Tryz.fl167x0 {cs : List V} {off : Nat} : fieldAddrV Tryz.prog 167 (.lptr cs off) 0 = some (.lptr cs off) := by kernel_rfl
@[simp] theorem Tryz.fa167x1 {b off : Nat} : fieldAddrV Tryz.prog 167 (.ptr b off) 1 = some (.ptr b (off + 1)) := by kernel_rfl
@[simp] theorem Tryz.fl167x1 {cs : List V} {off : Nat} : fieldAddrV Tryz.prog 167 (.lptr cs off) 1 = some (.lptr cs (off + 1)) := by kernel_rfl
def Tryz.pl167 : Nat → Option (Nat × Nat)
  | 0 => some (0, 1)
  | 1 => some (1, 1)
  | _ => none
@[simp] theorem Tryz.pl167x0 : Tryz.pl167 0 = some (0, 1) := rfl
@[simp] theorem Tryz.pl167x1 : Tryz.pl167 1 = some (1, 1) := rfl
@[simp] theorem Tryz.bd167 {ps : List (Nat × V)} : buildV Tryz.prog 167 ps = (fillV Tryz.pl167 [(.int .i32 0), (.int .i64 0)] ps).map .agg := build_eq (pl := Tryz.pl167) Tryz.zr167 Tryz.underlying167 (by kernel_rfl) (fun i => by match i with | 0 => (show _ = _; kernel_rfl) | 1 => (show _ = _; kernel_rfl) | _ + 2 => (show _ = _; kernel_rfl))
@[simp] theorem Tryz.pt172 {cs : List V} {off : Nat} : part Tryz.prog 172 cs off = if off + 2 ≤ cs.length then some (.agg ((cs.drop off).take 2)) else none := part_agg (by kernel_rfl) (by kernel_rfl)
@[simp] theorem Tryz.st172 {b off : Nat} {v : V} : storeV Tryz.prog cfg h 172 (.ptr b off) v = stv cfg h b off 2 (cellsOf v) := store_eq (by kernel_rfl)
@[simp] theorem Tryz.zr172 : zeroOf Tryz.prog 172 = some (.agg [(.int .i32 0), (.int .i32 0)]) := by kernel_rfl
@[simp] theorem Tryz.ixA172 {b off : Nat} {k : IntKind} {i : Int} : indexAddrV Tryz.prog 172 (.ptr b off) (.int k i) = if 0 ≤ i then (if i.toNat < 2 then some (.ptr b (off + i.toNat * 1)) else none) else none := idxA_eq (show Tryz.prog.underlying 172 = some (.array 2 21) by kernel_rfl) (show szOf Tryz.prog 21 = some 1 by kernel_rfl)
@[simp] theorem Tryz.ixB172 {cs : List V} {off : Nat} {k : IntKind} {i : Int} : indexAddrV Tryz.prog 172 (.lptr cs off) (.int k i) = if 0 ≤ i then (if i.toNat < 2 then some (.lptr cs (off + i.toNat * 1)) else none) else none := idxB_eq (show Tryz.prog.underlying 172 = some (.array 2 21) by kernel_rfl) (show szOf Tryz.prog 21 = some 1 by kernel_rfl)
@[simp] theorem Tryz.bd172 {ps : List (Nat × V)} : buildV Tryz.prog 172 ps = (fillV (fun i => some (i * 1, 1)) [(.int .i32 0), (.int .i32 0)] ps).map .agg := buildA_eq Tryz.zr172 (show Tryz.prog.underlying 172 = some (.array 2 21) by kernel_rfl) (show szOf Tryz.prog 21 = some 1 by kernel_rfl)
@[simp] theorem Tryz.pt193 {cs : List V} {off : Nat} : part Tryz.prog 193 cs off = slot cs off := part_leaf (by kernel_rfl)
@[simp] theorem Tryz.st193 {b off : Nat} {v : V} : storeV Tryz.prog cfg h 193 (.ptr b off) v = stv cfg h b off 1 (cellsOf v) := store_eq (by kernel_rfl)
@[simp] theorem Tryz.zr193 : zeroOf Tryz.prog 193 = some (.int .u64 0) := by kernel_rfl
end
end Go.Ab
