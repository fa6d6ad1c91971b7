/- part -/
import Derived.Test.YtlkfolopbehikaaGreatProg
import Derived.Test.YtlkfolopbehikaaGreatSxB
import Derived.KernelRfl
namespace Go.Proofs.YtlkfolopbehikaaGreat
open Go Go.Sx
abbrev w0 : O := .c (.l (.v (.bool false)))
def w1 : O := .c (.l (.v (.bool true)))
def w2 : O := .c (.l (.v (.pointer none)))
def w3 : O := .c (.l (.v .nilIface))
def w4 : LV := .v (.int .i64 0)
def w5 : LV := .v (.int .u32 0)
def w6 : LV := .v (.bool false)
def w7 : LV := .v (.slice none 0 0)
def w8 : LV := .v (.pointer none)
def w9 : Value := .int .i64 0
abbrev wa (a g b : Nat) : IOp := ⟨some a, some (g, true), .mov (.r b)⟩
def wb (a g b : Nat) : IOp := ⟨some a, some (g, false), .mov (.r b)⟩
def wc (a g : Nat) (i : I) : IOp := ⟨some a, some (g, true), i⟩
def wd (a g : Nat) (i : I) : IOp := ⟨some a, some (g, false), i⟩
def we (x y : O) : I := .cmp .eql .i64 x y
def wf (x y : O) : I := .cmp .neq .i64 x y
def wg (x y : O) : I := .cmp .lss .i64 x y
def wh (x y : O) : I := .cmp .geq .i64 x y
def wi (x y : O) : I := .ar .add .i64 x y
def wj (x y : O) : I := .ar .sub .i64 x y
def wk (x y : O) : I := .cmp .eql .u32 x y
def wp (a : Nat) (c x y : O) : IOp := ⟨some a, none, .pick c x y⟩
def wv (a : Nat) (x : O) : IOp := ⟨some a, none, .mov x⟩
def wq (a : Nat) (x y : O) : IOp := ⟨some a, none, we x y⟩
def wr (a : Nat) (x : O) (n : Int) : IOp := ⟨some a, none, we x (zi n)⟩
def wx (a : Nat) (x : O) (n : Int) : IOp := ⟨some a, none, wi x (zi n)⟩
def wy (a : Nat) (i : Nat) (x : O) : IOp := ⟨some a, none, .ext i x⟩
def wz (a : Nat) (w : Nat) (x y : O) : IOp := ⟨some a, none, .ixs w x y⟩
def zq (l : List IOp) (c : IC) : IC := .seq (.reg l) c
def zy (a b : IC) : IC := .seq a b
def zh (l : List IOp) : IC := .reg l
def ic14 : IC := (zq [zo 2 (.box 0), wv 4 w0]
 (zy (zq [zo 9 (.lda 8 2), zm 10 1, zo 11 (.call 23 [9, 10, (zi 400)]), zo 12 (.not 11), zm 13 12, wd 14 13 (.fa 0 2), wd 15 13 (.ld 14), wd 16 13 (.cmp .gtr .i64 15 (zi 5)), wp 17 13 w1 16]
 (.cond 17
 (zq [zc 18 51 [], zm 4 18]
 .ret)
 .skip))
 (zq [zo 20 (.lda 8 2), zc 21 16 [20], zm 19 21, wy 22 0 19, wy 23 1 19, zm 5 22, zm 6 23]
 (zy (zq [zm 24 6, zo 25 (wf 24 (zi 0)), zm 26 25, wb 27 26 5, wd 28 26 (.eq .p false 27 w2), wp 29 26 w1 28]
 (.cond 29
 (zq [wv 4 w0]
 .ret)
 .skip))
 (zq [zm 30 5, zm 31 1, zc 32 27 [30, 31]]
 (zq [zm 34 5, zc 35 19 [34], zm 36 5, zc 37 21 [36], zc 38 52 [35, 37], zm 33 38, wy 39 0 33, wy 40 1 33, zm 7 39, zm 8 40]
 (zq [zm 41 8, zm 42 41, wa 43 42 7, wa 44 42 5, wc 45 42 (.call 21 [44]), wc 46 42 (.len 45), wc 47 42 (we 43 46), wp 48 42 47 w0, zm 49 48, wc 50 49 (.call 51 []), wp 51 49 50 w0, zm 4 51]
 .ret)))))))
theorem ic14_eq : cF Tryz.prog Tryz.f14 = some ic14 := by kernel_rfl
def ic16 : IC := (zq [zo 1 (.box 0), wv 2 w2, zo 3 (.mov (zi 0))]
 (zq [zo 8 (.lda 8 1), zc 9 33 [8], zm 7 9, wy 10 0 7, wy 11 1 7, wy 12 2 7, zm 4 10, zm 5 11, zm 6 12]
 (zy (zq [zm 13 6, zo 14 (wf 13 (zi 0))]
 (.cond 14
 (zq [zm 15 6, wv 2 w2, zm 3 15]
 .ret)
 .skip))
 (zq [zm 16 5, zm 17 4, zm 18 4, zo 19 (.inv 18 "Len" []), zo 20 (.mks 1 8 [w9] 19 19), zo 21 (.bld [w8, (.v .nilIface), w7, w4, w4, w7] [(0, 1, 16), (1, 1, 17), (5, 1, 20)]), zo 22 (.box 21), zm 2 22, zo 3 (.mov (zi 0))]
 .ret))))
theorem ic16_eq : cF Tryz.prog Tryz.f16 = some ic16 := by kernel_rfl
def ic17 : IC := (zq [zo 1 (.box 0), zo 2 (.mov (zi 0))]
 (zy (zq [zf 3 0 1, zl 4 3, zo 5 (wg 4 (zi 1)), zm 6 5, wd 7 6 (.fa 0 1), wd 8 6 (.ld 7), wd 9 6 (.cmp .gtr .i64 8 (zi 7)), wp 10 6 w1 9]
 (.cond 10
 (zq [zo 2 (.mov (zi 7))]
 .ret)
 .skip))
 (zy (zq [zf 11 1 1, zl 12 11, zo 13 (.len 12), zo 14 (wg 13 (zi 1)), zm 15 14, wd 16 15 (.fa 1 1), wd 17 15 (.ld 16), wd 18 15 (.len 17), wd 19 15 (.cmp .gtr .i64 18 (zi 64)), wp 20 15 w1 19, zm 21 20, wd 22 21 (.fa 1 1), wd 23 21 (.ld 22), wd 24 21 (.call 53 [23]), wd 25 21 (.not 24), wp 26 21 w1 25]
 (.cond 26
 (zq [zo 2 (.mov (zi 1))]
 .ret)
 .skip))
 (.jn (zq [zf 27 0 1, zl 28 27]
 (.blk 0 (zq [wr 30 28 2, zm 29 30]
 (.cond 29
 (zq [zf 31 3 1, zl 32 31, zc 33 54 [32], zo 34 (.not 33), zm 35 34, wd 36 35 (.fa 3 1), wd 37 35 (.ld 36), wd 38 35 (.fa 1 1), wd 39 35 (.ld 38), wd 40 35 (.len 39), wd 41 35 (wg 37 40), wp 42 35 w1 41]
 (.cond 42
 (zq [zo 2 (.mov (zi 7))]
 .ret)
 .skip))
 (zq [wr 44 28 5, zm 43 44]
 (.cond 43
 (zq [zf 45 4 1, zl 46 45, zo 47 (wg 46 (zi 1)), zm 48 47, wd 49 48 (.fa 4 1), wd 50 48 (.ld 49), wd 51 48 (.cmp .gtr .i64 50 (zi 8)), wp 52 48 w1 51]
 (.cond 52
 (zq [zo 2 (.mov (zi 7))]
 .ret)
 .skip))
 (zq [wr 54 28 7, zm 53 54]
 (.cond 53
 (zq [zf 55 6 1, zl 56 55, zo 57 (wf 56 (zi 1)), zm 58 57, wc 59 58 (.fa 6 1), wc 60 58 (.ld 59), wc 61 58 (wf 60 (zi 4)), wp 62 58 61 w0, zm 63 62, wd 64 63 (.fa 7 1), wd 65 63 (.ld 64), wd 66 63 (wf 65 (zi 1)), wb 67 63 66, wc 68 67 (.fa 7 1), wc 69 67 (.ld 68), wc 70 67 (wf 69 (zi 3)), wd 71 63 (.pick 67 70 w0), wb 72 63 71, wc 73 72 (.fa 7 1), wc 74 72 (.ld 73), wc 75 72 (wf 74 (zi 4)), wd 76 63 (.pick 72 75 w0), wp 77 63 w1 76, zm 78 77, wd 79 78 (.fa 5 1), wd 80 78 (.ld 79), wd 81 78 (wg 80 (zi 1)), wp 82 78 w1 81, zm 83 82, wd 84 83 (.fa 5 1), wd 85 83 (.ld 84), wd 86 83 (.cmp .gtr .i64 85 (zi 1000)), wp 87 83 w1 86]
 (.cond 87
 (zq [zo 2 (.mov (zi 7))]
 .ret)
 .skip))
 .skip))))))))
 (zq [zo 2 (.mov (zi 0))]
 .ret)))))
theorem ic17_eq : cF Tryz.prog Tryz.f17 = some ic17 := by kernel_rfl
def ic18 : IC := (zq [zo 1 (.box 0), zo 2 (.alloc [w4, w7, w5, w4, w4, w4, w4, w4])]
 (zq [zf 3 0 1, zl 4 3, zf 5 1 1, zl 6 5, zf 7 2 1, zl 8 7, zf 9 3 1, zl 10 9, zf 11 4 1, zl 12 11, zf 13 5 1, zl 14 13, zf 15 6 1, zl 16 15, zf 17 7 1, zl 18 17, zo 19 (.bld [w4, w7, w5, w4, w4, w4, w4, w4] [(0, 1, 4), (1, 1, 6), (2, 1, 8), (3, 1, 10), (4, 1, 12), (5, 1, 14), (6, 1, 16), (7, 1, 18)]), zs 8 2 19]
 .ret))
theorem ic18_eq : cF Tryz.prog Tryz.f18 = some ic18 := by kernel_rfl
def ic19 : IC := (zq [zo 2 (.mov (zi 0))]
 (zq [zm 3 0, zn 4 3, zf 5 1 4, zl 6 5, zo 7 (.inv 6 "Len" []), zm 2 7]
 .ret))
theorem ic19_eq : cF Tryz.prog Tryz.f19 = some ic19 := by kernel_rfl
def ic21 : IC := (zq [zo 2 (.mov (.c (.l w7)))]
 (zq [zm 3 0, zn 4 3, zf 5 2 4, zl 6 5, zc 7 55 [6], zm 2 7]
 .ret))
theorem ic21_eq : cF Tryz.prog Tryz.f21 = some ic21 := by kernel_rfl
def ic23 : IC := (zq [zo 3 (.box 0), wv 6 w0]
 (zq [zf 7 1 3, zl 8 7, zo 9 (.len 8), zo 10 (.cmp .leq .i64 9 (zi 8)), zm 11 10, wc 12 11 (.lda 8 3), wc 13 11 (.call 18 [12]), wc 14 11 (.call 17 [13]), wc 15 11 (we 14 (zi 0)), wp 16 11 15 w0, zm 17 16, wa 18 17 1, wc 19 17 (.len 18), wa 20 17 2, wc 21 17 (.cmp .leq .i64 19 20), wp 22 17 21 w0, zm 6 22]
 .ret))
theorem ic23_eq : cF Tryz.prog Tryz.f23 = some ic23 := by kernel_rfl
def ic24 : IC := (zq [zo 3 (.box 1), wv 4 w0]
 (zq [zm 6 0, zo 7 (.lda 3 3), zc 8 56 [6, 7], zm 5 8]
 (.jn (zq [zm 9 5, zo 10 (.not 9)]
 (.cond 10
 (zh [zm 11 0, zn 12 11, zf 13 4 12, zl 14 13, wx 15 14 1, zn 16 11, zf 17 4 16, zs 1 17 15])
 .skip))
 (zq [zm 18 5, zm 4 18]
 .ret))))
theorem ic24_eq : cF Tryz.prog Tryz.f24 = some ic24 := by kernel_rfl
def ic27 : IC := (zq [zo 4 (.mov (zi 0))]
 (zq [zo 5 (.mov (zi 0))]
 (zy (zq [zm 8 1, zo 9 (.len 8), zo 10 (.mov (zi 0))]
 (.blk 0 (.loop (zq [zo 11 (wg 10 9)]
 (zy (.cond 11
 .skip
 (.exit 0))
 (.jn (.blk 1 (zq [wz 12 3 8 10, zo 13 (.lda 3 12), zo 7 (.alloc [w4, w4, w4]), zs 3 7 13]
 (zq [zm 14 0, zo 15 (.lda 3 7), zc 16 24 [14, 15]]
 (.cond 16
 (zh [zm 17 5, wx 18 17 1, zm 5 18])
 .skip))))
 (zh [wx 19 10 1, zm 10 19])))))))
 (zq [zm 20 5, zm 4 20]
 .ret))))
theorem ic27_eq : cF Tryz.prog Tryz.f27 = some ic27 := by kernel_rfl
def ic33 : IC := (zq [zo 1 (.box 0), wv 2 w3, wv 3 w2, zo 4 (.mov (zi 0))]
 (zq [zf 9 1 1, zl 10 9, zo 11 (.len 10), zc 12 63 [11], zm 5 12]
 (zq [zm 14 5, zo 15 (.lda 8 1), zc 16 64 [14, 15], zm 13 16, wy 17 0 13, wy 18 1 13, zm 6 17, zm 7 18]
 (zy (zq [zm 19 7, zo 20 (wf 19 (zi 0))]
 (.cond 20
 (zq [zm 21 7, wv 2 w3, wv 3 w2, zm 4 21]
 .ret)
 .skip))
 (zq [zm 23 5, zc 24 65 [23], zm 22 24, wy 25 0 22, wy 26 1 22, zm 8 25, zm 7 26]
 (zy (zq [zm 27 7, zo 28 (wf 27 (zi 0))]
 (.cond 28
 (zq [zm 29 7, wv 2 w3, wv 3 w2, zm 4 29]
 .ret)
 .skip))
 (zq [zm 30 6, zm 31 8, zo 32 (.inv 30 "Use" [31])]
 (zq [zm 33 6, zm 34 8, zm 2 33, zm 3 34, zo 4 (.mov (zi 0))]
 .ret))))))))
theorem ic33_eq : cF Tryz.prog Tryz.f33 = some ic33 := by kernel_rfl
def ic51 : IC := (zq [wv 0 w0]
 (zq [zo 6 (.bld [w4, w4, w4, w6] [(0, 1, (zi 1))]), zo 7 (.bld [w4, w4, w4, w6] [(0, 1, (zi 2))]), zo 8 (.bld [w4, w4, w4, w6] [(0, 1, (zi 1)), (1, 1, (zi 1))]), zo 9 (.bld [w4, w4, w4, w6] [(0, 1, (zi 2)), (1, 1, (zi 1))]), zo 10 (.bld [w4, w4, w4, w6] [(0, 1, (zi 4)), (1, 1, (zi 1))]), zo 11 (.bsl 4 5 [w9, w9, w9, (.bool false), w9, w9, w9, (.bool false), w9, w9, w9, (.bool false), w9, w9, w9, (.bool false), w9, w9, w9, (.bool false)] [(0, 4, 6), (4, 4, 7), (8, 4, 8), (12, 4, 9), (16, 4, 10)]), zm 1 11]
 (zq [zm 13 1, zo 14 (.call 52 [(zi 2), 13]), zm 12 14, wy 15 0 12, wy 16 1 12, zm 2 15, zm 3 16]
 (zq [zm 17 1, zo 18 (.ixs 4 17 (zi 4)), zf 19 1 18, ⟨none, none, .sto 1 19 (zi 0)⟩]
 (zq [zm 21 1, zo 22 (.call 52 [(zi 2), 21]), zm 20 22, wy 23 0 20, wy 24 1 20, zm 4 23, zm 5 24]
 (zq [zm 25 2, wr 26 25 4, zm 27 26, wa 28 27 3, wc 29 27 (.not 28), wp 30 27 29 w0, zm 31 30, wa 32 31 4, wc 33 31 (we 32 (zi 5)), wp 34 31 33 w0, zm 35 34, wa 36 35 5, wp 37 35 36 w0, zm 0 37]
 .ret))))))
theorem ic51_eq : cF Tryz.prog Tryz.f51 = some ic51 := by kernel_rfl
def ic52 : IC := (zq [zo 4 (.mov (zi 0)), wv 5 w0]
 (zq [zm 9 0, zc 10 92 [9], zm 6 10]
 (zy (zq [zm 11 1, zo 12 (.len 11), zo 13 (.mov (zi 0))]
 (.blk 0 (.loop (zq [zo 14 (wg 13 12)]
 (zy (.cond 14
 .skip
 (.exit 0))
 (zy (.blk 1 (zq [zm 15 13, wz 16 4 11 13, zo 17 (.lda 4 16), zo 8 (.alloc [w4, w4, w4, w6]), zm 7 15, zs 4 8 17]
 (zq [zm 18 6, zo 19 (.lda 4 8), zc 20 93 [18, 19], zo 21 (.not 20)]
 (.cond 21
 (zq [zm 22 7, zm 4 22, wv 5 w0]
 .ret)
 .skip))))
 (zh [wx 23 13 1, zm 13 23])))))))
 (zq [zm 24 1, zo 25 (.len 24), zm 4 25, wv 5 w1]
 .ret))))
theorem ic52_eq : cF Tryz.prog Tryz.f52 = some ic52 := by kernel_rfl
def ic53 : IC := (zq [wv 2 w0]
 (zy (zq [zm 5 0, zo 6 (.len 5), zo 7 (.mov (zi 0))]
 (.blk 0 (.loop (zq [zo 8 (wg 7 6)]
 (zy (.cond 8
 .skip
 (.exit 0))
 (zy (.blk 1 (zq [wz 9 1 5 7, zl 10 9, zm 4 10]
 (zq [zm 11 4, zo 12 (wg 11 (zi 0)), zm 13 12, wb 14 13 4, wd 15 13 (.cmp .gtr .i64 14 (zi 7)), wp 16 13 w1 15]
 (.cond 16
 (zq [wv 2 w0]
 .ret)
 .skip))))
 (zh [wx 17 7 1, zm 7 17])))))))
 (zq [wv 2 w1]
 .ret)))
theorem ic53_eq : cF Tryz.prog Tryz.f53 = some ic53 := by kernel_rfl
def ic54 : IC := (zq [wv 2 w0]
 (zy (zq [zo 3 (.mov (zi 1))]
 (.blk 0 (.loop (zy (zq [zm 4 3, zo 5 (.cmp .leq .i64 4 (zi 64))]
 (.cond 5
 .skip
 (.exit 0)))
 (zy (.blk 1 (zq [zm 8 3, zm 9 0, wq 10 8 9]
 (.cond 10
 (zq [wv 2 w1]
 .ret)
 .skip)))
 (zh [zm 6 3, zo 7 (.ar .mul .i64 6 (zi 2)), zm 3 7]))))))
 (zq [wv 2 w0]
 .ret)))
theorem ic54_eq : cF Tryz.prog Tryz.f54 = some ic54 := by kernel_rfl
def ic55 : IC := (zq [zo 2 (.mov (.c (.l w7)))]
 (zy (zq [zm 3 0, zo 4 (.esc (.binOp .eql 35 (.tmp 3) (.const (.slice none 0 0)) 35))]
 (.cond 4
 (zq [zo 2 (.mov (.c (.l w7)))]
 .ret)
 .skip))
 (zq [zo 5 (.bsl 4 0 [] []), zm 6 0, zo 7 (.app 4 32 5 6), zm 2 7]
 .ret)))
theorem ic55_eq : cF Tryz.prog Tryz.f55 = some ic55 := by kernel_rfl
def ic56 : IC := (zq [zo 3 (.box 1), wv 4 w0]
 (zy (zq [zf 5 0 3, zl 6 5]
 (.blk 0 (zq [wr 8 6 1, zm 7 8]
 (.cond 7
 (zq [zm 9 0, zf 10 1 3, zl 11 10, zc 12 94 [9, 11], zm 4 12]
 .ret)
 (zq [wr 14 6 2, zm 13 14]
 (.cond 13
 (zq [zm 15 0, zc 16 95 [15], zm 4 16]
 .ret)
 (zq [wr 18 6 3, zm 17 18]
 (.cond 17
 (zq [zm 19 0, zf 20 1 3, zl 21 20, zf 22 2 3, zl 23 22, zc 24 96 [19, 21, 23], zm 4 24]
 .ret)
 (zq [wr 26 6 4, zm 25 26]
 (.cond 25
 (zy (zy (.draw [zm 27 0, zn 28 27, zf 29 1 28, zl 30 29, zf 31 1 3, zl 32 31, zo 33 (.inv 30 "Unlock" [32]), zo 34 (wf 33 (zi 0))] [[], [0], [1], [2], [], [4], [3, 5], [6]])
 (.cond 34
 (zq [wv 4 w0]
 .ret)
 .skip))
 (zq [zm 35 0, zf 36 1 3, zl 37 36, zo 38 (.call 97 [35, (zi 6), 37])]
 (zq [wv 4 w1]
 .ret)))
 .skip))))))))))
 (zq [wv 4 w0]
 .ret)))
theorem ic56_eq : cF Tryz.prog Tryz.f56 = some ic56 := by kernel_rfl
def ic57 : IC := (zq [zo 2 (.mov (.c (.l w5)))]
 (zq [zm 3 0, zn 4 3, zf 5 0 4, zo 6 (.esc (.call { callee := .value (.func 98), args := #[(.tmp 5)], argTypes := #[201] })), zm 2 6]
 .ret))
theorem ic57_eq : cF Tryz.prog Tryz.f57 = some ic57 := by kernel_rfl
def ic62 : IC := (zq [zo 2 (.mov (zi 0))]
 (zq [zm 3 0, zn 4 3, zf 5 0 4, zl 6 5, zo 7 (.len 6), zm 2 7]
 .ret))
theorem ic62_eq : cF Tryz.prog Tryz.f62 = some ic62 := by kernel_rfl
def ic63 : IC := (zq [wv 2 w2]
 (zq [zm 3 0, zo 4 (.bld [w4, w7, w7] [(0, 1, 3)]), zo 5 (.box 4), zm 2 5]
 .ret))
theorem ic63_eq : cF Tryz.prog Tryz.f63 = some ic63 := by kernel_rfl
def ic64 : IC := (zq [zo 3 (.box 1), wv 4 w3, zo 5 (.mov (zi 0))]
 (zy (zq [zf 20 0 3, zl 21 20]
 (.blk 0 (zq [wr 23 21 1, zm 22 23]
 (.cond 22
 (zq [zm 25 0, zf 26 1 3, zl 27 26, zf 28 2 3, zl 29 28, zc 30 105 [25, 27, 29], zm 24 30, wy 31 0 24, wy 32 1 24, zm 6 31, zm 7 32]
 (zq [zm 33 6, zo 34 (.mki 221 33), zm 35 7, zm 4 34, zm 5 35]
 .ret))
 (zq [wr 37 21 2, zm 36 37]
 (.cond 36
 (zq [zm 39 0, zf 40 1 3, zl 41 40, zf 42 3 3, zl 43 42, zf 44 2 3, zl 45 44, zc 46 106 [39, 41, 43, 45], zm 38 46, wy 47 0 38, wy 48 1 38, zm 8 47, zm 9 48]
 (zq [zm 49 8, zo 50 (.mki 224 49), zm 51 9, zm 4 50, zm 5 51]
 .ret))
 (zq [wr 53 21 3, zm 52 53]
 (.cond 52
 (zq [zm 55 0, zf 56 1 3, zl 57 56, zc 58 107 [55, 57], zm 54 58, wy 59 0 54, wy 60 1 54, zm 10 59, zm 11 60]
 (zq [zm 61 10, zo 62 (.mki 227 61), zm 63 11, zm 4 62, zm 5 63]
 .ret))
 (zq [wr 65 21 4, zm 64 65]
 (.cond 64
 (zq [zm 67 0, zf 68 1 3, zl 69 68, zc 70 108 [67, 69], zm 66 70, wy 71 0 66, wy 72 1 66, zm 12 71, zm 13 72]
 (zq [zm 73 12, zo 74 (.mki 230 73), zm 75 13, zm 4 74, zm 5 75]
 .ret))
 (zq [wr 77 21 5, zm 76 77]
 (.cond 76
 (zq [zm 79 0, zf 80 1 3, zl 81 80, zf 82 4 3, zl 83 82, zc 84 109 [79, 81, 83], zm 78 84, wy 85 0 78, wy 86 1 78, zm 14 85, zm 15 86]
 (zq [zm 87 14, zo 88 (.mki 233 87), zm 89 15, zm 4 88, zm 5 89]
 .ret))
 (zq [wr 91 21 6, zm 90 91]
 (.cond 90
 (zq [zm 93 0, zf 94 1 3, zl 95 94, zc 96 110 [93, 95], zm 92 96, wy 97 0 92, wy 98 1 92, zm 16 97, zm 17 98]
 (zq [zm 99 16, zo 100 (.mki 236 99), zm 101 17, zm 4 100, zm 5 101]
 .ret))
 (zq [wr 103 21 7, zm 102 103]
 (.cond 102
 (zq [zm 105 0, zf 106 1 3, zl 107 106, zf 108 6 3, zl 109 108, zf 110 7 3, zl 111 110, zf 112 5 3, zl 113 112, zc 114 111 [105, 107, 109, 111, 113], zm 104 114, wy 115 0 104, wy 116 1 104, zm 18 115, zm 19 116]
 (zq [zm 117 18, zo 118 (.mki 239 117), zm 119 19, zm 4 118, zm 5 119]
 .ret))
 .skip))))))))))))))))
 (zq [wv 4 w3, zo 5 (.mov (zi 7))]
 .ret)))
theorem ic64_eq : cF Tryz.prog Tryz.f64 = some ic64 := by kernel_rfl
def ic65 : IC := (zq [wv 2 w2, zo 3 (.mov (zi 0))]
 (zy (.draw [zm 4 0, zn 5 4, zf 6 0 5, zl 7 6, zm 8 0, zn 9 8, zf 10 1 9, zl 11 10, zm 12 0, zn 13 12, zf 14 2 13, zl 15 14, zc 16 112 [7, 11, 15], wy 17 0 16, wy 18 1 16, zm 2 17, zm 3 18] [[], [0], [1], [2], [], [4], [5], [6], [], [8], [9], [10], [3, 7, 11], [12], [12], [13, 12, 0, 1, 2, 3, 4, 5, 6, 7, 8, 9, 10, 11, 12, 13, 14], [14, 15, 0, 1, 2, 3, 4, 5, 6, 7, 8, 9, 10, 11, 12, 13, 14, 15]])
 .ret))
theorem ic65_eq : cF Tryz.prog Tryz.f65 = some ic65 := by kernel_rfl
def ic92 : IC := (zq [wv 2 w2]
 (zq [zm 3 0, zo 4 (.mx .i64 3 (zi 0)), zo 5 (.mn .i64 4 (zi 64)), zo 6 (.mks 1 8 [w9] 5 5), zo 7 (.bld [w7, w7] [(0, 1, 6)]), zo 8 (.box 7), zm 2 8]
 .ret))
theorem ic92_eq : cF Tryz.prog Tryz.f92 = some ic92 := by kernel_rfl
def ic93 : IC := (zq [zo 3 (.box 1), wv 4 w0]
 (zy (zy (.draw [zf 6 3 3, zl 7 6, zm 8 7, wd 9 8 (.fa 1 3), wd 10 8 (.ld 9), wd 11 8 (wg 10 (zi 0)), wp 12 8 w1 11, zm 13 12, wd 14 13 (.fa 1 3), wd 15 13 (.ld 14), wb 16 13 0, wd 17 13 (.nck 16), wd 18 13 (.fa 0 17), wd 19 13 (.ld 18), wd 20 13 (.len 19), wd 21 13 (wh 15 20), wp 22 13 w1 21] [[], [0], [1], [2], [3, 2], [4, 2], [2, 5], [6, 2], [7], [8, 7], [7], [10, 7], [11, 7], [12, 7], [13, 7], [9, 14, 7], [7, 15]])
 (.cond 22
 (zq [wv 4 w0]
 .ret)
 .skip))
 (zy (.draw [zm 23 0, zn 24 23, zf 25 0 24, zl 26 25, zf 27 1 3, zl 28 27, wz 29 1 26 28, zl 30 29, zf 31 0 3, zl 32 31, zc 33 122 [30, 32], zm 5 33] [[], [0], [1], [2], [], [4], [3, 5], [6], [], [8], [7, 9], [10, 10, 0, 1, 2, 3, 4, 5, 6, 7, 8, 9, 10]])
 (zy (zy (.draw [zm 34 5, zo 35 (wg 34 (zi 0)), zm 36 35, wb 37 36 5, wd 38 36 (we 37 (zi 3)), wb 39 36 38, wa 40 39 0, wc 41 39 (.nck 40), wc 42 39 (.fa 1 41), wc 43 39 (.ld 42), wc 44 39 (.ixs 1 43 (zi 0)), wc 45 39 (.ld 44), wc 46 39 (.fa 1 3), wc 47 39 (.ld 46), wc 48 39 (wf 45 47), wa 49 39 48, wb 50 49 0, wd 51 49 (.nck 50), wd 52 49 (.fa 0 51), wd 53 49 (.ld 52), wd 54 49 (.call 123 [53, (zi 3)]), wc 55 39 (.pick 49 w1 54), wd 56 36 (.pick 39 55 w0), wp 57 36 w1 56] [[], [0], [1], [2], [3, 2], [4, 2, 2], [5], [6, 5], [7, 5], [8, 5], [9, 5], [10, 5], [5], [12, 5], [11, 13, 5], [14, 5, 5], [15], [16, 15], [17, 15], [18, 15], [19, 15, 15], [15, 20, 5], [5, 21, 2], [2, 22]])
 (.cond 57
 (zq [wv 4 w0]
 .ret)
 .skip))
 (.jn (zy (.draw [zm 58 0, zn 59 58, zf 60 0 59, zl 61 60, zf 62 1 3, zl 63 62, wz 64 1 61 63, zl 65 64, wr 66 65 2] [[], [0], [1], [2], [], [4], [3, 5], [6], [7]])
 (.cond 66
 (zh [zm 67 0, zm 68 0, zn 69 68, zf 70 1 69, zl 71 70, zo 72 (.mkf 125 [3]), zc 73 124 [71, 72], zn 74 67, zf 75 1 74, zs 1 75 73])
 .skip))
 (.jn (zq [zm 76 5, wr 77 76 2]
 (.cond 77
 (.draw [zm 78 0, zm 79 0, zn 80 79, zf 81 1 80, zl 82 81, zf 83 1 3, zl 84 83, zo 85 (.bsl 1 1 [w9] [(0, 1, 84)]), zo 86 (.app 1 8 82 85), zn 87 78, zf 88 1 87, zs 1 88 86] [[], [], [1], [2], [3], [], [5], [6], [4, 7], [0, 0, 1, 2, 3, 4, 5, 6, 7, 8], [9, 0, 1, 2, 3, 4, 5, 6, 7, 8], [10, 8, 8, 0, 1, 2, 3, 4, 5, 6, 7, 8]])
 .skip))
 (zy (.draw [zm 89 0, zn 90 89, zf 91 0 90, zl 92 91, zf 93 1 3, zl 94 93, zm 95 5, wz 96 1 92 94, zs 1 96 95] [[], [0], [1], [2], [], [4], [], [3, 5, 0, 1, 2, 3, 4, 5, 6], [7, 6, 0, 1, 2, 3, 4, 5, 6]])
 (zq [wv 4 w1]
 .ret))))))))
theorem ic93_eq : cF Tryz.prog Tryz.f93 = some ic93 := by kernel_rfl
def ic94 : IC := (zq [wv 4 w0]
 (zy (zq [zm 7 0, zn 8 7, zf 9 1 8, zl 10 9, zm 11 1, zo 12 (.inv 10 "State" [11]), zm 5 12]
 (zq [zm 13 5, zo 14 (wf 13 (zi 1)), zm 15 14, wa 16 15 5, wc 17 15 (wf 16 (zi 3)), wp 18 15 17 w0]
 (.cond 18
 (zq [wv 4 w0]
 .ret)
 .skip)))
 (zq [zm 19 0, zn 20 19, zf 21 5 20, zl 22 21, zm 23 1, wz 24 1 22 23, zl 25 24, wx 26 25 1, wz 27 1 22 23, zs 1 27 26]
 (zy (.draw [zm 28 0, zn 29 28, zf 30 1 29, zl 31 30, zm 32 1, zm 33 1, zm 34 0, zn 35 34, zf 36 3 35, zl 37 36, zn 38 31, zm 39 31, zo 40 (.inv 39 "Step" [32, 33, 37]), zo 6 (.alloc [w4, w6, w6, w6]), zs 4 6 40] [[], [0], [1], [2], [], [], [], [6], [7], [8], [3], [3, 10], [11, 4, 5, 9], [], [13, 12, 12, 0, 1, 2, 3, 4, 5, 6, 7, 8, 9, 10, 11, 12, 13]])
 (.jn (zq [zf 41 1 6, zl 42 41]
 (.cond 42
 (zh [zm 43 0, zm 44 1, zo 45 (.call 97 [43, (zi 2), 44])])
 .skip))
 (.jn (zq [zf 46 2 6, zl 47 46]
 (.cond 47
 (zh [zm 48 0, zm 49 1, zo 50 (.call 97 [48, (zi 3), 49])])
 .skip))
 (.jn (zq [zf 51 0 6, zl 52 51]
 (.blk 0 (zq [wr 54 52 1, zm 53 54]
 (.cond 53
 (zq [zm 55 0, zm 56 1, zo 57 (.call 97 [55, (zi 4), 56])]
 (.draw [zm 58 0, zn 59 58, zf 60 2 59, zl 61 60, zm 62 0, zn 63 62, zf 64 2 63, zl 65 64, zo 66 (.len 65), zo 67 (wj 66 (zi 1)), zf 68 3 6, zl 69 68, wz 70 4 61 67, zf 71 3 70, zs 1 71 69] [[], [0], [1], [2], [], [4], [5], [6], [7], [8], [], [10], [3, 9, 0, 1, 2, 3, 4, 5, 6, 7, 8, 9, 10, 11], [12, 0, 1, 2, 3, 4, 5, 6, 7, 8, 9, 10, 11], [13, 11, 0, 1, 2, 3, 4, 5, 6, 7, 8, 9, 10, 11]]))
 (zq [wr 73 52 2, zm 72 73]
 (.cond 72
 (zh [zm 74 0, zm 75 1, zo 76 (.call 97 [74, (zi 5), 75])])
 (zq [wr 78 52 6, zm 77 78]
 (.cond 77
 (zh [zm 79 0, zm 80 1, zo 81 (.call 97 [79, (zi 8), 80])])
 (zq [wr 83 52 3, zm 82 83]
 (.cond 82
 (zh [zm 84 0, zm 85 1, zo 86 (.call 97 [84, (zi 7), 85])])
 .skip))))))))))
 (zq [wv 4 w1]
 .ret))))))))
theorem ic94_eq : cF Tryz.prog Tryz.f94 = some ic94 := by kernel_rfl
def ic95 : IC := (zq [wv 2 w0]
 (zy (zq [zm 3 0, zn 4 3, zf 5 3 4, zl 6 5, zo 7 (wh 6 (zi 1099511627776))]
 (.cond 7
 (zq [wv 2 w0]
 .ret)
 .skip))
 (zq [zm 8 0, zn 9 8, zf 10 3 9, zl 11 10, wx 12 11 1, zn 13 8, zf 14 3 13, zs 1 14 12]
 (zq [wv 2 w1]
 .ret))))
theorem ic95_eq : cF Tryz.prog Tryz.f95 = some ic95 := by kernel_rfl
def ic96 : IC := (zq [wv 6 w0]
 (zq [zo 7 (.mov (.c (.l (.v (.int .i64 (-1))))))]
 (.jn (zq [zm 8 2, zo 9 (wh 8 (zi 0))]
 (.cond 9
 (zh [zm 10 0, zn 11 10, zf 12 3 11, zl 13 12, zm 14 2, zo 15 (.mn .i64 14 (zi 1073741824)), zo 16 (wi 13 15), zm 7 16])
 .skip))
 (zy (zq [zm 17 0, zn 18 17, zf 19 1 18, zl 20 19, zm 21 1, zm 22 7, zo 23 (.inv 20 "Lock" [21, 22]), zo 24 (wf 23 (zi 0))]
 (.cond 24
 (zq [wv 6 w0]
 .ret)
 .skip))
 (zq [zm 25 0, zm 26 1, zo 27 (.call 97 [25, (zi 1), 26])]
 (zq [wv 6 w1]
 .ret))))))
theorem ic96_eq : cF Tryz.prog Tryz.f96 = some ic96 := by kernel_rfl
def ic97 : IC := (.draw [zm 6 0, zm 7 0, zn 8 7, zf 9 2 8, zl 10 9, zm 11 1, zm 12 2, zm 13 0, zn 14 13, zf 15 3 14, zl 16 15, zo 17 (.bld [w4, w4, w4, w6] [(0, 1, 11), (1, 1, 12), (2, 1, 16)]), zo 18 (.bsl 4 1 [w9, w9, w9, (.bool false)] [(0, 4, 17)]), zo 19 (.app 4 32 10 18), zn 20 6, zf 21 2 20, zs 1 21 19] [[], [], [1], [2], [3], [], [], [], [7], [8], [9], [5, 6, 10], [11], [4, 12], [0, 0, 1, 2, 3, 4, 5, 6, 7, 8, 9, 10, 11, 12, 13], [14, 0, 1, 2, 3, 4, 5, 6, 7, 8, 9, 10, 11, 12, 13], [15, 13, 13, 0, 1, 2, 3, 4, 5, 6, 7, 8, 9, 10, 11, 12, 13]])
theorem ic97_eq : cF Tryz.prog Tryz.f97 = some ic97 := by kernel_rfl
def ic105 : IC := (zq [wv 6 w2, zo 7 (.mov (zi 0))]
 (zq [zm 13 1, zo 14 (.len 13), zo 15 (.call 127 [14, w0, w1]), zm 12 15, wy 16 0 12, wy 17 1 12, zm 8 16, zm 9 17]
 (zy (zq [zm 18 9, zo 19 (wf 18 (zi 0)), zm 20 19, wb 21 20 1, wd 22 20 (.call 128 [21, (.c (.l (.c 129 [])))]), wp 23 20 w1 22]
 (.cond 23
 (zq [wv 6 w2, zo 7 (.mov (zi 1))]
 .ret)
 .skip))
 (zq [zm 24 1, zo 25 (.len 24), zm 10 25]
 (zy (.draw [zm 26 8, zm 27 10, zo 28 (.mks 1 4 [(.int .u32 0)] 27 27), zm 29 10, zo 30 (.mks 1 1 [(.bool false)] 29 29), zo 31 (.bld [w8, w8, w4, w4, w7, w7] [(0, 1, 26), (4, 1, 28), (5, 1, 30)]), zo 32 (.box 31), zm 11 32] [[], [], [1, 1], [], [3, 3], [0, 2, 4], [5], [6, 0, 1, 2, 3, 4, 5, 6]])
 (zy (.draw [zm 33 11, zm 34 11, zm 35 0, zm 36 1, zo 37 (.ixs 1 36 (zi 0)), zl 38 37, zm 39 2, zc 40 130 [35, 38, 39], zm 41 0, zm 42 1, zo 43 (.ixs 1 42 (zi 0)), zl 44 43, zm 45 2, zc 46 130 [41, 44, 45], zn 47 33, zf 48 2 47, zs 1 48 40, zn 49 34, zf 50 3 49, zs 1 50 46] [[], [], [], [], [3], [4], [], [2, 5, 6], [], [], [9], [10], [], [8, 11, 12, 7], [0, 0, 2, 3, 4, 5, 6, 7, 11, 13], [14, 0, 2, 3, 4, 5, 6, 7, 11, 13], [15, 7, 13, 0, 2, 3, 4, 5, 6, 7, 11, 13], [1, 0, 1, 2, 3, 4, 5, 6, 7, 8, 9, 10, 11, 12, 13, 14, 15, 16], [17, 0, 1, 2, 3, 4, 5, 6, 7, 8, 9, 10, 11, 12, 13, 14, 15, 16], [18, 13, 16, 0, 1, 2, 3, 4, 5, 6, 7, 8, 9, 10, 11, 12, 13, 14, 15, 16]])
 (zq [zm 51 11, zm 6 51, zo 7 (.mov (zi 0))]
 .ret)))))))
theorem ic105_eq : cF Tryz.prog Tryz.f105 = some ic105 := by kernel_rfl
def ic106 : IC := (zq [wv 8 w2, zo 9 (.mov (zi 0))]
 (zq [zm 16 1, zo 17 (.len 16), zo 18 (.call 127 [17, w0, w0]), zm 15 18, wy 19 0 15, wy 20 1 15, zm 10 19, zm 11 20]
 (zy (zq [zm 21 11, zo 22 (wf 21 (zi 0)), zm 23 22, wb 24 23 1, wd 25 23 (.call 128 [24, (.c (.l (.c 131 [])))]), wp 26 23 w1 25]
 (.cond 26
 (zq [wv 8 w2, zo 9 (.mov (zi 1))]
 .ret)
 .skip))
 (zy (zq [zm 27 2, zm 28 1, zo 29 (.len 28), zo 30 (wg 27 29), zm 31 30, wd 32 31 (.call 132 []), wb 33 31 2, wd 34 31 (.call 123 [32, 33]), wd 35 31 (.not 34), wp 36 31 w1 35]
 (.cond 36
 (zq [wv 8 w2, zo 9 (.mov (zi 7))]
 .ret)
 .skip))
 (zq [zm 37 10, zm 38 2, zm 39 1, zo 40 (.len 39), zo 41 (.mks 2 16 [(.int .u32 0), w9] 40 40), zo 42 (.bld [w8, w8, w4, w4, w7] [(0, 1, 37), (3, 1, 38), (4, 1, 41)]), zo 43 (.box 42), zm 12 43]
 (zq [zm 44 12, zm 45 0, zm 46 1, zo 47 (.ixs 1 46 (zi 0)), zl 48 47, zm 49 3, zc 50 130 [45, 48, 49], zn 51 44, zf 52 2 51, zs 1 52 50]
 (zy (zq [zm 53 2, zo 54 (.mov (zi 0))]
 (.blk 0 (.loop (zq [zo 55 (wg 54 53)]
 (zy (.cond 55
 .skip
 (.exit 0))
 (zy (.blk 1 (zq [zm 56 54, zm 13 56]
 (zq [zo 14 (.mov (.c (.l w5)))]
 (.jn (zq [zm 57 13, zm 58 3, zm 59 2, zc 60 133 [58, 59], wq 61 57 60]
 (.cond 61
 (zh [zo 14 (.mov (.c (.l (.v (.int .u32 1)))))])
 .skip))
 (zh [zm 62 0, zm 63 1, zm 64 13, zm 65 1, zo 66 (.len 65), zo 67 (.dv .rem .i64 64 66), wz 68 1 63 67, zl 69 68, zm 70 14, zc 71 130 [62, 69, 70]])))))
 (zh [wx 72 54 1, zm 54 72])))))))
 (zq [zm 73 12, zm 8 73, zo 9 (.mov (zi 0))]
 .ret))))))))
theorem ic106_eq : cF Tryz.prog Tryz.f106 = some ic106 := by kernel_rfl
def ic107 : IC := (zq [wv 4 w2, zo 5 (.mov (zi 0))]
 (zq [zm 12 1, zo 13 (.len 12), zo 14 (.call 127 [13, w0, w1]), zm 11 14, wy 15 0 11, wy 16 1 11, zm 6 15, zm 7 16]
 (zy (zq [zm 17 7, zo 18 (wf 17 (zi 0)), zm 19 18, wb 20 19 1, wd 21 19 (.call 128 [20, (.c (.l (.c 134 [])))]), wp 22 19 w1 21]
 (.cond 22
 (zq [wv 4 w2, zo 5 (.mov (zi 1))]
 .ret)
 .skip))
 (zq [zm 23 6, zm 24 0, zm 25 1, zo 26 (.ixs 1 25 (zi 0)), zl 27 26, zo 28 (.call 130 [24, 27, (.c (.l w5))]), zo 29 (.bld [w8, w8, w4, w7] [(0, 1, 23), (2, 1, 28)]), zo 30 (.box 29), zm 8 30]
 (zq [zm 31 0, zm 32 1, zo 33 (.ixs 1 32 (zi 0)), zl 34 33, zo 35 (.call 130 [31, 34, (.c (.l w5))])]
 (zy (zq [zm 36 1, zo 37 (.len 36), zo 38 (.mov (zi 0))]
 (.blk 0 (.loop (zq [zo 39 (wg 38 37)]
 (zy (.cond 39
 .skip
 (.exit 0))
 (zy (.blk 1 (zq [zm 40 38, wz 41 1 36 38, zl 42 41, zm 9 40, zm 10 42]
 (zq [zm 43 0, zm 44 10, zo 45 (.call 130 [43, 44, (.c (.l w5))])]
 (zh [zm 46 8, zm 47 8, zn 48 47, zf 49 3 48, zl 50 49, zm 51 9, wx 52 51 1, zo 53 (.bld [w4, w4, w4] [(0, 1, 52)]), zo 54 (.bsl 3 1 [w9, w9, w9] [(0, 3, 53)]), zo 55 (.app 3 24 50 54), zn 56 46, zf 57 3 56, zs 1 57 55]))))
 (zh [wx 58 38 1, zm 38 58])))))))
 (zq [zm 59 8, zm 4 59, zo 5 (.mov (zi 0))]
 .ret)))))))
theorem ic107_eq : cF Tryz.prog Tryz.f107 = some ic107 := by kernel_rfl
def ic108 : IC := (zq [wv 4 w2, zo 5 (.mov (zi 0))]
 (zq [zm 12 1, zo 13 (.len 12), zo 14 (.call 127 [13, w0, w1]), zm 11 14, wy 15 0 11, wy 16 1 11, zm 6 15, zm 7 16]
 (zy (zq [zm 17 7, zo 18 (wf 17 (zi 0)), zm 19 18, wb 20 19 1, wd 21 19 (.call 128 [20, (.c (.l (.c 135 [])))]), wp 22 19 w1 21]
 (.cond 22
 (zq [wv 4 w2, zo 5 (.mov (zi 1))]
 .ret)
 .skip))
 (zy (.draw [zm 23 6, zm 24 0, zm 25 1, zo 26 (.ixs 1 25 (zi 0)), zl 27 26, zo 28 (.call 130 [24, 27, (.c (.l w5))]), zm 29 1, zo 30 (.len 29), zo 31 (.mks 2 16 [w9, (.int .u32 0)] 30 30), zo 32 (.bld [w8, w8, w4, w7] [(0, 1, 23), (2, 1, 28), (3, 1, 31)]), zo 33 (.box 32), zm 8 33] [[], [], [], [2], [3], [1, 4], [], [6], [7, 7], [0, 5, 8], [9], [10, 5, 0, 1, 2, 3, 4, 5, 6, 7, 8, 9, 10]])
 (zy (zq [zm 34 1, zo 35 (.len 34), zo 36 (.mov (zi 0))]
 (.blk 0 (.loop (zq [zo 37 (wg 36 35)]
 (zy (.cond 37
 .skip
 (.exit 0))
 (zy (.blk 1 (zq [wz 38 1 34 36, zl 39 38, zm 10 39]
 (zh [zm 40 0, zm 41 10, zo 42 (.call 136 [40, (zi 2), 41, (.c (.l w5))])])))
 (zh [wx 43 36 1, zm 36 43])))))))
 (zq [zm 44 8, zm 4 44, zo 5 (.mov (zi 0))]
 .ret))))))
theorem ic108_eq : cF Tryz.prog Tryz.f108 = some ic108 := by kernel_rfl
def ic109 : IC := (zq [wv 6 w2, zo 7 (.mov (zi 0))]
 (zq [zm 15 1, zo 16 (.len 15), zo 17 (.call 127 [16, w1, w0]), zm 14 17, wy 18 0 14, wy 19 1 14, zm 8 18, zm 9 19]
 (zy (zq [zm 20 9, zo 21 (wf 20 (zi 0)), zm 22 21, wb 23 22 1, wd 24 22 (.call 128 [23, (.c (.l (.c 137 [])))]), wp 25 22 w1 24]
 (.cond 25
 (zq [wv 6 w2, zo 7 (.mov (zi 1))]
 .ret)
 .skip))
 (zq [zm 27 1, zo 28 (.len 27), zm 29 2, zc 30 138 [28, 29], zm 26 30, wy 31 0 26, wy 32 1 26, zm 10 31, zm 9 32]
 (zy (zq [zm 33 9, zo 34 (wf 33 (zi 0))]
 (.cond 34
 (zq [wv 6 w2, zo 7 (.mov (zi 7))]
 .ret)
 .skip))
 (zy (.draw [zm 35 8, zm 36 10, zm 37 0, zm 38 1, zo 39 (.ixs 1 38 (zi 0)), zl 40 39, zo 41 (.call 130 [37, 40, (.c (.l w5))]), zm 42 1, zo 43 (.len 42), zo 44 (.mks 4 32 [w9, w9, w9, w9] 43 43), zo 45 (.bld [w8, w8, w8, w4, w7] [(0, 1, 35), (2, 1, 36), (3, 1, 41), (4, 1, 44)]), zo 46 (.box 45), zm 11 46] [[], [], [], [], [3], [4], [2, 5], [], [7], [8, 8], [0, 1, 6, 9], [10], [11, 6, 0, 1, 2, 3, 4, 5, 6, 7, 8, 9, 10, 11]])
 (zy (zq [zm 47 1, zo 48 (.len 47), zo 49 (.mov (zi 0))]
 (.blk 0 (.loop (zq [zo 50 (wg 49 48)]
 (zy (.cond 50
 .skip
 (.exit 0))
 (zy (.blk 1 (zq [wz 51 1 47 49, zl 52 51, zm 13 52]
 (zh [zm 53 0, zm 54 2, zo 55 (.ar .mul .i64 (zi 3) 54), zm 56 13, zo 57 (.call 136 [53, 55, 56, (.c (.l w5))])])))
 (zh [wx 58 49 1, zm 49 58])))))))
 (zq [zm 59 11, zm 6 59, zo 7 (.mov (zi 0))]
 .ret))))))))
theorem ic109_eq : cF Tryz.prog Tryz.f109 = some ic109 := by kernel_rfl
def ic112 : IC := (zq [wv 6 w2, zo 7 (.mov (zi 0))]
 (zy (zq [zm 14 0, zo 15 (wg 14 (zi 1)), zm 16 15, wb 17 16 0, wd 18 16 (.cmp .gtr .i64 17 (zi 64)), wp 19 16 w1 18, zm 20 19, wb 21 20 1, wd 22 20 (.len 21), wb 23 20 2, wd 24 20 (.len 23), wd 25 20 (wf 22 24), wp 26 20 w1 25]
 (.cond 26
 (zq [wv 6 w2, zo 7 (.mov (zi 1))]
 .ret)
 .skip))
 (zq [zm 28 1, zc 29 144 [28], zm 27 29, wy 30 0 27, wy 31 1 27, zm 8 30, zm 9 31]
 (zy (zq [zm 32 9, zo 33 (wf 32 (zi 0))]
 (.cond 33
 (zq [zm 34 9, wv 6 w2, zm 7 34]
 .ret)
 .skip))
 (zy (zq [zm 35 2, zo 36 (.len 35), zo 37 (.mov (zi 0))]
 (.blk 0 (.loop (zq [zo 38 (wg 37 36)]
 (zy (.cond 38
 .skip
 (.exit 0))
 (zy (.blk 1 (zq [zm 39 37, wz 40 1 35 37, zl 41 40, zm 10 39, zm 11 41]
 (zh [zm 42 8, zm 43 10, zm 44 11, zc 45 145 [42, 43, 44]])))
 (zh [wx 46 37 1, zm 37 46])))))))
 (zq [zm 48 0, zm 49 2, zo 50 (.len 49), zc 51 146 [48, 50], zm 47 51, wy 52 0 47, wy 53 1 47, zm 12 52, zm 13 53]
 (zq [zm 54 8, zm 55 12, zm 56 0, zo 57 (.mks 2 16 [w9, w9] 56 56), zo 58 (.bld [w8, w8, w7] [(0, 1, 54), (1, 1, 55), (2, 1, 57)]), zo 59 (.box 58), zm 6 59, zo 7 (.mov (zi 0))]
 .ret)))))))
theorem ic112_eq : cF Tryz.prog Tryz.f112 = some ic112 := by kernel_rfl
def ic122 : IC := (zq [zo 4 (.mov (zi 0))]
 (zy (.blk 0 (zq [zm 6 1, wr 7 6 1, zm 8 7, wa 9 8 0, wc 10 8 (we 9 (zi 0)), wp 11 8 10 w0, zm 5 11]
 (.cond 5
 (zq [zo 4 (.mov (zi 1))]
 .ret)
 (zq [zm 13 1, wr 14 13 2, zm 15 14, wa 16 15 0, wc 17 15 (we 16 (zi 1)), wp 18 15 17 w0, zm 12 18]
 (.cond 12
 (zq [zo 4 (.mov (zi 2))]
 .ret)
 (zq [zm 20 1, wr 21 20 4, zm 22 21, wa 23 22 0, wc 24 22 (we 23 (zi 2)), wp 25 22 24 w0, zm 19 25]
 (.cond 19
 (zq [zo 4 (.mov (zi 3))]
 .ret)
 (.jn (zq [zm 27 1, wr 28 27 5, zm 29 28, wa 30 29 0, wc 31 29 (we 30 (zi 1)), wa 32 29 31, wb 33 32 0, wd 34 32 (we 33 (zi 2)), wc 35 29 (.pick 32 w1 34), wp 36 29 35 w0, zm 26 36]
 (.cond 26
 .skip
 (zq [zm 37 1, wr 38 37 8, zm 39 38, wa 40 39 0, wc 41 39 (we 40 (zi 1)), wp 42 39 41 w0, zm 26 42]
 (.cond 26
 .skip
 (zh [zm 43 1, wr 44 43 7, zm 45 44, wa 46 45 0, wc 47 45 (we 46 (zi 4)), wp 48 45 47 w0, zm 26 48])))))
 (.cond 26
 (zq [zo 4 (.mov (zi 0))]
 .ret)
 (zq [zm 50 1, wr 51 50 6, zm 52 51, wa 53 52 0, wc 54 52 (we 53 (zi 3)), wp 55 52 54 w0, zm 49 55]
 (.cond 49
 (zq [zo 4 (.mov (zi 4))]
 .ret)
 .skip)))))))))))
 (zq [zo 4 (.mov (.c (.l (.v (.int .i64 (-1))))))]
 .ret)))
theorem ic122_eq : cF Tryz.prog Tryz.f122 = some ic122 := by kernel_rfl
def ic123 : IC := (zq [wv 4 w0]
 (zq [zm 5 0, zm 6 1, zc 7 150 [5, 6], zo 8 (wh 7 (zi 0)), zm 4 8]
 .ret))
theorem ic123_eq : cF Tryz.prog Tryz.f123 = some ic123 := by kernel_rfl
def ic124 : IC := (zq [zo 4 (.mov (.c (.l w7)))]
 (zq [zm 8 0, zm 9 1, zc 10 151 [8, 9], zm 5 10]
 (zy (zq [zm 11 5, zo 12 (we 11 (.c (.l (.v (.int .i64 (-1))))))]
 (.cond 12
 (zq [zm 13 0, zm 4 13]
 .ret)
 .skip))
 (zy (zq [zm 14 5, wx 15 14 1, zm 6 15]
 (.blk 0 (.loop (zy (zq [zm 16 6, zm 17 0, zo 18 (.len 17), zo 19 (wg 16 18)]
 (.cond 19
 .skip
 (.exit 0)))
 (.jn (.blk 1 (zq [zm 22 0, zm 23 6, wz 24 1 22 23, zl 25 24, zm 7 25]
 (zq [zm 26 1, zm 27 7, zo 28 (.callv 26 [27]), zo 29 (.not 28)]
 (.cond 29
 (zq [zm 30 0, zm 31 5, zm 32 7, wz 33 1 30 31, zs 1 33 32]
 (zh [zm 34 5, wx 35 34 1, zm 5 35]))
 .skip))))
 (zh [zm 20 6, wx 21 20 1, zm 6 21]))))))
 (zq [zm 36 0, zm 37 5, zo 38 (.slc 1 36 (some 37) none), ⟨none, none, .esc (.call { callee := .builtin .clear, args := #[(.tmp 38)], argTypes := #[22] })⟩]
 (zq [zm 39 0, zm 40 5, zo 41 (.slc 1 39 none (some 40)), zm 4 41]
 .ret))))))
theorem ic124_eq : cF Tryz.prog Tryz.f124 = some ic124 := by kernel_rfl
def ic125 : IC := (zq [wv 3 w0]
 (zq [zm 4 0, zf 5 1 1, zl 6 5, wq 7 4 6, zm 3 7]
 .ret))
theorem ic125_eq : cF Tryz.prog Tryz.f125 = some ic125 := by kernel_rfl
def ic127 : IC := (zq [wv 6 w2, zo 7 (.mov (zi 0))]
 (zy (zq [zm 10 0, zo 11 (wg 10 (zi 1)), zm 12 11, wb 13 12 0, wd 14 12 (.cmp .gtr .i64 13 (zi 64)), wp 15 12 w1 14]
 (.cond 15
 (zq [wv 6 w2, zo 7 (.mov (zi 1))]
 .ret)
 .skip))
 (zq [zm 16 0, zo 17 (.mks 2 16 [w9, w9] 16 16), zm 18 1, zm 19 2, zo 20 (.bld [w7, w6, w6] [(0, 1, 17), (1, 1, 18), (2, 1, 19)]), zo 21 (.box 20), zm 8 21]
 (zy (zq [zm 22 8, zn 23 22, zf 24 0 23, zl 25 24, zo 26 (.len 25), zo 27 (.mov (zi 0))]
 (.blk 0 (.loop (zq [zo 28 (wg 27 26)]
 (zy (.cond 28
 .skip
 (.exit 0))
 (zy (.blk 1 (zq [zm 29 27, zm 9 29]
 (zh [zm 30 8, zn 31 30, zf 32 0 31, zl 33 32, zm 34 9, wz 35 2 33 34, zf 36 1 35, ⟨none, none, .sto 1 36 (.c (.l (.v (.int .i64 (-1)))))⟩])))
 (zh [wx 37 27 1, zm 27 37])))))))
 (zq [zm 38 8, zm 6 38, zo 7 (.mov (zi 0))]
 .ret)))))
theorem ic127_eq : cF Tryz.prog Tryz.f127 = some ic127 := by kernel_rfl
def ic128 : IC := (zq [wv 4 w0]
 (zq [zm 5 0, zm 6 1, zc 7 151 [5, 6], zo 8 (wh 7 (zi 0)), zm 4 8]
 .ret))
theorem ic128_eq : cF Tryz.prog Tryz.f128 = some ic128 := by kernel_rfl
def ic129 : IC := (zq [wv 2 w0]
 (zq [zm 3 0, zo 4 (wg 3 (zi 0)), zm 5 4, wb 6 5 0, wd 7 5 (wh 6 (zi 8)), wp 8 5 w1 7, zm 2 8]
 .ret))
theorem ic129_eq : cF Tryz.prog Tryz.f129 = some ic129 := by kernel_rfl
def ic130 : IC := (zq [zo 6 (.mov (zi 0))]
 (zq [zm 7 0, zm 8 1, zm 9 2, zo 10 (.call 136 [7, (zi 1), 8, 9]), zm 6 10]
 .ret))
theorem ic130_eq : cF Tryz.prog Tryz.f130 = some ic130 := by kernel_rfl
def ic131 : IC := (zq [wv 2 w0]
 (zq [zm 3 0, zo 4 (wg 3 (zi 0)), zm 5 4, wb 6 5 0, wd 7 5 (wh 6 (zi 8)), wp 8 5 w1 7, zm 2 8]
 .ret))
theorem ic131_eq : cF Tryz.prog Tryz.f131 = some ic131 := by kernel_rfl
def ic132 : IC := (zq [zo 0 (.mov (.c (.l w7)))]
 (zq [zo 1 (.mov (.c (.l w7)))]
 (zy (zq [zo 2 (.mov (zi 1))]
 (.blk 0 (.loop (zy (zq [zm 3 2, zo 4 (.cmp .leq .i64 3 (zi 64))]
 (.cond 4
 .skip
 (.exit 0)))
 (zy (.blk 1 (zh [zm 7 1, zm 8 2, zo 9 (.bsl 1 1 [w9] [(0, 1, 8)]), zo 10 (.app 1 8 7 9), zm 1 10]))
 (zh [zm 5 2, zo 6 (.sh .shl .i64 5 (.c (.l (.v (.int .u64 1))))), zm 2 6]))))))
 (zq [zm 11 1, zm 0 11]
 .ret))))
theorem ic132_eq : cF Tryz.prog Tryz.f132 = some ic132 := by kernel_rfl
def ic133 : IC := (zq [zo 4 (.mov (zi 0))]
 (zy (zq [zm 5 1, zo 6 (wg 5 (zi 1)), zm 7 6, wb 8 7 1, wd 9 7 (.cmp .gtr .i64 8 (zi 64)), wp 10 7 w1 9, zm 11 10, wb 12 11 1, wb 13 11 1, wd 14 11 (wj 13 (zi 1)), wd 15 11 (.bt .and .i64 12 14), wd 16 11 (wf 15 (zi 0)), wp 17 11 w1 16]
 (.cond 17
 (zq [zo 4 (.mov (zi 0))]
 .ret)
 .skip))
 (zq [zm 18 0, zm 19 1, zo 20 (wj 19 (zi 1)), zo 21 (.conv .u32 20), zo 22 (.bt .and .u32 18 21), zo 23 (.conv .i64 22), zm 4 23]
 .ret)))
theorem ic133_eq : cF Tryz.prog Tryz.f133 = some ic133 := by kernel_rfl
def ic134 : IC := (zq [wv 2 w0]
 (zq [zm 3 0, zo 4 (wg 3 (zi 0)), zm 5 4, wb 6 5 0, wd 7 5 (wh 6 (zi 8)), wp 8 5 w1 7, zm 2 8]
 .ret))
theorem ic134_eq : cF Tryz.prog Tryz.f134 = some ic134 := by kernel_rfl
def ic135 : IC := (zq [wv 2 w0]
 (zq [zm 3 0, zo 4 (wg 3 (zi 0)), zm 5 4, wb 6 5 0, wd 7 5 (wh 6 (zi 8)), wp 8 5 w1 7, zm 2 8]
 .ret))
theorem ic135_eq : cF Tryz.prog Tryz.f135 = some ic135 := by kernel_rfl
def ic136 : IC := (zq [zo 8 (.mov (zi 0))]
 (zq [zm 10 0, zn 11 10, zf 12 2 11, zl 13 12, zo 14 (.len 13), zm 9 14]
 (zy (zq [zm 15 1, zo 16 (.mx .i64 15 (zi 0)), zo 17 (.mn .i64 16 (zi 4097)), zo 18 (.mov (zi 0))]
 (.blk 0 (.loop (zq [zo 19 (wg 18 17)]
 (zy (.cond 19
 .skip
 (.exit 0))
 (zy (.blk 1 (zq [zm 20 0, zm 21 0, zn 22 21, zf 23 1 22, zl 24 23, zm 25 2, zo 26 (.bsl 1 1 [w9] [(0, 1, 25)]), zo 27 (.app 1 8 24 26), zn 28 20, zf 29 1 28, zs 1 29 27]
 (zh [zm 30 0, zm 31 0, zn 32 31, zf 33 2 32, zl 34 33, zm 35 3, zo 36 (.bsl 1 1 [(.int .u32 0)] [(0, 1, 35)]), zo 37 (.app 1 4 34 36), zn 38 30, zf 39 2 38, zs 1 39 37])))
 (zh [wx 40 18 1, zm 18 40])))))))
 (zq [zm 41 9, zm 8 41]
 .ret))))
theorem ic136_eq : cF Tryz.prog Tryz.f136 = some ic136 := by kernel_rfl
def ic137 : IC := (zq [wv 2 w0]
 (zq [zm 3 0, zo 4 (wg 3 (zi 0)), zm 5 4, wb 6 5 0, wd 7 5 (wh 6 (zi 8)), wp 8 5 w1 7, zm 2 8]
 .ret))
theorem ic137_eq : cF Tryz.prog Tryz.f137 = some ic137 := by kernel_rfl
def ic138 : IC := (zq [wv 4 w2, zo 5 (.mov (zi 0))]
 (zy (zq [zm 8 0, zo 9 (wg 8 (zi 1)), zm 10 9, wb 11 10 0, wd 12 10 (.cmp .gtr .i64 11 (zi 64)), wp 13 10 w1 12, zm 14 13, wb 15 14 1, wd 16 14 (wg 15 (zi 1)), wp 17 14 w1 16, zm 18 17, wb 19 18 1, wd 20 18 (.cmp .gtr .i64 19 (zi 8)), wp 21 18 w1 20]
 (.cond 21
 (zq [wv 4 w2, zo 5 (.mov (zi 1))]
 .ret)
 .skip))
 (zy (.draw [zm 22 0, zo 23 (.mks 1 24 [(.slice none 0 0)] 22 22), zm 24 0, zm 25 1, zo 26 (.ar .mul .i64 24 25), zo 27 (wi (zi 1) 26), zo 28 (.mks 1 1 [(.bool false)] 27 27), zo 29 (.bld [w7, w7] [(0, 1, 23), (1, 1, 28)]), zo 30 (.box 29), zm 6 30] [[], [0, 0], [], [], [2, 3], [4], [5, 5], [1, 6], [7], [8, 0, 1, 2, 3, 4, 5, 6, 7, 8]])
 (zy (zq [zm 31 0, zm 32 1, zo 33 (.ar .mul .i64 31 32), zo 34 (.mov (zi 0))]
 (.blk 0 (.loop (zq [zo 35 (wg 34 33)]
 (zy (.cond 35
 .skip
 (.exit 0))
 (zy (.blk 1 (zq [zm 36 34, zm 7 36]
 (.draw [zm 37 6, zn 38 37, zf 39 0 38, zl 40 39, zm 41 7, zm 42 1, zo 43 (.dv .quo .i64 41 42), zm 44 6, zn 45 44, zf 46 0 45, zl 47 46, zm 48 7, zm 49 1, zo 50 (.dv .quo .i64 48 49), wz 51 1 47 50, zl 52 51, zm 53 7, wx 54 53 1, zo 55 (.bsl 1 1 [w9] [(0, 1, 54)]), zo 56 (.app 1 8 52 55), wz 57 1 40 43, zs 1 57 56] [[], [0], [1], [2], [], [], [4, 5], [], [7], [8], [9], [], [], [11, 12], [10, 13], [14], [], [16], [17], [15, 18], [3, 6, 0, 1, 2, 3, 4, 5, 6, 7, 8, 9, 10, 11, 12, 13, 14, 15, 16, 17, 18, 19], [20, 19, 19, 0, 1, 2, 3, 4, 5, 6, 7, 8, 9, 10, 11, 12, 13, 14, 15, 16, 17, 18, 19]])))
 (zh [wx 58 34 1, zm 34 58])))))))
 (zq [zm 59 6, zm 4 59, zo 5 (.mov (zi 0))]
 .ret)))))
theorem ic138_eq : cF Tryz.prog Tryz.f138 = some ic138 := by kernel_rfl
def ic140 : IC := (zq [zo 6 (.mov (.c (.l w5)))]
 (zq [zm 8 0, zo 9 (.mx .i64 8 (zi 0)), zo 10 (.mn .i64 9 (zi 1073741823)), zo 11 (.conv .u32 10), zo 12 (.ar .mul .u32 11 (.c (.l (.v (.int .u32 4))))), zm 7 12]
 (.jn (zq [zm 13 1]
 (.cond 13
 (zh [zm 14 7, zo 15 (.bt .or .u32 14 (.c (.l (.v (.int .u32 2))))), zm 7 15])
 .skip))
 (.jn (zq [zm 16 2]
 (.cond 16
 (zh [zm 17 7, zo 18 (.bt .or .u32 17 (.c (.l (.v (.int .u32 1))))), zm 7 18])
 .skip))
 (zq [zm 19 7, zm 6 19]
 .ret)))))
theorem ic140_eq : cF Tryz.prog Tryz.f140 = some ic140 := by kernel_rfl
def ic144 : IC := (zq [wv 2 w2, zo 3 (.mov (zi 0))]
 (zy (zq [zm 6 0, zo 7 (.len 6), zo 8 (.cmp .gtr .i64 7 (zi 4096))]
 (.cond 8
 (zq [wv 2 w2, zo 3 (.mov (zi 5))]
 .ret)
 .skip))
 (zy (zq [zm 9 0, zo 10 (.len 9), zo 11 (.mov (zi 0))]
 (.blk 0 (.loop (zq [zo 12 (wg 11 10)]
 (zy (.cond 12
 .skip
 (.exit 0))
 (zy (.blk 1 (zq [wz 13 1 9 11, zl 14 13, zm 5 14]
 (zq [zm 15 5, zo 16 (wg 15 (zi 0)), zm 17 16, wb 18 17 5, wd 19 17 (wh 18 (zi 8)), wp 20 17 w1 19]
 (.cond 20
 (zq [wv 2 w2, zo 3 (.mov (zi 1))]
 .ret)
 .skip))))
 (zh [wx 21 11 1, zm 11 21])))))))
 (zy (.draw [zm 22 0, zo 23 (.len 22), zo 24 (.mks 1 4 [(.int .u32 0)] 23 23), zm 25 0, zc 26 159 [25], zo 27 (.bld [w7, w7] [(0, 1, 24), (1, 1, 26)]), zo 28 (.box 27), zm 2 28, zo 3 (.mov (zi 0))] [[], [0], [1, 1], [], [3], [2, 4], [5], [6, 4, 0, 1, 2, 3, 4, 5, 6], [7, 0, 1, 2, 3, 4, 5, 6, 7]])
 .ret))))
theorem ic144_eq : cF Tryz.prog Tryz.f144 = some ic144 := by kernel_rfl
def ic145 : IC := (zq [zm 7 0, zm 8 1, zc 9 160 [7, 8], zm 6 9]
 (zq [zm 10 6, zo 11 (.eq .p true 10 w2)]
 (.cond 11
 (zh [zm 12 6, zm 13 2, zc 14 161 [12, 13]])
 .skip)))
theorem ic145_eq : cF Tryz.prog Tryz.f145 = some ic145 := by kernel_rfl
def ic146 : IC := (zq [wv 4 w2, zo 5 (.mov (zi 0))]
 (zy (zq [zm 6 0, zo 7 (wg 6 (zi 1)), zm 8 7, wb 9 8 0, wd 10 8 (.cmp .gtr .i64 9 (zi 64)), wp 11 8 w1 10, zm 12 11, wb 13 12 1, wd 14 12 (wg 13 (zi 0)), wp 15 12 w1 14, zm 16 15, wb 17 16 1, wd 18 16 (.cmp .gtr .i64 17 (zi 4096)), wp 19 16 w1 18]
 (.cond 19
 (zq [wv 4 w2, zo 5 (.mov (zi 1))]
 .ret)
 .skip))
 (zy (.draw [zm 20 1, zo 21 (.mks 1 8 [(.int .u64 0)] 20 20), zm 22 0, zo 23 (.mks 1 8 [w9] 22 22), zo 24 (.bld [w7, w7] [(0, 1, 21), (1, 1, 23)]), zo 25 (.box 24), zm 4 25, zo 5 (.mov (zi 0))] [[], [0, 0], [], [2, 2], [1, 3], [4], [5, 0, 1, 2, 3, 4, 5], [6, 0, 1, 2, 3, 4, 5, 6]])
 .ret)))
theorem ic146_eq : cF Tryz.prog Tryz.f146 = some ic146 := by kernel_rfl
def ic150 : IC := (zq [zo 4 (.mov (zi 0))]
 (zy (zq [zm 6 0, zo 7 (.len 6), zo 8 (.mov (zi 0))]
 (.blk 0 (.loop (zq [zo 9 (wg 8 7)]
 (zy (.cond 9
 .skip
 (.exit 0))
 (zy (.blk 1 (zq [zm 10 8, zm 5 10]
 (zq [zm 11 1, zm 12 0, zm 13 5, wz 14 1 12 13, zl 15 14, wq 16 11 15]
 (.cond 16
 (zq [zm 17 5, zm 4 17]
 .ret)
 .skip))))
 (zh [wx 18 8 1, zm 8 18])))))))
 (zq [zo 4 (.mov (.c (.l (.v (.int .i64 (-1))))))]
 .ret)))
theorem ic150_eq : cF Tryz.prog Tryz.f150 = some ic150 := by kernel_rfl
def ic151 : IC := (zq [zo 4 (.mov (zi 0))]
 (zy (zq [zm 6 0, zo 7 (.len 6), zo 8 (.mov (zi 0))]
 (.blk 0 (.loop (zq [zo 9 (wg 8 7)]
 (zy (.cond 9
 .skip
 (.exit 0))
 (zy (.blk 1 (zq [zm 10 8, zm 5 10]
 (zq [zm 11 1, zm 12 0, zm 13 5, wz 14 1 12 13, zl 15 14, zo 16 (.callv 11 [15])]
 (.cond 16
 (zq [zm 17 5, zm 4 17]
 .ret)
 .skip))))
 (zh [wx 18 8 1, zm 8 18])))))))
 (zq [zo 4 (.mov (.c (.l (.v (.int .i64 (-1))))))]
 .ret)))
theorem ic151_eq : cF Tryz.prog Tryz.f151 = some ic151 := by kernel_rfl
def ic159 : IC := (zq [zo 2 (.mov (.c (.l w7)))]
 (zy (zq [zm 3 0, zo 4 (.esc (.binOp .eql 22 (.tmp 3) (.const (.slice none 0 0)) 22))]
 (.cond 4
 (zq [zo 2 (.mov (.c (.l w7)))]
 .ret)
 .skip))
 (zq [zo 5 (.bsl 1 0 [] []), zm 6 0, zo 7 (.app 1 8 5 6), zm 2 7]
 .ret)))
theorem ic159_eq : cF Tryz.prog Tryz.f159 = some ic159 := by kernel_rfl
def ic160 : IC := (zq [wv 4 w2]
 (zy (zq [zm 5 1, zo 6 (wg 5 (zi 0)), zm 7 6, wb 8 7 1, wb 9 7 0, wd 10 7 (.nck 9), wd 11 7 (.fa 0 10), wd 12 7 (.ld 11), wd 13 7 (.len 12), wd 14 7 (wh 8 13), wp 15 7 w1 14]
 (.cond 15
 (zq [wv 4 w2]
 .ret)
 .skip))
 (zq [zm 16 0, zn 17 16, zf 18 0 17, zl 19 18, zm 20 1, wz 21 1 19 20, zm 4 21]
 .ret)))
theorem ic160_eq : cF Tryz.prog Tryz.f160 = some ic160 := by kernel_rfl
def ic161 : IC := (zh [zm 4 0, zn 5 4, zf 6 0 5, zm 7 1, zo 8 (.esc (.call { callee := .value (.func 174), args := #[(.tmp 6), (.tmp 7)], argTypes := #[201, 23] }))])
theorem ic161_eq : cF Tryz.prog Tryz.f161 = some ic161 := by kernel_rfl
def ic209 : IC := (zq [zo 2 (.mov (zi 0))]
 (zq [zm 3 0, zn 4 3, zf 5 0 4, zl 6 5, zo 7 (.len 6), zm 2 7]
 .ret))
theorem ic209_eq : cF Tryz.prog Tryz.f209 = some ic209 := by kernel_rfl
def ic210 : IC := (zq [zo 6 (.mov (zi 0))]
 (zy (.blk 0 (.jn (zq [zm 8 0, zm 9 1, zc 10 216 [8, 9], zo 11 (.not 10), zm 7 11]
 (.cond 7
 .skip
 (zq [zm 12 2, zo 13 (wg 12 (.c (.l (.v (.int .i64 (-1)))))), zm 7 13]
 (.cond 7
 .skip
 (zh [zm 14 2, zo 15 (wh 14 (zi 0)), zm 16 15, wa 17 16 0, wc 18 16 (.nck 17), wc 19 16 (.fa 1 18), wc 20 16 (.ld 19), wc 21 16 (.not 20), wp 22 16 21 w0, zm 7 22])))))
 (.cond 7
 (zq [zo 6 (.mov (zi 1))]
 .ret)
 (zq [zm 24 0, zn 25 24, zf 26 0 25, zl 27 26, zm 28 1, wz 29 2 27 28, zf 30 0 29, zl 31 30, zo 32 (wf 31 (zi 0)), zm 23 32]
 (.cond 23
 (zq [zo 6 (.mov (zi 2))]
 .ret)
 .skip)))))
 (zq [zm 33 0, zn 34 33, zf 35 0 34, zl 36 35, zm 37 1, zm 38 2, zo 39 (.bld [w4, w4] [(0, 1, (zi 1)), (1, 1, 38)]), wz 40 2 36 37, zs 2 40 39]
 (zq [zo 6 (.mov (zi 0))]
 .ret))))
theorem ic210_eq : cF Tryz.prog Tryz.f210 = some ic210 := by kernel_rfl
def ic211 : IC := (zq [zo 4 (.mov (zi 0))]
 (zy (zq [zm 6 0, zn 7 6, zf 8 2 7, zl 9 8, zo 10 (.not 9)]
 (.cond 10
 (zq [zo 4 (.mov (zi 1))]
 .ret)
 .skip))
 (zq [zm 11 0, zm 12 1, zc 13 217 [11, 12], zm 5 13]
 (.jn (zq [zm 14 5, wr 15 14 0]
 (.cond 15
 (zh [zm 16 0, zn 17 16, zf 18 0 17, zl 19 18, zm 20 1, wz 21 2 19 20, zf 22 0 21, ⟨none, none, .sto 1 22 (zi 4)⟩])
 .skip))
 (zq [zm 23 5, zm 4 23]
 .ret)))))
theorem ic211_eq : cF Tryz.prog Tryz.f211 = some ic211 := by kernel_rfl
def ic212 : IC := (zq [zo 4 (.mov (zi 0))]
 (zy (zq [zm 5 0, zm 6 1, zc 7 216 [5, 6], zo 8 (.not 7)]
 (.cond 8
 (zq [zo 4 (.mov (zi 0))]
 .ret)
 .skip))
 (zq [zm 9 0, zn 10 9, zf 11 0 10, zl 12 11, zm 13 1, wz 14 2 12 13, zf 15 0 14, zl 16 15, zm 4 16]
 .ret)))
theorem ic212_eq : cF Tryz.prog Tryz.f212 = some ic212 := by kernel_rfl
def ic213 : IC := (zq [zo 8 (.alloc [w4, w6, w6, w6])]
 (zq [zo 9 (.alloc [w4, w6, w6, w6])]
 (.jn (zq [zm 10 0, zn 11 10, zf 12 0 11, zl 13 12, zm 14 1, zc 15 212 [13, 14]]
 (.blk 0 (zq [wr 17 15 1, zm 16 17]
 (.cond 16
 (zh [zm 18 0, zm 19 1, zm 20 2, zc 21 218 [18, 19, 20], zs 4 9 21])
 (zq [wr 23 15 3, zm 22 23]
 (.cond 22
 (zy (.draw [zm 24 0, zn 25 24, zf 26 1 25, zl 27 26, zm 28 2, zm 29 0, zn 30 29, zf 31 3 30, zl 32 31, zm 33 0, zn 34 33, zf 35 4 34, zl 36 35, zm 37 1, wz 38 1 36 37, zl 39 38, zo 40 (.ar .add .u32 39 (.c (.l (.v (.int .u32 1))))), zc 41 219 [27, 28, 32, 40]] [[], [0], [1], [2], [], [], [5], [6], [7], [], [9], [10], [11], [], [12, 13], [14], [15], [3, 4, 8, 16]])
 (zq [zm 42 0, zn 43 42, zf 44 5 43, zl 45 44, zm 46 1, wz 47 1 45 46, ⟨none, none, .sto 1 47 w0⟩]
 (zh [zf 48 0 9, ⟨none, none, .sto 1 48 (zi 3)⟩])))
 (zq [wr 50 15 4, zm 49 50]
 (.cond 49
 (zq [zf 51 0 9, ⟨none, none, .sto 1 51 (zi 5)⟩]
 (zy (.draw [zm 52 0, zn 53 52, zf 54 1 53, zl 55 54, zm 56 2, zm 57 0, zn 58 57, zf 59 2 58, zl 60 59, zc 61 220 [55, 56, 60], zm 62 0, zn 63 62, zf 64 4 63, zl 65 64, zm 66 1, wz 67 1 65 66, zl 68 67, zo 69 (.ar .add .u32 68 (.c (.l (.v (.int .u32 1))))), zo 70 (wk 61 69)] [[], [0], [1], [2], [], [], [5], [6], [7], [3, 4, 8], [], [10], [11], [12], [], [13, 14], [15], [16], [9, 17]])
 (.cond 70
 (zh [zf 71 0 9, ⟨none, none, .sto 1 71 (zi 4)⟩])
 .skip)))
 .skip))))))))
 (zy (.draw [zm 72 0, zn 73 72, zf 74 0 73, zl 75 74, zm 76 1, zf 77 0 9, zl 78 77, zc 79 221 [75, 76, 78]] [[], [0], [1], [2], [], [], [5], [3, 4, 6]])
 (zq [zo 80 (.lda 4 9), zs 4 8 80]
 .ret)))))
theorem ic213_eq : cF Tryz.prog Tryz.f213 = some ic213 := by kernel_rfl
def ic214 : IC := (zq [zo 4 (.mov (zi 0))]
 (zq [zm 6 0, zm 7 1, zc 8 217 [6, 7], zm 5 8]
 (.jn (zq [zm 9 5, wr 10 9 0]
 (.cond 10
 (zh [zm 11 0, zn 12 11, zf 13 0 12, zl 14 13, zm 15 1, wz 16 2 14 15, zf 17 0 16, ⟨none, none, .sto 1 17 (zi 3)⟩])
 .skip))
 (zq [zm 18 5, zm 4 18]
 .ret))))
theorem ic214_eq : cF Tryz.prog Tryz.f214 = some ic214 := by kernel_rfl
def ic215 : IC := (zh [zm 4 0, zm 5 1, zn 6 4, zf 7 1 6, zs 1 7 5])
theorem ic215_eq : cF Tryz.prog Tryz.f215 = some ic215 := by kernel_rfl
def ic216 : IC := (zq [wv 4 w0]
 (zq [zm 5 1, zo 6 (wh 5 (zi 0)), zm 7 6, wa 8 7 1, wa 9 7 0, wc 10 7 (.nck 9), wc 11 7 (.fa 0 10), wc 12 7 (.ld 11), wc 13 7 (.len 12), wc 14 7 (wg 8 13), wp 15 7 14 w0, zm 4 15]
 .ret))
theorem ic216_eq : cF Tryz.prog Tryz.f216 = some ic216 := by kernel_rfl
def ic217 : IC := (zq [zo 4 (.mov (zi 0))]
 (zy (.blk 0 (zq [zm 6 0, zm 7 1, zc 8 216 [6, 7], zo 9 (.not 8), zm 5 9]
 (.cond 5
 (zq [zo 4 (.mov (zi 1))]
 .ret)
 (zq [zm 11 0, zn 12 11, zf 13 0 12, zl 14 13, zm 15 1, wz 16 2 14 15, zf 17 0 16, zl 18 17, wr 19 18 0, zm 10 19]
 (.cond 10
 (zq [zo 4 (.mov (zi 3))]
 .ret)
 (zq [zm 21 0, zn 22 21, zf 23 0 22, zl 24 23, zm 25 1, wz 26 2 24 25, zf 27 0 26, zl 28 27, zo 29 (wf 28 (zi 2)), zm 20 29]
 (.cond 20
 (zq [zo 4 (.mov (zi 2))]
 .ret)
 .skip)))))))
 (zq [zo 4 (.mov (zi 0))]
 .ret)))
theorem ic217_eq : cF Tryz.prog Tryz.f217 = some ic217 := by kernel_rfl
def ic218 : IC := (zq [zo 6 (.alloc [w4, w6, w6, w6])]
 (zy (zq [zm 7 0, zn 8 7, zf 9 5 8, zl 10 9, zm 11 1, wz 12 1 10 11, zl 13 12, zo 14 (.not 13)]
 (.cond 14
 (zy (.draw [zm 15 0, zn 16 15, zf 17 4 16, zl 18 17, zm 19 1, zm 20 0, zn 21 20, zf 22 5 21, zl 23 22, zm 24 1, zm 25 0, zn 26 25, zf 27 1 26, zl 28 27, zm 29 2, zm 30 0, zn 31 30, zf 32 2 31, zl 33 32, zo 34 (.call 222 [28, 29, 33, (.c (.l (.v (.int .u32 1))))]), wz 35 1 18 19, zs 1 35 34, wz 36 1 23 24, ⟨none, none, .sto 1 36 w1⟩] [[], [0], [1], [2], [], [], [5], [6], [7], [], [], [10], [11], [12], [], [], [15], [16], [17], [13, 14, 18], [3, 4, 0, 1, 2, 3, 4, 8, 10, 11, 12, 13, 14, 15, 16, 17, 18, 19], [20, 19, 19, 0, 1, 2, 3, 4, 8, 10, 11, 12, 13, 14, 15, 16, 17, 18, 19], [8, 9, 0, 1, 2, 3, 4, 5, 6, 7, 8, 9, 10, 11, 12, 13, 14, 15, 16, 17, 18, 19, 20, 21], [22, 21, 0, 1, 2, 3, 4, 5, 6, 7, 8, 9, 10, 11, 12, 13, 14, 15, 16, 17, 18, 19, 20, 21]])
 (zq [zo 37 (.bld [w4, w6, w6, w6] [(1, 1, w1)]), zs 4 6 37]
 .ret))
 .skip))
 (zy (zy (.draw [zm 38 0, zn 39 38, zf 40 1 39, zl 41 40, zm 42 2, zm 43 0, zn 44 43, zf 45 3 44, zl 46 45, zc 47 220 [41, 42, 46], zm 48 0, zn 49 48, zf 50 4 49, zl 51 50, zm 52 1, wz 53 1 51 52, zl 54 53, zo 55 (wk 47 54)] [[], [0], [1], [2], [], [], [5], [6], [7], [3, 4, 8], [], [10], [11], [12], [], [13, 14], [15], [9, 16]])
 (.cond 55
 (zq [zo 56 (.bld [w4, w6, w6, w6] [(0, 1, (zi 1))]), zs 4 6 56]
 .ret)
 .skip))
 (zq [zo 57 (.bld [w4, w6, w6, w6] []), zs 4 6 57]
 .ret))))
theorem ic218_eq : cF Tryz.prog Tryz.f218 = some ic218 := by kernel_rfl
def ic219 : IC := (zq [zm 8 0, zm 9 1, zm 10 2, zo 11 (.call 223 [8, 9, 10, w1])]
 (.cond 11
 (zh [zm 12 0, zn 13 12, zf 14 0 13, zl 15 14, zm 16 2, zm 17 3, zc 18 145 [15, 16, 17]])
 .skip))
theorem ic219_eq : cF Tryz.prog Tryz.f219 = some ic219 := by kernel_rfl
def ic220 : IC := (zq [zo 6 (.mov (.c (.l w5)))]
 (zy (zq [zm 7 0, zm 8 1, zm 9 2, zo 10 (.call 223 [7, 8, 9, w0]), zo 11 (.not 10)]
 (.cond 11
 (zq [zo 6 (.mov (.c (.l w5)))]
 .ret)
 .skip))
 (zq [zm 12 0, zn 13 12, zf 14 0 13, zl 15 14, zm 16 2, zc 17 224 [15, 16], zm 6 17]
 .ret)))
theorem ic220_eq : cF Tryz.prog Tryz.f220 = some ic220 := by kernel_rfl
def ic221 : IC := (zq [wv 6 w0]
 (zq [zm 8 0, zm 9 1, zc 10 212 [8, 9], zm 11 2, zc 12 225 [10, 11], zm 7 12]
 (zy (zq [zm 13 7, zo 14 (wg 13 (zi 0))]
 (.cond 14
 (zq [wv 6 w0]
 .ret)
 .skip))
 (zq [zm 15 0, zn 16 15, zf 17 0 16, zl 18 17, zm 19 1, zm 20 7, zo 21 (.bld [w4, w4] [(0, 1, 20), (1, 1, (.c (.l (.v (.int .i64 (-1))))))]), wz 22 2 18 19, zs 2 22 21]
 (zq [wv 6 w1]
 .ret)))))
theorem ic221_eq : cF Tryz.prog Tryz.f221 = some ic221 := by kernel_rfl
def ic222 : IC := (zq [zo 8 (.mov (.c (.l w5)))]
 (zy (zq [zm 9 0, zm 10 1, zm 11 2, zo 12 (.call 223 [9, 10, 11, w1]), zo 13 (.not 12)]
 (.cond 13
 (zq [zo 8 (.mov (.c (.l w5)))]
 .ret)
 .skip))
 (zq [zm 14 0, zn 15 14, zf 16 0 15, zl 17 16, zm 18 2, zm 19 3, zc 20 226 [17, 18, 19], zm 8 20]
 .ret)))
theorem ic222_eq : cF Tryz.prog Tryz.f222 = some ic222 := by kernel_rfl
def ic223 : IC := (zq [wv 8 w0]
 (zy (zq [zm 9 1, zo 10 (wg 9 (zi 0)), zm 11 10, wb 12 11 1, wb 13 11 0, wd 14 11 (.nck 13), wd 15 11 (.fa 2 14), wd 16 11 (.ld 15), wd 17 11 (.len 16), wd 18 11 (wh 12 17), wp 19 11 w1 18, zm 20 19, wb 21 20 2, wd 22 20 (wg 21 (zi 0)), wp 23 20 w1 22, zm 24 23, wb 25 24 2, wb 26 24 0, wd 27 24 (.nck 26), wd 28 24 (.fa 0 27), wd 29 24 (.ld 28), wd 30 24 (.call 62 [29]), wd 31 24 (wh 25 30), wp 32 24 w1 31]
 (.cond 32
 (zq [wv 8 w0]
 .ret)
 .skip))
 (zy (.draw [zm 33 0, zn 34 33, zf 35 2 34, zl 36 35, zm 37 1, wz 38 2 36 37, zo 39 (.ixa 1 2 38 (zi 0)), zl 40 39, wx 41 40 1, wz 42 2 36 37, zo 43 (.ixa 1 2 42 (zi 0)), zs 1 43 41] [[], [0], [1], [2], [], [3, 4], [5], [6], [7], [3, 4], [9, 0, 1, 2, 3, 4, 5, 6, 7, 8], [10, 8, 0, 1, 2, 3, 4, 5, 6, 7, 8]])
 (.jn (zq [zm 44 3]
 (.cond 44
 (.draw [zm 45 0, zn 46 45, zf 47 2 46, zl 48 47, zm 49 1, wz 50 2 48 49, zo 51 (.ixa 1 2 50 (zi 1)), zl 52 51, wx 53 52 1, wz 54 2 48 49, zo 55 (.ixa 1 2 54 (zi 1)), zs 1 55 53] [[], [0], [1], [2], [], [3, 4], [5], [6], [7], [3, 4], [9, 0, 1, 2, 3, 4, 5, 6, 7, 8], [10, 8, 0, 1, 2, 3, 4, 5, 6, 7, 8]])
 .skip))
 (zq [zm 56 0, zn 57 56, zf 58 1 57, zl 59 58, zm 60 1, zm 61 2, zm 62 3, zc 63 227 [59, 60, 61, 62]]
 (zq [wv 8 w1]
 .ret))))))
theorem ic223_eq : cF Tryz.prog Tryz.f223 = some ic223 := by kernel_rfl
def ic224 : IC := (zq [zo 4 (.mov (.c (.l w5)))]
 (zy (zq [zm 6 0, zm 7 1, zc 8 160 [6, 7], zm 5 8]
 (zq [zm 9 5, zo 10 (.eq .p true 9 w2)]
 (.cond 10
 (zq [zm 11 5, zc 12 57 [11], zm 4 12]
 .ret)
 .skip)))
 (zq [zo 4 (.mov (.c (.l w5)))]
 .ret)))
theorem ic224_eq : cF Tryz.prog Tryz.f224 = some ic224 := by kernel_rfl
def ic225 : IC := (zq [zo 4 (.mov (zi 0))]
 (zy (.blk 0 (zq [zm 6 0, wr 7 6 1, zm 8 7, wa 9 8 1, wc 10 8 (we 9 (zi 1)), wp 11 8 10 w0, zm 5 11]
 (.cond 5
 (zq [zo 4 (.mov (zi 2))]
 .ret)
 (zq [zm 13 0, wr 14 13 1, zm 15 14, wa 16 15 1, wc 17 15 (we 16 (zi 2)), wa 18 15 17, wb 19 18 1, wd 20 18 (we 19 (zi 6)), wc 21 15 (.pick 18 w1 20), wp 22 15 21 w0, zm 12 22]
 (.cond 12
 (zq [zo 4 (.mov (zi 0))]
 .ret)
 (zq [zm 24 0, wr 25 24 3, zm 26 25, wa 27 26 1, wc 28 26 (we 27 (zi 3)), wp 29 26 28 w0, zm 23 29]
 (.cond 23
 (zq [zo 4 (.mov (zi 0))]
 .ret)
 (zq [zm 31 0, wr 32 31 4, zm 33 32, wa 34 33 1, wc 35 33 (we 34 (zi 4)), wa 36 33 35, wb 37 36 1, wd 38 36 (we 37 (zi 5)), wc 39 33 (.pick 36 w1 38), wp 40 33 39 w0, zm 30 40]
 (.cond 30
 (zq [zo 4 (.mov (zi 2))]
 .ret)
 .skip)))))))))
 (zq [zo 4 (.mov (.c (.l (.v (.int .i64 (-1))))))]
 .ret)))
theorem ic225_eq : cF Tryz.prog Tryz.f225 = some ic225 := by kernel_rfl
def ic226 : IC := (zq [zo 6 (.mov (.c (.l w5)))]
 (zy (zq [zm 8 0, zm 9 1, zc 10 160 [8, 9], zm 7 10]
 (zq [zm 11 7, zo 12 (.eq .p true 11 w2)]
 (.cond 12
 (zq [zm 13 7, zm 14 2, zc 15 228 [13, 14], zm 16 2, zo 17 (.ar .sub .u32 15 16), zm 6 17]
 .ret)
 .skip)))
 (zq [zo 6 (.mov (.c (.l w5)))]
 .ret)))
theorem ic226_eq : cF Tryz.prog Tryz.f226 = some ic226 := by kernel_rfl
def ic227 : IC := (zq [wv 8 w0]
 (zy (zq [zm 12 0, zm 13 1, zm 14 2, zc 15 229 [12, 13, 14], zo 16 (.not 15)]
 (.cond 16
 (zq [wv 8 w0]
 .ret)
 .skip))
 (zq [zm 17 1, zo 18 (.sh .shl .u64 (.c (.l (.v (.int .u64 1)))) 17), zm 9 18]
 (zq [zm 19 0, zn 20 19, zf 21 0 20, zl 22 21, zm 23 2, wz 24 1 22 23, zl 25 24, zm 10 25]
 (zq [zm 26 10, zm 27 9, zo 28 (.bt .and .u64 26 27), zo 29 (.cmp .eql .u64 28 (.c (.l (.v (.int .u64 0))))), zm 11 29]
 (.jn (zq [zm 30 0, zn 31 30, zf 32 0 31, zl 33 32, zm 34 2, wz 35 1 33 34, zl 36 35, zm 37 9, zo 38 (.bt .or .u64 36 37), wz 39 1 33 34, zs 1 39 38]
 (zq [zm 40 3]
 (.cond 40
 (zq [zm 41 10, zm 42 9, zo 43 (.cmp .neq .u64 41 42), zm 11 43]
 (zh [zm 44 0, zn 45 44, zf 46 0 45, zl 47 46, zm 48 2, zm 49 9, wz 50 1 47 48, zs 1 50 49]))
 .skip)))
 (.jn (zq [zm 51 11]
 (.cond 51
 (zh [zm 52 0, zn 53 52, zf 54 1 53, zl 55 54, zm 56 1, wz 57 1 55 56, zl 58 57, wx 59 58 1, wz 60 1 55 56, zs 1 60 59])
 .skip))
 (zq [zm 61 11, zm 8 61]
 .ret))))))))
theorem ic227_eq : cF Tryz.prog Tryz.f227 = some ic227 := by kernel_rfl
def ic228 : IC := (zq [zo 4 (.mov (.c (.l w5)))]
 (zq [zm 5 0, zn 6 5, zf 7 0 6, zm 8 1, zo 9 (.esc (.call { callee := .value (.func 230), args := #[(.tmp 7), (.tmp 8)], argTypes := #[201, 23] })), zm 4 9]
 .ret))
theorem ic228_eq : cF Tryz.prog Tryz.f228 = some ic228 := by kernel_rfl
def ic229 : IC := (zq [wv 6 w0]
 (zq [zm 7 1, zo 8 (wh 7 (zi 0)), zm 9 8, wa 10 9 1, wa 11 9 0, wc 12 9 (.nck 11), wc 13 9 (.fa 1 12), wc 14 9 (.ld 13), wc 15 9 (.len 14), wc 16 9 (wg 10 15), wp 17 9 16 w0, zm 18 17, wa 19 18 2, wc 20 18 (wh 19 (zi 0)), wp 21 18 20 w0, zm 22 21, wa 23 22 2, wa 24 22 0, wc 25 22 (.nck 24), wc 26 22 (.fa 0 25), wc 27 22 (.ld 26), wc 28 22 (.len 27), wc 29 22 (wg 23 28), wp 30 22 29 w0, zm 6 30]
 .ret))
theorem ic229_eq : cF Tryz.prog Tryz.f229 = some ic229 := by kernel_rfl
def ic231 : IC := (zq [zo 8 (.alloc [w4, w6, w6, w6])]
 (zq [zo 9 (.alloc [w4, w6, w6, w6])]
 (.jn (zq [zm 10 0, zn 11 10, zf 12 0 11, zl 13 12, zm 14 1, zc 15 212 [13, 14]]
 (.blk 0 (zq [wr 17 15 1, zm 16 17]
 (.cond 16
 (zh [zm 18 0, zm 19 0, zn 20 19, zf 21 4 20, zl 22 21, zm 23 1, wz 24 2 22 23, zm 25 2, zc 26 233 [18, 24, 25], zs 4 9 26])
 (zq [wr 28 15 3, zm 27 28]
 (.cond 27
 (zy (.draw [zm 29 0, zn 30 29, zf 31 1 30, zl 32 31, zm 33 2, zm 34 0, zm 35 0, zn 36 35, zf 37 4 36, zl 38 37, zm 39 1, wz 40 2 38 39, zf 41 0 40, zl 42 41, zo 43 (.ar .add .u32 42 (.c (.l (.v (.int .u32 1))))), zc 44 234 [34, 43], zo 45 (.call 219 [32, 33, 44, (.c (.l (.v (.int .u32 1))))])] [[], [0], [1], [2], [], [], [], [6], [7], [8], [], [9, 10], [11], [12], [13], [5, 14], [3, 4, 15, 15]])
 (zq [zm 46 0, zn 47 46, zf 48 4 47, zl 49 48, zm 50 1, zo 51 (.bld [w5, w4] []), wz 52 2 49 50, zs 2 52 51]
 (zh [zf 53 0 9, ⟨none, none, .sto 1 53 (zi 3)⟩])))
 .skip))))))
 (zy (.draw [zm 54 0, zn 55 54, zf 56 0 55, zl 57 56, zm 58 1, zf 59 0 9, zl 60 59, zc 61 221 [57, 58, 60]] [[], [0], [1], [2], [], [], [5], [3, 4, 6]])
 (zq [zo 62 (.lda 4 9), zs 4 8 62]
 .ret)))))
theorem ic231_eq : cF Tryz.prog Tryz.f231 = some ic231 := by kernel_rfl
def ic232 : IC := (zh [zm 4 0, zm 5 1, zn 6 4, zf 7 1 6, zs 1 7 5])
theorem ic232_eq : cF Tryz.prog Tryz.f232 = some ic232 := by kernel_rfl
def ic233 : IC := (zq [zo 6 (.alloc [w4, w6, w6, w6])]
 (zy (zq [zm 7 1, zn 8 7, zf 9 1 8, zl 10 9]
 (.blk 0 (zq [wr 12 10 0, zm 11 12]
 (.cond 11
 (zy (.draw [zm 13 1, zm 14 0, zn 15 14, zf 16 1 15, zl 17 16, zm 18 2, zm 19 0, zn 20 19, zf 21 2 20, zl 22 21, zo 23 (.call 222 [17, 18, 22, (.c (.l (.v (.int .u32 1))))]), zn 24 13, zf 25 0 24, zs 1 25 23] [[], [], [1], [2], [3], [], [], [6], [7], [8], [4, 5, 9], [0, 0, 1, 2, 3, 4, 5, 6, 7, 8, 9, 10], [11, 0, 1, 2, 3, 4, 5, 6, 7, 8, 9, 10], [12, 10, 10, 0, 1, 2, 3, 4, 5, 6, 7, 8, 9, 10]])
 (zq [zm 26 1, zn 27 26, zf 28 1 27, ⟨none, none, .sto 1 28 (zi 1)⟩]
 (zq [zo 29 (.bld [w4, w6, w6, w6] [(1, 1, w1)]), zs 4 6 29]
 .ret)))
 (zq [wr 31 10 1, zm 30 31]
 (.cond 30
 (.jn (zy (.draw [zm 32 0, zn 33 32, zf 34 1 33, zl 35 34, zm 36 2, zm 37 0, zm 38 1, zn 39 38, zf 40 0 39, zl 41 40, zc 42 234 [37, 41], zc 43 220 [35, 36, 42], zo 44 (.cmp .neq .u32 43 (.c (.l w5)))] [[], [0], [1], [2], [], [], [], [6], [7], [8], [5, 9], [3, 4, 10, 10], [11]])
 (.cond 44
 (zh [zm 45 1, zn 46 45, zf 47 1 46, ⟨none, none, .sto 1 47 (zi 2)⟩])
 .skip))
 (zq [zo 48 (.bld [w4, w6, w6, w6] []), zs 4 6 48]
 .ret))
 .skip))))))
 (zy (.draw [zm 49 0, zn 50 49, zf 51 1 50, zl 52 51, zm 53 2, zm 54 0, zm 55 1, zn 56 55, zf 57 0 56, zl 58 57, zc 59 234 [54, 58], zo 60 (.call 219 [52, 53, 59, (.c (.l w5))])] [[], [0], [1], [2], [], [], [], [6], [7], [8], [5, 9], [3, 4, 10, 10]])
 (zq [zo 61 (.bld [w4, w6, w6, w6] [(0, 1, (zi 1))]), zs 4 6 61]
 .ret))))
theorem ic233_eq : cF Tryz.prog Tryz.f233 = some ic233 := by kernel_rfl
def ic234 : IC := (zq [zo 4 (.mov (zi 0))]
 (zy (.draw [zm 5 0, zn 6 5, zf 7 2 6, zl 8 7, wx 9 8 1, zm 10 1, zm 11 0, zn 12 11, zf 13 3 12, zl 14 13, zc 15 133 [10, 14], zo 16 (wi 9 15), zm 4 16] [[], [0], [1], [2], [3], [], [], [6], [7], [8], [5, 9], [4, 10], [11, 10, 0, 1, 2, 3, 4, 5, 6, 7, 8, 9, 10, 11]])
 .ret))
theorem ic234_eq : cF Tryz.prog Tryz.f234 = some ic234 := by kernel_rfl
def ic235 : IC := (zq [zo 8 (.alloc [w4, w6, w6, w6])]
 (zq [zo 9 (.alloc [w4, w6, w6, w6])]
 (.jn (zq [zm 11 0, zn 12 11, zf 13 0 12, zl 14 13, zm 15 1, zc 16 212 [14, 15]]
 (.blk 0 (zq [wr 18 16 1, zm 17 18]
 (.cond 17
 (zh [zm 19 0, zm 20 0, zn 21 20, zf 22 3 21, zl 23 22, zm 24 1, wz 25 3 23 24, zm 26 2, zc 27 237 [19, 25, 26], zs 4 9 27])
 (zq [wr 29 16 3, zm 28 29]
 (.cond 28
 (zq [zm 30 0, zn 31 30, zf 32 3 31, zl 33 32, zm 34 1, wz 35 3 33 34, zo 36 (.lda 3 35), zo 10 (.alloc [w4, w4, w4]), zs 3 10 36]
 (zy (.draw [zm 37 0, zn 38 37, zf 39 1 38, zl 40 39, zm 41 2, zm 42 0, zf 43 0 10, zl 44 43, zc 45 238 [42, 44], zo 46 (.call 219 [40, 41, 45, (.c (.l w5))])] [[], [0], [1], [2], [], [], [], [6], [5, 7], [3, 4, 8, 8]])
 (zy (.draw [zm 47 0, zn 48 47, zf 49 3 48, zl 50 49, zm 51 1, zf 52 1 10, zl 53 52, zo 54 (.bld [w4, w4, w4] [(0, 1, 53)]), wz 55 3 50 51, zs 3 55 54] [[], [0], [1], [2], [], [], [5], [6], [3, 4, 0, 1, 2, 3, 4, 5, 6, 7], [8, 7, 0, 1, 2, 3, 4, 5, 6, 7]])
 (zh [zf 56 0 9, ⟨none, none, .sto 1 56 (zi 3)⟩]))))
 (zq [wr 58 16 4, zm 57 58]
 (.cond 57
 (zq [zf 59 0 9, ⟨none, none, .sto 1 59 (zi 5)⟩]
 (zy (.draw [zm 60 0, zn 61 60, zf 62 1 61, zl 63 62, zm 64 2, zm 65 0, zn 66 65, zf 67 2 66, zl 68 67, zc 69 220 [63, 64, 68], zm 70 0, zn 71 70, zf 72 3 71, zl 73 72, zm 74 1, wz 75 3 73 74, zf 76 0 75, zl 77 76, zo 78 (.conv .u32 77), zo 79 (wk 69 78)] [[], [0], [1], [2], [], [], [5], [6], [7], [3, 4, 8], [], [10], [11], [12], [], [13, 14], [15], [16], [17], [9, 18]])
 (.cond 79
 (zh [zf 80 0 9, ⟨none, none, .sto 1 80 (zi 4)⟩])
 .skip)))
 .skip))))))))
 (zy (.draw [zm 81 0, zn 82 81, zf 83 0 82, zl 84 83, zm 85 1, zf 86 0 9, zl 87 86, zc 88 221 [84, 85, 87]] [[], [0], [1], [2], [], [], [5], [3, 4, 6]])
 (zq [zo 89 (.lda 4 9), zs 4 8 89]
 .ret)))))
theorem ic235_eq : cF Tryz.prog Tryz.f235 = some ic235 := by kernel_rfl
def ic236 : IC := (zh [zm 4 0, zm 5 1, zn 6 4, zf 7 1 6, zs 1 7 5])
theorem ic236_eq : cF Tryz.prog Tryz.f236 = some ic236 := by kernel_rfl
def ic237 : IC := (zq [zo 6 (.alloc [w4, w6, w6, w6])]
 (.jn (zq [zm 7 1, zn 8 7, zf 9 2 8, zl 10 9]
 (.blk 0 (zq [wr 12 10 0, zm 11 12]
 (.cond 11
 (zy (.draw [zm 13 0, zn 14 13, zf 15 1 14, zl 16 15, zm 17 2, zm 18 0, zm 19 1, zn 20 19, zf 21 0 20, zl 22 21, zc 23 238 [18, 22], zo 24 (.call 219 [16, 17, 23, (.c (.l (.v (.int .u32 1))))])] [[], [0], [1], [2], [], [], [], [6], [7], [8], [5, 9], [3, 4, 10, 10]])
 (zh [zm 25 1, zn 26 25, zf 27 2 26, ⟨none, none, .sto 1 27 (zi 1)⟩]))
 (zq [wr 29 10 1, zm 28 29]
 (.cond 28
 (zy (.draw [zm 30 1, zm 31 0, zn 32 31, zf 33 1 32, zl 34 33, zm 35 2, zm 36 0, zn 37 36, zf 38 2 37, zl 39 38, zm 40 1, zn 41 40, zf 42 0 41, zl 43 42, zo 44 (.conv .u32 43), zc 45 239 [34, 35, 39, 44], zo 46 (.conv .i64 45), zn 47 30, zf 48 1 47, zs 1 48 46] [[], [], [1], [2], [3], [], [], [6], [7], [8], [], [10], [11], [12], [13], [4, 5, 9, 14], [15], [0, 0, 1, 2, 3, 4, 5, 6, 7, 8, 9, 10, 11, 12, 13, 14, 15, 16], [17, 0, 1, 2, 3, 4, 5, 6, 7, 8, 9, 10, 11, 12, 13, 14, 15, 16], [18, 16, 15, 0, 1, 2, 3, 4, 5, 6, 7, 8, 9, 10, 11, 12, 13, 14, 15, 16]])
 (zq [zm 49 1, zn 50 49, zf 51 2 50, ⟨none, none, .sto 1 51 (zi 2)⟩]
 (zq [zo 52 (.bld [w4, w6, w6, w6] [(1, 1, w1)]), zs 4 6 52]
 .ret)))
 (zq [wr 54 10 2, zm 53 54]
 (.cond 53
 (zy (.draw [zm 55 0, zn 56 55, zf 57 1 56, zl 58 57, zm 59 2, zm 60 0, zm 61 1, zn 62 61, zf 63 1 62, zl 64 63, zc 65 238 [60, 64], zc 66 220 [58, 59, 65], zo 67 (wk 66 (.c (.l w5)))] [[], [0], [1], [2], [], [], [], [6], [7], [8], [5, 9], [3, 4, 10, 10], [11]])
 (.cond 67
 (zq [zo 68 (.bld [w4, w6, w6, w6] [(0, 1, (zi 1))]), zs 4 6 68]
 .ret)
 .skip))
 .skip))))))))
 (zq [zo 69 (.bld [w4, w6, w6, w6] []), zs 4 6 69]
 .ret)))
theorem ic237_eq : cF Tryz.prog Tryz.f237 = some ic237 := by kernel_rfl
def ic238 : IC := (zq [zo 4 (.mov (zi 0))]
 (zq [zm 5 0, zn 6 5, zf 7 2 6, zl 8 7, wx 9 8 1, zm 10 1, zo 11 (wi 9 10), zm 4 11]
 .ret))
theorem ic238_eq : cF Tryz.prog Tryz.f238 = some ic238 := by kernel_rfl
def ic239 : IC := (zq [zo 8 (.mov (.c (.l w5)))]
 (zy (zq [zm 9 0, zm 10 1, zm 11 2, zo 12 (.call 223 [9, 10, 11, w1]), zo 13 (.not 12)]
 (.cond 13
 (zq [zo 8 (.mov (.c (.l w5)))]
 .ret)
 .skip))
 (zq [zm 14 0, zn 15 14, zf 16 0 15, zl 17 16, zm 18 2, zm 19 3, zc 20 240 [17, 18, 19], zm 8 20]
 .ret)))
theorem ic239_eq : cF Tryz.prog Tryz.f239 = some ic239 := by kernel_rfl
def ic240 : IC := (zq [zo 6 (.mov (.c (.l w5)))]
 (zy (zq [zm 8 0, zm 9 1, zc 10 160 [8, 9], zm 7 10]
 (zq [zm 11 7, zo 12 (.eq .p true 11 w2)]
 (.cond 12
 (zq [zm 13 7, zm 14 2, zc 15 241 [13, 14], zm 6 15]
 .ret)
 .skip)))
 (zq [zo 6 (.mov (.c (.l w5)))]
 .ret)))
theorem ic240_eq : cF Tryz.prog Tryz.f240 = some ic240 := by kernel_rfl
def ic241 : IC := (zq [zo 4 (.mov (.c (.l w5)))]
 (zq [zm 5 0, zn 6 5, zf 7 0 6, zm 8 1, zo 9 (.esc (.call { callee := .value (.func 242), args := #[(.tmp 7), (.tmp 8)], argTypes := #[201, 23] })), zm 4 9]
 .ret))
theorem ic241_eq : cF Tryz.prog Tryz.f241 = some ic241 := by kernel_rfl
def ic243 : IC := (zq [zo 8 (.alloc [w4, w6, w6, w6])]
 (zq [zo 9 (.alloc [w4, w6, w6, w6])]
 (zq [zm 11 1, wx 12 11 1, zo 13 (.conv .u32 12), zm 10 13]
 (.jn (zq [zm 14 0, zn 15 14, zf 16 0 15, zl 17 16, zm 18 1, zc 19 212 [17, 18]]
 (.blk 0 (zq [wr 21 19 1, zm 20 21]
 (.cond 20
 (zh [zm 22 0, zm 23 0, zn 24 23, zf 25 3 24, zl 26 25, zm 27 1, wz 28 2 26 27, zm 29 10, zm 30 2, zc 31 245 [22, 28, 29, 30], zs 4 9 31])
 (zq [wr 33 19 3, zm 32 33]
 (.cond 32
 (zh [zm 34 0, zm 35 0, zn 36 35, zf 37 3 36, zl 38 37, zm 39 1, wz 40 2 38 39, zm 41 10, zm 42 2, zc 43 246 [34, 40, 41, 42], zf 44 0 9, zs 1 44 43])
 (zq [wr 46 19 4, zm 45 46]
 (.cond 45
 (zq [zf 47 0 9, ⟨none, none, .sto 1 47 (zi 5)⟩]
 (zy (.draw [zm 48 0, zn 49 48, zf 50 1 49, zl 51 50, zm 52 2, zm 53 0, zm 54 10, zc 55 247 [53, 54], zc 56 220 [51, 52, 55], zo 57 (wk 56 (.c (.l w5)))] [[], [0], [1], [2], [], [], [], [5, 6], [3, 4, 7, 7], [8]])
 (.cond 57
 (zh [zf 58 0 9, ⟨none, none, .sto 1 58 (zi 4)⟩])
 .skip)))
 .skip))))))))
 (.jn (zy (.draw [zm 59 0, zn 60 59, zf 61 0 60, zl 62 61, zm 63 1, zf 64 0 9, zl 65 64, zc 66 221 [62, 63, 65]] [[], [0], [1], [2], [], [], [5], [3, 4, 6]])
 (.cond 66
 (zh [zm 67 0, zn 68 67, zf 69 3 68, zl 70 69, zm 71 1, zo 72 (.bld [w4, w5] []), wz 73 2 70 71, zs 2 73 72])
 .skip))
 (zq [zo 74 (.lda 4 9), zs 4 8 74]
 .ret))))))
theorem ic243_eq : cF Tryz.prog Tryz.f243 = some ic243 := by kernel_rfl
def ic244 : IC := (zh [zm 4 0, zm 5 1, zn 6 4, zf 7 1 6, zs 1 7 5])
theorem ic244_eq : cF Tryz.prog Tryz.f244 = some ic244 := by kernel_rfl
def ic245 : IC := (zq [zo 8 (.alloc [w4, w6, w6, w6])]
 (zq [zm 10 1, zn 11 10, zf 12 0 11, zl 13 12, zm 9 13]
 (zq [zm 14 1, zm 15 9, wx 16 15 1, zo 17 (.mn .i64 16 (zi 4)), zn 18 14, zf 19 0 18, zs 1 19 17]
 (.jn (zq [zm 20 9]
 (.blk 0 (zq [wr 22 20 0, zm 21 22]
 (.cond 21
 (.draw [zm 23 0, zn 24 23, zf 25 1 24, zl 26 25, zm 27 3, zm 28 0, zm 29 2, zc 30 247 [28, 29], zo 31 (.call 219 [26, 27, 30, (.c (.l w5))])] [[], [0], [1], [2], [], [], [], [5, 6], [3, 4, 7, 7]])
 (zq [wr 33 20 1, zm 32 33]
 (.cond 32
 (zy (.draw [zm 34 1, zm 35 0, zn 36 35, zf 37 1 36, zl 38 37, zm 39 3, zm 40 0, zn 41 40, zf 42 2 41, zl 43 42, zm 44 2, zc 45 239 [38, 39, 43, 44], zn 46 34, zf 47 1 46, zs 1 47 45] [[], [], [1], [2], [3], [], [], [6], [7], [8], [], [4, 5, 9, 10], [0, 0, 1, 2, 3, 4, 5, 6, 7, 8, 9, 10, 11], [12, 0, 1, 2, 3, 4, 5, 6, 7, 8, 9, 10, 11], [13, 11, 11, 0, 1, 2, 3, 4, 5, 6, 7, 8, 9, 10, 11]])
 (zy (zq [zm 48 1, zn 49 48, zf 50 1 49, zl 51 50, zo 52 (wk 51 (.c (.l w5)))]
 (.cond 52
 (zq [zo 53 (.bld [w4, w6, w6, w6] [(0, 1, (zi 1)), (1, 1, w1)]), zs 4 8 53]
 .ret)
 .skip))
 (zq [zo 54 (.bld [w4, w6, w6, w6] [(1, 1, w1)]), zs 4 8 54]
 .ret)))
 (zq [wr 56 20 2, zm 55 56]
 (.cond 55
 (.draw [zm 57 0, zn 58 57, zf 59 1 58, zl 60 59, zm 61 3, zm 62 0, zm 63 2, zc 64 247 [62, 63], wx 65 64 1, zo 66 (.call 219 [60, 61, 65, (.c (.l (.v (.int .u32 1))))])] [[], [0], [1], [2], [], [], [], [5, 6], [7], [3, 4, 8, 7]])
 (zq [wr 68 20 3, zm 67 68]
 (.cond 67
 (.draw [zm 69 0, zn 70 69, zf 71 1 70, zl 72 71, zm 73 3, zm 74 0, zm 75 1, zn 76 75, zf 77 1 76, zl 78 77, zc 79 247 [74, 78], zm 80 2, zc 81 219 [72, 73, 79, 80]] [[], [0], [1], [2], [], [], [], [6], [7], [8], [5, 9], [], [3, 4, 10, 11, 10]])
 (zq [wr 83 20 4, zm 82 83]
 (.cond 82
 (zy (.draw [zm 84 0, zn 85 84, zf 86 1 85, zl 87 86, zm 88 3, zm 89 0, zm 90 2, zc 91 247 [89, 90], wx 92 91 1, zc 93 220 [87, 88, 92], zo 94 (wk 93 (.c (.l w5)))] [[], [0], [1], [2], [], [], [], [5, 6], [7], [3, 4, 8, 7], [9]])
 (.cond 94
 (zq [zo 95 (.bld [w4, w6, w6, w6] [(0, 1, (zi 1))]), zs 4 8 95]
 .ret)
 .skip))
 .skip))))))))))))
 (zq [zo 96 (.bld [w4, w6, w6, w6] []), zs 4 8 96]
 .ret)))))
theorem ic245_eq : cF Tryz.prog Tryz.f245 = some ic245 := by kernel_rfl
def ic246 : IC := (zq [zo 8 (.mov (zi 0))]
 (zy (zq [zm 9 1, zn 10 9, zf 11 0 10, zl 12 11]
 (.blk 0 (.jn (zq [wr 14 12 0, zm 13 14]
 (.cond 13
 .skip
 (zh [wr 15 12 2, zm 13 15])))
 (.cond 13
 (zy (.draw [zm 16 1, zm 17 0, zn 18 17, zf 19 1 18, zl 20 19, zm 21 3, zm 22 0, zm 23 2, zc 24 247 [22, 23], zc 25 220 [20, 21, 24], zn 26 16, zf 27 1 26, zs 1 27 25] [[], [], [1], [2], [3], [], [], [], [6, 7], [4, 5, 8, 8], [0, 0, 1, 2, 3, 4, 5, 6, 7, 8, 9], [10, 0, 1, 2, 3, 4, 5, 6, 7, 8, 9], [11, 9, 9, 0, 1, 2, 3, 4, 5, 6, 7, 8, 9]])
 (.jn (.blk 1 (zq [zm 29 1, zn 30 29, zf 31 1 30, zl 32 31, zo 33 (.cmp .neq .u32 32 (.c (.l w5))), zm 28 33]
 (.cond 28
 (zh [zm 34 1, zn 35 34, zf 36 0 35, ⟨none, none, .sto 1 36 (zi 3)⟩])
 (zq [zm 38 1, zn 39 38, zf 40 0 39, zl 41 40, wr 42 41 0, zm 37 42]
 (.cond 37
 (zh [zm 43 1, zn 44 43, zf 45 0 44, ⟨none, none, .sto 1 45 (zi 1)⟩])
 .skip)))))
 (zq [zo 8 (.mov (zi 0))]
 .ret)))
 (zq [wr 47 12 1, zm 46 47]
 (.cond 46
 (zy (zy (.draw [zm 48 0, zn 49 48, zf 50 1 49, zl 51 50, zm 52 3, zm 53 0, zn 54 53, zf 55 2 54, zl 56 55, zm 57 2, zo 58 (.call 248 [51, 52, 56, 57, (.c (.l w5))])] [[], [0], [1], [2], [], [], [5], [6], [7], [], [3, 4, 8, 9]])
 (.cond 58
 (zq [zo 8 (.mov (zi 3))]
 .ret)
 .skip))
 (zq [zm 59 1, zn 60 59, zf 61 0 60, ⟨none, none, .sto 1 61 (zi 2)⟩]
 (zq [zo 8 (.mov (zi 0))]
 .ret)))
 .skip))))))
 (zy (.draw [zm 62 0, zn 63 62, zf 64 1 63, zl 65 64, zm 66 3, zm 67 0, zm 68 1, zn 69 68, zf 70 1 69, zl 71 70, zc 72 247 [67, 71], wx 73 72 1, zo 74 (.call 219 [65, 66, 73, (.c (.l w5))])] [[], [0], [1], [2], [], [], [], [6], [7], [8], [5, 9], [10], [3, 4, 11, 10]])
 (zq [zo 8 (.mov (zi 3))]
 .ret))))
theorem ic246_eq : cF Tryz.prog Tryz.f246 = some ic246 := by kernel_rfl
def ic247 : IC := (zq [zo 4 (.mov (zi 0))]
 (zq [zm 5 0, zn 6 5, zf 7 2 6, zl 8 7, zm 9 1, zo 10 (.conv .i64 9), zo 11 (.ar .mul .i64 (zi 2) 10), zo 12 (wi 8 11), zo 13 (wj 12 (zi 1)), zm 4 13]
 .ret))
theorem ic247_eq : cF Tryz.prog Tryz.f247 = some ic247 := by kernel_rfl
def ic248 : IC := (zq [wv 10 w0]
 (zq [zm 11 0, zm 12 1, zm 13 2, zo 14 (.call 223 [11, 12, 13, w1]), zm 15 14, wa 16 15 0, wc 17 15 (.nck 16), wc 18 15 (.fa 0 17), wc 19 15 (.ld 18), wa 20 15 2, wa 21 15 3, wa 22 15 4, wc 23 15 (.call 249 [19, 20, 21, 22]), wp 24 15 23 w0, zm 10 24]
 .ret))
theorem ic248_eq : cF Tryz.prog Tryz.f248 = some ic248 := by kernel_rfl
def ic249 : IC := (zq [wv 8 w0]
 (zq [zm 10 0, zm 11 1, zc 12 160 [10, 11], zm 9 12]
 (zq [zm 13 9, zo 14 (.eq .p true 13 w2), zm 15 14, wa 16 15 9, wa 17 15 2, wa 18 15 3, wc 19 15 (.call 250 [16, 17, 18]), wp 20 15 19 w0, zm 8 20]
 .ret)))
theorem ic249_eq : cF Tryz.prog Tryz.f249 = some ic249 := by kernel_rfl
def ic250 : IC := (zq [wv 6 w0]
 (zq [zm 7 0, zn 8 7, zf 9 0 8, zm 10 1, zm 11 2, zo 12 (.esc (.call { callee := .value (.func 251), args := #[(.tmp 9), (.tmp 10), (.tmp 11)], argTypes := #[201, 23, 23] })), zm 6 12]
 .ret))
theorem ic250_eq : cF Tryz.prog Tryz.f250 = some ic250 := by kernel_rfl
def ic252 : IC := (zq [zo 8 (.alloc [w4, w6, w6, w6])]
 (zq [zo 9 (.alloc [w4, w6, w6, w6])]
 (.jn (zq [zm 11 0, zn 12 11, zf 13 0 12, zl 14 13, zm 15 1, zc 16 212 [14, 15]]
 (.blk 0 (zq [wr 18 16 1, zm 17 18]
 (.cond 17
 (zq [zm 19 0, zn 20 19, zf 21 0 20, zl 22 21, zm 23 1, zc 24 254 [22, 23], zo 25 (wh 24 (zi 0)), zm 26 25, wa 27 26 3, wa 28 26 0, wc 29 26 (.nck 28), wc 30 26 (.fa 0 29), wc 31 26 (.ld 30), wa 32 26 1, wc 33 26 (.call 254 [31, 32]), wc 34 26 (wh 27 33), wp 35 26 34 w0, zm 10 35]
 (.draw [zm 36 0, zm 37 0, zn 38 37, zf 39 4 38, zl 40 39, zm 41 1, wz 42 4 40 41, zm 43 0, zn 44 43, zf 45 2 44, zl 46 45, zm 47 1, zc 48 256 [46, 47], zm 49 2, zm 50 10, zc 51 255 [36, 42, 48, 49, 50], zs 4 9 51] [[], [], [1], [2], [3], [], [4, 5], [], [7], [8], [9], [], [10, 11], [], [], [0, 6, 12, 13, 14, 12], [15, 15, 0, 1, 2, 3, 4, 5, 6, 7, 8, 9, 10, 11, 12, 13, 14, 15]]))
 (zq [wr 53 16 3, zm 52 53]
 (.cond 52
 (zh [zm 54 0, zm 55 0, zn 56 55, zf 57 4 56, zl 58 57, zm 59 1, wz 60 4 58 59, zm 61 2, zc 62 257 [54, 60, 61], zf 63 0 9, zs 1 63 62])
 .skip))))))
 (.jn (zy (.draw [zm 64 0, zn 65 64, zf 66 0 65, zl 67 66, zm 68 1, zf 69 0 9, zl 70 69, zc 71 221 [67, 68, 70]] [[], [0], [1], [2], [], [], [5], [3, 4, 6]])
 (.cond 71
 (.draw [zm 72 0, zn 73 72, zf 74 4 73, zl 75 74, zm 76 1, zm 77 0, zn 78 77, zf 79 4 78, zl 80 79, zm 81 1, wz 82 4 80 81, zf 83 2 82, zl 84 83, zo 85 (.bld [w4, w4, w4, w4] [(2, 1, 84)]), wz 86 4 75 76, zs 4 86 85] [[], [0], [1], [2], [], [], [5], [6], [7], [], [8, 9], [10], [11], [12], [3, 4, 0, 1, 2, 3, 4, 5, 6, 7, 8, 9, 10, 11, 12, 13], [14, 13, 0, 1, 2, 3, 4, 5, 6, 7, 8, 9, 10, 11, 12, 13]])
 .skip))
 (zq [zo 87 (.lda 4 9), zs 4 8 87]
 .ret)))))
theorem ic252_eq : cF Tryz.prog Tryz.f252 = some ic252 := by kernel_rfl
def ic253 : IC := (zh [zm 4 0, zm 5 1, zn 6 4, zf 7 1 6, zs 1 7 5])
theorem ic253_eq : cF Tryz.prog Tryz.f253 = some ic253 := by kernel_rfl
def ic254 : IC := (zq [zo 4 (.mov (zi 0))]
 (zy (zq [zm 5 0, zm 6 1, zc 7 216 [5, 6], zo 8 (.not 7)]
 (.cond 8
 (zq [zo 4 (.mov (.c (.l (.v (.int .i64 (-1))))))]
 .ret)
 .skip))
 (zq [zm 9 0, zn 10 9, zf 11 0 10, zl 12 11, zm 13 1, wz 14 2 12 13, zf 15 1 14, zl 16 15, zm 4 16]
 .ret)))
theorem ic254_eq : cF Tryz.prog Tryz.f254 = some ic254 := by kernel_rfl
def ic255 : IC := (zq [zo 10 (.alloc [w4, w6, w6, w6])]
 (zq [zm 12 0, zm 13 1, zn 14 13, zf 15 2 14, zl 16 15, zc 17 258 [12, 16], zm 11 17]
 (.jn (zq [zm 18 1, zn 19 18, zf 20 0 19, zl 21 20]
 (.blk 0 (zq [wr 23 21 0, zm 22 23]
 (.cond 22
 (zq [zm 24 0, zm 25 1, zm 26 2, zm 27 3, zc 28 259 [24, 25, 26, 27], zs 4 10 28]
 .ret)
 (zq [wr 30 21 1, zm 29 30]
 (.cond 29
 (zh [zm 31 0, zn 32 31, zf 33 1 32, zl 34 33, zm 35 3, zm 36 11, wx 37 36 2, zo 38 (.call 219 [34, 35, 37, (.c (.l (.v (.int .u32 1))))])])
 (zq [wr 40 21 2, zm 39 40]
 (.cond 39
 (zh [zm 41 0, zn 42 41, zf 43 1 42, zl 44 43, zm 45 3, zm 46 11, zo 47 (.call 219 [44, 45, 46, (.c (.l w5))])])
 (zq [wr 49 21 3, zm 48 49]
 (.cond 48
 (zh [zm 50 0, zn 51 50, zf 52 1 51, zl 53 52, zm 54 3, zm 55 11, wx 56 55 1, zo 57 (.call 219 [53, 54, 56, (.c (.l w5))])])
 (zq [wr 59 21 4, zm 58 59]
 (.cond 58
 (zy (.draw [zm 60 1, zm 61 0, zn 62 61, zf 63 1 62, zl 64 63, zm 65 3, zm 66 0, zn 67 66, zf 68 3 67, zl 69 68, zm 70 1, zn 71 70, zf 72 2 71, zl 73 72, zo 74 (.conv .u32 73), zc 75 239 [64, 65, 69, 74], zo 76 (.conv .i64 75), zn 77 60, zf 78 3 77, zs 1 78 76] [[], [], [1], [2], [3], [], [], [6], [7], [8], [], [10], [11], [12], [13], [4, 5, 9, 14], [15], [0, 0, 1, 2, 3, 4, 5, 6, 7, 8, 9, 10, 11, 12, 13, 14, 15, 16], [17, 0, 1, 2, 3, 4, 5, 6, 7, 8, 9, 10, 11, 12, 13, 14, 15, 16], [18, 16, 15, 0, 1, 2, 3, 4, 5, 6, 7, 8, 9, 10, 11, 12, 13, 14, 15, 16]])
 (zy (zq [zm 79 1, zn 80 79, zf 81 3 80, zl 82 81, wr 83 82 0]
 (.cond 83
 (zq [zo 84 (.bld [w4, w6, w6, w6] [(0, 1, (zi 1)), (1, 1, w1)]), zs 4 10 84]
 .ret)
 .skip))
 (zq [zm 85 1, zn 86 85, zf 87 0 86, ⟨none, none, .sto 1 87 (zi 5)⟩]
 (zq [zo 88 (.bld [w4, w6, w6, w6] [(1, 1, w1)]), zs 4 10 88]
 .ret))))
 (zq [wr 90 21 5, zm 89 90]
 (.cond 89
 (.draw [zm 91 0, zn 92 91, zf 93 1 92, zl 94 93, zm 95 3, zm 96 0, zm 97 1, zn 98 97, zf 99 3 98, zl 100 99, zc 101 258 [96, 100], wx 102 101 1, zm 103 1, zn 104 103, zf 105 2 104, zl 106 105, zo 107 (.conv .u32 106), zc 108 219 [94, 95, 102, 107]] [[], [0], [1], [2], [], [], [], [6], [7], [8], [5, 9], [10], [], [12], [13], [14], [15], [3, 4, 11, 16, 10]])
 (zq [wr 110 21 6, zm 109 110]
 (.cond 109
 (zy (zq [zm 111 0, zn 112 111, zf 113 1 112, zl 114 113, zm 115 3, zm 116 11, zc 117 220 [114, 115, 116], zo 118 (.cmp .neq .u32 117 (.c (.l w5)))]
 (.cond 118
 (zq [zo 119 (.bld [w4, w6, w6, w6] [(0, 1, (zi 1))]), zs 4 10 119]
 .ret)
 .skip))
 (zq [zm 120 4, zo 121 (.not 120)]
 (.cond 121
 (zq [zo 122 (.bld [w4, w6, w6, w6] []), zs 4 10 122]
 .ret)
 .skip)))
 (zq [wr 124 21 7, zm 123 124]
 (.cond 123
 (zy (zq [zm 125 0, zn 126 125, zf 127 1 126, zl 128 127, zm 129 3, zm 130 11, zo 131 (.call 248 [128, 129, 130, (.c (.l w5)), (.c (.l (.v (.int .u32 2))))])]
 (.cond 131
 (zq [zo 132 (.bld [w4, w6, w6, w6] [(0, 1, (zi 2))]), zs 4 10 132]
 .ret)
 .skip))
 (zq [zo 133 (.bld [w4, w6, w6, w6] [(0, 1, (zi 1))]), zs 4 10 133]
 .ret))
 .skip))))))))))))))))))
 (zq [zm 134 1, zn 135 134, zf 136 0 135, zl 137 136, wx 138 137 1, zn 139 134, zf 140 0 139, zs 1 140 138]
 (zq [zo 141 (.bld [w4, w6, w6, w6] []), zs 4 10 141]
 .ret)))))
theorem ic255_eq : cF Tryz.prog Tryz.f255 = some ic255 := by kernel_rfl
def ic256 : IC := (zq [zo 4 (.mov (.c (.l w7)))]
 (zy (zq [zm 5 1, zo 6 (wg 5 (zi 0)), zm 7 6, wb 8 7 1, wb 9 7 0, wd 10 7 (.nck 9), wd 11 7 (.fa 0 10), wd 12 7 (.ld 11), wd 13 7 (.len 12), wd 14 7 (wh 8 13), wp 15 7 w1 14]
 (.cond 15
 (zq [zo 4 (.mov (.c (.l w7)))]
 .ret)
 .skip))
 (zq [zm 16 0, zn 17 16, zf 18 0 17, zl 19 18, zm 20 1, wz 21 1 19 20, zl 22 21, zc 23 159 [22], zm 4 23]
 .ret)))
theorem ic256_eq : cF Tryz.prog Tryz.f256 = some ic256 := by kernel_rfl
def ic257 : IC := (zq [zo 6 (.mov (zi 0))]
 (zq [zm 8 0, zm 9 1, zn 10 9, zf 11 2 10, zl 12 11, zc 13 258 [8, 12], zm 7 13]
 (.jn (zq [zm 14 1, zn 15 14, zf 16 0 15, zl 17 16]
 (.blk 0 (.jn (zq [wr 19 17 0, zm 18 19]
 (.cond 18
 .skip
 (zh [wr 20 17 2, zm 18 20])))
 (.cond 18
 (zq [zm 21 1, zm 22 0, zn 23 22, zf 24 1 23, zl 25 24, zm 26 2, zm 27 7, wx 28 27 1, zc 29 220 [25, 26, 28], zo 30 (.conv .i64 29), zn 31 21, zf 32 3 31, zs 1 32 30]
 (.blk 1 (zq [zm 34 1, zn 35 34, zf 36 3 35, zl 37 36, zo 38 (wf 37 (zi 0)), zm 33 38]
 (.cond 33
 (zh [zm 39 1, zn 40 39, zf 41 0 40, ⟨none, none, .sto 1 41 (zi 3)⟩])
 (zq [zm 43 1, zn 44 43, zf 45 0 44, zl 46 45, wr 47 46 0, zm 42 47]
 (.cond 42
 (zh [zm 48 1, zn 49 48, zf 50 0 49, ⟨none, none, .sto 1 50 (zi 1)⟩])
 .skip))))))
 (zq [wr 52 17 1, zm 51 52]
 (.cond 51
 (zq [zm 53 1, zn 54 53, zf 55 0 54, ⟨none, none, .sto 1 55 (zi 2)⟩]
 (zy (.draw [zm 56 0, zn 57 56, zf 58 1 57, zl 59 58, zm 60 2, zm 61 0, zn 62 61, zf 63 3 62, zl 64 63, zm 65 1, zn 66 65, zf 67 2 66, zl 68 67, zo 69 (.conv .u32 68), zo 70 (.call 248 [59, 60, 64, 69, (.c (.l w5))])] [[], [0], [1], [2], [], [], [5], [6], [7], [], [9], [10], [11], [12], [3, 4, 8, 13]])
 (.cond 70
 (zh [zm 71 1, zn 72 71, zf 73 0 72, ⟨none, none, .sto 1 73 (zi 5)⟩])
 .skip)))
 (zq [wr 75 17 3, zm 74 75]
 (.cond 74
 (zq [zm 76 1, zn 77 76, zf 78 0 77, ⟨none, none, .sto 1 78 (zi 4)⟩]
 (zy (.draw [zm 79 0, zn 80 79, zf 81 1 80, zl 82 81, zm 83 2, zm 84 0, zm 85 1, zn 86 85, zf 87 3 86, zl 88 87, zc 89 258 [84, 88], zo 90 (.call 248 [82, 83, 89, (.c (.l w5)), (.c (.l (.v (.int .u32 1))))])] [[], [0], [1], [2], [], [], [], [6], [7], [8], [5, 9], [3, 4, 10, 10]])
 (.cond 90
 (zh [zm 91 1, zn 92 91, zf 93 0 92, ⟨none, none, .sto 1 93 (zi 5)⟩])
 .skip)))
 (zq [wr 95 17 4, zm 94 95]
 (.cond 94
 (zq [zm 96 0, zn 97 96, zf 98 1 97, zl 99 98, zm 100 2, zm 101 7, wx 102 101 2, zo 103 (.call 219 [99, 100, 102, (.c (.l w5))])]
 (zh [zm 104 1, zm 105 1, zn 106 105, zf 107 3 106, zl 108 107, zo 109 (.bld [w4, w4, w4, w4] [(0, 1, (zi 0)), (2, 1, 108)]), zn 110 104, zs 4 110 109]))
 (zq [wr 112 17 5, zm 111 112]
 (.cond 111
 (zq [zm 113 0, zn 114 113, zf 115 1 114, zl 116 115, zm 117 2, zm 118 7, wx 119 118 2, zo 120 (.call 219 [116, 117, 119, (.c (.l w5))])]
 (zq [zo 6 (.mov (zi 3))]
 .ret))
 .skip))))))))))))
 (zq [zo 6 (.mov (zi 0))]
 .ret))))
theorem ic257_eq : cF Tryz.prog Tryz.f257 = some ic257 := by kernel_rfl
def ic258 : IC := (zq [zo 4 (.mov (zi 0))]
 (zq [zm 5 0, zn 6 5, zf 7 3 6, zl 8 7, zm 9 1, zo 10 (.ar .mul .i64 (zi 3) 9), zo 11 (wi 8 10), zo 12 (wj 11 (zi 2)), zm 4 12]
 .ret))
theorem ic258_eq : cF Tryz.prog Tryz.f258 = some ic258 := by kernel_rfl
def ic259 : IC := (zq [zo 8 (.alloc [w4, w6, w6, w6])]
 (zq [zm 9 1, zm 10 2, zm 11 1, zn 12 11, zf 13 1 12, zl 14 13, wz 15 1 10 14, zl 16 15, zn 17 9, zf 18 2 17, zs 1 18 16]
 (zq [zm 19 1, zn 20 19, zf 21 1 20, zl 22 21, wx 23 22 1, zn 24 19, zf 25 1 24, zs 1 25 23]
 (.jn (zy (.draw [zm 26 0, zn 27 26, zf 28 1 27, zl 29 28, zm 30 3, zm 31 0, zm 32 1, zn 33 32, zf 34 2 33, zl 35 34, zc 36 258 [31, 35], wx 37 36 2, zc 38 220 [29, 30, 37], zo 39 (wk 38 (.c (.l w5)))] [[], [0], [1], [2], [], [], [], [6], [7], [8], [5, 9], [10], [3, 4, 11, 10], [12]])
 (.cond 39
 (zh [zm 40 1, zn 41 40, zf 42 0 41, ⟨none, none, .sto 1 42 (zi 1)⟩])
 (zq [zm 43 1, zn 44 43, zf 45 1 44, zl 46 45, zm 47 2, zo 48 (.len 47), wq 49 46 48]
 (.cond 49
 (zq [zo 50 (.bld [w4, w6, w6, w6] [(0, 1, (zi 6))]), zs 4 8 50]
 .ret)
 .skip))))
 (zq [zo 51 (.bld [w4, w6, w6, w6] []), zs 4 8 51]
 .ret)))))
theorem ic259_eq : cF Tryz.prog Tryz.f259 = some ic259 := by kernel_rfl
def ic260 : IC := (zq [zo 8 (.alloc [w4, w6, w6, w6])]
 (zq [zo 9 (.alloc [w4, w6, w6, w6])]
 (.jn (zq [zm 10 0, zn 11 10, zf 12 0 11, zl 13 12, zm 14 1, zc 15 212 [13, 14]]
 (.blk 0 (zq [wr 17 15 1, zm 16 17]
 (.cond 16
 (zh [zm 18 0, zm 19 0, zn 20 19, zf 21 3 20, zl 22 21, zm 23 1, wz 24 6 22 23, zm 25 2, zc 26 262 [18, 24, 25], zs 4 9 26])
 (zq [wr 28 15 3, zm 27 28]
 (.cond 27
 (zh [zm 29 0, zm 30 0, zn 31 30, zf 32 3 31, zl 33 32, zm 34 1, wz 35 6 33 34, zm 36 2, zc 37 263 [29, 35, 36], zf 38 0 9, zs 1 38 37])
 .skip))))))
 (zy (.draw [zm 39 0, zn 40 39, zf 41 0 40, zl 42 41, zm 43 1, zf 44 0 9, zl 45 44, zc 46 221 [42, 43, 45]] [[], [0], [1], [2], [], [], [5], [3, 4, 6]])
 (zq [zo 47 (.lda 4 9), zs 4 8 47]
 .ret)))))
theorem ic260_eq : cF Tryz.prog Tryz.f260 = some ic260 := by kernel_rfl
def ic262 : IC := (zq [zo 6 (.alloc [w4, w6, w6, w6])]
 (zy (.draw [zm 9 0, zn 10 9, zf 11 2 10, zl 12 11, wx 13 12 1, zm 14 1, zn 15 14, zf 16 0 15, zl 17 16, zo 18 (wi 13 17), zm 7 18] [[], [0], [1], [2], [3], [], [5], [6], [7], [4, 8], [9, 0, 1, 2, 3, 4, 5, 6, 7, 8, 9]])
 (.jn (zq [zm 19 1, zn 20 19, zf 21 5 20, zl 22 21]
 (.blk 0 (zq [wr 24 22 0, zm 23 24]
 (.cond 23
 (zy (.draw [zm 25 0, zn 26 25, zf 27 1 26, zl 28 27, zm 29 2, zm 30 0, zm 31 1, zn 32 31, zf 33 1 32, zl 34 33, zc 35 264 [30, 34], zm 36 1, zn 37 36, zf 38 0 37, zl 39 38, zo 40 (.call 140 [39, w1, w0]), zc 41 219 [28, 29, 35, 40]] [[], [0], [1], [2], [], [], [], [6], [7], [8], [5, 9], [], [11], [12], [13], [14, 10], [3, 4, 10, 15, 15]])
 (zh [zm 42 1, zn 43 42, zf 44 5 43, ⟨none, none, .sto 1 44 (zi 1)⟩]))
 (zq [wr 46 22 1, zm 45 46]
 (.cond 45
 (zy (.draw [zm 47 1, zm 48 0, zn 49 48, zf 50 1 49, zl 51 50, zm 52 2, zm 53 7, zm 54 1, zn 55 54, zf 56 1 55, zl 57 56, zo 58 (.conv .u32 57), zc 59 239 [51, 52, 53, 58], zo 60 (.conv .i64 59), zn 61 47, zf 62 2 61, zs 1 62 60] [[], [], [1], [2], [3], [], [], [], [7], [8], [9], [10], [4, 5, 6, 11], [12], [0, 0, 1, 2, 3, 4, 5, 6, 7, 8, 9, 10, 11, 12, 13], [14, 0, 1, 2, 3, 4, 5, 6, 7, 8, 9, 10, 11, 12, 13], [15, 13, 12, 0, 1, 2, 3, 4, 5, 6, 7, 8, 9, 10, 11, 12, 13]])
 (.jn (zq [zm 63 1, zn 64 63, zf 65 5 64, ⟨none, none, .sto 1 65 (zi 2)⟩]
 (zq [zm 66 1, zn 67 66, zf 68 2 67, zl 69 68, wr 70 69 0]
 (.cond 70
 (zh [zm 71 1, zn 72 71, zf 73 5 72, ⟨none, none, .sto 1 73 (zi 3)⟩])
 .skip)))
 (zq [zo 74 (.bld [w4, w6, w6, w6] [(1, 1, w1)]), zs 4 6 74]
 .ret)))
 (zq [wr 76 22 2, zm 75 76]
 (.cond 75
 (zy (.draw [zm 77 0, zn 78 77, zf 79 1 78, zl 80 79, zm 81 2, zm 82 0, zm 83 1, zn 84 83, zf 85 2 84, zl 86 85, zc 87 264 [82, 86], zc 88 220 [80, 81, 87], zm 8 88] [[], [0], [1], [2], [], [], [], [6], [7], [8], [5, 9], [3, 4, 10, 10], [11, 11, 0, 1, 2, 3, 4, 5, 6, 7, 8, 9, 10, 11]])
 (.blk 1 (zy (.draw [zm 90 8, zc 91 265 [90], zm 92 1, zn 93 92, zf 94 0 93, zl 95 94, zo 96 (wf 91 95), zm 97 96, wb 98 97 8, wd 99 97 (.call 266 [98]), wp 100 97 w1 99, zm 89 100] [[], [0], [], [2], [3], [4], [1, 5], [6, 1], [7], [8, 7, 7], [7, 9], [10, 9]])
 (.cond 89
 (zh [zm 101 1, zn 102 101, zf 103 5 102, ⟨none, none, .sto 1 103 (zi 3)⟩])
 (zq [zm 105 8, zc 106 267 [105], zo 107 (.not 106), zm 104 107]
 (.cond 104
 (zq [zm 108 1, zo 109 (.call 268 [108, w0]), zs 4 6 109]
 .ret)
 .skip))))))
 (zq [wr 111 22 3, zm 110 111]
 (.cond 110
 (zq [zm 112 1, zm 113 0, zn 114 113, zf 115 1 114, zl 116 115, zm 117 2, zm 118 7, zc 119 220 [116, 117, 118], zo 120 (.conv .i64 119), zn 121 112, zf 122 3 121, zs 1 122 120]
 (zh [zm 123 1, zn 124 123, zf 125 5 124, ⟨none, none, .sto 1 125 (zi 4)⟩]))
 (zq [wr 127 22 4, zm 126 127]
 (.cond 126
 (zy (.draw [zm 128 1, zm 129 0, zn 130 129, zf 131 1 130, zl 132 131, zm 133 2, zm 134 0, zn 135 134, zf 136 2 135, zl 137 136, zm 138 1, zn 139 138, zf 140 3 139, zl 141 140, zo 142 (.conv .u32 141), zc 143 239 [132, 133, 137, 142], zo 144 (.conv .i64 143), zn 145 128, zf 146 2 145, zs 1 146 144] [[], [], [1], [2], [3], [], [], [6], [7], [8], [], [10], [11], [12], [13], [4, 5, 9, 14], [15], [0, 0, 1, 2, 3, 4, 5, 6, 7, 8, 9, 10, 11, 12, 13, 14, 15, 16], [17, 0, 1, 2, 3, 4, 5, 6, 7, 8, 9, 10, 11, 12, 13, 14, 15, 16], [18, 16, 15, 0, 1, 2, 3, 4, 5, 6, 7, 8, 9, 10, 11, 12, 13, 14, 15, 16]])
 (zq [zm 147 1, zn 148 147, zf 149 5 148, ⟨none, none, .sto 1 149 (zi 5)⟩]
 (zq [zo 150 (.bld [w4, w6, w6, w6] [(2, 1, w1)]), zs 4 6 150]
 .ret)))
 (zq [wr 152 22 5, zm 151 152]
 (.cond 151
 (zy (.draw [zm 153 1, zm 154 0, zn 155 154, zf 156 1 155, zl 157 156, zm 158 2, zm 159 0, zm 160 1, zn 161 160, zf 162 3 161, zl 163 162, zc 164 264 [159, 163], zc 165 220 [157, 158, 164], zn 166 153, zf 167 4 166, zs 1 167 165] [[], [], [1], [2], [3], [], [], [], [7], [8], [9], [6, 10], [4, 5, 11, 11], [0, 0, 1, 2, 3, 4, 5, 6, 7, 8, 9, 10, 11, 12], [13, 0, 1, 2, 3, 4, 5, 6, 7, 8, 9, 10, 11, 12], [14, 12, 12, 0, 1, 2, 3, 4, 5, 6, 7, 8, 9, 10, 11, 12]])
 (zh [zm 168 1, zn 169 168, zf 170 5 169, ⟨none, none, .sto 1 170 (zi 6)⟩]))
 (zq [wr 172 22 6, zm 171 172]
 (.cond 171
 (zq [zm 173 1, zn 174 173, zf 175 5 174, ⟨none, none, .sto 1 175 (zi 5)⟩]
 (zy (.draw [zm 176 0, zn 177 176, zf 178 1 177, zl 179 178, zm 180 2, zm 181 0, zm 182 1, zn 183 182, zf 184 3 183, zl 185 184, zc 186 264 [181, 185], zm 187 1, zn 188 187, zf 189 4 188, zl 190 189, zm 191 1, zn 192 191, zf 193 4 192, zl 194 193, zc 195 269 [194], zc 196 248 [179, 180, 186, 190, 195]] [[], [0], [1], [2], [], [], [], [6], [7], [8], [5, 9], [], [11], [12], [13], [], [15], [16], [17], [18, 10], [3, 4, 10, 14, 19, 19]])
 (.cond 196
 (zh [zm 197 1, zn 198 197, zf 199 5 198, ⟨none, none, .sto 1 199 (zi 7)⟩])
 .skip)))
 (zq [wr 201 22 7, zm 200 201]
 (.cond 200
 (zy (.draw [zm 202 0, zn 203 202, zf 204 1 203, zl 205 204, zm 206 2, zm 207 0, zm 208 1, zn 209 208, zf 210 2 209, zl 211 210, zc 212 264 [207, 211], zc 213 220 [205, 206, 212], zc 214 267 [213], zo 215 (.not 214)] [[], [0], [1], [2], [], [], [], [6], [7], [8], [5, 9], [3, 4, 10, 10], [11, 11], [12]])
 (.cond 215
 (zq [zm 216 1, zo 217 (.call 268 [216, w1]), zs 4 6 217]
 .ret)
 .skip))
 .skip))))))))))))))))))
 (zq [zo 218 (.bld [w4, w6, w6, w6] []), zs 4 6 218]
 .ret))))
theorem ic262_eq : cF Tryz.prog Tryz.f262 = some ic262 := by kernel_rfl
def ic263 : IC := (zq [zo 6 (.mov (zi 0))]
 (zy (zq [zm 7 1, zn 8 7, zf 9 5 8, zl 10 9, wr 11 10 0]
 (.cond 11
 (zy (.draw [zm 12 1, zm 13 1, zm 14 0, zn 15 14, zf 16 1 15, zl 17 16, zm 18 2, zm 19 0, zm 20 1, zn 21 20, zf 22 1 21, zl 23 22, zc 24 264 [19, 23], zc 25 220 [17, 18, 24], zn 26 12, zf 27 4 26, zs 1 27 25, zn 28 13, zf 29 5 28, ⟨none, none, .sto 1 29 (zi 1)⟩] [[], [], [], [2], [3], [4], [], [], [], [8], [9], [10], [7, 11], [5, 6, 12, 12], [0, 0, 2, 3, 4, 5, 6, 7, 8, 9, 10, 11, 12, 13], [14, 0, 2, 3, 4, 5, 6, 7, 8, 9, 10, 11, 12, 13], [15, 13, 13, 0, 2, 3, 4, 5, 6, 7, 8, 9, 10, 11, 12, 13], [1, 0, 1, 2, 3, 4, 5, 6, 7, 8, 9, 10, 11, 12, 13, 14, 15, 16], [17, 0, 1, 2, 3, 4, 5, 6, 7, 8, 9, 10, 11, 12, 13, 14, 15, 16], [18, 16, 0, 1, 2, 3, 4, 5, 6, 7, 8, 9, 10, 11, 12, 13, 14, 15, 16]])
 (zq [zo 6 (.mov (zi 0))]
 .ret))
 .skip))
 (zq [zm 30 1, zn 31 30, zf 32 5 31, ⟨none, none, .sto 1 32 (zi 0)⟩]
 (zy (zy (.draw [zm 33 0, zn 34 33, zf 35 1 34, zl 36 35, zm 37 2, zm 38 0, zm 39 1, zn 40 39, zf 41 1 40, zl 42 41, zc 43 264 [38, 42], zm 44 1, zn 45 44, zf 46 4 45, zl 47 46, zm 48 1, zn 49 48, zf 50 4 49, zl 51 50, zc 52 270 [51], zc 53 248 [36, 37, 43, 47, 52], zo 54 (.not 53)] [[], [0], [1], [2], [], [], [], [6], [7], [8], [5, 9], [], [11], [12], [13], [], [15], [16], [17], [18, 10], [3, 4, 10, 14, 19, 19], [20]])
 (.cond 54
 (zq [zo 6 (.mov (zi 0))]
 .ret)
 .skip))
 (zq [zm 55 1, zm 56 1, zn 57 56, zf 58 2 57, zl 59 58, zn 60 55, zf 61 1 60, zs 1 61 59]
 (zq [zo 6 (.mov (zi 3))]
 .ret))))))
theorem ic263_eq : cF Tryz.prog Tryz.f263 = some ic263 := by kernel_rfl
def ic264 : IC := (zq [zo 4 (.mov (zi 0))]
 (zq [zm 5 0, zn 6 5, zf 7 2 6, zl 8 7, wx 9 8 8, zm 10 1, zo 11 (wi 9 10), zm 4 11]
 .ret))
theorem ic264_eq : cF Tryz.prog Tryz.f264 = some ic264 := by kernel_rfl
def ic265 : IC := (zq [zo 2 (.mov (zi 0))]
 (zq [zm 3 0, zo 4 (.dv .quo .u32 3 (.c (.l (.v (.int .u32 4))))), zo 5 (.conv .i64 4), zm 2 5]
 .ret))
theorem ic265_eq : cF Tryz.prog Tryz.f265 = some ic265 := by kernel_rfl
def ic266 : IC := (zq [wv 2 w0]
 (zq [zm 3 0, zo 4 (.bt .and .u32 3 (.c (.l (.v (.int .u32 1))))), zo 5 (.cmp .neq .u32 4 (.c (.l w5))), zm 2 5]
 .ret))
theorem ic266_eq : cF Tryz.prog Tryz.f266 = some ic266 := by kernel_rfl
def ic267 : IC := (zq [wv 2 w0]
 (zq [zm 3 0, zo 4 (.bt .and .u32 3 (.c (.l (.v (.int .u32 2))))), zo 5 (.cmp .neq .u32 4 (.c (.l w5))), zm 2 5]
 .ret))
theorem ic267_eq : cF Tryz.prog Tryz.f267 = some ic267 := by kernel_rfl
def ic268 : IC := (zq [zo 4 (.alloc [w4, w6, w6, w6])]
 (zq [zm 5 0, zn 6 5, zf 7 5 6, ⟨none, none, .sto 1 7 (zi 0)⟩]
 (zq [zm 8 1, zo 9 (.bld [w4, w6, w6, w6] [(0, 1, (zi 1)), (3, 1, 8)]), zs 4 4 9]
 .ret)))
theorem ic268_eq : cF Tryz.prog Tryz.f268 = some ic268 := by kernel_rfl
def ic269 : IC := (zq [zo 2 (.mov (.c (.l w5)))]
 (zq [zm 3 0, zo 4 (.bt .or .u32 3 (.c (.l (.v (.int .u32 1))))), zm 2 4]
 .ret))
theorem ic269_eq : cF Tryz.prog Tryz.f269 = some ic269 := by kernel_rfl
def ic270 : IC := (zq [zo 2 (.mov (.c (.l w5)))]
 (zq [zm 3 0, zo 4 (.bt .andNot .u32 3 (.c (.l (.v (.int .u32 2))))), zm 2 4]
 .ret))
theorem ic270_eq : cF Tryz.prog Tryz.f270 = some ic270 := by kernel_rfl
def ic271 : IC := (zq [zo 8 (.alloc [w4, w6, w6, w6])]
 (zq [zm 12 0, zn 13 12, zf 14 0 13, zl 15 14, zm 16 1, zc 17 212 [15, 16], zm 9 17]
 (zy (zq [zm 18 9, zo 19 (wf 18 (zi 1)), zm 20 19, wa 21 20 9, wc 22 20 (wf 21 (zi 3)), wp 23 20 22 w0]
 (.cond 23
 (zq [zo 24 (.bld [w4, w6, w6, w6] []), zs 4 8 24]
 .ret)
 .skip))
 (zq [zm 25 0, zn 26 25, zf 27 13 26, zl 28 27, zm 29 1, wz 30 4 28 29, zm 10 30]
 (.jn (zq [zm 31 10, zn 32 31, zf 33 2 32, zl 34 33, zo 35 (.eq .f false 34 (.c (.l (.v .nilFunc))))]
 (.cond 35
 (zh [zm 36 0, zm 37 10, zm 38 9, zc 39 273 [36, 37, 38]])
 .skip))
 (zq [zm 40 10, zn 41 40, zf 42 2 41, zl 43 42, zm 44 0, zm 45 10, zm 46 2, zm 47 3, zo 48 (.callv 43 [44, 45, 46, 47]), zo 11 (.alloc [w4, w6, w6, w6]), zs 4 11 48]
 (.jn (zy (.draw [zm 49 0, zn 50 49, zf 51 0 50, zl 52 51, zm 53 1, zf 54 0 11, zl 55 54, zc 56 221 [52, 53, 55]] [[], [0], [1], [2], [], [], [5], [3, 4, 6]])
 (.cond 56
 (zh [zm 57 10, zn 58 57, zf 59 2 58, ⟨none, none, .sto 1 59 (.c (.l (.v .nilFunc)))⟩])
 .skip))
 (zq [zo 60 (.lda 4 11), zs 4 8 60]
 .ret))))))))
theorem ic271_eq : cF Tryz.prog Tryz.f271 = some ic271 := by kernel_rfl
def ic273 : IC := (zy (zq [zm 6 2, wr 7 6 3]
 (.cond 7
 (zq [zm 8 1, zn 9 8, zf 10 2 9, ⟨none, none, .sto 1 10 (.c (.l (.c 274 [])))⟩]
 .ret)
 .skip))
 (zy (.draw [zm 11 0, zm 12 1, zn 13 12, zf 14 0 13, zl 15 14, zn 16 11, zf 17 5 16, zo 18 (.ixa 1 8 17 15), zl 19 18, zm 20 1, zn 21 20, zf 22 1 21, zl 23 22, zn 24 19, zm 25 19, zo 26 (.inv 25 "Lock" [23, (.c (.l (.v (.int .i64 (-1)))))])] [[], [], [1], [2], [3], [0], [5], [6, 4], [7], [], [9], [10], [11], [8], [8, 13], [14, 12]])
 (zh [zm 27 1, zn 28 27, zf 29 2 28, ⟨none, none, .sto 1 29 (.c (.l (.c 275 [])))⟩])))
theorem ic273_eq : cF Tryz.prog Tryz.f273 = some ic273 := by kernel_rfl
def ic274 : IC := (zq [zo 8 (.alloc [w4, w6, w6, w6])]
 (zy (.draw [zm 9 1, zm 10 0, zn 11 10, zf 12 1 11, zl 13 12, zm 14 2, zm 15 0, zn 16 15, zf 17 2 16, zl 18 17, zm 19 1, zn 20 19, zf 21 0 20, zl 22 21, zo 23 (wi 18 22), zc 24 220 [13, 14, 23], zn 25 9, zf 26 3 25, zs 1 26 24] [[], [], [1], [2], [3], [], [], [6], [7], [8], [], [10], [11], [12], [9, 13], [4, 5, 14], [0, 0, 1, 2, 3, 4, 5, 6, 7, 8, 9, 10, 11, 12, 13, 14, 15], [16, 0, 1, 2, 3, 4, 5, 6, 7, 8, 9, 10, 11, 12, 13, 14, 15], [17, 15, 15, 0, 1, 2, 3, 4, 5, 6, 7, 8, 9, 10, 11, 12, 13, 14, 15]])
 (.jn (zq [zm 27 1, zn 28 27, zf 29 2 28, ⟨none, none, .sto 1 29 (.c (.l (.c 276 [])))⟩]
 (zy (.draw [zm 30 1, zn 31 30, zf 32 3 31, zl 33 32, zm 34 0, zn 35 34, zf 36 3 35, zl 37 36, zo 38 (.cmp .lss .u32 33 37)] [[], [0], [1], [2], [], [4], [5], [6], [3, 7]])
 (.cond 38
 (zy (.draw [zm 39 0, zm 40 1, zn 41 40, zf 42 0 41, zl 43 42, zn 44 39, zf 45 5 44, zo 46 (.ixa 1 8 45 43), zl 47 46, zm 48 1, zn 49 48, zf 50 1 49, zl 51 50, zn 52 47, zm 53 47, zo 54 (.inv 53 "Probe" [51])] [[], [], [1], [2], [3], [0], [5], [6, 4], [7], [], [9], [10], [11], [8], [8, 13], [14, 12]])
 (zh [zm 55 1, zn 56 55, zf 57 2 56, ⟨none, none, .sto 1 57 (.c (.l (.c 277 [])))⟩]))
 .skip)))
 (zq [zo 58 (.bld [w4, w6, w6, w6] []), zs 4 8 58]
 .ret))))
theorem ic274_eq : cF Tryz.prog Tryz.f274 = some ic274 := by kernel_rfl
def ic275 : IC := (zq [zo 8 (.alloc [w4, w6, w6, w6])]
 (zy (.draw [zm 10 0, zm 11 1, zn 12 11, zf 13 0 12, zl 14 13, zn 15 10, zf 16 5 15, zo 17 (.ixa 1 8 16 14), zl 18 17, zm 19 1, zn 20 19, zf 21 1 20, zl 22 21, zm 23 2, zm 24 3, zn 25 18, zm 26 18, zo 27 (.inv 26 "Step" [22, 23, 24]), zo 9 (.alloc [w4, w6, w6, w6]), zs 4 9 27] [[], [], [1], [2], [3], [0], [5], [6, 4], [7], [], [9], [10], [11], [], [], [8], [8, 15], [16, 12, 13, 14], [], [18, 17, 17, 0, 1, 2, 3, 4, 5, 6, 7, 8, 9, 10, 11, 12, 13, 14, 15, 16, 17, 18]])
 (.jn (zq [zf 28 0 9, zl 29 28, wr 30 29 1]
 (.cond 30
 (zh [zm 31 1, zn 32 31, zf 33 2 32, ⟨none, none, .sto 1 33 (.c (.l (.c 278 [])))⟩])
 .skip))
 (zq [zf 34 1 9, zl 35 34, zo 36 (.bld [w4, w6, w6, w6] [(1, 1, 35)]), zs 4 8 36]
 .ret))))
theorem ic275_eq : cF Tryz.prog Tryz.f275 = some ic275 := by kernel_rfl
def ic276 : IC := (zq [zo 8 (.alloc [w4, w6, w6, w6])]
 (zy (.draw [zm 9 0, zn 10 9, zf 11 1 10, zl 12 11, zm 13 2, zm 14 0, zn 15 14, zf 16 2 15, zl 17 16, zm 18 1, zn 19 18, zf 20 0 19, zl 21 20, zo 22 (wi 17 21), zo 23 (.call 219 [12, 13, 22, (.c (.l w5))])] [[], [0], [1], [2], [], [], [5], [6], [7], [], [9], [10], [11], [8, 12], [3, 4, 13]])
 (zy (.draw [zm 24 0, zn 25 24, zf 26 4 25, zl 27 26, zm 28 1, zn 29 28, zf 30 0 29, zl 31 30, zn 32 27, zm 33 27, zo 34 (.inv 33 "Unlock" [31])] [[], [0], [1], [2], [], [4], [5], [6], [3], [3, 8], [9, 7]])
 (zq [zm 35 1, zn 36 35, zf 37 2 36, ⟨none, none, .sto 1 37 (.c (.l (.c 279 [])))⟩]
 (zq [zo 38 (.bld [w4, w6, w6, w6] []), zs 4 8 38]
 .ret)))))
theorem ic276_eq : cF Tryz.prog Tryz.f276 = some ic276 := by kernel_rfl
def ic277 : IC := (zq [zo 8 (.alloc [w4, w6, w6, w6])]
 (zq [zm 9 1, zn 10 9, zf 11 2 10, ⟨none, none, .sto 1 11 (.c (.l (.c 276 [])))⟩]
 (.jn (zy (.draw [zm 12 0, zm 13 1, zn 14 13, zf 15 0 14, zl 16 15, zn 17 12, zf 18 5 17, zo 19 (.ixa 1 8 18 16), zl 20 19, zm 21 1, zn 22 21, zf 23 1 22, zl 24 23, zm 25 2, zm 26 3, zn 27 20, zm 28 20, zo 29 (.inv 28 "Step" [24, 25, 26]), zo 30 (.fld 0 29), wr 31 30 5] [[], [], [1], [2], [3], [0], [5], [6, 4], [7], [], [9], [10], [11], [], [], [8], [8, 15], [16, 12, 13, 14], [17], [18]])
 (.cond 31
 (zh [zm 32 1, zn 33 32, zf 34 2 33, ⟨none, none, .sto 1 34 (.c (.l (.c 280 [])))⟩])
 .skip))
 (zq [zo 35 (.bld [w4, w6, w6, w6] []), zs 4 8 35]
 .ret))))
theorem ic277_eq : cF Tryz.prog Tryz.f277 = some ic277 := by kernel_rfl
def ic278 : IC := (zq [zo 8 (.alloc [w4, w6, w6, w6])]
 (zy (zy (.draw [zm 9 0, zn 10 9, zf 11 1 10, zl 12 11, zm 13 2, zm 14 0, zn 15 14, zf 16 2 15, zl 17 16, zm 18 1, zn 19 18, zf 20 0 19, zl 21 20, zo 22 (wi 17 21), zc 23 220 [12, 13, 22], zo 24 (.cmp .neq .u32 23 (.c (.l w5)))] [[], [0], [1], [2], [], [], [5], [6], [7], [], [9], [10], [11], [8, 12], [3, 4, 13], [14]])
 (.cond 24
 (zq [zo 25 (.bld [w4, w6, w6, w6] [(0, 1, (zi 1))]), zs 4 8 25]
 .ret)
 .skip))
 (zy (.draw [zm 26 0, zn 27 26, zf 28 4 27, zl 29 28, zm 30 1, zn 31 30, zf 32 0 31, zl 33 32, zn 34 29, zm 35 29, zo 36 (.inv 35 "Lock" [33, (.c (.l (.v (.int .i64 (-1)))))])] [[], [0], [1], [2], [], [4], [5], [6], [3], [3, 8], [9, 7]])
 (zq [zm 37 1, zn 38 37, zf 39 2 38, ⟨none, none, .sto 1 39 (.c (.l (.c 281 [])))⟩]
 (zq [zo 40 (.bld [w4, w6, w6, w6] []), zs 4 8 40]
 .ret)))))
theorem ic278_eq : cF Tryz.prog Tryz.f278 = some ic278 := by kernel_rfl
def ic279 : IC := (zq [zo 8 (.alloc [w4, w6, w6, w6])]
 (zy (zy (.draw [zm 9 0, zn 10 9, zf 11 4 10, zl 12 11, zm 13 1, zn 14 13, zf 15 0 14, zl 16 15, zm 17 2, zm 18 3, zn 19 12, zm 20 12, zo 21 (.inv 20 "Step" [16, 17, 18]), zo 22 (.fld 0 21), wr 23 22 3] [[], [0], [1], [2], [], [4], [5], [6], [], [], [3], [3, 10], [11, 7, 8, 9], [12], [13]])
 (.cond 23
 (zq [zm 24 0, zm 25 1, zc 26 282 [24, 25], zs 4 8 26]
 .ret)
 .skip))
 (zq [zo 27 (.bld [w4, w6, w6, w6] []), zs 4 8 27]
 .ret)))
theorem ic279_eq : cF Tryz.prog Tryz.f279 = some ic279 := by kernel_rfl
def ic280 : IC := (zq [zo 8 (.alloc [w4, w6, w6, w6])]
 (zy (.draw [zm 9 0, zn 10 9, zf 11 1 10, zl 12 11, zm 13 2, zm 14 0, zn 15 14, zf 16 2 15, zl 17 16, zm 18 1, zn 19 18, zf 20 0 19, zl 21 20, zo 22 (wi 17 21), zm 23 1, zn 24 23, zf 25 3 24, zl 26 25, zo 27 (.ar .add .u32 26 (.c (.l (.v (.int .u32 1))))), zc 28 219 [12, 13, 22, 27]] [[], [0], [1], [2], [], [], [5], [6], [7], [], [9], [10], [11], [8, 12], [], [14], [15], [16], [17], [3, 4, 13, 18]])
 (zq [zm 29 0, zm 30 1, zc 31 282 [29, 30], zs 4 8 31]
 .ret)))
theorem ic280_eq : cF Tryz.prog Tryz.f280 = some ic280 := by kernel_rfl
def ic281 : IC := (zq [zo 8 (.alloc [w4, w6, w6, w6])]
 (zy (.draw [zm 10 0, zn 11 10, zf 12 4 11, zl 13 12, zm 14 1, zn 15 14, zf 16 0 15, zl 17 16, zm 18 2, zm 19 3, zn 20 13, zm 21 13, zo 22 (.inv 21 "Step" [17, 18, 19]), zo 9 (.alloc [w4, w6, w6, w6]), zs 4 9 22] [[], [0], [1], [2], [], [4], [5], [6], [], [], [3], [3, 10], [11, 7, 8, 9], [], [13, 12, 12, 0, 1, 2, 3, 4, 5, 6, 7, 8, 9, 10, 11, 12, 13]])
 (.jn (zq [zf 23 0 9, zl 24 23, wr 25 24 1]
 (.cond 25
 (zh [zm 26 1, zn 27 26, zf 28 2 27, ⟨none, none, .sto 1 28 (.c (.l (.c 283 [])))⟩])
 .skip))
 (zq [zf 29 1 9, zl 30 29, zo 31 (.bld [w4, w6, w6, w6] [(2, 1, 30)]), zs 4 8 31]
 .ret))))
theorem ic281_eq : cF Tryz.prog Tryz.f281 = some ic281 := by kernel_rfl
def ic282 : IC := (zq [zo 4 (.alloc [w4, w6, w6, w6])]
 (zy (.draw [zm 5 0, zm 6 1, zn 7 6, zf 8 0 7, zl 9 8, zn 10 5, zf 11 5 10, zo 12 (.ixa 1 8 11 9), zl 13 12, zm 14 1, zn 15 14, zf 16 1 15, zl 17 16, zn 18 13, zm 19 13, zo 20 (.inv 19 "Unlock" [17])] [[], [], [1], [2], [3], [0], [5], [6, 4], [7], [], [9], [10], [11], [8], [8, 13], [14, 12]])
 (zq [zm 21 1, zn 22 21, zf 23 2 22, ⟨none, none, .sto 1 23 (.c (.l (.c 284 [])))⟩]
 (zq [zo 24 (.bld [w4, w6, w6, w6] []), zs 4 4 24]
 .ret))))
theorem ic282_eq : cF Tryz.prog Tryz.f282 = some ic282 := by kernel_rfl
def ic283 : IC := (zq [zo 8 (.alloc [w4, w6, w6, w6])]
 (zy (.draw [zm 9 0, zn 10 9, zf 11 1 10, zl 12 11, zm 13 2, zm 14 0, zn 15 14, zf 16 2 15, zl 17 16, zm 18 1, zn 19 18, zf 20 0 19, zl 21 20, zo 22 (wi 17 21), zo 23 (.call 219 [12, 13, 22, (.c (.l (.v (.int .u32 1))))])] [[], [0], [1], [2], [], [], [5], [6], [7], [], [9], [10], [11], [8, 12], [3, 4, 13]])
 (zq [zo 24 (.bld [w4, w6, w6, w6] [(0, 1, (zi 1)), (3, 1, w1)]), zs 4 8 24]
 .ret)))
theorem ic283_eq : cF Tryz.prog Tryz.f283 = some ic283 := by kernel_rfl
def ic284 : IC := (zq [zo 8 (.alloc [w4, w6, w6, w6])]
 (zy (.draw [zm 9 0, zm 10 1, zn 11 10, zf 12 0 11, zl 13 12, zn 14 9, zf 15 5 14, zo 16 (.ixa 1 8 15 13), zl 17 16, zm 18 1, zn 19 18, zf 20 1 19, zl 21 20, zm 22 2, zm 23 3, zn 24 17, zm 25 17, zo 26 (.inv 25 "Step" [21, 22, 23]), zo 27 (.fld 0 26), zo 28 (.bld [w4, w6, w6, w6] [(0, 1, 27)]), zs 4 8 28] [[], [], [1], [2], [3], [0], [5], [6, 4], [7], [], [9], [10], [11], [], [], [8], [8, 15], [16, 12, 13, 14], [17], [18], [19, 17, 0, 1, 2, 3, 4, 5, 6, 7, 8, 9, 10, 11, 12, 13, 14, 15, 16, 17, 18, 19]])
 .ret))
theorem ic284_eq : cF Tryz.prog Tryz.f284 = some ic284 := by kernel_rfl
end Go.Proofs.YtlkfolopbehikaaGreat
