/- part -/
import Derived.Test.YtlkfolopbehikaaGreatProg
import Derived.Test.YtlkfolopbehikaaGreatSxB
import Derived.KernelRfl
namespace Go.Proofs.YtlkfolopbehikaaGreat
open Go Go.Sx
def ic7 : IC := (.seq (.reg [zo 3 (.box 0), zo 6 (.mov (.c (.l (.v (.bool false)))))])
 (.seq (.seq (.reg [zo 19 (.lda 8 3), zm 20 1, zo 21 (.call 23 [19, 20, (zi 300)]), zo 22 (.not 21)])
 (.cond 22
 (.seq (.reg [zc 23 15 [], zm 6 23])
 .ret)
 .skip))
 (.seq (.reg [zo 25 (.lda 8 3), zc 26 16 [25], zm 24 26, zo 27 (.ext 0 24), zo 28 (.ext 1 24), zm 7 27, zm 8 28])
 (.seq (.reg [zo 30 (.lda 8 3), zc 31 16 [30], zm 29 31, zo 32 (.ext 0 29), zo 33 (.ext 1 29), zm 9 32, zm 10 33])
 (.seq (.seq (.reg [zm 34 8, zo 35 (.cmp .neq .i64 34 (zi 0)), zm 36 35, ⟨(some 37), (some (36, false)), .mov 10⟩, ⟨(some 38), (some (36, false)), .cmp .neq .i64 37 (zi 0)⟩, zo 39 (.pick 36 (.c (.l (.v (.bool true)))) 38), zm 40 39, ⟨(some 41), (some (40, false)), .mov 7⟩, ⟨(some 42), (some (40, false)), .eq .p false 41 (.c (.l (.v (.pointer none))))⟩, zo 43 (.pick 40 (.c (.l (.v (.bool true)))) 42), zm 44 43, ⟨(some 45), (some (44, false)), .mov 9⟩, ⟨(some 46), (some (44, false)), .eq .p false 45 (.c (.l (.v (.pointer none))))⟩, zo 47 (.pick 44 (.c (.l (.v (.bool true)))) 46)])
 (.cond 47
 (.seq (.reg [zo 6 (.mov (.c (.l (.v (.bool false)))))])
 .ret)
 .skip))
 (.seq (.reg [zm 48 2, zo 49 (.conv .i64 48), zm 50 1, zo 51 (.len 50), zo 52 (.ar .add .i64 51 (zi 1)), zo 53 (.dv .rem .i64 49 52), zm 11 53])
 (.seq (.reg [zm 54 7, zm 55 1, zc 56 27 [54, 55], zm 12 56])
 (.seq (.seq (.draw [zm 57 9, zm 58 1, zm 59 11, zo 60 (.slc 3 58 none (some 59)), zc 61 27 [57, 60], zm 62 9, zm 63 1, zm 64 11, zo 65 (.slc 3 63 (some 64) none), zc 66 27 [62, 65], zo 67 (.ar .add .i64 61 66), zm 68 12, zo 69 (.cmp .neq .i64 67 68), zm 70 69, ⟨(some 71), (some (70, false)), .mov 7⟩, ⟨(some 72), (some (70, false)), .call 20 [71]⟩, ⟨(some 73), (some (70, false)), .mov 9⟩, ⟨(some 74), (some (70, false)), .call 20 [73]⟩, ⟨(some 75), (some (70, false)), .cmp .neq .i64 72 74⟩, zo 76 (.pick 70 (.c (.l (.v (.bool true)))) 75), zm 77 76, ⟨(some 78), (some (77, false)), .mov 7⟩, ⟨(some 79), (some (77, false)), .call 22 [78]⟩, ⟨(some 80), (some (77, false)), .mov 9⟩, ⟨(some 81), (some (77, false)), .call 22 [80]⟩, ⟨(some 82), (some (77, false)), .cmp .neq .i64 79 81⟩, zo 83 (.pick 77 (.c (.l (.v (.bool true)))) 82), zm 84 83, ⟨(some 85), (some (84, false)), .mov 7⟩, ⟨(some 86), (some (84, false)), .call 21 [85]⟩, ⟨(some 87), (some (84, false)), .len 86⟩, ⟨(some 88), (some (84, false)), .mov 9⟩, ⟨(some 89), (some (84, false)), .call 21 [88]⟩, ⟨(some 90), (some (84, false)), .len 89⟩, ⟨(some 91), (some (84, false)), .cmp .neq .i64 87 90⟩, zo 92 (.pick 84 (.c (.l (.v (.bool true)))) 91)] [[], [], [], [1, 2], [0, 3], [], [], [], [6, 7], [5, 8, 4], [4, 9], [], [10, 11], [12, 9], [13], [14, 13, 13], [13], [16, 15, 13], [15, 17, 13], [13, 18], [19, 17], [20], [21, 20, 20], [20], [23, 22, 20], [22, 24, 20], [20, 25], [26, 24], [27], [28, 27, 27], [29, 27], [27], [31, 29, 27], [32, 27], [30, 33, 27], [27, 34]])
 (.cond 92
 (.seq (.reg [zo 6 (.mov (.c (.l (.v (.bool false)))))])
 .ret)
 .skip))
 (.seq (.reg [zm 93 7, zc 94 21 [93], zm 95 9, zc 96 21 [95], zm 13 94, zm 14 96])
 (.seq (.seq (.reg [zm 97 13, zo 98 (.len 97), zo 99 (.mov (zi 0))])
 (.blk 0 (.loop (.seq (.reg [zo 100 (.cmp .lss .i64 99 98)])
 (.seq (.cond 100
 .skip
 (.exit 0))
 (.seq (.blk 1 (.seq (.reg [zm 101 99, zm 15 101])
 (.seq (.draw [zm 102 13, zm 103 15, zo 104 (.ixs 4 102 103), zo 105 (.lda 4 104), zm 106 14, zm 107 15, zo 108 (.ixs 4 106 107), zo 109 (.lda 4 108), zo 110 (.eqa [(.k .i64), (.k .i64), (.k .i64), .b] true 105 109)] [[], [], [0, 1], [2], [], [], [4, 5], [6], [3, 7]])
 (.cond 110
 (.seq (.reg [zo 6 (.mov (.c (.l (.v (.bool false)))))])
 .ret)
 .skip))))
 (.reg [zo 111 (.ar .add .i64 99 (zi 1)), zm 99 111])))))))
 (.seq (.draw [zm 112 7, zn 113 112, zf 114 0 113, zl 115 114, zn 116 115, zf 117 0 116, zl 118 117, zc 119 26 [118], zm 120 9, zn 121 120, zf 122 0 121, zl 123 122, zn 124 123, zf 125 0 124, zl 126 125, zc 127 26 [126], zm 16 119, zm 17 127] [[], [0], [1], [2], [3], [4], [5], [6], [], [8], [9], [10], [11], [12], [13], [14, 7], [7, 15, 0, 1, 2, 3, 4, 5, 6, 7], [15, 16, 0, 1, 2, 3, 4, 5, 6, 7, 8, 9, 10, 11, 12, 13, 14, 15, 16]])
 (.seq (.seq (.reg [zm 128 16, zo 129 (.len 128), zo 130 (.mov (zi 0))])
 (.blk 2 (.loop (.seq (.reg [zo 131 (.cmp .lss .i64 130 129)])
 (.seq (.cond 131
 .skip
 (.exit 2))
 (.seq (.blk 3 (.seq (.reg [zm 132 130, zm 18 132])
 (.seq (.draw [zm 133 18, zm 134 17, zo 135 (.len 134), zo 136 (.cmp .geq .i64 133 135), zm 137 136, ⟨(some 138), (some (137, false)), .mov 16⟩, ⟨(some 139), (some (137, false)), .mov 18⟩, ⟨(some 140), (some (137, false)), .ixs 1 138 139⟩, ⟨(some 141), (some (137, false)), .ld 140⟩, ⟨(some 142), (some (137, false)), .mov 17⟩, ⟨(some 143), (some (137, false)), .mov 18⟩, ⟨(some 144), (some (137, false)), .ixs 1 142 143⟩, ⟨(some 145), (some (137, false)), .ld 144⟩, ⟨(some 146), (some (137, false)), .cmp .neq .u32 141 145⟩, zo 147 (.pick 137 (.c (.l (.v (.bool true)))) 146)] [[], [], [1], [0, 2], [3], [4], [4], [5, 6, 4], [7, 4], [4], [4], [9, 10, 4], [11, 4], [8, 12, 4], [4, 13]])
 (.cond 147
 (.seq (.reg [zo 6 (.mov (.c (.l (.v (.bool false)))))])
 .ret)
 .skip))))
 (.reg [zo 148 (.ar .add .i64 130 (zi 1)), zm 130 148])))))))
 (.seq (.reg [zm 149 16, zo 150 (.len 149), zm 151 17, zo 152 (.len 151), zo 153 (.cmp .eql .i64 150 152), zm 154 153, ⟨(some 155), (some (154, true)), .call 15 []⟩, zo 156 (.pick 154 155 (.c (.l (.v (.bool false))))), zm 6 156])
 .ret)))))))))))))
theorem ic7_eq : cF Tryz.prog Tryz.f7 = some ic7 := by kernel_rfl
def ic15 : IC := (.seq (.reg [zo 0 (.mov (.c (.l (.v (.bool false)))))])
 (.seq (.reg [zo 6 (.bsl 1 1 [(.int .i64 0)] [(0, 1, (zi 0))]), zo 7 (.bld [(.v (.int .i64 0)), (.v (.slice none 0 0)), (.v (.int .u32 0)), (.v (.int .i64 0)), (.v (.int .i64 0)), (.v (.int .i64 0)), (.v (.int .i64 0)), (.v (.int .i64 0))] [(0, 1, (zi 1)), (1, 1, 6)]), zc 8 16 [7], zm 5 8, zo 9 (.ext 0 5), zo 10 (.ext 1 5), zm 1 9, zm 2 10])
 (.seq (.seq (.reg [zm 11 2, zo 12 (.cmp .neq .i64 11 (zi 0)), zm 13 12, ⟨(some 14), (some (13, false)), .mov 1⟩, ⟨(some 15), (some (13, false)), .eq .p false 14 (.c (.l (.v (.pointer none))))⟩, zo 16 (.pick 13 (.c (.l (.v (.bool true)))) 15)])
 (.cond 16
 (.seq (.reg [zo 0 (.mov (.c (.l (.v (.bool false)))))])
 .ret)
 .skip))
 (.seq (.reg [zm 17 1, zo 18 (.bld [(.v (.int .i64 0)), (.v (.int .i64 0)), (.v (.int .i64 0))] [(0, 1, (zi 3)), (2, 1, (.c (.l (.v (.int .i64 (-1))))))]), zo 19 (.bld [(.v (.int .i64 0)), (.v (.int .i64 0)), (.v (.int .i64 0))] [(0, 1, (zi 1))]), zo 20 (.bld [(.v (.int .i64 0)), (.v (.int .i64 0)), (.v (.int .i64 0))] [(0, 1, (zi 1))]), zo 21 (.bsl 3 3 [(.int .i64 0), (.int .i64 0), (.int .i64 0), (.int .i64 0), (.int .i64 0), (.int .i64 0), (.int .i64 0), (.int .i64 0), (.int .i64 0)] [(0, 3, 18), (3, 3, 19), (6, 3, 20)]), zc 22 27 [17, 21], zm 3 22])
 (.seq (.reg [zm 23 1, zc 24 21 [23], zm 4 24])
 (.seq (.reg [zm 25 3, zo 26 (.cmp .eql .i64 25 (zi 3)), zm 27 26, ⟨(some 28), (some (27, true)), .mov 4⟩, ⟨(some 29), (some (27, true)), .len 28⟩, ⟨(some 30), (some (27, true)), .cmp .eql .i64 29 (zi 3)⟩, zo 31 (.pick 27 30 (.c (.l (.v (.bool false))))), zm 32 31, ⟨(some 33), (some (32, true)), .mov 4⟩, ⟨(some 34), (some (32, true)), .ixs 4 33 (zi 0)⟩, ⟨(some 35), (some (32, true)), .fa 0 34⟩, ⟨(some 36), (some (32, true)), .ld 35⟩, ⟨(some 37), (some (32, true)), .cmp .eql .i64 36 (zi 1)⟩, zo 38 (.pick 32 37 (.c (.l (.v (.bool false))))), zm 39 38, ⟨(some 40), (some (39, true)), .mov 4⟩, ⟨(some 41), (some (39, true)), .ixs 4 40 (zi 1)⟩, ⟨(some 42), (some (39, true)), .fa 0 41⟩, ⟨(some 43), (some (39, true)), .ld 42⟩, ⟨(some 44), (some (39, true)), .cmp .eql .i64 43 (zi 2)⟩, zo 45 (.pick 39 44 (.c (.l (.v (.bool false))))), zm 46 45, ⟨(some 47), (some (46, true)), .mov 4⟩, ⟨(some 48), (some (46, true)), .ixs 4 47 (zi 2)⟩, ⟨(some 49), (some (46, true)), .fa 0 48⟩, ⟨(some 50), (some (46, true)), .ld 49⟩, ⟨(some 51), (some (46, true)), .cmp .eql .i64 50 (zi 4)⟩, zo 52 (.pick 46 51 (.c (.l (.v (.bool false))))), zm 53 52, ⟨(some 54), (some (53, true)), .mov 1⟩, ⟨(some 55), (some (53, true)), .call 25 [54, (zi 0)]⟩, ⟨(some 56), (some (53, true)), .cmp .eql .i64 55 (zi 2)⟩, zo 57 (.pick 53 56 (.c (.l (.v (.bool false))))), zm 0 57])
 .ret))))))
theorem ic15_eq : cF Tryz.prog Tryz.f15 = some ic15 := by kernel_rfl
def ic16 : IC := (.seq (.reg [zo 1 (.box 0), zo 2 (.mov (.c (.l (.v (.pointer none))))), zo 3 (.mov (zi 0))])
 (.seq (.reg [zo 8 (.lda 8 1), zc 9 33 [8], zm 7 9, zo 10 (.ext 0 7), zo 11 (.ext 1 7), zo 12 (.ext 2 7), zm 4 10, zm 5 11, zm 6 12])
 (.seq (.seq (.reg [zm 13 6, zo 14 (.cmp .neq .i64 13 (zi 0))])
 (.cond 14
 (.seq (.reg [zm 15 6, zo 2 (.mov (.c (.l (.v (.pointer none))))), zm 3 15])
 .ret)
 .skip))
 (.seq (.reg [zm 16 5, zm 17 4, zm 18 4, zo 19 (.inv 18 "Len" []), zo 20 (.mks 1 8 [(.int .i64 0)] 19 19), zo 21 (.bld [(.v (.pointer none)), (.v .nilIface), (.v (.slice none 0 0)), (.v (.int .i64 0)), (.v (.int .i64 0)), (.v (.slice none 0 0))] [(0, 1, 16), (1, 1, 17), (5, 1, 20)]), zo 22 (.box 21), zm 2 22, zo 3 (.mov (zi 0))])
 .ret))))
theorem ic16_eq : cF Tryz.prog Tryz.f16 = some ic16 := by kernel_rfl
def ic17 : IC := (.seq (.reg [zo 1 (.box 0), zo 2 (.mov (zi 0))])
 (.seq (.seq (.reg [zf 3 0 1, zl 4 3, zo 5 (.cmp .lss .i64 4 (zi 1)), zm 6 5, ⟨(some 7), (some (6, false)), .fa 0 1⟩, ⟨(some 8), (some (6, false)), .ld 7⟩, ⟨(some 9), (some (6, false)), .cmp .gtr .i64 8 (zi 7)⟩, zo 10 (.pick 6 (.c (.l (.v (.bool true)))) 9)])
 (.cond 10
 (.seq (.reg [zo 2 (.mov (zi 7))])
 .ret)
 .skip))
 (.seq (.seq (.reg [zf 11 1 1, zl 12 11, zo 13 (.len 12), zo 14 (.cmp .lss .i64 13 (zi 1)), zm 15 14, ⟨(some 16), (some (15, false)), .fa 1 1⟩, ⟨(some 17), (some (15, false)), .ld 16⟩, ⟨(some 18), (some (15, false)), .len 17⟩, ⟨(some 19), (some (15, false)), .cmp .gtr .i64 18 (zi 64)⟩, zo 20 (.pick 15 (.c (.l (.v (.bool true)))) 19), zm 21 20, ⟨(some 22), (some (21, false)), .fa 1 1⟩, ⟨(some 23), (some (21, false)), .ld 22⟩, ⟨(some 24), (some (21, false)), .call 53 [23]⟩, ⟨(some 25), (some (21, false)), .not 24⟩, zo 26 (.pick 21 (.c (.l (.v (.bool true)))) 25)])
 (.cond 26
 (.seq (.reg [zo 2 (.mov (zi 1))])
 .ret)
 .skip))
 (.jn (.seq (.reg [zf 27 0 1, zl 28 27])
 (.blk 0 (.seq (.reg [zo 30 (.cmp .eql .i64 28 (zi 2)), zm 29 30])
 (.cond 29
 (.seq (.reg [zf 31 3 1, zl 32 31, zc 33 54 [32], zo 34 (.not 33), zm 35 34, ⟨(some 36), (some (35, false)), .fa 3 1⟩, ⟨(some 37), (some (35, false)), .ld 36⟩, ⟨(some 38), (some (35, false)), .fa 1 1⟩, ⟨(some 39), (some (35, false)), .ld 38⟩, ⟨(some 40), (some (35, false)), .len 39⟩, ⟨(some 41), (some (35, false)), .cmp .lss .i64 37 40⟩, zo 42 (.pick 35 (.c (.l (.v (.bool true)))) 41)])
 (.cond 42
 (.seq (.reg [zo 2 (.mov (zi 7))])
 .ret)
 .skip))
 (.seq (.reg [zo 44 (.cmp .eql .i64 28 (zi 5)), zm 43 44])
 (.cond 43
 (.seq (.reg [zf 45 4 1, zl 46 45, zo 47 (.cmp .lss .i64 46 (zi 1)), zm 48 47, ⟨(some 49), (some (48, false)), .fa 4 1⟩, ⟨(some 50), (some (48, false)), .ld 49⟩, ⟨(some 51), (some (48, false)), .cmp .gtr .i64 50 (zi 8)⟩, zo 52 (.pick 48 (.c (.l (.v (.bool true)))) 51)])
 (.cond 52
 (.seq (.reg [zo 2 (.mov (zi 7))])
 .ret)
 .skip))
 (.seq (.reg [zo 54 (.cmp .eql .i64 28 (zi 7)), zm 53 54])
 (.cond 53
 (.seq (.reg [zf 55 6 1, zl 56 55, zo 57 (.cmp .neq .i64 56 (zi 1)), zm 58 57, ⟨(some 59), (some (58, true)), .fa 6 1⟩, ⟨(some 60), (some (58, true)), .ld 59⟩, ⟨(some 61), (some (58, true)), .cmp .neq .i64 60 (zi 4)⟩, zo 62 (.pick 58 61 (.c (.l (.v (.bool false))))), zm 63 62, ⟨(some 64), (some (63, false)), .fa 7 1⟩, ⟨(some 65), (some (63, false)), .ld 64⟩, ⟨(some 66), (some (63, false)), .cmp .neq .i64 65 (zi 1)⟩, ⟨(some 67), (some (63, false)), .mov 66⟩, ⟨(some 68), (some (67, true)), .fa 7 1⟩, ⟨(some 69), (some (67, true)), .ld 68⟩, ⟨(some 70), (some (67, true)), .cmp .neq .i64 69 (zi 3)⟩, ⟨(some 71), (some (63, false)), .pick 67 70 (.c (.l (.v (.bool false))))⟩, ⟨(some 72), (some (63, false)), .mov 71⟩, ⟨(some 73), (some (72, true)), .fa 7 1⟩, ⟨(some 74), (some (72, true)), .ld 73⟩, ⟨(some 75), (some (72, true)), .cmp .neq .i64 74 (zi 4)⟩, ⟨(some 76), (some (63, false)), .pick 72 75 (.c (.l (.v (.bool false))))⟩, zo 77 (.pick 63 (.c (.l (.v (.bool true)))) 76), zm 78 77, ⟨(some 79), (some (78, false)), .fa 5 1⟩, ⟨(some 80), (some (78, false)), .ld 79⟩, ⟨(some 81), (some (78, false)), .cmp .lss .i64 80 (zi 1)⟩, zo 82 (.pick 78 (.c (.l (.v (.bool true)))) 81), zm 83 82, ⟨(some 84), (some (83, false)), .fa 5 1⟩, ⟨(some 85), (some (83, false)), .ld 84⟩, ⟨(some 86), (some (83, false)), .cmp .gtr .i64 85 (zi 1000)⟩, zo 87 (.pick 83 (.c (.l (.v (.bool true)))) 86)])
 (.cond 87
 (.seq (.reg [zo 2 (.mov (zi 7))])
 .ret)
 .skip))
 .skip))))))))
 (.seq (.reg [zo 2 (.mov (zi 0))])
 .ret)))))
theorem ic17_eq : cF Tryz.prog Tryz.f17 = some ic17 := by kernel_rfl
def ic18 : IC := (.seq (.reg [zo 1 (.box 0), zo 2 (.alloc [(.v (.int .i64 0)), (.v (.slice none 0 0)), (.v (.int .u32 0)), (.v (.int .i64 0)), (.v (.int .i64 0)), (.v (.int .i64 0)), (.v (.int .i64 0)), (.v (.int .i64 0))])])
 (.seq (.reg [zf 3 0 1, zl 4 3, zf 5 1 1, zl 6 5, zf 7 2 1, zl 8 7, zf 9 3 1, zl 10 9, zf 11 4 1, zl 12 11, zf 13 5 1, zl 14 13, zf 15 6 1, zl 16 15, zf 17 7 1, zl 18 17, zo 19 (.bld [(.v (.int .i64 0)), (.v (.slice none 0 0)), (.v (.int .u32 0)), (.v (.int .i64 0)), (.v (.int .i64 0)), (.v (.int .i64 0)), (.v (.int .i64 0)), (.v (.int .i64 0))] [(0, 1, 4), (1, 1, 6), (2, 1, 8), (3, 1, 10), (4, 1, 12), (5, 1, 14), (6, 1, 16), (7, 1, 18)]), zs 8 2 19])
 .ret))
theorem ic18_eq : cF Tryz.prog Tryz.f18 = some ic18 := by kernel_rfl
def ic20 : IC := (.seq (.reg [zo 2 (.mov (zi 0))])
 (.seq (.reg [zm 3 0, zn 4 3, zf 5 3 4, zl 6 5, zm 2 6])
 .ret))
theorem ic20_eq : cF Tryz.prog Tryz.f20 = some ic20 := by kernel_rfl
def ic21 : IC := (.seq (.reg [zo 2 (.mov (.c (.l (.v (.slice none 0 0)))))])
 (.seq (.reg [zm 3 0, zn 4 3, zf 5 2 4, zl 6 5, zc 7 55 [6], zm 2 7])
 .ret))
theorem ic21_eq : cF Tryz.prog Tryz.f21 = some ic21 := by kernel_rfl
def ic22 : IC := (.seq (.reg [zo 2 (.mov (zi 0))])
 (.seq (.reg [zm 3 0, zn 4 3, zf 5 4 4, zl 6 5, zm 2 6])
 .ret))
theorem ic22_eq : cF Tryz.prog Tryz.f22 = some ic22 := by kernel_rfl
def ic23 : IC := (.seq (.reg [zo 3 (.box 0), zo 6 (.mov (.c (.l (.v (.bool false)))))])
 (.seq (.reg [zf 7 1 3, zl 8 7, zo 9 (.len 8), zo 10 (.cmp .leq .i64 9 (zi 8)), zm 11 10, ⟨(some 12), (some (11, true)), .lda 8 3⟩, ⟨(some 13), (some (11, true)), .call 18 [12]⟩, ⟨(some 14), (some (11, true)), .call 17 [13]⟩, ⟨(some 15), (some (11, true)), .cmp .eql .i64 14 (zi 0)⟩, zo 16 (.pick 11 15 (.c (.l (.v (.bool false))))), zm 17 16, ⟨(some 18), (some (17, true)), .mov 1⟩, ⟨(some 19), (some (17, true)), .len 18⟩, ⟨(some 20), (some (17, true)), .mov 2⟩, ⟨(some 21), (some (17, true)), .cmp .leq .i64 19 20⟩, zo 22 (.pick 17 21 (.c (.l (.v (.bool false))))), zm 6 22])
 .ret))
theorem ic23_eq : cF Tryz.prog Tryz.f23 = some ic23 := by kernel_rfl
def ic24 : IC := (.seq (.reg [zo 3 (.box 1), zo 4 (.mov (.c (.l (.v (.bool false)))))])
 (.seq (.reg [zm 6 0, zo 7 (.lda 3 3), zc 8 56 [6, 7], zm 5 8])
 (.jn (.seq (.reg [zm 9 5, zo 10 (.not 9)])
 (.cond 10
 (.reg [zm 11 0, zn 12 11, zf 13 4 12, zl 14 13, zo 15 (.ar .add .i64 14 (zi 1)), zn 16 11, zf 17 4 16, zs 1 17 15])
 .skip))
 (.seq (.reg [zm 18 5, zm 4 18])
 .ret))))
theorem ic24_eq : cF Tryz.prog Tryz.f24 = some ic24 := by kernel_rfl
def ic25 : IC := (.seq (.reg [zo 4 (.mov (zi 0))])
 (.seq (.reg [zm 5 0, zn 6 5, zf 7 1 6, zl 8 7, zm 9 1, zo 10 (.inv 8 "State" [9]), zm 4 10])
 .ret))
theorem ic25_eq : cF Tryz.prog Tryz.f25 = some ic25 := by kernel_rfl
def ic26 : IC := (.seq (.reg [zo 2 (.mov (.c (.l (.v (.slice none 0 0)))))])
 (.seq (.reg [zm 5 0, zn 6 5, zf 7 0 6, zl 8 7, zo 9 (.len 8), zo 10 (.mks 1 4 [(.int .u32 0)] 9 9), zm 3 10])
 (.seq (.seq (.reg [zm 11 3, zo 12 (.len 11), zo 13 (.mov (zi 0))])
 (.blk 0 (.loop (.seq (.reg [zo 14 (.cmp .lss .i64 13 12)])
 (.seq (.cond 14
 .skip
 (.exit 0))
 (.seq (.blk 1 (.seq (.reg [zm 15 13, zm 4 15])
 (.reg [zm 16 3, zm 17 4, zm 18 0, zn 19 18, zf 20 0 19, zl 21 20, zm 22 4, zo 23 (.ixs 1 21 22), zc 24 57 [23], zo 25 (.ixs 1 16 17), zs 1 25 24])))
 (.reg [zo 26 (.ar .add .i64 13 (zi 1)), zm 13 26])))))))
 (.seq (.reg [zm 27 3, zm 2 27])
 .ret))))
theorem ic26_eq : cF Tryz.prog Tryz.f26 = some ic26 := by kernel_rfl
def ic27 : IC := (.seq (.reg [zo 4 (.mov (zi 0))])
 (.seq (.reg [zo 5 (.mov (zi 0))])
 (.seq (.seq (.reg [zm 8 1, zo 9 (.len 8), zo 10 (.mov (zi 0))])
 (.blk 0 (.loop (.seq (.reg [zo 11 (.cmp .lss .i64 10 9)])
 (.seq (.cond 11
 .skip
 (.exit 0))
 (.jn (.blk 1 (.seq (.reg [zo 12 (.ixs 3 8 10), zo 13 (.lda 3 12), zo 7 (.alloc [(.v (.int .i64 0)), (.v (.int .i64 0)), (.v (.int .i64 0))]), zs 3 7 13])
 (.seq (.reg [zm 14 0, zo 15 (.lda 3 7), zc 16 24 [14, 15]])
 (.cond 16
 (.reg [zm 17 5, zo 18 (.ar .add .i64 17 (zi 1)), zm 5 18])
 .skip))))
 (.reg [zo 19 (.ar .add .i64 10 (zi 1)), zm 10 19])))))))
 (.seq (.reg [zm 20 5, zm 4 20])
 .ret))))
theorem ic27_eq : cF Tryz.prog Tryz.f27 = some ic27 := by kernel_rfl
def ic33 : IC := (.seq (.reg [zo 1 (.box 0), zo 2 (.mov (.c (.l (.v .nilIface)))), zo 3 (.mov (.c (.l (.v (.pointer none))))), zo 4 (.mov (zi 0))])
 (.seq (.reg [zf 9 1 1, zl 10 9, zo 11 (.len 10), zc 12 63 [11], zm 5 12])
 (.seq (.reg [zm 14 5, zo 15 (.lda 8 1), zc 16 64 [14, 15], zm 13 16, zo 17 (.ext 0 13), zo 18 (.ext 1 13), zm 6 17, zm 7 18])
 (.seq (.seq (.reg [zm 19 7, zo 20 (.cmp .neq .i64 19 (zi 0))])
 (.cond 20
 (.seq (.reg [zm 21 7, zo 2 (.mov (.c (.l (.v .nilIface)))), zo 3 (.mov (.c (.l (.v (.pointer none))))), zm 4 21])
 .ret)
 .skip))
 (.seq (.reg [zm 23 5, zc 24 65 [23], zm 22 24, zo 25 (.ext 0 22), zo 26 (.ext 1 22), zm 8 25, zm 7 26])
 (.seq (.seq (.reg [zm 27 7, zo 28 (.cmp .neq .i64 27 (zi 0))])
 (.cond 28
 (.seq (.reg [zm 29 7, zo 2 (.mov (.c (.l (.v .nilIface)))), zo 3 (.mov (.c (.l (.v (.pointer none))))), zm 4 29])
 .ret)
 .skip))
 (.seq (.reg [zm 30 6, zm 31 8, zo 32 (.inv 30 "Use" [31])])
 (.seq (.reg [zm 33 6, zm 34 8, zm 2 33, zm 3 34, zo 4 (.mov (zi 0))])
 .ret))))))))
theorem ic33_eq : cF Tryz.prog Tryz.f33 = some ic33 := by kernel_rfl
def ic53 : IC := (.seq (.reg [zo 2 (.mov (.c (.l (.v (.bool false)))))])
 (.seq (.seq (.reg [zm 5 0, zo 6 (.len 5), zo 7 (.mov (zi 0))])
 (.blk 0 (.loop (.seq (.reg [zo 8 (.cmp .lss .i64 7 6)])
 (.seq (.cond 8
 .skip
 (.exit 0))
 (.seq (.blk 1 (.seq (.reg [zo 9 (.ixs 1 5 7), zl 10 9, zm 4 10])
 (.seq (.reg [zm 11 4, zo 12 (.cmp .lss .i64 11 (zi 0)), zm 13 12, ⟨(some 14), (some (13, false)), .mov 4⟩, ⟨(some 15), (some (13, false)), .cmp .gtr .i64 14 (zi 7)⟩, zo 16 (.pick 13 (.c (.l (.v (.bool true)))) 15)])
 (.cond 16
 (.seq (.reg [zo 2 (.mov (.c (.l (.v (.bool false)))))])
 .ret)
 .skip))))
 (.reg [zo 17 (.ar .add .i64 7 (zi 1)), zm 7 17])))))))
 (.seq (.reg [zo 2 (.mov (.c (.l (.v (.bool true)))))])
 .ret)))
theorem ic53_eq : cF Tryz.prog Tryz.f53 = some ic53 := by kernel_rfl
def ic54 : IC := (.seq (.reg [zo 2 (.mov (.c (.l (.v (.bool false)))))])
 (.seq (.seq (.reg [zo 3 (.mov (zi 1))])
 (.blk 0 (.loop (.seq (.seq (.reg [zm 4 3, zo 5 (.cmp .leq .i64 4 (zi 64))])
 (.cond 5
 .skip
 (.exit 0)))
 (.seq (.blk 1 (.seq (.reg [zm 8 3, zm 9 0, zo 10 (.cmp .eql .i64 8 9)])
 (.cond 10
 (.seq (.reg [zo 2 (.mov (.c (.l (.v (.bool true)))))])
 .ret)
 .skip)))
 (.reg [zm 6 3, zo 7 (.ar .mul .i64 6 (zi 2)), zm 3 7]))))))
 (.seq (.reg [zo 2 (.mov (.c (.l (.v (.bool false)))))])
 .ret)))
theorem ic54_eq : cF Tryz.prog Tryz.f54 = some ic54 := by kernel_rfl
def ic55 : IC := (.seq (.reg [zo 2 (.mov (.c (.l (.v (.slice none 0 0)))))])
 (.seq (.seq (.reg [zm 3 0, zo 4 (.esc (.binOp .eql 35 (.tmp 3) (.const (.slice none 0 0)) 35))])
 (.cond 4
 (.seq (.reg [zo 2 (.mov (.c (.l (.v (.slice none 0 0)))))])
 .ret)
 .skip))
 (.seq (.reg [zo 5 (.bsl 4 0 [] []), zm 6 0, zo 7 (.app 4 32 5 6), zm 2 7])
 .ret)))
theorem ic55_eq : cF Tryz.prog Tryz.f55 = some ic55 := by kernel_rfl
def ic56 : IC := (.seq (.reg [zo 3 (.box 1), zo 4 (.mov (.c (.l (.v (.bool false)))))])
 (.seq (.seq (.reg [zf 5 0 3, zl 6 5])
 (.blk 0 (.seq (.reg [zo 8 (.cmp .eql .i64 6 (zi 1)), zm 7 8])
 (.cond 7
 (.seq (.reg [zm 9 0, zf 10 1 3, zl 11 10, zc 12 94 [9, 11], zm 4 12])
 .ret)
 (.seq (.reg [zo 14 (.cmp .eql .i64 6 (zi 2)), zm 13 14])
 (.cond 13
 (.seq (.reg [zm 15 0, zc 16 95 [15], zm 4 16])
 .ret)
 (.seq (.reg [zo 18 (.cmp .eql .i64 6 (zi 3)), zm 17 18])
 (.cond 17
 (.seq (.reg [zm 19 0, zf 20 1 3, zl 21 20, zf 22 2 3, zl 23 22, zc 24 96 [19, 21, 23], zm 4 24])
 .ret)
 (.seq (.reg [zo 26 (.cmp .eql .i64 6 (zi 4)), zm 25 26])
 (.cond 25
 (.seq (.seq (.draw [zm 27 0, zn 28 27, zf 29 1 28, zl 30 29, zf 31 1 3, zl 32 31, zo 33 (.inv 30 "Unlock" [32]), zo 34 (.cmp .neq .i64 33 (zi 0))] [[], [0], [1], [2], [], [4], [3, 5], [6]])
 (.cond 34
 (.seq (.reg [zo 4 (.mov (.c (.l (.v (.bool false)))))])
 .ret)
 .skip))
 (.seq (.reg [zm 35 0, zf 36 1 3, zl 37 36, zo 38 (.call 97 [35, (zi 6), 37])])
 (.seq (.reg [zo 4 (.mov (.c (.l (.v (.bool true)))))])
 .ret)))
 .skip))))))))))
 (.seq (.reg [zo 4 (.mov (.c (.l (.v (.bool false)))))])
 .ret)))
theorem ic56_eq : cF Tryz.prog Tryz.f56 = some ic56 := by kernel_rfl
def ic57 : IC := (.seq (.reg [zo 2 (.mov (.c (.l (.v (.int .u32 0)))))])
 (.seq (.reg [zm 3 0, zn 4 3, zf 5 0 4, zo 6 (.esc (.call { callee := .value (.func 98), args := #[(.tmp 5)], argTypes := #[201] })), zm 2 6])
 .ret))
theorem ic57_eq : cF Tryz.prog Tryz.f57 = some ic57 := by kernel_rfl
def ic62 : IC := (.seq (.reg [zo 2 (.mov (zi 0))])
 (.seq (.reg [zm 3 0, zn 4 3, zf 5 0 4, zl 6 5, zo 7 (.len 6), zm 2 7])
 .ret))
theorem ic62_eq : cF Tryz.prog Tryz.f62 = some ic62 := by kernel_rfl
def ic63 : IC := (.seq (.reg [zo 2 (.mov (.c (.l (.v (.pointer none)))))])
 (.seq (.reg [zm 3 0, zo 4 (.bld [(.v (.int .i64 0)), (.v (.slice none 0 0)), (.v (.slice none 0 0))] [(0, 1, 3)]), zo 5 (.box 4), zm 2 5])
 .ret))
theorem ic63_eq : cF Tryz.prog Tryz.f63 = some ic63 := by kernel_rfl
def ic64 : IC := (.seq (.reg [zo 3 (.box 1), zo 4 (.mov (.c (.l (.v .nilIface)))), zo 5 (.mov (zi 0))])
 (.seq (.seq (.reg [zf 20 0 3, zl 21 20])
 (.blk 0 (.seq (.reg [zo 23 (.cmp .eql .i64 21 (zi 1)), zm 22 23])
 (.cond 22
 (.seq (.reg [zm 25 0, zf 26 1 3, zl 27 26, zf 28 2 3, zl 29 28, zc 30 105 [25, 27, 29], zm 24 30, zo 31 (.ext 0 24), zo 32 (.ext 1 24), zm 6 31, zm 7 32])
 (.seq (.reg [zm 33 6, zo 34 (.mki 221 33), zm 35 7, zm 4 34, zm 5 35])
 .ret))
 (.seq (.reg [zo 37 (.cmp .eql .i64 21 (zi 2)), zm 36 37])
 (.cond 36
 (.seq (.reg [zm 39 0, zf 40 1 3, zl 41 40, zf 42 3 3, zl 43 42, zf 44 2 3, zl 45 44, zc 46 106 [39, 41, 43, 45], zm 38 46, zo 47 (.ext 0 38), zo 48 (.ext 1 38), zm 8 47, zm 9 48])
 (.seq (.reg [zm 49 8, zo 50 (.mki 224 49), zm 51 9, zm 4 50, zm 5 51])
 .ret))
 (.seq (.reg [zo 53 (.cmp .eql .i64 21 (zi 3)), zm 52 53])
 (.cond 52
 (.seq (.reg [zm 55 0, zf 56 1 3, zl 57 56, zc 58 107 [55, 57], zm 54 58, zo 59 (.ext 0 54), zo 60 (.ext 1 54), zm 10 59, zm 11 60])
 (.seq (.reg [zm 61 10, zo 62 (.mki 227 61), zm 63 11, zm 4 62, zm 5 63])
 .ret))
 (.seq (.reg [zo 65 (.cmp .eql .i64 21 (zi 4)), zm 64 65])
 (.cond 64
 (.seq (.reg [zm 67 0, zf 68 1 3, zl 69 68, zc 70 108 [67, 69], zm 66 70, zo 71 (.ext 0 66), zo 72 (.ext 1 66), zm 12 71, zm 13 72])
 (.seq (.reg [zm 73 12, zo 74 (.mki 230 73), zm 75 13, zm 4 74, zm 5 75])
 .ret))
 (.seq (.reg [zo 77 (.cmp .eql .i64 21 (zi 5)), zm 76 77])
 (.cond 76
 (.seq (.reg [zm 79 0, zf 80 1 3, zl 81 80, zf 82 4 3, zl 83 82, zc 84 109 [79, 81, 83], zm 78 84, zo 85 (.ext 0 78), zo 86 (.ext 1 78), zm 14 85, zm 15 86])
 (.seq (.reg [zm 87 14, zo 88 (.mki 233 87), zm 89 15, zm 4 88, zm 5 89])
 .ret))
 (.seq (.reg [zo 91 (.cmp .eql .i64 21 (zi 6)), zm 90 91])
 (.cond 90
 (.seq (.reg [zm 93 0, zf 94 1 3, zl 95 94, zc 96 110 [93, 95], zm 92 96, zo 97 (.ext 0 92), zo 98 (.ext 1 92), zm 16 97, zm 17 98])
 (.seq (.reg [zm 99 16, zo 100 (.mki 236 99), zm 101 17, zm 4 100, zm 5 101])
 .ret))
 (.seq (.reg [zo 103 (.cmp .eql .i64 21 (zi 7)), zm 102 103])
 (.cond 102
 (.seq (.reg [zm 105 0, zf 106 1 3, zl 107 106, zf 108 6 3, zl 109 108, zf 110 7 3, zl 111 110, zf 112 5 3, zl 113 112, zc 114 111 [105, 107, 109, 111, 113], zm 104 114, zo 115 (.ext 0 104), zo 116 (.ext 1 104), zm 18 115, zm 19 116])
 (.seq (.reg [zm 117 18, zo 118 (.mki 239 117), zm 119 19, zm 4 118, zm 5 119])
 .ret))
 .skip))))))))))))))))
 (.seq (.reg [zo 4 (.mov (.c (.l (.v .nilIface)))), zo 5 (.mov (zi 7))])
 .ret)))
theorem ic64_eq : cF Tryz.prog Tryz.f64 = some ic64 := by kernel_rfl
def ic65 : IC := (.seq (.reg [zo 2 (.mov (.c (.l (.v (.pointer none))))), zo 3 (.mov (zi 0))])
 (.seq (.draw [zm 4 0, zn 5 4, zf 6 0 5, zl 7 6, zm 8 0, zn 9 8, zf 10 1 9, zl 11 10, zm 12 0, zn 13 12, zf 14 2 13, zl 15 14, zc 16 112 [7, 11, 15], zo 17 (.ext 0 16), zo 18 (.ext 1 16), zm 2 17, zm 3 18] [[], [0], [1], [2], [], [4], [5], [6], [], [8], [9], [10], [3, 7, 11], [12], [12], [13, 12, 0, 1, 2, 3, 4, 5, 6, 7, 8, 9, 10, 11, 12, 13, 14], [14, 15, 0, 1, 2, 3, 4, 5, 6, 7, 8, 9, 10, 11, 12, 13, 14, 15]])
 .ret))
theorem ic65_eq : cF Tryz.prog Tryz.f65 = some ic65 := by kernel_rfl
def ic94 : IC := (.seq (.reg [zo 4 (.mov (.c (.l (.v (.bool false)))))])
 (.seq (.seq (.reg [zm 7 0, zn 8 7, zf 9 1 8, zl 10 9, zm 11 1, zo 12 (.inv 10 "State" [11]), zm 5 12])
 (.seq (.reg [zm 13 5, zo 14 (.cmp .neq .i64 13 (zi 1)), zm 15 14, ⟨(some 16), (some (15, true)), .mov 5⟩, ⟨(some 17), (some (15, true)), .cmp .neq .i64 16 (zi 3)⟩, zo 18 (.pick 15 17 (.c (.l (.v (.bool false)))))])
 (.cond 18
 (.seq (.reg [zo 4 (.mov (.c (.l (.v (.bool false)))))])
 .ret)
 .skip)))
 (.seq (.reg [zm 19 0, zn 20 19, zf 21 5 20, zl 22 21, zm 23 1, zo 24 (.ixs 1 22 23), zl 25 24, zo 26 (.ar .add .i64 25 (zi 1)), zo 27 (.ixs 1 22 23), zs 1 27 26])
 (.seq (.draw [zm 28 0, zn 29 28, zf 30 1 29, zl 31 30, zm 32 1, zm 33 1, zm 34 0, zn 35 34, zf 36 3 35, zl 37 36, zn 38 31, zm 39 31, zo 40 (.inv 39 "Step" [32, 33, 37]), zo 6 (.alloc [(.v (.int .i64 0)), (.v (.bool false)), (.v (.bool false)), (.v (.bool false))]), zs 4 6 40] [[], [0], [1], [2], [], [], [], [6], [7], [8], [3], [3, 10], [11, 4, 5, 9], [], [13, 12, 12, 0, 1, 2, 3, 4, 5, 6, 7, 8, 9, 10, 11, 12, 13]])
 (.jn (.seq (.reg [zf 41 1 6, zl 42 41])
 (.cond 42
 (.reg [zm 43 0, zm 44 1, zo 45 (.call 97 [43, (zi 2), 44])])
 .skip))
 (.jn (.seq (.reg [zf 46 2 6, zl 47 46])
 (.cond 47
 (.reg [zm 48 0, zm 49 1, zo 50 (.call 97 [48, (zi 3), 49])])
 .skip))
 (.jn (.seq (.reg [zf 51 0 6, zl 52 51])
 (.blk 0 (.seq (.reg [zo 54 (.cmp .eql .i64 52 (zi 1)), zm 53 54])
 (.cond 53
 (.seq (.reg [zm 55 0, zm 56 1, zo 57 (.call 97 [55, (zi 4), 56])])
 (.draw [zm 58 0, zn 59 58, zf 60 2 59, zl 61 60, zm 62 0, zn 63 62, zf 64 2 63, zl 65 64, zo 66 (.len 65), zo 67 (.ar .sub .i64 66 (zi 1)), zf 68 3 6, zl 69 68, zo 70 (.ixs 4 61 67), zf 71 3 70, zs 1 71 69] [[], [0], [1], [2], [], [4], [5], [6], [7], [8], [], [10], [3, 9, 0, 1, 2, 3, 4, 5, 6, 7, 8, 9, 10, 11], [12, 0, 1, 2, 3, 4, 5, 6, 7, 8, 9, 10, 11], [13, 11, 0, 1, 2, 3, 4, 5, 6, 7, 8, 9, 10, 11]]))
 (.seq (.reg [zo 73 (.cmp .eql .i64 52 (zi 2)), zm 72 73])
 (.cond 72
 (.reg [zm 74 0, zm 75 1, zo 76 (.call 97 [74, (zi 5), 75])])
 (.seq (.reg [zo 78 (.cmp .eql .i64 52 (zi 6)), zm 77 78])
 (.cond 77
 (.reg [zm 79 0, zm 80 1, zo 81 (.call 97 [79, (zi 8), 80])])
 (.seq (.reg [zo 83 (.cmp .eql .i64 52 (zi 3)), zm 82 83])
 (.cond 82
 (.reg [zm 84 0, zm 85 1, zo 86 (.call 97 [84, (zi 7), 85])])
 .skip))))))))))
 (.seq (.reg [zo 4 (.mov (.c (.l (.v (.bool true)))))])
 .ret))))))))
theorem ic94_eq : cF Tryz.prog Tryz.f94 = some ic94 := by kernel_rfl
def ic95 : IC := (.seq (.reg [zo 2 (.mov (.c (.l (.v (.bool false)))))])
 (.seq (.seq (.reg [zm 3 0, zn 4 3, zf 5 3 4, zl 6 5, zo 7 (.cmp .geq .i64 6 (zi 1099511627776))])
 (.cond 7
 (.seq (.reg [zo 2 (.mov (.c (.l (.v (.bool false)))))])
 .ret)
 .skip))
 (.seq (.reg [zm 8 0, zn 9 8, zf 10 3 9, zl 11 10, zo 12 (.ar .add .i64 11 (zi 1)), zn 13 8, zf 14 3 13, zs 1 14 12])
 (.seq (.reg [zo 2 (.mov (.c (.l (.v (.bool true)))))])
 .ret))))
theorem ic95_eq : cF Tryz.prog Tryz.f95 = some ic95 := by kernel_rfl
def ic96 : IC := (.seq (.reg [zo 6 (.mov (.c (.l (.v (.bool false)))))])
 (.seq (.reg [zo 7 (.mov (.c (.l (.v (.int .i64 (-1))))))])
 (.jn (.seq (.reg [zm 8 2, zo 9 (.cmp .geq .i64 8 (zi 0))])
 (.cond 9
 (.reg [zm 10 0, zn 11 10, zf 12 3 11, zl 13 12, zm 14 2, zo 15 (.mn .i64 14 (zi 1073741824)), zo 16 (.ar .add .i64 13 15), zm 7 16])
 .skip))
 (.seq (.seq (.reg [zm 17 0, zn 18 17, zf 19 1 18, zl 20 19, zm 21 1, zm 22 7, zo 23 (.inv 20 "Lock" [21, 22]), zo 24 (.cmp .neq .i64 23 (zi 0))])
 (.cond 24
 (.seq (.reg [zo 6 (.mov (.c (.l (.v (.bool false)))))])
 .ret)
 .skip))
 (.seq (.reg [zm 25 0, zm 26 1, zo 27 (.call 97 [25, (zi 1), 26])])
 (.seq (.reg [zo 6 (.mov (.c (.l (.v (.bool true)))))])
 .ret))))))
theorem ic96_eq : cF Tryz.prog Tryz.f96 = some ic96 := by kernel_rfl
def ic97 : IC := (.draw [zm 6 0, zm 7 0, zn 8 7, zf 9 2 8, zl 10 9, zm 11 1, zm 12 2, zm 13 0, zn 14 13, zf 15 3 14, zl 16 15, zo 17 (.bld [(.v (.int .i64 0)), (.v (.int .i64 0)), (.v (.int .i64 0)), (.v (.bool false))] [(0, 1, 11), (1, 1, 12), (2, 1, 16)]), zo 18 (.bsl 4 1 [(.int .i64 0), (.int .i64 0), (.int .i64 0), (.bool false)] [(0, 4, 17)]), zo 19 (.app 4 32 10 18), zn 20 6, zf 21 2 20, zs 1 21 19] [[], [], [1], [2], [3], [], [], [], [7], [8], [9], [5, 6, 10], [11], [4, 12], [0, 0, 1, 2, 3, 4, 5, 6, 7, 8, 9, 10, 11, 12, 13], [14, 0, 1, 2, 3, 4, 5, 6, 7, 8, 9, 10, 11, 12, 13], [15, 13, 13, 0, 1, 2, 3, 4, 5, 6, 7, 8, 9, 10, 11, 12, 13]])
theorem ic97_eq : cF Tryz.prog Tryz.f97 = some ic97 := by kernel_rfl
def ic105 : IC := (.seq (.reg [zo 6 (.mov (.c (.l (.v (.pointer none))))), zo 7 (.mov (zi 0))])
 (.seq (.reg [zm 13 1, zo 14 (.len 13), zo 15 (.call 127 [14, (.c (.l (.v (.bool false)))), (.c (.l (.v (.bool true))))]), zm 12 15, zo 16 (.ext 0 12), zo 17 (.ext 1 12), zm 8 16, zm 9 17])
 (.seq (.seq (.reg [zm 18 9, zo 19 (.cmp .neq .i64 18 (zi 0)), zm 20 19, ⟨(some 21), (some (20, false)), .mov 1⟩, ⟨(some 22), (some (20, false)), .call 128 [21, (.c (.l (.c 129 [])))]⟩, zo 23 (.pick 20 (.c (.l (.v (.bool true)))) 22)])
 (.cond 23
 (.seq (.reg [zo 6 (.mov (.c (.l (.v (.pointer none))))), zo 7 (.mov (zi 1))])
 .ret)
 .skip))
 (.seq (.reg [zm 24 1, zo 25 (.len 24), zm 10 25])
 (.seq (.draw [zm 26 8, zm 27 10, zo 28 (.mks 1 4 [(.int .u32 0)] 27 27), zm 29 10, zo 30 (.mks 1 1 [(.bool false)] 29 29), zo 31 (.bld [(.v (.pointer none)), (.v (.pointer none)), (.v (.int .i64 0)), (.v (.int .i64 0)), (.v (.slice none 0 0)), (.v (.slice none 0 0))] [(0, 1, 26), (4, 1, 28), (5, 1, 30)]), zo 32 (.box 31), zm 11 32] [[], [], [1, 1], [], [3, 3], [0, 2, 4], [5], [6, 0, 1, 2, 3, 4, 5, 6]])
 (.seq (.draw [zm 33 11, zm 34 11, zm 35 0, zm 36 1, zo 37 (.ixs 1 36 (zi 0)), zl 38 37, zm 39 2, zc 40 130 [35, 38, 39], zm 41 0, zm 42 1, zo 43 (.ixs 1 42 (zi 0)), zl 44 43, zm 45 2, zc 46 130 [41, 44, 45], zn 47 33, zf 48 2 47, zs 1 48 40, zn 49 34, zf 50 3 49, zs 1 50 46] [[], [], [], [], [3], [4], [], [2, 5, 6], [], [], [9], [10], [], [8, 11, 12, 7], [0, 0, 2, 3, 4, 5, 6, 7, 11, 13], [14, 0, 2, 3, 4, 5, 6, 7, 11, 13], [15, 7, 13, 0, 2, 3, 4, 5, 6, 7, 11, 13], [1, 0, 1, 2, 3, 4, 5, 6, 7, 8, 9, 10, 11, 12, 13, 14, 15, 16], [17, 0, 1, 2, 3, 4, 5, 6, 7, 8, 9, 10, 11, 12, 13, 14, 15, 16], [18, 13, 16, 0, 1, 2, 3, 4, 5, 6, 7, 8, 9, 10, 11, 12, 13, 14, 15, 16]])
 (.seq (.reg [zm 51 11, zm 6 51, zo 7 (.mov (zi 0))])
 .ret)))))))
theorem ic105_eq : cF Tryz.prog Tryz.f105 = some ic105 := by kernel_rfl
def ic106 : IC := (.seq (.reg [zo 8 (.mov (.c (.l (.v (.pointer none))))), zo 9 (.mov (zi 0))])
 (.seq (.reg [zm 16 1, zo 17 (.len 16), zo 18 (.call 127 [17, (.c (.l (.v (.bool false)))), (.c (.l (.v (.bool false))))]), zm 15 18, zo 19 (.ext 0 15), zo 20 (.ext 1 15), zm 10 19, zm 11 20])
 (.seq (.seq (.reg [zm 21 11, zo 22 (.cmp .neq .i64 21 (zi 0)), zm 23 22, ⟨(some 24), (some (23, false)), .mov 1⟩, ⟨(some 25), (some (23, false)), .call 128 [24, (.c (.l (.c 131 [])))]⟩, zo 26 (.pick 23 (.c (.l (.v (.bool true)))) 25)])
 (.cond 26
 (.seq (.reg [zo 8 (.mov (.c (.l (.v (.pointer none))))), zo 9 (.mov (zi 1))])
 .ret)
 .skip))
 (.seq (.seq (.reg [zm 27 2, zm 28 1, zo 29 (.len 28), zo 30 (.cmp .lss .i64 27 29), zm 31 30, ⟨(some 32), (some (31, false)), .call 132 []⟩, ⟨(some 33), (some (31, false)), .mov 2⟩, ⟨(some 34), (some (31, false)), .call 123 [32, 33]⟩, ⟨(some 35), (some (31, false)), .not 34⟩, zo 36 (.pick 31 (.c (.l (.v (.bool true)))) 35)])
 (.cond 36
 (.seq (.reg [zo 8 (.mov (.c (.l (.v (.pointer none))))), zo 9 (.mov (zi 7))])
 .ret)
 .skip))
 (.seq (.reg [zm 37 10, zm 38 2, zm 39 1, zo 40 (.len 39), zo 41 (.mks 2 16 [(.int .u32 0), (.int .i64 0)] 40 40), zo 42 (.bld [(.v (.pointer none)), (.v (.pointer none)), (.v (.int .i64 0)), (.v (.int .i64 0)), (.v (.slice none 0 0))] [(0, 1, 37), (3, 1, 38), (4, 1, 41)]), zo 43 (.box 42), zm 12 43])
 (.seq (.reg [zm 44 12, zm 45 0, zm 46 1, zo 47 (.ixs 1 46 (zi 0)), zl 48 47, zm 49 3, zc 50 130 [45, 48, 49], zn 51 44, zf 52 2 51, zs 1 52 50])
 (.seq (.seq (.reg [zm 53 2, zo 54 (.mov (zi 0))])
 (.blk 0 (.loop (.seq (.reg [zo 55 (.cmp .lss .i64 54 53)])
 (.seq (.cond 55
 .skip
 (.exit 0))
 (.seq (.blk 1 (.seq (.reg [zm 56 54, zm 13 56])
 (.seq (.reg [zo 14 (.mov (.c (.l (.v (.int .u32 0)))))])
 (.jn (.seq (.reg [zm 57 13, zm 58 3, zm 59 2, zc 60 133 [58, 59], zo 61 (.cmp .eql .i64 57 60)])
 (.cond 61
 (.reg [zo 14 (.mov (.c (.l (.v (.int .u32 1)))))])
 .skip))
 (.reg [zm 62 0, zm 63 1, zm 64 13, zm 65 1, zo 66 (.len 65), zo 67 (.dv .rem .i64 64 66), zo 68 (.ixs 1 63 67), zl 69 68, zm 70 14, zc 71 130 [62, 69, 70]])))))
 (.reg [zo 72 (.ar .add .i64 54 (zi 1)), zm 54 72])))))))
 (.seq (.reg [zm 73 12, zm 8 73, zo 9 (.mov (zi 0))])
 .ret))))))))
theorem ic106_eq : cF Tryz.prog Tryz.f106 = some ic106 := by kernel_rfl
def ic107 : IC := (.seq (.reg [zo 4 (.mov (.c (.l (.v (.pointer none))))), zo 5 (.mov (zi 0))])
 (.seq (.reg [zm 12 1, zo 13 (.len 12), zo 14 (.call 127 [13, (.c (.l (.v (.bool false)))), (.c (.l (.v (.bool true))))]), zm 11 14, zo 15 (.ext 0 11), zo 16 (.ext 1 11), zm 6 15, zm 7 16])
 (.seq (.seq (.reg [zm 17 7, zo 18 (.cmp .neq .i64 17 (zi 0)), zm 19 18, ⟨(some 20), (some (19, false)), .mov 1⟩, ⟨(some 21), (some (19, false)), .call 128 [20, (.c (.l (.c 134 [])))]⟩, zo 22 (.pick 19 (.c (.l (.v (.bool true)))) 21)])
 (.cond 22
 (.seq (.reg [zo 4 (.mov (.c (.l (.v (.pointer none))))), zo 5 (.mov (zi 1))])
 .ret)
 .skip))
 (.seq (.reg [zm 23 6, zm 24 0, zm 25 1, zo 26 (.ixs 1 25 (zi 0)), zl 27 26, zo 28 (.call 130 [24, 27, (.c (.l (.v (.int .u32 0))))]), zo 29 (.bld [(.v (.pointer none)), (.v (.pointer none)), (.v (.int .i64 0)), (.v (.slice none 0 0))] [(0, 1, 23), (2, 1, 28)]), zo 30 (.box 29), zm 8 30])
 (.seq (.reg [zm 31 0, zm 32 1, zo 33 (.ixs 1 32 (zi 0)), zl 34 33, zo 35 (.call 130 [31, 34, (.c (.l (.v (.int .u32 0))))])])
 (.seq (.seq (.reg [zm 36 1, zo 37 (.len 36), zo 38 (.mov (zi 0))])
 (.blk 0 (.loop (.seq (.reg [zo 39 (.cmp .lss .i64 38 37)])
 (.seq (.cond 39
 .skip
 (.exit 0))
 (.seq (.blk 1 (.seq (.reg [zm 40 38, zo 41 (.ixs 1 36 38), zl 42 41, zm 9 40, zm 10 42])
 (.seq (.reg [zm 43 0, zm 44 10, zo 45 (.call 130 [43, 44, (.c (.l (.v (.int .u32 0))))])])
 (.reg [zm 46 8, zm 47 8, zn 48 47, zf 49 3 48, zl 50 49, zm 51 9, zo 52 (.ar .add .i64 51 (zi 1)), zo 53 (.bld [(.v (.int .i64 0)), (.v (.int .i64 0)), (.v (.int .i64 0))] [(0, 1, 52)]), zo 54 (.bsl 3 1 [(.int .i64 0), (.int .i64 0), (.int .i64 0)] [(0, 3, 53)]), zo 55 (.app 3 24 50 54), zn 56 46, zf 57 3 56, zs 1 57 55]))))
 (.reg [zo 58 (.ar .add .i64 38 (zi 1)), zm 38 58])))))))
 (.seq (.reg [zm 59 8, zm 4 59, zo 5 (.mov (zi 0))])
 .ret)))))))
theorem ic107_eq : cF Tryz.prog Tryz.f107 = some ic107 := by kernel_rfl
def ic108 : IC := (.seq (.reg [zo 4 (.mov (.c (.l (.v (.pointer none))))), zo 5 (.mov (zi 0))])
 (.seq (.reg [zm 12 1, zo 13 (.len 12), zo 14 (.call 127 [13, (.c (.l (.v (.bool false)))), (.c (.l (.v (.bool true))))]), zm 11 14, zo 15 (.ext 0 11), zo 16 (.ext 1 11), zm 6 15, zm 7 16])
 (.seq (.seq (.reg [zm 17 7, zo 18 (.cmp .neq .i64 17 (zi 0)), zm 19 18, ⟨(some 20), (some (19, false)), .mov 1⟩, ⟨(some 21), (some (19, false)), .call 128 [20, (.c (.l (.c 135 [])))]⟩, zo 22 (.pick 19 (.c (.l (.v (.bool true)))) 21)])
 (.cond 22
 (.seq (.reg [zo 4 (.mov (.c (.l (.v (.pointer none))))), zo 5 (.mov (zi 1))])
 .ret)
 .skip))
 (.seq (.draw [zm 23 6, zm 24 0, zm 25 1, zo 26 (.ixs 1 25 (zi 0)), zl 27 26, zo 28 (.call 130 [24, 27, (.c (.l (.v (.int .u32 0))))]), zm 29 1, zo 30 (.len 29), zo 31 (.mks 2 16 [(.int .i64 0), (.int .u32 0)] 30 30), zo 32 (.bld [(.v (.pointer none)), (.v (.pointer none)), (.v (.int .i64 0)), (.v (.slice none 0 0))] [(0, 1, 23), (2, 1, 28), (3, 1, 31)]), zo 33 (.box 32), zm 8 33] [[], [], [], [2], [3], [1, 4], [], [6], [7, 7], [0, 5, 8], [9], [10, 5, 0, 1, 2, 3, 4, 5, 6, 7, 8, 9, 10]])
 (.seq (.seq (.reg [zm 34 1, zo 35 (.len 34), zo 36 (.mov (zi 0))])
 (.blk 0 (.loop (.seq (.reg [zo 37 (.cmp .lss .i64 36 35)])
 (.seq (.cond 37
 .skip
 (.exit 0))
 (.seq (.blk 1 (.seq (.reg [zo 38 (.ixs 1 34 36), zl 39 38, zm 10 39])
 (.reg [zm 40 0, zm 41 10, zo 42 (.call 136 [40, (zi 2), 41, (.c (.l (.v (.int .u32 0))))])])))
 (.reg [zo 43 (.ar .add .i64 36 (zi 1)), zm 36 43])))))))
 (.seq (.reg [zm 44 8, zm 4 44, zo 5 (.mov (zi 0))])
 .ret))))))
theorem ic108_eq : cF Tryz.prog Tryz.f108 = some ic108 := by kernel_rfl
def ic109 : IC := (.seq (.reg [zo 6 (.mov (.c (.l (.v (.pointer none))))), zo 7 (.mov (zi 0))])
 (.seq (.reg [zm 15 1, zo 16 (.len 15), zo 17 (.call 127 [16, (.c (.l (.v (.bool true)))), (.c (.l (.v (.bool false))))]), zm 14 17, zo 18 (.ext 0 14), zo 19 (.ext 1 14), zm 8 18, zm 9 19])
 (.seq (.seq (.reg [zm 20 9, zo 21 (.cmp .neq .i64 20 (zi 0)), zm 22 21, ⟨(some 23), (some (22, false)), .mov 1⟩, ⟨(some 24), (some (22, false)), .call 128 [23, (.c (.l (.c 137 [])))]⟩, zo 25 (.pick 22 (.c (.l (.v (.bool true)))) 24)])
 (.cond 25
 (.seq (.reg [zo 6 (.mov (.c (.l (.v (.pointer none))))), zo 7 (.mov (zi 1))])
 .ret)
 .skip))
 (.seq (.reg [zm 27 1, zo 28 (.len 27), zm 29 2, zc 30 138 [28, 29], zm 26 30, zo 31 (.ext 0 26), zo 32 (.ext 1 26), zm 10 31, zm 9 32])
 (.seq (.seq (.reg [zm 33 9, zo 34 (.cmp .neq .i64 33 (zi 0))])
 (.cond 34
 (.seq (.reg [zo 6 (.mov (.c (.l (.v (.pointer none))))), zo 7 (.mov (zi 7))])
 .ret)
 .skip))
 (.seq (.draw [zm 35 8, zm 36 10, zm 37 0, zm 38 1, zo 39 (.ixs 1 38 (zi 0)), zl 40 39, zo 41 (.call 130 [37, 40, (.c (.l (.v (.int .u32 0))))]), zm 42 1, zo 43 (.len 42), zo 44 (.mks 4 32 [(.int .i64 0), (.int .i64 0), (.int .i64 0), (.int .i64 0)] 43 43), zo 45 (.bld [(.v (.pointer none)), (.v (.pointer none)), (.v (.pointer none)), (.v (.int .i64 0)), (.v (.slice none 0 0))] [(0, 1, 35), (2, 1, 36), (3, 1, 41), (4, 1, 44)]), zo 46 (.box 45), zm 11 46] [[], [], [], [], [3], [4], [2, 5], [], [7], [8, 8], [0, 1, 6, 9], [10], [11, 6, 0, 1, 2, 3, 4, 5, 6, 7, 8, 9, 10, 11]])
 (.seq (.seq (.reg [zm 47 1, zo 48 (.len 47), zo 49 (.mov (zi 0))])
 (.blk 0 (.loop (.seq (.reg [zo 50 (.cmp .lss .i64 49 48)])
 (.seq (.cond 50
 .skip
 (.exit 0))
 (.seq (.blk 1 (.seq (.reg [zo 51 (.ixs 1 47 49), zl 52 51, zm 13 52])
 (.reg [zm 53 0, zm 54 2, zo 55 (.ar .mul .i64 (zi 3) 54), zm 56 13, zo 57 (.call 136 [53, 55, 56, (.c (.l (.v (.int .u32 0))))])])))
 (.reg [zo 58 (.ar .add .i64 49 (zi 1)), zm 49 58])))))))
 (.seq (.reg [zm 59 11, zm 6 59, zo 7 (.mov (zi 0))])
 .ret))))))))
theorem ic109_eq : cF Tryz.prog Tryz.f109 = some ic109 := by kernel_rfl
def ic110 : IC := (.seq (.reg [zo 4 (.mov (.c (.l (.v (.pointer none))))), zo 5 (.mov (zi 0))])
 (.seq (.reg [zm 14 1, zo 15 (.len 14), zo 16 (.call 127 [15, (.c (.l (.v (.bool false)))), (.c (.l (.v (.bool false))))]), zm 13 16, zo 17 (.ext 0 13), zo 18 (.ext 1 13), zm 6 17, zm 7 18])
 (.seq (.seq (.reg [zm 19 7, zo 20 (.cmp .neq .i64 19 (zi 0)), zm 21 20, ⟨(some 22), (some (21, false)), .mov 1⟩, ⟨(some 23), (some (21, false)), .call 128 [22, (.c (.l (.c 139 [])))]⟩, zo 24 (.pick 21 (.c (.l (.v (.bool true)))) 23)])
 (.cond 24
 (.seq (.reg [zo 4 (.mov (.c (.l (.v (.pointer none))))), zo 5 (.mov (zi 1))])
 .ret)
 .skip))
 (.seq (.reg [zm 25 1, zo 26 (.len 25), zm 8 26])
 (.seq (.reg [zm 27 6, zm 28 0, zm 29 1, zo 30 (.ixs 1 29 (zi 0)), zl 31 30, zm 32 8, zo 33 (.ar .add .i64 32 (zi 1)), zo 34 (.conv .u32 33), zc 35 130 [28, 31, 34], zo 36 (.bld [(.v (.pointer none)), (.v (.pointer none)), (.v (.int .i64 0)), (.v (.slice none 0 0))] [(0, 1, 27), (2, 1, 35)]), zo 37 (.box 36), zm 9 37])
 (.seq (.seq (.reg [zo 38 (.mov (zi 0))])
 (.blk 0 (.loop (.seq (.reg [zo 39 (.cmp .lss .i64 38 (zi 8))])
 (.seq (.cond 39
 .skip
 (.exit 0))
 (.seq (.blk 1 (.seq (.reg [zm 40 38, zm 10 40])
 (.reg [zm 41 0, zm 42 10, zo 43 (.call 130 [41, 42, (.c (.l (.v (.int .u32 0))))])])))
 (.reg [zo 44 (.ar .add .i64 38 (zi 1)), zm 38 44])))))))
 (.seq (.seq (.reg [zm 45 1, zo 46 (.len 45), zo 47 (.mov (zi 0))])
 (.blk 2 (.loop (.seq (.reg [zo 48 (.cmp .lss .i64 47 46)])
 (.seq (.cond 48
 .skip
 (.exit 2))
 (.seq (.blk 3 (.seq (.reg [zm 49 47, zo 50 (.ixs 1 45 47), zl 51 50, zm 11 49, zm 12 51])
 (.seq (.reg [zm 52 0, zm 53 12, zo 54 (.call 130 [52, 53, (.c (.l (.v (.int .u32 0))))])])
 (.reg [zm 55 9, zm 56 9, zn 57 56, zf 58 3 57, zl 59 58, zm 60 12, zm 61 11, zo 62 (.ar .add .i64 61 (zi 1)), zo 63 (.bld [(.v (.int .i64 0)), (.v (.int .i64 0)), (.v (.int .i64 0)), (.v (.int .i64 0)), (.v (.int .u32 0)), (.v (.int .i64 0))] [(0, 1, 60), (1, 1, 62)]), zo 64 (.bsl 6 1 [(.int .i64 0), (.int .i64 0), (.int .i64 0), (.int .i64 0), (.int .u32 0), (.int .i64 0)] [(0, 6, 63)]), zo 65 (.app 6 48 59 64), zn 66 55, zf 67 3 66, zs 1 67 65]))))
 (.reg [zo 68 (.ar .add .i64 47 (zi 1)), zm 47 68])))))))
 (.seq (.draw [zm 69 0, zm 70 1, zo 71 (.ixs 1 70 (zi 0)), zl 72 71, zo 73 (.call 140 [(zi 1073741823), (.c (.l (.v (.bool false)))), (.c (.l (.v (.bool false))))]), zc 74 130 [69, 72, 73]] [[], [], [1], [2], [], [0, 3, 4, 4]])
 (.seq (.reg [zm 75 9, zm 4 75, zo 5 (.mov (zi 0))])
 .ret)))))))))
theorem ic110_eq : cF Tryz.prog Tryz.f110 = some ic110 := by kernel_rfl
def ic111 : IC := (.seq (.reg [zo 10 (.mov (.c (.l (.v (.pointer none))))), zo 11 (.mov (zi 0))])
 (.seq (.reg [zm 23 1, zo 24 (.len 23), zo 25 (.call 127 [24, (.c (.l (.v (.bool false)))), (.c (.l (.v (.bool false))))]), zm 22 25, zo 26 (.ext 0 22), zo 27 (.ext 1 22), zm 12 26, zm 13 27])
 (.seq (.seq (.reg [zm 28 13, zo 29 (.cmp .neq .i64 28 (zi 0)), zm 30 29, ⟨(some 31), (some (30, false)), .mov 1⟩, ⟨(some 32), (some (30, false)), .call 128 [31, (.c (.l (.c 141 [])))]⟩, zo 33 (.pick 30 (.c (.l (.v (.bool true)))) 32)])
 (.cond 33
 (.seq (.reg [zo 10 (.mov (.c (.l (.v (.pointer none))))), zo 11 (.mov (zi 1))])
 .ret)
 .skip))
 (.seq (.seq (.reg [zo 34 (.bsl 1 2 [(.int .i64 0), (.int .i64 0)] [(0, 1, (zi 1)), (1, 1, (zi 4))]), zm 35 2, zc 36 123 [34, 35], zo 37 (.not 36), zm 38 37, ⟨(some 39), (some (38, false)), .bsl 1 3 [(.int .i64 0), (.int .i64 0), (.int .i64 0)] [(0, 1, (zi 1)), (1, 1, (zi 3)), (2, 1, (zi 4))]⟩, ⟨(some 40), (some (38, false)), .mov 3⟩, ⟨(some 41), (some (38, false)), .call 123 [39, 40]⟩, ⟨(some 42), (some (38, false)), .not 41⟩, zo 43 (.pick 38 (.c (.l (.v (.bool true)))) 42), zm 44 43, ⟨(some 45), (some (44, false)), .mov 4⟩, ⟨(some 46), (some (44, false)), .cmp .lss .i64 45 (zi 1)⟩, zo 47 (.pick 44 (.c (.l (.v (.bool true)))) 46), zm 48 47, ⟨(some 49), (some (48, false)), .mov 4⟩, ⟨(some 50), (some (48, false)), .cmp .gtr .i64 49 (zi 1000)⟩, zo 51 (.pick 48 (.c (.l (.v (.bool true)))) 50)])
 (.cond 51
 (.seq (.reg [zo 10 (.mov (.c (.l (.v (.pointer none))))), zo 11 (.mov (zi 7))])
 .ret)
 .skip))
 (.seq (.draw [zm 52 12, zm 53 0, zc 54 142 [53], zm 55 4, zo 56 (.conv .u32 55), zm 57 1, zo 58 (.len 57), zo 59 (.mks 4 32 [(.int .i64 0), (.int .i64 0), .nilFunc, (.int .u32 0)] 58 58), zo 60 (.bld [(.v (.pointer none)), (.v (.pointer none)), (.v (.int .i64 0)), (.v (.int .u32 0)), (.v .nilIface), (.v .nilIface), (.v .nilIface), (.v .nilIface), (.v .nilIface), (.v .nilIface), (.v .nilIface), (.v .nilIface), (.v .nilIface), (.v (.slice none 0 0))] [(0, 1, 52), (2, 1, 54), (3, 1, 56), (13, 1, 59)]), zo 61 (.box 60), zm 14 61] [[], [], [1], [], [3], [], [5], [6, 6], [0, 2, 4, 7], [8], [9, 2, 0, 1, 2, 3, 4, 5, 6, 7, 8, 9]])
 (.seq (.reg [zo 15 (.mov (.c (.l (.v (.slice none 0 0)))))])
 (.seq (.reg [zo 16 (.alloc [(.v (.slice none 0 0)), (.v (.slice none 0 0)), (.v (.slice none 0 0)), (.v (.slice none 0 0)), (.v (.slice none 0 0)), (.v (.slice none 0 0)), (.v (.slice none 0 0)), (.v (.slice none 0 0))])])
 (.seq (.seq (.reg [zo 62 (.mov (zi 0))])
 (.blk 0 (.loop (.seq (.reg [zo 63 (.cmp .lss .i64 62 (zi 8))])
 (.seq (.cond 63
 .skip
 (.exit 0))
 (.seq (.blk 1 (.seq (.reg [zm 64 62, zm 17 64])
 (.seq (.reg [zm 65 0, zm 66 17, zo 67 (.call 130 [65, 66, (.c (.l (.v (.int .u32 0))))])])
 (.reg [zm 68 15, zm 69 17, zo 70 (.bsl 1 1 [(.int .i64 0)] [(0, 1, 69)]), zo 71 (.app 1 8 68 70), zm 15 71]))))
 (.reg [zo 72 (.ar .add .i64 62 (zi 1)), zm 62 72])))))))
 (.seq (.reg [zm 73 14, zm 74 0, zm 75 2, zm 76 15, zc 77 143 [74, 75, 76], zn 78 73, zf 79 4 78, zs 1 79 77])
 (.seq (.seq (.reg [zm 80 1, zo 81 (.len 80), zo 82 (.mov (zi 0))])
 (.blk 2 (.loop (.seq (.reg [zo 83 (.cmp .lss .i64 82 81)])
 (.seq (.cond 83
 .skip
 (.exit 2))
 (.seq (.blk 3 (.seq (.reg [zm 84 82, zo 85 (.ixs 1 80 82), zl 86 85, zm 18 84, zm 19 86])
 (.seq (.draw [zm 87 14, zn 88 87, zf 89 13 88, zl 90 89, zm 91 18, zm 92 19, zm 93 19, zo 94 (.ixa 1 8 16 93), zl 95 94, zo 96 (.len 95), zo 97 (.bld [(.v (.int .i64 0)), (.v (.int .i64 0)), (.v .nilFunc), (.v (.int .u32 0))] [(0, 1, 92), (1, 1, 96)]), zo 98 (.ixs 4 90 91), zs 4 98 97] [[], [0], [1], [2], [], [], [], [6], [7], [8], [5, 9], [3, 4, 0, 1, 2, 3, 4, 5, 6, 7, 8, 9, 10], [11, 10, 0, 1, 2, 3, 4, 5, 6, 7, 8, 9, 10]])
 (.reg [zm 99 19, zm 100 19, zo 101 (.ixa 1 8 16 100), zl 102 101, zm 103 19, zo 104 (.bsl 1 1 [(.int .i64 0)] [(0, 1, 103)]), zo 105 (.app 1 8 102 104), zo 106 (.ixa 1 8 16 99), zs 1 106 105]))))
 (.reg [zo 107 (.ar .add .i64 82 (zi 1)), zm 82 107])))))))
 (.seq (.seq (.reg [zo 108 (.lda 8 16), zo 109 (.mov (zi 0))])
 (.blk 4 (.loop (.seq (.reg [zo 110 (.cmp .lss .i64 109 (zi 8))])
 (.seq (.cond 110
 .skip
 (.exit 4))
 (.jn (.blk 5 (.seq (.reg [zm 111 109, zo 112 (.esc (.index 301 (.tmp 108) (.tmp 109))), zm 20 111, zm 21 112])
 (.seq (.reg [zm 113 21, zo 114 (.len 113), zo 115 (.cmp .gtr .i64 114 (zi 0))])
 (.cond 115
 (.draw [zm 116 14, zm 117 20, zm 118 0, zm 119 3, zm 120 21, zc 121 143 [118, 119, 120], zn 122 116, zf 123 5 122, zo 124 (.ixa 1 8 123 117), zs 1 124 121] [[], [], [], [], [], [2, 3, 4], [0], [6], [7, 1, 0, 1, 2, 3, 4, 5], [8, 5, 5, 0, 1, 2, 3, 4, 5]])
 .skip))))
 (.reg [zo 125 (.ar .add .i64 109 (zi 1)), zm 109 125])))))))
 (.seq (.reg [zm 126 14, zm 10 126, zo 11 (.mov (zi 0))])
 .ret))))))))))))
theorem ic111_eq : cF Tryz.prog Tryz.f111 = some ic111 := by kernel_rfl
def ic112 : IC := (.seq (.reg [zo 6 (.mov (.c (.l (.v (.pointer none))))), zo 7 (.mov (zi 0))])
 (.seq (.seq (.reg [zm 14 0, zo 15 (.cmp .lss .i64 14 (zi 1)), zm 16 15, ⟨(some 17), (some (16, false)), .mov 0⟩, ⟨(some 18), (some (16, false)), .cmp .gtr .i64 17 (zi 64)⟩, zo 19 (.pick 16 (.c (.l (.v (.bool true)))) 18), zm 20 19, ⟨(some 21), (some (20, false)), .mov 1⟩, ⟨(some 22), (some (20, false)), .len 21⟩, ⟨(some 23), (some (20, false)), .mov 2⟩, ⟨(some 24), (some (20, false)), .len 23⟩, ⟨(some 25), (some (20, false)), .cmp .neq .i64 22 24⟩, zo 26 (.pick 20 (.c (.l (.v (.bool true)))) 25)])
 (.cond 26
 (.seq (.reg [zo 6 (.mov (.c (.l (.v (.pointer none))))), zo 7 (.mov (zi 1))])
 .ret)
 .skip))
 (.seq (.reg [zm 28 1, zc 29 144 [28], zm 27 29, zo 30 (.ext 0 27), zo 31 (.ext 1 27), zm 8 30, zm 9 31])
 (.seq (.seq (.reg [zm 32 9, zo 33 (.cmp .neq .i64 32 (zi 0))])
 (.cond 33
 (.seq (.reg [zm 34 9, zo 6 (.mov (.c (.l (.v (.pointer none))))), zm 7 34])
 .ret)
 .skip))
 (.seq (.seq (.reg [zm 35 2, zo 36 (.len 35), zo 37 (.mov (zi 0))])
 (.blk 0 (.loop (.seq (.reg [zo 38 (.cmp .lss .i64 37 36)])
 (.seq (.cond 38
 .skip
 (.exit 0))
 (.seq (.blk 1 (.seq (.reg [zm 39 37, zo 40 (.ixs 1 35 37), zl 41 40, zm 10 39, zm 11 41])
 (.reg [zm 42 8, zm 43 10, zm 44 11, zc 45 145 [42, 43, 44]])))
 (.reg [zo 46 (.ar .add .i64 37 (zi 1)), zm 37 46])))))))
 (.seq (.reg [zm 48 0, zm 49 2, zo 50 (.len 49), zc 51 146 [48, 50], zm 47 51, zo 52 (.ext 0 47), zo 53 (.ext 1 47), zm 12 52, zm 13 53])
 (.seq (.reg [zm 54 8, zm 55 12, zm 56 0, zo 57 (.mks 2 16 [(.int .i64 0), (.int .i64 0)] 56 56), zo 58 (.bld [(.v (.pointer none)), (.v (.pointer none)), (.v (.slice none 0 0))] [(0, 1, 54), (1, 1, 55), (2, 1, 57)]), zo 59 (.box 58), zm 6 59, zo 7 (.mov (zi 0))])
 .ret)))))))
theorem ic112_eq : cF Tryz.prog Tryz.f112 = some ic112 := by kernel_rfl
def ic123 : IC := (.seq (.reg [zo 4 (.mov (.c (.l (.v (.bool false)))))])
 (.seq (.reg [zm 5 0, zm 6 1, zc 7 150 [5, 6], zo 8 (.cmp .geq .i64 7 (zi 0)), zm 4 8])
 .ret))
theorem ic123_eq : cF Tryz.prog Tryz.f123 = some ic123 := by kernel_rfl
def ic127 : IC := (.seq (.reg [zo 6 (.mov (.c (.l (.v (.pointer none))))), zo 7 (.mov (zi 0))])
 (.seq (.seq (.reg [zm 10 0, zo 11 (.cmp .lss .i64 10 (zi 1)), zm 12 11, ⟨(some 13), (some (12, false)), .mov 0⟩, ⟨(some 14), (some (12, false)), .cmp .gtr .i64 13 (zi 64)⟩, zo 15 (.pick 12 (.c (.l (.v (.bool true)))) 14)])
 (.cond 15
 (.seq (.reg [zo 6 (.mov (.c (.l (.v (.pointer none))))), zo 7 (.mov (zi 1))])
 .ret)
 .skip))
 (.seq (.reg [zm 16 0, zo 17 (.mks 2 16 [(.int .i64 0), (.int .i64 0)] 16 16), zm 18 1, zm 19 2, zo 20 (.bld [(.v (.slice none 0 0)), (.v (.bool false)), (.v (.bool false))] [(0, 1, 17), (1, 1, 18), (2, 1, 19)]), zo 21 (.box 20), zm 8 21])
 (.seq (.seq (.reg [zm 22 8, zn 23 22, zf 24 0 23, zl 25 24, zo 26 (.len 25), zo 27 (.mov (zi 0))])
 (.blk 0 (.loop (.seq (.reg [zo 28 (.cmp .lss .i64 27 26)])
 (.seq (.cond 28
 .skip
 (.exit 0))
 (.seq (.blk 1 (.seq (.reg [zm 29 27, zm 9 29])
 (.reg [zm 30 8, zn 31 30, zf 32 0 31, zl 33 32, zm 34 9, zo 35 (.ixs 2 33 34), zf 36 1 35, ⟨none, none, .sto 1 36 (.c (.l (.v (.int .i64 (-1)))))⟩])))
 (.reg [zo 37 (.ar .add .i64 27 (zi 1)), zm 27 37])))))))
 (.seq (.reg [zm 38 8, zm 6 38, zo 7 (.mov (zi 0))])
 .ret)))))
theorem ic127_eq : cF Tryz.prog Tryz.f127 = some ic127 := by kernel_rfl
def ic128 : IC := (.seq (.reg [zo 4 (.mov (.c (.l (.v (.bool false)))))])
 (.seq (.reg [zm 5 0, zm 6 1, zc 7 151 [5, 6], zo 8 (.cmp .geq .i64 7 (zi 0)), zm 4 8])
 .ret))
theorem ic128_eq : cF Tryz.prog Tryz.f128 = some ic128 := by kernel_rfl
def ic129 : IC := (.seq (.reg [zo 2 (.mov (.c (.l (.v (.bool false)))))])
 (.seq (.reg [zm 3 0, zo 4 (.cmp .lss .i64 3 (zi 0)), zm 5 4, ⟨(some 6), (some (5, false)), .mov 0⟩, ⟨(some 7), (some (5, false)), .cmp .geq .i64 6 (zi 8)⟩, zo 8 (.pick 5 (.c (.l (.v (.bool true)))) 7), zm 2 8])
 .ret))
theorem ic129_eq : cF Tryz.prog Tryz.f129 = some ic129 := by kernel_rfl
def ic130 : IC := (.seq (.reg [zo 6 (.mov (zi 0))])
 (.seq (.reg [zm 7 0, zm 8 1, zm 9 2, zo 10 (.call 136 [7, (zi 1), 8, 9]), zm 6 10])
 .ret))
theorem ic130_eq : cF Tryz.prog Tryz.f130 = some ic130 := by kernel_rfl
def ic131 : IC := (.seq (.reg [zo 2 (.mov (.c (.l (.v (.bool false)))))])
 (.seq (.reg [zm 3 0, zo 4 (.cmp .lss .i64 3 (zi 0)), zm 5 4, ⟨(some 6), (some (5, false)), .mov 0⟩, ⟨(some 7), (some (5, false)), .cmp .geq .i64 6 (zi 8)⟩, zo 8 (.pick 5 (.c (.l (.v (.bool true)))) 7), zm 2 8])
 .ret))
theorem ic131_eq : cF Tryz.prog Tryz.f131 = some ic131 := by kernel_rfl
def ic132 : IC := (.seq (.reg [zo 0 (.mov (.c (.l (.v (.slice none 0 0)))))])
 (.seq (.reg [zo 1 (.mov (.c (.l (.v (.slice none 0 0)))))])
 (.seq (.seq (.reg [zo 2 (.mov (zi 1))])
 (.blk 0 (.loop (.seq (.seq (.reg [zm 3 2, zo 4 (.cmp .leq .i64 3 (zi 64))])
 (.cond 4
 .skip
 (.exit 0)))
 (.seq (.blk 1 (.reg [zm 7 1, zm 8 2, zo 9 (.bsl 1 1 [(.int .i64 0)] [(0, 1, 8)]), zo 10 (.app 1 8 7 9), zm 1 10]))
 (.reg [zm 5 2, zo 6 (.sh .shl .i64 5 (.c (.l (.v (.int .u64 1))))), zm 2 6]))))))
 (.seq (.reg [zm 11 1, zm 0 11])
 .ret))))
theorem ic132_eq : cF Tryz.prog Tryz.f132 = some ic132 := by kernel_rfl
def ic133 : IC := (.seq (.reg [zo 4 (.mov (zi 0))])
 (.seq (.seq (.reg [zm 5 1, zo 6 (.cmp .lss .i64 5 (zi 1)), zm 7 6, ⟨(some 8), (some (7, false)), .mov 1⟩, ⟨(some 9), (some (7, false)), .cmp .gtr .i64 8 (zi 64)⟩, zo 10 (.pick 7 (.c (.l (.v (.bool true)))) 9), zm 11 10, ⟨(some 12), (some (11, false)), .mov 1⟩, ⟨(some 13), (some (11, false)), .mov 1⟩, ⟨(some 14), (some (11, false)), .ar .sub .i64 13 (zi 1)⟩, ⟨(some 15), (some (11, false)), .bt .and .i64 12 14⟩, ⟨(some 16), (some (11, false)), .cmp .neq .i64 15 (zi 0)⟩, zo 17 (.pick 11 (.c (.l (.v (.bool true)))) 16)])
 (.cond 17
 (.seq (.reg [zo 4 (.mov (zi 0))])
 .ret)
 .skip))
 (.seq (.reg [zm 18 0, zm 19 1, zo 20 (.ar .sub .i64 19 (zi 1)), zo 21 (.conv .u32 20), zo 22 (.bt .and .u32 18 21), zo 23 (.conv .i64 22), zm 4 23])
 .ret)))
theorem ic133_eq : cF Tryz.prog Tryz.f133 = some ic133 := by kernel_rfl
def ic134 : IC := (.seq (.reg [zo 2 (.mov (.c (.l (.v (.bool false)))))])
 (.seq (.reg [zm 3 0, zo 4 (.cmp .lss .i64 3 (zi 0)), zm 5 4, ⟨(some 6), (some (5, false)), .mov 0⟩, ⟨(some 7), (some (5, false)), .cmp .geq .i64 6 (zi 8)⟩, zo 8 (.pick 5 (.c (.l (.v (.bool true)))) 7), zm 2 8])
 .ret))
theorem ic134_eq : cF Tryz.prog Tryz.f134 = some ic134 := by kernel_rfl
def ic135 : IC := (.seq (.reg [zo 2 (.mov (.c (.l (.v (.bool false)))))])
 (.seq (.reg [zm 3 0, zo 4 (.cmp .lss .i64 3 (zi 0)), zm 5 4, ⟨(some 6), (some (5, false)), .mov 0⟩, ⟨(some 7), (some (5, false)), .cmp .geq .i64 6 (zi 8)⟩, zo 8 (.pick 5 (.c (.l (.v (.bool true)))) 7), zm 2 8])
 .ret))
theorem ic135_eq : cF Tryz.prog Tryz.f135 = some ic135 := by kernel_rfl
def ic136 : IC := (.seq (.reg [zo 8 (.mov (zi 0))])
 (.seq (.reg [zm 10 0, zn 11 10, zf 12 2 11, zl 13 12, zo 14 (.len 13), zm 9 14])
 (.seq (.seq (.reg [zm 15 1, zo 16 (.mx .i64 15 (zi 0)), zo 17 (.mn .i64 16 (zi 4097)), zo 18 (.mov (zi 0))])
 (.blk 0 (.loop (.seq (.reg [zo 19 (.cmp .lss .i64 18 17)])
 (.seq (.cond 19
 .skip
 (.exit 0))
 (.seq (.blk 1 (.seq (.reg [zm 20 0, zm 21 0, zn 22 21, zf 23 1 22, zl 24 23, zm 25 2, zo 26 (.bsl 1 1 [(.int .i64 0)] [(0, 1, 25)]), zo 27 (.app 1 8 24 26), zn 28 20, zf 29 1 28, zs 1 29 27])
 (.reg [zm 30 0, zm 31 0, zn 32 31, zf 33 2 32, zl 34 33, zm 35 3, zo 36 (.bsl 1 1 [(.int .u32 0)] [(0, 1, 35)]), zo 37 (.app 1 4 34 36), zn 38 30, zf 39 2 38, zs 1 39 37])))
 (.reg [zo 40 (.ar .add .i64 18 (zi 1)), zm 18 40])))))))
 (.seq (.reg [zm 41 9, zm 8 41])
 .ret))))
theorem ic136_eq : cF Tryz.prog Tryz.f136 = some ic136 := by kernel_rfl
def ic137 : IC := (.seq (.reg [zo 2 (.mov (.c (.l (.v (.bool false)))))])
 (.seq (.reg [zm 3 0, zo 4 (.cmp .lss .i64 3 (zi 0)), zm 5 4, ⟨(some 6), (some (5, false)), .mov 0⟩, ⟨(some 7), (some (5, false)), .cmp .geq .i64 6 (zi 8)⟩, zo 8 (.pick 5 (.c (.l (.v (.bool true)))) 7), zm 2 8])
 .ret))
theorem ic137_eq : cF Tryz.prog Tryz.f137 = some ic137 := by kernel_rfl
def ic138 : IC := (.seq (.reg [zo 4 (.mov (.c (.l (.v (.pointer none))))), zo 5 (.mov (zi 0))])
 (.seq (.seq (.reg [zm 8 0, zo 9 (.cmp .lss .i64 8 (zi 1)), zm 10 9, ⟨(some 11), (some (10, false)), .mov 0⟩, ⟨(some 12), (some (10, false)), .cmp .gtr .i64 11 (zi 64)⟩, zo 13 (.pick 10 (.c (.l (.v (.bool true)))) 12), zm 14 13, ⟨(some 15), (some (14, false)), .mov 1⟩, ⟨(some 16), (some (14, false)), .cmp .lss .i64 15 (zi 1)⟩, zo 17 (.pick 14 (.c (.l (.v (.bool true)))) 16), zm 18 17, ⟨(some 19), (some (18, false)), .mov 1⟩, ⟨(some 20), (some (18, false)), .cmp .gtr .i64 19 (zi 8)⟩, zo 21 (.pick 18 (.c (.l (.v (.bool true)))) 20)])
 (.cond 21
 (.seq (.reg [zo 4 (.mov (.c (.l (.v (.pointer none))))), zo 5 (.mov (zi 1))])
 .ret)
 .skip))
 (.seq (.draw [zm 22 0, zo 23 (.mks 1 24 [(.slice none 0 0)] 22 22), zm 24 0, zm 25 1, zo 26 (.ar .mul .i64 24 25), zo 27 (.ar .add .i64 (zi 1) 26), zo 28 (.mks 1 1 [(.bool false)] 27 27), zo 29 (.bld [(.v (.slice none 0 0)), (.v (.slice none 0 0))] [(0, 1, 23), (1, 1, 28)]), zo 30 (.box 29), zm 6 30] [[], [0, 0], [], [], [2, 3], [4], [5, 5], [1, 6], [7], [8, 0, 1, 2, 3, 4, 5, 6, 7, 8]])
 (.seq (.seq (.reg [zm 31 0, zm 32 1, zo 33 (.ar .mul .i64 31 32), zo 34 (.mov (zi 0))])
 (.blk 0 (.loop (.seq (.reg [zo 35 (.cmp .lss .i64 34 33)])
 (.seq (.cond 35
 .skip
 (.exit 0))
 (.seq (.blk 1 (.seq (.reg [zm 36 34, zm 7 36])
 (.draw [zm 37 6, zn 38 37, zf 39 0 38, zl 40 39, zm 41 7, zm 42 1, zo 43 (.dv .quo .i64 41 42), zm 44 6, zn 45 44, zf 46 0 45, zl 47 46, zm 48 7, zm 49 1, zo 50 (.dv .quo .i64 48 49), zo 51 (.ixs 1 47 50), zl 52 51, zm 53 7, zo 54 (.ar .add .i64 53 (zi 1)), zo 55 (.bsl 1 1 [(.int .i64 0)] [(0, 1, 54)]), zo 56 (.app 1 8 52 55), zo 57 (.ixs 1 40 43), zs 1 57 56] [[], [0], [1], [2], [], [], [4, 5], [], [7], [8], [9], [], [], [11, 12], [10, 13], [14], [], [16], [17], [15, 18], [3, 6, 0, 1, 2, 3, 4, 5, 6, 7, 8, 9, 10, 11, 12, 13, 14, 15, 16, 17, 18, 19], [20, 19, 19, 0, 1, 2, 3, 4, 5, 6, 7, 8, 9, 10, 11, 12, 13, 14, 15, 16, 17, 18, 19]])))
 (.reg [zo 58 (.ar .add .i64 34 (zi 1)), zm 34 58])))))))
 (.seq (.reg [zm 59 6, zm 4 59, zo 5 (.mov (zi 0))])
 .ret)))))
theorem ic138_eq : cF Tryz.prog Tryz.f138 = some ic138 := by kernel_rfl
def ic139 : IC := (.seq (.reg [zo 2 (.mov (.c (.l (.v (.bool false)))))])
 (.seq (.reg [zm 3 0, zo 4 (.cmp .lss .i64 3 (zi 0)), zm 5 4, ⟨(some 6), (some (5, false)), .mov 0⟩, ⟨(some 7), (some (5, false)), .cmp .geq .i64 6 (zi 8)⟩, zo 8 (.pick 5 (.c (.l (.v (.bool true)))) 7), zm 2 8])
 .ret))
theorem ic139_eq : cF Tryz.prog Tryz.f139 = some ic139 := by kernel_rfl
def ic140 : IC := (.seq (.reg [zo 6 (.mov (.c (.l (.v (.int .u32 0)))))])
 (.seq (.reg [zm 8 0, zo 9 (.mx .i64 8 (zi 0)), zo 10 (.mn .i64 9 (zi 1073741823)), zo 11 (.conv .u32 10), zo 12 (.ar .mul .u32 11 (.c (.l (.v (.int .u32 4))))), zm 7 12])
 (.jn (.seq (.reg [zm 13 1])
 (.cond 13
 (.reg [zm 14 7, zo 15 (.bt .or .u32 14 (.c (.l (.v (.int .u32 2))))), zm 7 15])
 .skip))
 (.jn (.seq (.reg [zm 16 2])
 (.cond 16
 (.reg [zm 17 7, zo 18 (.bt .or .u32 17 (.c (.l (.v (.int .u32 1))))), zm 7 18])
 .skip))
 (.seq (.reg [zm 19 7, zm 6 19])
 .ret)))))
theorem ic140_eq : cF Tryz.prog Tryz.f140 = some ic140 := by kernel_rfl
def ic141 : IC := (.seq (.reg [zo 2 (.mov (.c (.l (.v (.bool false)))))])
 (.seq (.reg [zm 3 0, zo 4 (.cmp .lss .i64 3 (zi 0)), zm 5 4, ⟨(some 6), (some (5, false)), .mov 0⟩, ⟨(some 7), (some (5, false)), .cmp .geq .i64 6 (zi 8)⟩, zo 8 (.pick 5 (.c (.l (.v (.bool true)))) 7), zm 2 8])
 .ret))
theorem ic141_eq : cF Tryz.prog Tryz.f141 = some ic141 := by kernel_rfl
def ic142 : IC := (.seq (.reg [zo 2 (.mov (zi 0))])
 (.seq (.reg [zm 3 0, zn 4 3, zf 5 2 4, zl 6 5, zo 7 (.len 6), zm 2 7])
 .ret))
theorem ic142_eq : cF Tryz.prog Tryz.f142 = some ic142 := by kernel_rfl
def ic143 : IC := (.seq (.reg [zo 6 (.mov (.c (.l (.v .nilIface))))])
 (.seq (.seq (.reg [zm 13 1])
 (.blk 0 (.seq (.reg [zo 15 (.cmp .eql .i64 13 (zi 1)), zm 14 15])
 (.cond 14
 (.seq (.reg [zm 17 0, zm 18 2, zo 19 (.call 105 [17, 18, (.c (.l (.v (.int .u32 0))))]), zm 16 19, zo 20 (.ext 0 16), zo 21 (.ext 1 16), zm 7 20, zm 8 21])
 (.seq (.reg [zm 22 7, zo 23 (.mki 221 22), zm 6 23])
 .ret))
 (.seq (.reg [zo 25 (.cmp .eql .i64 13 (zi 3)), zm 24 25])
 (.cond 24
 (.seq (.reg [zm 27 0, zm 28 2, zc 29 107 [27, 28], zm 26 29, zo 30 (.ext 0 26), zo 31 (.ext 1 26), zm 9 30, zm 10 31])
 (.seq (.reg [zm 32 9, zo 33 (.mki 227 32), zm 6 33])
 .ret))
 .skip))))))
 (.seq (.reg [zm 35 0, zm 36 2, zc 37 108 [35, 36], zm 34 37, zo 38 (.ext 0 34), zo 39 (.ext 1 34), zm 11 38, zm 12 39])
 (.seq (.reg [zm 40 11, zo 41 (.mki 230 40), zm 6 41])
 .ret))))
theorem ic143_eq : cF Tryz.prog Tryz.f143 = some ic143 := by kernel_rfl
def ic144 : IC := (.seq (.reg [zo 2 (.mov (.c (.l (.v (.pointer none))))), zo 3 (.mov (zi 0))])
 (.seq (.seq (.reg [zm 6 0, zo 7 (.len 6), zo 8 (.cmp .gtr .i64 7 (zi 4096))])
 (.cond 8
 (.seq (.reg [zo 2 (.mov (.c (.l (.v (.pointer none))))), zo 3 (.mov (zi 5))])
 .ret)
 .skip))
 (.seq (.seq (.reg [zm 9 0, zo 10 (.len 9), zo 11 (.mov (zi 0))])
 (.blk 0 (.loop (.seq (.reg [zo 12 (.cmp .lss .i64 11 10)])
 (.seq (.cond 12
 .skip
 (.exit 0))
 (.seq (.blk 1 (.seq (.reg [zo 13 (.ixs 1 9 11), zl 14 13, zm 5 14])
 (.seq (.reg [zm 15 5, zo 16 (.cmp .lss .i64 15 (zi 0)), zm 17 16, ⟨(some 18), (some (17, false)), .mov 5⟩, ⟨(some 19), (some (17, false)), .cmp .geq .i64 18 (zi 8)⟩, zo 20 (.pick 17 (.c (.l (.v (.bool true)))) 19)])
 (.cond 20
 (.seq (.reg [zo 2 (.mov (.c (.l (.v (.pointer none))))), zo 3 (.mov (zi 1))])
 .ret)
 .skip))))
 (.reg [zo 21 (.ar .add .i64 11 (zi 1)), zm 11 21])))))))
 (.seq (.draw [zm 22 0, zo 23 (.len 22), zo 24 (.mks 1 4 [(.int .u32 0)] 23 23), zm 25 0, zc 26 159 [25], zo 27 (.bld [(.v (.slice none 0 0)), (.v (.slice none 0 0))] [(0, 1, 24), (1, 1, 26)]), zo 28 (.box 27), zm 2 28, zo 3 (.mov (zi 0))] [[], [0], [1, 1], [], [3], [2, 4], [5], [6, 4, 0, 1, 2, 3, 4, 5, 6], [7, 0, 1, 2, 3, 4, 5, 6, 7]])
 .ret))))
theorem ic144_eq : cF Tryz.prog Tryz.f144 = some ic144 := by kernel_rfl
def ic145 : IC := (.seq (.reg [zm 7 0, zm 8 1, zc 9 160 [7, 8], zm 6 9])
 (.seq (.reg [zm 10 6, zo 11 (.eq .p true 10 (.c (.l (.v (.pointer none)))))])
 (.cond 11
 (.reg [zm 12 6, zm 13 2, zc 14 161 [12, 13]])
 .skip)))
theorem ic145_eq : cF Tryz.prog Tryz.f145 = some ic145 := by kernel_rfl
def ic146 : IC := (.seq (.reg [zo 4 (.mov (.c (.l (.v (.pointer none))))), zo 5 (.mov (zi 0))])
 (.seq (.seq (.reg [zm 6 0, zo 7 (.cmp .lss .i64 6 (zi 1)), zm 8 7, ⟨(some 9), (some (8, false)), .mov 0⟩, ⟨(some 10), (some (8, false)), .cmp .gtr .i64 9 (zi 64)⟩, zo 11 (.pick 8 (.c (.l (.v (.bool true)))) 10), zm 12 11, ⟨(some 13), (some (12, false)), .mov 1⟩, ⟨(some 14), (some (12, false)), .cmp .lss .i64 13 (zi 0)⟩, zo 15 (.pick 12 (.c (.l (.v (.bool true)))) 14), zm 16 15, ⟨(some 17), (some (16, false)), .mov 1⟩, ⟨(some 18), (some (16, false)), .cmp .gtr .i64 17 (zi 4096)⟩, zo 19 (.pick 16 (.c (.l (.v (.bool true)))) 18)])
 (.cond 19
 (.seq (.reg [zo 4 (.mov (.c (.l (.v (.pointer none))))), zo 5 (.mov (zi 1))])
 .ret)
 .skip))
 (.seq (.draw [zm 20 1, zo 21 (.mks 1 8 [(.int .u64 0)] 20 20), zm 22 0, zo 23 (.mks 1 8 [(.int .i64 0)] 22 22), zo 24 (.bld [(.v (.slice none 0 0)), (.v (.slice none 0 0))] [(0, 1, 21), (1, 1, 23)]), zo 25 (.box 24), zm 4 25, zo 5 (.mov (zi 0))] [[], [0, 0], [], [2, 2], [1, 3], [4], [5, 0, 1, 2, 3, 4, 5], [6, 0, 1, 2, 3, 4, 5, 6]])
 .ret)))
theorem ic146_eq : cF Tryz.prog Tryz.f146 = some ic146 := by kernel_rfl
def ic150 : IC := (.seq (.reg [zo 4 (.mov (zi 0))])
 (.seq (.seq (.reg [zm 6 0, zo 7 (.len 6), zo 8 (.mov (zi 0))])
 (.blk 0 (.loop (.seq (.reg [zo 9 (.cmp .lss .i64 8 7)])
 (.seq (.cond 9
 .skip
 (.exit 0))
 (.seq (.blk 1 (.seq (.reg [zm 10 8, zm 5 10])
 (.seq (.reg [zm 11 1, zm 12 0, zm 13 5, zo 14 (.ixs 1 12 13), zl 15 14, zo 16 (.cmp .eql .i64 11 15)])
 (.cond 16
 (.seq (.reg [zm 17 5, zm 4 17])
 .ret)
 .skip))))
 (.reg [zo 18 (.ar .add .i64 8 (zi 1)), zm 8 18])))))))
 (.seq (.reg [zo 4 (.mov (.c (.l (.v (.int .i64 (-1))))))])
 .ret)))
theorem ic150_eq : cF Tryz.prog Tryz.f150 = some ic150 := by kernel_rfl
def ic151 : IC := (.seq (.reg [zo 4 (.mov (zi 0))])
 (.seq (.seq (.reg [zm 6 0, zo 7 (.len 6), zo 8 (.mov (zi 0))])
 (.blk 0 (.loop (.seq (.reg [zo 9 (.cmp .lss .i64 8 7)])
 (.seq (.cond 9
 .skip
 (.exit 0))
 (.seq (.blk 1 (.seq (.reg [zm 10 8, zm 5 10])
 (.seq (.reg [zm 11 1, zm 12 0, zm 13 5, zo 14 (.ixs 1 12 13), zl 15 14, zo 16 (.callv 11 [15])])
 (.cond 16
 (.seq (.reg [zm 17 5, zm 4 17])
 .ret)
 .skip))))
 (.reg [zo 18 (.ar .add .i64 8 (zi 1)), zm 8 18])))))))
 (.seq (.reg [zo 4 (.mov (.c (.l (.v (.int .i64 (-1))))))])
 .ret)))
theorem ic151_eq : cF Tryz.prog Tryz.f151 = some ic151 := by kernel_rfl
def ic159 : IC := (.seq (.reg [zo 2 (.mov (.c (.l (.v (.slice none 0 0)))))])
 (.seq (.seq (.reg [zm 3 0, zo 4 (.esc (.binOp .eql 22 (.tmp 3) (.const (.slice none 0 0)) 22))])
 (.cond 4
 (.seq (.reg [zo 2 (.mov (.c (.l (.v (.slice none 0 0)))))])
 .ret)
 .skip))
 (.seq (.reg [zo 5 (.bsl 1 0 [] []), zm 6 0, zo 7 (.app 1 8 5 6), zm 2 7])
 .ret)))
theorem ic159_eq : cF Tryz.prog Tryz.f159 = some ic159 := by kernel_rfl
def ic160 : IC := (.seq (.reg [zo 4 (.mov (.c (.l (.v (.pointer none)))))])
 (.seq (.seq (.reg [zm 5 1, zo 6 (.cmp .lss .i64 5 (zi 0)), zm 7 6, ⟨(some 8), (some (7, false)), .mov 1⟩, ⟨(some 9), (some (7, false)), .mov 0⟩, ⟨(some 10), (some (7, false)), .nck 9⟩, ⟨(some 11), (some (7, false)), .fa 0 10⟩, ⟨(some 12), (some (7, false)), .ld 11⟩, ⟨(some 13), (some (7, false)), .len 12⟩, ⟨(some 14), (some (7, false)), .cmp .geq .i64 8 13⟩, zo 15 (.pick 7 (.c (.l (.v (.bool true)))) 14)])
 (.cond 15
 (.seq (.reg [zo 4 (.mov (.c (.l (.v (.pointer none)))))])
 .ret)
 .skip))
 (.seq (.reg [zm 16 0, zn 17 16, zf 18 0 17, zl 19 18, zm 20 1, zo 21 (.ixs 1 19 20), zm 4 21])
 .ret)))
theorem ic160_eq : cF Tryz.prog Tryz.f160 = some ic160 := by kernel_rfl
def ic161 : IC := (.reg [zm 4 0, zn 5 4, zf 6 0 5, zm 7 1, zo 8 (.esc (.call { callee := .value (.func 174), args := #[(.tmp 6), (.tmp 7)], argTypes := #[201, 23] }))])
theorem ic161_eq : cF Tryz.prog Tryz.f161 = some ic161 := by kernel_rfl
def ic209 : IC := (.seq (.reg [zo 2 (.mov (zi 0))])
 (.seq (.reg [zm 3 0, zn 4 3, zf 5 0 4, zl 6 5, zo 7 (.len 6), zm 2 7])
 .ret))
theorem ic209_eq : cF Tryz.prog Tryz.f209 = some ic209 := by kernel_rfl
def ic210 : IC := (.seq (.reg [zo 6 (.mov (zi 0))])
 (.seq (.blk 0 (.jn (.seq (.reg [zm 8 0, zm 9 1, zc 10 216 [8, 9], zo 11 (.not 10), zm 7 11])
 (.cond 7
 .skip
 (.seq (.reg [zm 12 2, zo 13 (.cmp .lss .i64 12 (.c (.l (.v (.int .i64 (-1)))))), zm 7 13])
 (.cond 7
 .skip
 (.reg [zm 14 2, zo 15 (.cmp .geq .i64 14 (zi 0)), zm 16 15, ⟨(some 17), (some (16, true)), .mov 0⟩, ⟨(some 18), (some (16, true)), .nck 17⟩, ⟨(some 19), (some (16, true)), .fa 1 18⟩, ⟨(some 20), (some (16, true)), .ld 19⟩, ⟨(some 21), (some (16, true)), .not 20⟩, zo 22 (.pick 16 21 (.c (.l (.v (.bool false))))), zm 7 22])))))
 (.cond 7
 (.seq (.reg [zo 6 (.mov (zi 1))])
 .ret)
 (.seq (.reg [zm 24 0, zn 25 24, zf 26 0 25, zl 27 26, zm 28 1, zo 29 (.ixs 2 27 28), zf 30 0 29, zl 31 30, zo 32 (.cmp .neq .i64 31 (zi 0)), zm 23 32])
 (.cond 23
 (.seq (.reg [zo 6 (.mov (zi 2))])
 .ret)
 .skip)))))
 (.seq (.reg [zm 33 0, zn 34 33, zf 35 0 34, zl 36 35, zm 37 1, zm 38 2, zo 39 (.bld [(.v (.int .i64 0)), (.v (.int .i64 0))] [(0, 1, (zi 1)), (1, 1, 38)]), zo 40 (.ixs 2 36 37), zs 2 40 39])
 (.seq (.reg [zo 6 (.mov (zi 0))])
 .ret))))
theorem ic210_eq : cF Tryz.prog Tryz.f210 = some ic210 := by kernel_rfl
def ic211 : IC := (.seq (.reg [zo 4 (.mov (zi 0))])
 (.seq (.seq (.reg [zm 6 0, zn 7 6, zf 8 2 7, zl 9 8, zo 10 (.not 9)])
 (.cond 10
 (.seq (.reg [zo 4 (.mov (zi 1))])
 .ret)
 .skip))
 (.seq (.reg [zm 11 0, zm 12 1, zc 13 217 [11, 12], zm 5 13])
 (.jn (.seq (.reg [zm 14 5, zo 15 (.cmp .eql .i64 14 (zi 0))])
 (.cond 15
 (.reg [zm 16 0, zn 17 16, zf 18 0 17, zl 19 18, zm 20 1, zo 21 (.ixs 2 19 20), zf 22 0 21, ⟨none, none, .sto 1 22 (zi 4)⟩])
 .skip))
 (.seq (.reg [zm 23 5, zm 4 23])
 .ret)))))
theorem ic211_eq : cF Tryz.prog Tryz.f211 = some ic211 := by kernel_rfl
def ic212 : IC := (.seq (.reg [zo 4 (.mov (zi 0))])
 (.seq (.seq (.reg [zm 5 0, zm 6 1, zc 7 216 [5, 6], zo 8 (.not 7)])
 (.cond 8
 (.seq (.reg [zo 4 (.mov (zi 0))])
 .ret)
 .skip))
 (.seq (.reg [zm 9 0, zn 10 9, zf 11 0 10, zl 12 11, zm 13 1, zo 14 (.ixs 2 12 13), zf 15 0 14, zl 16 15, zm 4 16])
 .ret)))
theorem ic212_eq : cF Tryz.prog Tryz.f212 = some ic212 := by kernel_rfl
def ic213 : IC := (.seq (.reg [zo 8 (.alloc [(.v (.int .i64 0)), (.v (.bool false)), (.v (.bool false)), (.v (.bool false))])])
 (.seq (.reg [zo 9 (.alloc [(.v (.int .i64 0)), (.v (.bool false)), (.v (.bool false)), (.v (.bool false))])])
 (.jn (.seq (.reg [zm 10 0, zn 11 10, zf 12 0 11, zl 13 12, zm 14 1, zc 15 212 [13, 14]])
 (.blk 0 (.seq (.reg [zo 17 (.cmp .eql .i64 15 (zi 1)), zm 16 17])
 (.cond 16
 (.reg [zm 18 0, zm 19 1, zm 20 2, zc 21 218 [18, 19, 20], zs 4 9 21])
 (.seq (.reg [zo 23 (.cmp .eql .i64 15 (zi 3)), zm 22 23])
 (.cond 22
 (.seq (.draw [zm 24 0, zn 25 24, zf 26 1 25, zl 27 26, zm 28 2, zm 29 0, zn 30 29, zf 31 3 30, zl 32 31, zm 33 0, zn 34 33, zf 35 4 34, zl 36 35, zm 37 1, zo 38 (.ixs 1 36 37), zl 39 38, zo 40 (.ar .add .u32 39 (.c (.l (.v (.int .u32 1))))), zc 41 219 [27, 28, 32, 40]] [[], [0], [1], [2], [], [], [5], [6], [7], [], [9], [10], [11], [], [12, 13], [14], [15], [3, 4, 8, 16]])
 (.seq (.reg [zm 42 0, zn 43 42, zf 44 5 43, zl 45 44, zm 46 1, zo 47 (.ixs 1 45 46), ⟨none, none, .sto 1 47 (.c (.l (.v (.bool false))))⟩])
 (.reg [zf 48 0 9, ⟨none, none, .sto 1 48 (zi 3)⟩])))
 (.seq (.reg [zo 50 (.cmp .eql .i64 15 (zi 4)), zm 49 50])
 (.cond 49
 (.seq (.reg [zf 51 0 9, ⟨none, none, .sto 1 51 (zi 5)⟩])
 (.seq (.draw [zm 52 0, zn 53 52, zf 54 1 53, zl 55 54, zm 56 2, zm 57 0, zn 58 57, zf 59 2 58, zl 60 59, zc 61 220 [55, 56, 60], zm 62 0, zn 63 62, zf 64 4 63, zl 65 64, zm 66 1, zo 67 (.ixs 1 65 66), zl 68 67, zo 69 (.ar .add .u32 68 (.c (.l (.v (.int .u32 1))))), zo 70 (.cmp .eql .u32 61 69)] [[], [0], [1], [2], [], [], [5], [6], [7], [3, 4, 8], [], [10], [11], [12], [], [13, 14], [15], [16], [9, 17]])
 (.cond 70
 (.reg [zf 71 0 9, ⟨none, none, .sto 1 71 (zi 4)⟩])
 .skip)))
 .skip))))))))
 (.seq (.draw [zm 72 0, zn 73 72, zf 74 0 73, zl 75 74, zm 76 1, zf 77 0 9, zl 78 77, zc 79 221 [75, 76, 78]] [[], [0], [1], [2], [], [], [5], [3, 4, 6]])
 (.seq (.reg [zo 80 (.lda 4 9), zs 4 8 80])
 .ret)))))
theorem ic213_eq : cF Tryz.prog Tryz.f213 = some ic213 := by kernel_rfl
def ic214 : IC := (.seq (.reg [zo 4 (.mov (zi 0))])
 (.seq (.reg [zm 6 0, zm 7 1, zc 8 217 [6, 7], zm 5 8])
 (.jn (.seq (.reg [zm 9 5, zo 10 (.cmp .eql .i64 9 (zi 0))])
 (.cond 10
 (.reg [zm 11 0, zn 12 11, zf 13 0 12, zl 14 13, zm 15 1, zo 16 (.ixs 2 14 15), zf 17 0 16, ⟨none, none, .sto 1 17 (zi 3)⟩])
 .skip))
 (.seq (.reg [zm 18 5, zm 4 18])
 .ret))))
theorem ic214_eq : cF Tryz.prog Tryz.f214 = some ic214 := by kernel_rfl
def ic215 : IC := (.reg [zm 4 0, zm 5 1, zn 6 4, zf 7 1 6, zs 1 7 5])
theorem ic215_eq : cF Tryz.prog Tryz.f215 = some ic215 := by kernel_rfl
def ic216 : IC := (.seq (.reg [zo 4 (.mov (.c (.l (.v (.bool false)))))])
 (.seq (.reg [zm 5 1, zo 6 (.cmp .geq .i64 5 (zi 0)), zm 7 6, ⟨(some 8), (some (7, true)), .mov 1⟩, ⟨(some 9), (some (7, true)), .mov 0⟩, ⟨(some 10), (some (7, true)), .nck 9⟩, ⟨(some 11), (some (7, true)), .fa 0 10⟩, ⟨(some 12), (some (7, true)), .ld 11⟩, ⟨(some 13), (some (7, true)), .len 12⟩, ⟨(some 14), (some (7, true)), .cmp .lss .i64 8 13⟩, zo 15 (.pick 7 14 (.c (.l (.v (.bool false))))), zm 4 15])
 .ret))
theorem ic216_eq : cF Tryz.prog Tryz.f216 = some ic216 := by kernel_rfl
def ic217 : IC := (.seq (.reg [zo 4 (.mov (zi 0))])
 (.seq (.blk 0 (.seq (.reg [zm 6 0, zm 7 1, zc 8 216 [6, 7], zo 9 (.not 8), zm 5 9])
 (.cond 5
 (.seq (.reg [zo 4 (.mov (zi 1))])
 .ret)
 (.seq (.reg [zm 11 0, zn 12 11, zf 13 0 12, zl 14 13, zm 15 1, zo 16 (.ixs 2 14 15), zf 17 0 16, zl 18 17, zo 19 (.cmp .eql .i64 18 (zi 0)), zm 10 19])
 (.cond 10
 (.seq (.reg [zo 4 (.mov (zi 3))])
 .ret)
 (.seq (.reg [zm 21 0, zn 22 21, zf 23 0 22, zl 24 23, zm 25 1, zo 26 (.ixs 2 24 25), zf 27 0 26, zl 28 27, zo 29 (.cmp .neq .i64 28 (zi 2)), zm 20 29])
 (.cond 20
 (.seq (.reg [zo 4 (.mov (zi 2))])
 .ret)
 .skip)))))))
 (.seq (.reg [zo 4 (.mov (zi 0))])
 .ret)))
theorem ic217_eq : cF Tryz.prog Tryz.f217 = some ic217 := by kernel_rfl
def ic218 : IC := (.seq (.reg [zo 6 (.alloc [(.v (.int .i64 0)), (.v (.bool false)), (.v (.bool false)), (.v (.bool false))])])
 (.seq (.seq (.reg [zm 7 0, zn 8 7, zf 9 5 8, zl 10 9, zm 11 1, zo 12 (.ixs 1 10 11), zl 13 12, zo 14 (.not 13)])
 (.cond 14
 (.seq (.draw [zm 15 0, zn 16 15, zf 17 4 16, zl 18 17, zm 19 1, zm 20 0, zn 21 20, zf 22 5 21, zl 23 22, zm 24 1, zm 25 0, zn 26 25, zf 27 1 26, zl 28 27, zm 29 2, zm 30 0, zn 31 30, zf 32 2 31, zl 33 32, zo 34 (.call 222 [28, 29, 33, (.c (.l (.v (.int .u32 1))))]), zo 35 (.ixs 1 18 19), zs 1 35 34, zo 36 (.ixs 1 23 24), ⟨none, none, .sto 1 36 (.c (.l (.v (.bool true))))⟩] [[], [0], [1], [2], [], [], [5], [6], [7], [], [], [10], [11], [12], [], [], [15], [16], [17], [13, 14, 18], [3, 4, 0, 1, 2, 3, 4, 8, 10, 11, 12, 13, 14, 15, 16, 17, 18, 19], [20, 19, 19, 0, 1, 2, 3, 4, 8, 10, 11, 12, 13, 14, 15, 16, 17, 18, 19], [8, 9, 0, 1, 2, 3, 4, 5, 6, 7, 8, 9, 10, 11, 12, 13, 14, 15, 16, 17, 18, 19, 20, 21], [22, 21, 0, 1, 2, 3, 4, 5, 6, 7, 8, 9, 10, 11, 12, 13, 14, 15, 16, 17, 18, 19, 20, 21]])
 (.seq (.reg [zo 37 (.bld [(.v (.int .i64 0)), (.v (.bool false)), (.v (.bool false)), (.v (.bool false))] [(1, 1, (.c (.l (.v (.bool true)))))]), zs 4 6 37])
 .ret))
 .skip))
 (.seq (.seq (.draw [zm 38 0, zn 39 38, zf 40 1 39, zl 41 40, zm 42 2, zm 43 0, zn 44 43, zf 45 3 44, zl 46 45, zc 47 220 [41, 42, 46], zm 48 0, zn 49 48, zf 50 4 49, zl 51 50, zm 52 1, zo 53 (.ixs 1 51 52), zl 54 53, zo 55 (.cmp .eql .u32 47 54)] [[], [0], [1], [2], [], [], [5], [6], [7], [3, 4, 8], [], [10], [11], [12], [], [13, 14], [15], [9, 16]])
 (.cond 55
 (.seq (.reg [zo 56 (.bld [(.v (.int .i64 0)), (.v (.bool false)), (.v (.bool false)), (.v (.bool false))] [(0, 1, (zi 1))]), zs 4 6 56])
 .ret)
 .skip))
 (.seq (.reg [zo 57 (.bld [(.v (.int .i64 0)), (.v (.bool false)), (.v (.bool false)), (.v (.bool false))] []), zs 4 6 57])
 .ret))))
theorem ic218_eq : cF Tryz.prog Tryz.f218 = some ic218 := by kernel_rfl
def ic219 : IC := (.seq (.reg [zm 8 0, zm 9 1, zm 10 2, zo 11 (.call 223 [8, 9, 10, (.c (.l (.v (.bool true))))])])
 (.cond 11
 (.reg [zm 12 0, zn 13 12, zf 14 0 13, zl 15 14, zm 16 2, zm 17 3, zc 18 145 [15, 16, 17]])
 .skip))
theorem ic219_eq : cF Tryz.prog Tryz.f219 = some ic219 := by kernel_rfl
def ic220 : IC := (.seq (.reg [zo 6 (.mov (.c (.l (.v (.int .u32 0)))))])
 (.seq (.seq (.reg [zm 7 0, zm 8 1, zm 9 2, zo 10 (.call 223 [7, 8, 9, (.c (.l (.v (.bool false))))]), zo 11 (.not 10)])
 (.cond 11
 (.seq (.reg [zo 6 (.mov (.c (.l (.v (.int .u32 0)))))])
 .ret)
 .skip))
 (.seq (.reg [zm 12 0, zn 13 12, zf 14 0 13, zl 15 14, zm 16 2, zc 17 224 [15, 16], zm 6 17])
 .ret)))
theorem ic220_eq : cF Tryz.prog Tryz.f220 = some ic220 := by kernel_rfl
def ic221 : IC := (.seq (.reg [zo 6 (.mov (.c (.l (.v (.bool false)))))])
 (.seq (.reg [zm 8 0, zm 9 1, zc 10 212 [8, 9], zm 11 2, zc 12 225 [10, 11], zm 7 12])
 (.seq (.seq (.reg [zm 13 7, zo 14 (.cmp .lss .i64 13 (zi 0))])
 (.cond 14
 (.seq (.reg [zo 6 (.mov (.c (.l (.v (.bool false)))))])
 .ret)
 .skip))
 (.seq (.reg [zm 15 0, zn 16 15, zf 17 0 16, zl 18 17, zm 19 1, zm 20 7, zo 21 (.bld [(.v (.int .i64 0)), (.v (.int .i64 0))] [(0, 1, 20), (1, 1, (.c (.l (.v (.int .i64 (-1))))))]), zo 22 (.ixs 2 18 19), zs 2 22 21])
 (.seq (.reg [zo 6 (.mov (.c (.l (.v (.bool true)))))])
 .ret)))))
theorem ic221_eq : cF Tryz.prog Tryz.f221 = some ic221 := by kernel_rfl
def ic222 : IC := (.seq (.reg [zo 8 (.mov (.c (.l (.v (.int .u32 0)))))])
 (.seq (.seq (.reg [zm 9 0, zm 10 1, zm 11 2, zo 12 (.call 223 [9, 10, 11, (.c (.l (.v (.bool true))))]), zo 13 (.not 12)])
 (.cond 13
 (.seq (.reg [zo 8 (.mov (.c (.l (.v (.int .u32 0)))))])
 .ret)
 .skip))
 (.seq (.reg [zm 14 0, zn 15 14, zf 16 0 15, zl 17 16, zm 18 2, zm 19 3, zc 20 226 [17, 18, 19], zm 8 20])
 .ret)))
theorem ic222_eq : cF Tryz.prog Tryz.f222 = some ic222 := by kernel_rfl
def ic223 : IC := (.seq (.reg [zo 8 (.mov (.c (.l (.v (.bool false)))))])
 (.seq (.seq (.reg [zm 9 1, zo 10 (.cmp .lss .i64 9 (zi 0)), zm 11 10, ⟨(some 12), (some (11, false)), .mov 1⟩, ⟨(some 13), (some (11, false)), .mov 0⟩, ⟨(some 14), (some (11, false)), .nck 13⟩, ⟨(some 15), (some (11, false)), .fa 2 14⟩, ⟨(some 16), (some (11, false)), .ld 15⟩, ⟨(some 17), (some (11, false)), .len 16⟩, ⟨(some 18), (some (11, false)), .cmp .geq .i64 12 17⟩, zo 19 (.pick 11 (.c (.l (.v (.bool true)))) 18), zm 20 19, ⟨(some 21), (some (20, false)), .mov 2⟩, ⟨(some 22), (some (20, false)), .cmp .lss .i64 21 (zi 0)⟩, zo 23 (.pick 20 (.c (.l (.v (.bool true)))) 22), zm 24 23, ⟨(some 25), (some (24, false)), .mov 2⟩, ⟨(some 26), (some (24, false)), .mov 0⟩, ⟨(some 27), (some (24, false)), .nck 26⟩, ⟨(some 28), (some (24, false)), .fa 0 27⟩, ⟨(some 29), (some (24, false)), .ld 28⟩, ⟨(some 30), (some (24, false)), .call 62 [29]⟩, ⟨(some 31), (some (24, false)), .cmp .geq .i64 25 30⟩, zo 32 (.pick 24 (.c (.l (.v (.bool true)))) 31)])
 (.cond 32
 (.seq (.reg [zo 8 (.mov (.c (.l (.v (.bool false)))))])
 .ret)
 .skip))
 (.seq (.draw [zm 33 0, zn 34 33, zf 35 2 34, zl 36 35, zm 37 1, zo 38 (.ixs 2 36 37), zo 39 (.ixa 1 2 38 (zi 0)), zl 40 39, zo 41 (.ar .add .i64 40 (zi 1)), zo 42 (.ixs 2 36 37), zo 43 (.ixa 1 2 42 (zi 0)), zs 1 43 41] [[], [0], [1], [2], [], [3, 4], [5], [6], [7], [3, 4], [9, 0, 1, 2, 3, 4, 5, 6, 7, 8], [10, 8, 0, 1, 2, 3, 4, 5, 6, 7, 8]])
 (.jn (.seq (.reg [zm 44 3])
 (.cond 44
 (.draw [zm 45 0, zn 46 45, zf 47 2 46, zl 48 47, zm 49 1, zo 50 (.ixs 2 48 49), zo 51 (.ixa 1 2 50 (zi 1)), zl 52 51, zo 53 (.ar .add .i64 52 (zi 1)), zo 54 (.ixs 2 48 49), zo 55 (.ixa 1 2 54 (zi 1)), zs 1 55 53] [[], [0], [1], [2], [], [3, 4], [5], [6], [7], [3, 4], [9, 0, 1, 2, 3, 4, 5, 6, 7, 8], [10, 8, 0, 1, 2, 3, 4, 5, 6, 7, 8]])
 .skip))
 (.seq (.reg [zm 56 0, zn 57 56, zf 58 1 57, zl 59 58, zm 60 1, zm 61 2, zm 62 3, zc 63 227 [59, 60, 61, 62]])
 (.seq (.reg [zo 8 (.mov (.c (.l (.v (.bool true)))))])
 .ret))))))
theorem ic223_eq : cF Tryz.prog Tryz.f223 = some ic223 := by kernel_rfl
def ic224 : IC := (.seq (.reg [zo 4 (.mov (.c (.l (.v (.int .u32 0)))))])
 (.seq (.seq (.reg [zm 6 0, zm 7 1, zc 8 160 [6, 7], zm 5 8])
 (.seq (.reg [zm 9 5, zo 10 (.eq .p true 9 (.c (.l (.v (.pointer none)))))])
 (.cond 10
 (.seq (.reg [zm 11 5, zc 12 57 [11], zm 4 12])
 .ret)
 .skip)))
 (.seq (.reg [zo 4 (.mov (.c (.l (.v (.int .u32 0)))))])
 .ret)))
theorem ic224_eq : cF Tryz.prog Tryz.f224 = some ic224 := by kernel_rfl
def ic225 : IC := (.seq (.reg [zo 4 (.mov (zi 0))])
 (.seq (.blk 0 (.seq (.reg [zm 6 0, zo 7 (.cmp .eql .i64 6 (zi 1)), zm 8 7, ⟨(some 9), (some (8, true)), .mov 1⟩, ⟨(some 10), (some (8, true)), .cmp .eql .i64 9 (zi 1)⟩, zo 11 (.pick 8 10 (.c (.l (.v (.bool false))))), zm 5 11])
 (.cond 5
 (.seq (.reg [zo 4 (.mov (zi 2))])
 .ret)
 (.seq (.reg [zm 13 0, zo 14 (.cmp .eql .i64 13 (zi 1)), zm 15 14, ⟨(some 16), (some (15, true)), .mov 1⟩, ⟨(some 17), (some (15, true)), .cmp .eql .i64 16 (zi 2)⟩, ⟨(some 18), (some (15, true)), .mov 17⟩, ⟨(some 19), (some (18, false)), .mov 1⟩, ⟨(some 20), (some (18, false)), .cmp .eql .i64 19 (zi 6)⟩, ⟨(some 21), (some (15, true)), .pick 18 (.c (.l (.v (.bool true)))) 20⟩, zo 22 (.pick 15 21 (.c (.l (.v (.bool false))))), zm 12 22])
 (.cond 12
 (.seq (.reg [zo 4 (.mov (zi 0))])
 .ret)
 (.seq (.reg [zm 24 0, zo 25 (.cmp .eql .i64 24 (zi 3)), zm 26 25, ⟨(some 27), (some (26, true)), .mov 1⟩, ⟨(some 28), (some (26, true)), .cmp .eql .i64 27 (zi 3)⟩, zo 29 (.pick 26 28 (.c (.l (.v (.bool false))))), zm 23 29])
 (.cond 23
 (.seq (.reg [zo 4 (.mov (zi 0))])
 .ret)
 (.seq (.reg [zm 31 0, zo 32 (.cmp .eql .i64 31 (zi 4)), zm 33 32, ⟨(some 34), (some (33, true)), .mov 1⟩, ⟨(some 35), (some (33, true)), .cmp .eql .i64 34 (zi 4)⟩, ⟨(some 36), (some (33, true)), .mov 35⟩, ⟨(some 37), (some (36, false)), .mov 1⟩, ⟨(some 38), (some (36, false)), .cmp .eql .i64 37 (zi 5)⟩, ⟨(some 39), (some (33, true)), .pick 36 (.c (.l (.v (.bool true)))) 38⟩, zo 40 (.pick 33 39 (.c (.l (.v (.bool false))))), zm 30 40])
 (.cond 30
 (.seq (.reg [zo 4 (.mov (zi 2))])
 .ret)
 .skip)))))))))
 (.seq (.reg [zo 4 (.mov (.c (.l (.v (.int .i64 (-1))))))])
 .ret)))
theorem ic225_eq : cF Tryz.prog Tryz.f225 = some ic225 := by kernel_rfl
def ic226 : IC := (.seq (.reg [zo 6 (.mov (.c (.l (.v (.int .u32 0)))))])
 (.seq (.seq (.reg [zm 8 0, zm 9 1, zc 10 160 [8, 9], zm 7 10])
 (.seq (.reg [zm 11 7, zo 12 (.eq .p true 11 (.c (.l (.v (.pointer none)))))])
 (.cond 12
 (.seq (.reg [zm 13 7, zm 14 2, zc 15 228 [13, 14], zm 16 2, zo 17 (.ar .sub .u32 15 16), zm 6 17])
 .ret)
 .skip)))
 (.seq (.reg [zo 6 (.mov (.c (.l (.v (.int .u32 0)))))])
 .ret)))
theorem ic226_eq : cF Tryz.prog Tryz.f226 = some ic226 := by kernel_rfl
def ic227 : IC := (.seq (.reg [zo 8 (.mov (.c (.l (.v (.bool false)))))])
 (.seq (.seq (.reg [zm 12 0, zm 13 1, zm 14 2, zc 15 229 [12, 13, 14], zo 16 (.not 15)])
 (.cond 16
 (.seq (.reg [zo 8 (.mov (.c (.l (.v (.bool false)))))])
 .ret)
 .skip))
 (.seq (.reg [zm 17 1, zo 18 (.sh .shl .u64 (.c (.l (.v (.int .u64 1)))) 17), zm 9 18])
 (.seq (.reg [zm 19 0, zn 20 19, zf 21 0 20, zl 22 21, zm 23 2, zo 24 (.ixs 1 22 23), zl 25 24, zm 10 25])
 (.seq (.reg [zm 26 10, zm 27 9, zo 28 (.bt .and .u64 26 27), zo 29 (.cmp .eql .u64 28 (.c (.l (.v (.int .u64 0))))), zm 11 29])
 (.jn (.seq (.reg [zm 30 0, zn 31 30, zf 32 0 31, zl 33 32, zm 34 2, zo 35 (.ixs 1 33 34), zl 36 35, zm 37 9, zo 38 (.bt .or .u64 36 37), zo 39 (.ixs 1 33 34), zs 1 39 38])
 (.seq (.reg [zm 40 3])
 (.cond 40
 (.seq (.reg [zm 41 10, zm 42 9, zo 43 (.cmp .neq .u64 41 42), zm 11 43])
 (.reg [zm 44 0, zn 45 44, zf 46 0 45, zl 47 46, zm 48 2, zm 49 9, zo 50 (.ixs 1 47 48), zs 1 50 49]))
 .skip)))
 (.jn (.seq (.reg [zm 51 11])
 (.cond 51
 (.reg [zm 52 0, zn 53 52, zf 54 1 53, zl 55 54, zm 56 1, zo 57 (.ixs 1 55 56), zl 58 57, zo 59 (.ar .add .i64 58 (zi 1)), zo 60 (.ixs 1 55 56), zs 1 60 59])
 .skip))
 (.seq (.reg [zm 61 11, zm 8 61])
 .ret))))))))
theorem ic227_eq : cF Tryz.prog Tryz.f227 = some ic227 := by kernel_rfl
def ic228 : IC := (.seq (.reg [zo 4 (.mov (.c (.l (.v (.int .u32 0)))))])
 (.seq (.reg [zm 5 0, zn 6 5, zf 7 0 6, zm 8 1, zo 9 (.esc (.call { callee := .value (.func 230), args := #[(.tmp 7), (.tmp 8)], argTypes := #[201, 23] })), zm 4 9])
 .ret))
theorem ic228_eq : cF Tryz.prog Tryz.f228 = some ic228 := by kernel_rfl
def ic229 : IC := (.seq (.reg [zo 6 (.mov (.c (.l (.v (.bool false)))))])
 (.seq (.reg [zm 7 1, zo 8 (.cmp .geq .i64 7 (zi 0)), zm 9 8, ⟨(some 10), (some (9, true)), .mov 1⟩, ⟨(some 11), (some (9, true)), .mov 0⟩, ⟨(some 12), (some (9, true)), .nck 11⟩, ⟨(some 13), (some (9, true)), .fa 1 12⟩, ⟨(some 14), (some (9, true)), .ld 13⟩, ⟨(some 15), (some (9, true)), .len 14⟩, ⟨(some 16), (some (9, true)), .cmp .lss .i64 10 15⟩, zo 17 (.pick 9 16 (.c (.l (.v (.bool false))))), zm 18 17, ⟨(some 19), (some (18, true)), .mov 2⟩, ⟨(some 20), (some (18, true)), .cmp .geq .i64 19 (zi 0)⟩, zo 21 (.pick 18 20 (.c (.l (.v (.bool false))))), zm 22 21, ⟨(some 23), (some (22, true)), .mov 2⟩, ⟨(some 24), (some (22, true)), .mov 0⟩, ⟨(some 25), (some (22, true)), .nck 24⟩, ⟨(some 26), (some (22, true)), .fa 0 25⟩, ⟨(some 27), (some (22, true)), .ld 26⟩, ⟨(some 28), (some (22, true)), .len 27⟩, ⟨(some 29), (some (22, true)), .cmp .lss .i64 23 28⟩, zo 30 (.pick 22 29 (.c (.l (.v (.bool false))))), zm 6 30])
 .ret))
theorem ic229_eq : cF Tryz.prog Tryz.f229 = some ic229 := by kernel_rfl
def ic231 : IC := (.seq (.reg [zo 8 (.alloc [(.v (.int .i64 0)), (.v (.bool false)), (.v (.bool false)), (.v (.bool false))])])
 (.seq (.reg [zo 9 (.alloc [(.v (.int .i64 0)), (.v (.bool false)), (.v (.bool false)), (.v (.bool false))])])
 (.jn (.seq (.reg [zm 10 0, zn 11 10, zf 12 0 11, zl 13 12, zm 14 1, zc 15 212 [13, 14]])
 (.blk 0 (.seq (.reg [zo 17 (.cmp .eql .i64 15 (zi 1)), zm 16 17])
 (.cond 16
 (.reg [zm 18 0, zm 19 0, zn 20 19, zf 21 4 20, zl 22 21, zm 23 1, zo 24 (.ixs 2 22 23), zm 25 2, zc 26 233 [18, 24, 25], zs 4 9 26])
 (.seq (.reg [zo 28 (.cmp .eql .i64 15 (zi 3)), zm 27 28])
 (.cond 27
 (.seq (.draw [zm 29 0, zn 30 29, zf 31 1 30, zl 32 31, zm 33 2, zm 34 0, zm 35 0, zn 36 35, zf 37 4 36, zl 38 37, zm 39 1, zo 40 (.ixs 2 38 39), zf 41 0 40, zl 42 41, zo 43 (.ar .add .u32 42 (.c (.l (.v (.int .u32 1))))), zc 44 234 [34, 43], zo 45 (.call 219 [32, 33, 44, (.c (.l (.v (.int .u32 1))))])] [[], [0], [1], [2], [], [], [], [6], [7], [8], [], [9, 10], [11], [12], [13], [5, 14], [3, 4, 15, 15]])
 (.seq (.reg [zm 46 0, zn 47 46, zf 48 4 47, zl 49 48, zm 50 1, zo 51 (.bld [(.v (.int .u32 0)), (.v (.int .i64 0))] []), zo 52 (.ixs 2 49 50), zs 2 52 51])
 (.reg [zf 53 0 9, ⟨none, none, .sto 1 53 (zi 3)⟩])))
 .skip))))))
 (.seq (.draw [zm 54 0, zn 55 54, zf 56 0 55, zl 57 56, zm 58 1, zf 59 0 9, zl 60 59, zc 61 221 [57, 58, 60]] [[], [0], [1], [2], [], [], [5], [3, 4, 6]])
 (.seq (.reg [zo 62 (.lda 4 9), zs 4 8 62])
 .ret)))))
theorem ic231_eq : cF Tryz.prog Tryz.f231 = some ic231 := by kernel_rfl
def ic232 : IC := (.reg [zm 4 0, zm 5 1, zn 6 4, zf 7 1 6, zs 1 7 5])
theorem ic232_eq : cF Tryz.prog Tryz.f232 = some ic232 := by kernel_rfl
def ic233 : IC := (.seq (.reg [zo 6 (.alloc [(.v (.int .i64 0)), (.v (.bool false)), (.v (.bool false)), (.v (.bool false))])])
 (.seq (.seq (.reg [zm 7 1, zn 8 7, zf 9 1 8, zl 10 9])
 (.blk 0 (.seq (.reg [zo 12 (.cmp .eql .i64 10 (zi 0)), zm 11 12])
 (.cond 11
 (.seq (.draw [zm 13 1, zm 14 0, zn 15 14, zf 16 1 15, zl 17 16, zm 18 2, zm 19 0, zn 20 19, zf 21 2 20, zl 22 21, zo 23 (.call 222 [17, 18, 22, (.c (.l (.v (.int .u32 1))))]), zn 24 13, zf 25 0 24, zs 1 25 23] [[], [], [1], [2], [3], [], [], [6], [7], [8], [4, 5, 9], [0, 0, 1, 2, 3, 4, 5, 6, 7, 8, 9, 10], [11, 0, 1, 2, 3, 4, 5, 6, 7, 8, 9, 10], [12, 10, 10, 0, 1, 2, 3, 4, 5, 6, 7, 8, 9, 10]])
 (.seq (.reg [zm 26 1, zn 27 26, zf 28 1 27, ⟨none, none, .sto 1 28 (zi 1)⟩])
 (.seq (.reg [zo 29 (.bld [(.v (.int .i64 0)), (.v (.bool false)), (.v (.bool false)), (.v (.bool false))] [(1, 1, (.c (.l (.v (.bool true)))))]), zs 4 6 29])
 .ret)))
 (.seq (.reg [zo 31 (.cmp .eql .i64 10 (zi 1)), zm 30 31])
 (.cond 30
 (.jn (.seq (.draw [zm 32 0, zn 33 32, zf 34 1 33, zl 35 34, zm 36 2, zm 37 0, zm 38 1, zn 39 38, zf 40 0 39, zl 41 40, zc 42 234 [37, 41], zc 43 220 [35, 36, 42], zo 44 (.cmp .neq .u32 43 (.c (.l (.v (.int .u32 0)))))] [[], [0], [1], [2], [], [], [], [6], [7], [8], [5, 9], [3, 4, 10, 10], [11]])
 (.cond 44
 (.reg [zm 45 1, zn 46 45, zf 47 1 46, ⟨none, none, .sto 1 47 (zi 2)⟩])
 .skip))
 (.seq (.reg [zo 48 (.bld [(.v (.int .i64 0)), (.v (.bool false)), (.v (.bool false)), (.v (.bool false))] []), zs 4 6 48])
 .ret))
 .skip))))))
 (.seq (.draw [zm 49 0, zn 50 49, zf 51 1 50, zl 52 51, zm 53 2, zm 54 0, zm 55 1, zn 56 55, zf 57 0 56, zl 58 57, zc 59 234 [54, 58], zo 60 (.call 219 [52, 53, 59, (.c (.l (.v (.int .u32 0))))])] [[], [0], [1], [2], [], [], [], [6], [7], [8], [5, 9], [3, 4, 10, 10]])
 (.seq (.reg [zo 61 (.bld [(.v (.int .i64 0)), (.v (.bool false)), (.v (.bool false)), (.v (.bool false))] [(0, 1, (zi 1))]), zs 4 6 61])
 .ret))))
theorem ic233_eq : cF Tryz.prog Tryz.f233 = some ic233 := by kernel_rfl
def ic234 : IC := (.seq (.reg [zo 4 (.mov (zi 0))])
 (.seq (.draw [zm 5 0, zn 6 5, zf 7 2 6, zl 8 7, zo 9 (.ar .add .i64 8 (zi 1)), zm 10 1, zm 11 0, zn 12 11, zf 13 3 12, zl 14 13, zc 15 133 [10, 14], zo 16 (.ar .add .i64 9 15), zm 4 16] [[], [0], [1], [2], [3], [], [], [6], [7], [8], [5, 9], [4, 10], [11, 10, 0, 1, 2, 3, 4, 5, 6, 7, 8, 9, 10, 11]])
 .ret))
theorem ic234_eq : cF Tryz.prog Tryz.f234 = some ic234 := by kernel_rfl
def ic235 : IC := (.seq (.reg [zo 8 (.alloc [(.v (.int .i64 0)), (.v (.bool false)), (.v (.bool false)), (.v (.bool false))])])
 (.seq (.reg [zo 9 (.alloc [(.v (.int .i64 0)), (.v (.bool false)), (.v (.bool false)), (.v (.bool false))])])
 (.jn (.seq (.reg [zm 11 0, zn 12 11, zf 13 0 12, zl 14 13, zm 15 1, zc 16 212 [14, 15]])
 (.blk 0 (.seq (.reg [zo 18 (.cmp .eql .i64 16 (zi 1)), zm 17 18])
 (.cond 17
 (.reg [zm 19 0, zm 20 0, zn 21 20, zf 22 3 21, zl 23 22, zm 24 1, zo 25 (.ixs 3 23 24), zm 26 2, zc 27 237 [19, 25, 26], zs 4 9 27])
 (.seq (.reg [zo 29 (.cmp .eql .i64 16 (zi 3)), zm 28 29])
 (.cond 28
 (.seq (.reg [zm 30 0, zn 31 30, zf 32 3 31, zl 33 32, zm 34 1, zo 35 (.ixs 3 33 34), zo 36 (.lda 3 35), zo 10 (.alloc [(.v (.int .i64 0)), (.v (.int .i64 0)), (.v (.int .i64 0))]), zs 3 10 36])
 (.seq (.draw [zm 37 0, zn 38 37, zf 39 1 38, zl 40 39, zm 41 2, zm 42 0, zf 43 0 10, zl 44 43, zc 45 238 [42, 44], zo 46 (.call 219 [40, 41, 45, (.c (.l (.v (.int .u32 0))))])] [[], [0], [1], [2], [], [], [], [6], [5, 7], [3, 4, 8, 8]])
 (.seq (.draw [zm 47 0, zn 48 47, zf 49 3 48, zl 50 49, zm 51 1, zf 52 1 10, zl 53 52, zo 54 (.bld [(.v (.int .i64 0)), (.v (.int .i64 0)), (.v (.int .i64 0))] [(0, 1, 53)]), zo 55 (.ixs 3 50 51), zs 3 55 54] [[], [0], [1], [2], [], [], [5], [6], [3, 4, 0, 1, 2, 3, 4, 5, 6, 7], [8, 7, 0, 1, 2, 3, 4, 5, 6, 7]])
 (.reg [zf 56 0 9, ⟨none, none, .sto 1 56 (zi 3)⟩]))))
 (.seq (.reg [zo 58 (.cmp .eql .i64 16 (zi 4)), zm 57 58])
 (.cond 57
 (.seq (.reg [zf 59 0 9, ⟨none, none, .sto 1 59 (zi 5)⟩])
 (.seq (.draw [zm 60 0, zn 61 60, zf 62 1 61, zl 63 62, zm 64 2, zm 65 0, zn 66 65, zf 67 2 66, zl 68 67, zc 69 220 [63, 64, 68], zm 70 0, zn 71 70, zf 72 3 71, zl 73 72, zm 74 1, zo 75 (.ixs 3 73 74), zf 76 0 75, zl 77 76, zo 78 (.conv .u32 77), zo 79 (.cmp .eql .u32 69 78)] [[], [0], [1], [2], [], [], [5], [6], [7], [3, 4, 8], [], [10], [11], [12], [], [13, 14], [15], [16], [17], [9, 18]])
 (.cond 79
 (.reg [zf 80 0 9, ⟨none, none, .sto 1 80 (zi 4)⟩])
 .skip)))
 .skip))))))))
 (.seq (.draw [zm 81 0, zn 82 81, zf 83 0 82, zl 84 83, zm 85 1, zf 86 0 9, zl 87 86, zc 88 221 [84, 85, 87]] [[], [0], [1], [2], [], [], [5], [3, 4, 6]])
 (.seq (.reg [zo 89 (.lda 4 9), zs 4 8 89])
 .ret)))))
theorem ic235_eq : cF Tryz.prog Tryz.f235 = some ic235 := by kernel_rfl
def ic236 : IC := (.reg [zm 4 0, zm 5 1, zn 6 4, zf 7 1 6, zs 1 7 5])
theorem ic236_eq : cF Tryz.prog Tryz.f236 = some ic236 := by kernel_rfl
def ic237 : IC := (.seq (.reg [zo 6 (.alloc [(.v (.int .i64 0)), (.v (.bool false)), (.v (.bool false)), (.v (.bool false))])])
 (.jn (.seq (.reg [zm 7 1, zn 8 7, zf 9 2 8, zl 10 9])
 (.blk 0 (.seq (.reg [zo 12 (.cmp .eql .i64 10 (zi 0)), zm 11 12])
 (.cond 11
 (.seq (.draw [zm 13 0, zn 14 13, zf 15 1 14, zl 16 15, zm 17 2, zm 18 0, zm 19 1, zn 20 19, zf 21 0 20, zl 22 21, zc 23 238 [18, 22], zo 24 (.call 219 [16, 17, 23, (.c (.l (.v (.int .u32 1))))])] [[], [0], [1], [2], [], [], [], [6], [7], [8], [5, 9], [3, 4, 10, 10]])
 (.reg [zm 25 1, zn 26 25, zf 27 2 26, ⟨none, none, .sto 1 27 (zi 1)⟩]))
 (.seq (.reg [zo 29 (.cmp .eql .i64 10 (zi 1)), zm 28 29])
 (.cond 28
 (.seq (.draw [zm 30 1, zm 31 0, zn 32 31, zf 33 1 32, zl 34 33, zm 35 2, zm 36 0, zn 37 36, zf 38 2 37, zl 39 38, zm 40 1, zn 41 40, zf 42 0 41, zl 43 42, zo 44 (.conv .u32 43), zc 45 239 [34, 35, 39, 44], zo 46 (.conv .i64 45), zn 47 30, zf 48 1 47, zs 1 48 46] [[], [], [1], [2], [3], [], [], [6], [7], [8], [], [10], [11], [12], [13], [4, 5, 9, 14], [15], [0, 0, 1, 2, 3, 4, 5, 6, 7, 8, 9, 10, 11, 12, 13, 14, 15, 16], [17, 0, 1, 2, 3, 4, 5, 6, 7, 8, 9, 10, 11, 12, 13, 14, 15, 16], [18, 16, 15, 0, 1, 2, 3, 4, 5, 6, 7, 8, 9, 10, 11, 12, 13, 14, 15, 16]])
 (.seq (.reg [zm 49 1, zn 50 49, zf 51 2 50, ⟨none, none, .sto 1 51 (zi 2)⟩])
 (.seq (.reg [zo 52 (.bld [(.v (.int .i64 0)), (.v (.bool false)), (.v (.bool false)), (.v (.bool false))] [(1, 1, (.c (.l (.v (.bool true)))))]), zs 4 6 52])
 .ret)))
 (.seq (.reg [zo 54 (.cmp .eql .i64 10 (zi 2)), zm 53 54])
 (.cond 53
 (.seq (.draw [zm 55 0, zn 56 55, zf 57 1 56, zl 58 57, zm 59 2, zm 60 0, zm 61 1, zn 62 61, zf 63 1 62, zl 64 63, zc 65 238 [60, 64], zc 66 220 [58, 59, 65], zo 67 (.cmp .eql .u32 66 (.c (.l (.v (.int .u32 0)))))] [[], [0], [1], [2], [], [], [], [6], [7], [8], [5, 9], [3, 4, 10, 10], [11]])
 (.cond 67
 (.seq (.reg [zo 68 (.bld [(.v (.int .i64 0)), (.v (.bool false)), (.v (.bool false)), (.v (.bool false))] [(0, 1, (zi 1))]), zs 4 6 68])
 .ret)
 .skip))
 .skip))))))))
 (.seq (.reg [zo 69 (.bld [(.v (.int .i64 0)), (.v (.bool false)), (.v (.bool false)), (.v (.bool false))] []), zs 4 6 69])
 .ret)))
theorem ic237_eq : cF Tryz.prog Tryz.f237 = some ic237 := by kernel_rfl
def ic238 : IC := (.seq (.reg [zo 4 (.mov (zi 0))])
 (.seq (.reg [zm 5 0, zn 6 5, zf 7 2 6, zl 8 7, zo 9 (.ar .add .i64 8 (zi 1)), zm 10 1, zo 11 (.ar .add .i64 9 10), zm 4 11])
 .ret))
theorem ic238_eq : cF Tryz.prog Tryz.f238 = some ic238 := by kernel_rfl
def ic239 : IC := (.seq (.reg [zo 8 (.mov (.c (.l (.v (.int .u32 0)))))])
 (.seq (.seq (.reg [zm 9 0, zm 10 1, zm 11 2, zo 12 (.call 223 [9, 10, 11, (.c (.l (.v (.bool true))))]), zo 13 (.not 12)])
 (.cond 13
 (.seq (.reg [zo 8 (.mov (.c (.l (.v (.int .u32 0)))))])
 .ret)
 .skip))
 (.seq (.reg [zm 14 0, zn 15 14, zf 16 0 15, zl 17 16, zm 18 2, zm 19 3, zc 20 240 [17, 18, 19], zm 8 20])
 .ret)))
theorem ic239_eq : cF Tryz.prog Tryz.f239 = some ic239 := by kernel_rfl
def ic240 : IC := (.seq (.reg [zo 6 (.mov (.c (.l (.v (.int .u32 0)))))])
 (.seq (.seq (.reg [zm 8 0, zm 9 1, zc 10 160 [8, 9], zm 7 10])
 (.seq (.reg [zm 11 7, zo 12 (.eq .p true 11 (.c (.l (.v (.pointer none)))))])
 (.cond 12
 (.seq (.reg [zm 13 7, zm 14 2, zc 15 241 [13, 14], zm 6 15])
 .ret)
 .skip)))
 (.seq (.reg [zo 6 (.mov (.c (.l (.v (.int .u32 0)))))])
 .ret)))
theorem ic240_eq : cF Tryz.prog Tryz.f240 = some ic240 := by kernel_rfl
def ic241 : IC := (.seq (.reg [zo 4 (.mov (.c (.l (.v (.int .u32 0)))))])
 (.seq (.reg [zm 5 0, zn 6 5, zf 7 0 6, zm 8 1, zo 9 (.esc (.call { callee := .value (.func 242), args := #[(.tmp 7), (.tmp 8)], argTypes := #[201, 23] })), zm 4 9])
 .ret))
theorem ic241_eq : cF Tryz.prog Tryz.f241 = some ic241 := by kernel_rfl
def ic243 : IC := (.seq (.reg [zo 8 (.alloc [(.v (.int .i64 0)), (.v (.bool false)), (.v (.bool false)), (.v (.bool false))])])
 (.seq (.reg [zo 9 (.alloc [(.v (.int .i64 0)), (.v (.bool false)), (.v (.bool false)), (.v (.bool false))])])
 (.seq (.reg [zm 11 1, zo 12 (.ar .add .i64 11 (zi 1)), zo 13 (.conv .u32 12), zm 10 13])
 (.jn (.seq (.reg [zm 14 0, zn 15 14, zf 16 0 15, zl 17 16, zm 18 1, zc 19 212 [17, 18]])
 (.blk 0 (.seq (.reg [zo 21 (.cmp .eql .i64 19 (zi 1)), zm 20 21])
 (.cond 20
 (.reg [zm 22 0, zm 23 0, zn 24 23, zf 25 3 24, zl 26 25, zm 27 1, zo 28 (.ixs 2 26 27), zm 29 10, zm 30 2, zc 31 245 [22, 28, 29, 30], zs 4 9 31])
 (.seq (.reg [zo 33 (.cmp .eql .i64 19 (zi 3)), zm 32 33])
 (.cond 32
 (.reg [zm 34 0, zm 35 0, zn 36 35, zf 37 3 36, zl 38 37, zm 39 1, zo 40 (.ixs 2 38 39), zm 41 10, zm 42 2, zc 43 246 [34, 40, 41, 42], zf 44 0 9, zs 1 44 43])
 (.seq (.reg [zo 46 (.cmp .eql .i64 19 (zi 4)), zm 45 46])
 (.cond 45
 (.seq (.reg [zf 47 0 9, ⟨none, none, .sto 1 47 (zi 5)⟩])
 (.seq (.draw [zm 48 0, zn 49 48, zf 50 1 49, zl 51 50, zm 52 2, zm 53 0, zm 54 10, zc 55 247 [53, 54], zc 56 220 [51, 52, 55], zo 57 (.cmp .eql .u32 56 (.c (.l (.v (.int .u32 0)))))] [[], [0], [1], [2], [], [], [], [5, 6], [3, 4, 7, 7], [8]])
 (.cond 57
 (.reg [zf 58 0 9, ⟨none, none, .sto 1 58 (zi 4)⟩])
 .skip)))
 .skip))))))))
 (.jn (.seq (.draw [zm 59 0, zn 60 59, zf 61 0 60, zl 62 61, zm 63 1, zf 64 0 9, zl 65 64, zc 66 221 [62, 63, 65]] [[], [0], [1], [2], [], [], [5], [3, 4, 6]])
 (.cond 66
 (.reg [zm 67 0, zn 68 67, zf 69 3 68, zl 70 69, zm 71 1, zo 72 (.bld [(.v (.int .i64 0)), (.v (.int .u32 0))] []), zo 73 (.ixs 2 70 71), zs 2 73 72])
 .skip))
 (.seq (.reg [zo 74 (.lda 4 9), zs 4 8 74])
 .ret))))))
theorem ic243_eq : cF Tryz.prog Tryz.f243 = some ic243 := by kernel_rfl
def ic244 : IC := (.reg [zm 4 0, zm 5 1, zn 6 4, zf 7 1 6, zs 1 7 5])
theorem ic244_eq : cF Tryz.prog Tryz.f244 = some ic244 := by kernel_rfl
def ic245 : IC := (.seq (.reg [zo 8 (.alloc [(.v (.int .i64 0)), (.v (.bool false)), (.v (.bool false)), (.v (.bool false))])])
 (.seq (.reg [zm 10 1, zn 11 10, zf 12 0 11, zl 13 12, zm 9 13])
 (.seq (.reg [zm 14 1, zm 15 9, zo 16 (.ar .add .i64 15 (zi 1)), zo 17 (.mn .i64 16 (zi 4)), zn 18 14, zf 19 0 18, zs 1 19 17])
 (.jn (.seq (.reg [zm 20 9])
 (.blk 0 (.seq (.reg [zo 22 (.cmp .eql .i64 20 (zi 0)), zm 21 22])
 (.cond 21
 (.draw [zm 23 0, zn 24 23, zf 25 1 24, zl 26 25, zm 27 3, zm 28 0, zm 29 2, zc 30 247 [28, 29], zo 31 (.call 219 [26, 27, 30, (.c (.l (.v (.int .u32 0))))])] [[], [0], [1], [2], [], [], [], [5, 6], [3, 4, 7, 7]])
 (.seq (.reg [zo 33 (.cmp .eql .i64 20 (zi 1)), zm 32 33])
 (.cond 32
 (.seq (.draw [zm 34 1, zm 35 0, zn 36 35, zf 37 1 36, zl 38 37, zm 39 3, zm 40 0, zn 41 40, zf 42 2 41, zl 43 42, zm 44 2, zc 45 239 [38, 39, 43, 44], zn 46 34, zf 47 1 46, zs 1 47 45] [[], [], [1], [2], [3], [], [], [6], [7], [8], [], [4, 5, 9, 10], [0, 0, 1, 2, 3, 4, 5, 6, 7, 8, 9, 10, 11], [12, 0, 1, 2, 3, 4, 5, 6, 7, 8, 9, 10, 11], [13, 11, 11, 0, 1, 2, 3, 4, 5, 6, 7, 8, 9, 10, 11]])
 (.seq (.seq (.reg [zm 48 1, zn 49 48, zf 50 1 49, zl 51 50, zo 52 (.cmp .eql .u32 51 (.c (.l (.v (.int .u32 0)))))])
 (.cond 52
 (.seq (.reg [zo 53 (.bld [(.v (.int .i64 0)), (.v (.bool false)), (.v (.bool false)), (.v (.bool false))] [(0, 1, (zi 1)), (1, 1, (.c (.l (.v (.bool true)))))]), zs 4 8 53])
 .ret)
 .skip))
 (.seq (.reg [zo 54 (.bld [(.v (.int .i64 0)), (.v (.bool false)), (.v (.bool false)), (.v (.bool false))] [(1, 1, (.c (.l (.v (.bool true)))))]), zs 4 8 54])
 .ret)))
 (.seq (.reg [zo 56 (.cmp .eql .i64 20 (zi 2)), zm 55 56])
 (.cond 55
 (.draw [zm 57 0, zn 58 57, zf 59 1 58, zl 60 59, zm 61 3, zm 62 0, zm 63 2, zc 64 247 [62, 63], zo 65 (.ar .add .i64 64 (zi 1)), zo 66 (.call 219 [60, 61, 65, (.c (.l (.v (.int .u32 1))))])] [[], [0], [1], [2], [], [], [], [5, 6], [7], [3, 4, 8, 7]])
 (.seq (.reg [zo 68 (.cmp .eql .i64 20 (zi 3)), zm 67 68])
 (.cond 67
 (.draw [zm 69 0, zn 70 69, zf 71 1 70, zl 72 71, zm 73 3, zm 74 0, zm 75 1, zn 76 75, zf 77 1 76, zl 78 77, zc 79 247 [74, 78], zm 80 2, zc 81 219 [72, 73, 79, 80]] [[], [0], [1], [2], [], [], [], [6], [7], [8], [5, 9], [], [3, 4, 10, 11, 10]])
 (.seq (.reg [zo 83 (.cmp .eql .i64 20 (zi 4)), zm 82 83])
 (.cond 82
 (.seq (.draw [zm 84 0, zn 85 84, zf 86 1 85, zl 87 86, zm 88 3, zm 89 0, zm 90 2, zc 91 247 [89, 90], zo 92 (.ar .add .i64 91 (zi 1)), zc 93 220 [87, 88, 92], zo 94 (.cmp .eql .u32 93 (.c (.l (.v (.int .u32 0)))))] [[], [0], [1], [2], [], [], [], [5, 6], [7], [3, 4, 8, 7], [9]])
 (.cond 94
 (.seq (.reg [zo 95 (.bld [(.v (.int .i64 0)), (.v (.bool false)), (.v (.bool false)), (.v (.bool false))] [(0, 1, (zi 1))]), zs 4 8 95])
 .ret)
 .skip))
 .skip))))))))))))
 (.seq (.reg [zo 96 (.bld [(.v (.int .i64 0)), (.v (.bool false)), (.v (.bool false)), (.v (.bool false))] []), zs 4 8 96])
 .ret)))))
theorem ic245_eq : cF Tryz.prog Tryz.f245 = some ic245 := by kernel_rfl
def ic246 : IC := (.seq (.reg [zo 8 (.mov (zi 0))])
 (.seq (.seq (.reg [zm 9 1, zn 10 9, zf 11 0 10, zl 12 11])
 (.blk 0 (.jn (.seq (.reg [zo 14 (.cmp .eql .i64 12 (zi 0)), zm 13 14])
 (.cond 13
 .skip
 (.reg [zo 15 (.cmp .eql .i64 12 (zi 2)), zm 13 15])))
 (.cond 13
 (.seq (.draw [zm 16 1, zm 17 0, zn 18 17, zf 19 1 18, zl 20 19, zm 21 3, zm 22 0, zm 23 2, zc 24 247 [22, 23], zc 25 220 [20, 21, 24], zn 26 16, zf 27 1 26, zs 1 27 25] [[], [], [1], [2], [3], [], [], [], [6, 7], [4, 5, 8, 8], [0, 0, 1, 2, 3, 4, 5, 6, 7, 8, 9], [10, 0, 1, 2, 3, 4, 5, 6, 7, 8, 9], [11, 9, 9, 0, 1, 2, 3, 4, 5, 6, 7, 8, 9]])
 (.jn (.blk 1 (.seq (.reg [zm 29 1, zn 30 29, zf 31 1 30, zl 32 31, zo 33 (.cmp .neq .u32 32 (.c (.l (.v (.int .u32 0))))), zm 28 33])
 (.cond 28
 (.reg [zm 34 1, zn 35 34, zf 36 0 35, ⟨none, none, .sto 1 36 (zi 3)⟩])
 (.seq (.reg [zm 38 1, zn 39 38, zf 40 0 39, zl 41 40, zo 42 (.cmp .eql .i64 41 (zi 0)), zm 37 42])
 (.cond 37
 (.reg [zm 43 1, zn 44 43, zf 45 0 44, ⟨none, none, .sto 1 45 (zi 1)⟩])
 .skip)))))
 (.seq (.reg [zo 8 (.mov (zi 0))])
 .ret)))
 (.seq (.reg [zo 47 (.cmp .eql .i64 12 (zi 1)), zm 46 47])
 (.cond 46
 (.seq (.seq (.draw [zm 48 0, zn 49 48, zf 50 1 49, zl 51 50, zm 52 3, zm 53 0, zn 54 53, zf 55 2 54, zl 56 55, zm 57 2, zo 58 (.call 248 [51, 52, 56, 57, (.c (.l (.v (.int .u32 0))))])] [[], [0], [1], [2], [], [], [5], [6], [7], [], [3, 4, 8, 9]])
 (.cond 58
 (.seq (.reg [zo 8 (.mov (zi 3))])
 .ret)
 .skip))
 (.seq (.reg [zm 59 1, zn 60 59, zf 61 0 60, ⟨none, none, .sto 1 61 (zi 2)⟩])
 (.seq (.reg [zo 8 (.mov (zi 0))])
 .ret)))
 .skip))))))
 (.seq (.draw [zm 62 0, zn 63 62, zf 64 1 63, zl 65 64, zm 66 3, zm 67 0, zm 68 1, zn 69 68, zf 70 1 69, zl 71 70, zc 72 247 [67, 71], zo 73 (.ar .add .i64 72 (zi 1)), zo 74 (.call 219 [65, 66, 73, (.c (.l (.v (.int .u32 0))))])] [[], [0], [1], [2], [], [], [], [6], [7], [8], [5, 9], [10], [3, 4, 11, 10]])
 (.seq (.reg [zo 8 (.mov (zi 3))])
 .ret))))
theorem ic246_eq : cF Tryz.prog Tryz.f246 = some ic246 := by kernel_rfl
def ic247 : IC := (.seq (.reg [zo 4 (.mov (zi 0))])
 (.seq (.reg [zm 5 0, zn 6 5, zf 7 2 6, zl 8 7, zm 9 1, zo 10 (.conv .i64 9), zo 11 (.ar .mul .i64 (zi 2) 10), zo 12 (.ar .add .i64 8 11), zo 13 (.ar .sub .i64 12 (zi 1)), zm 4 13])
 .ret))
theorem ic247_eq : cF Tryz.prog Tryz.f247 = some ic247 := by kernel_rfl
def ic248 : IC := (.seq (.reg [zo 10 (.mov (.c (.l (.v (.bool false)))))])
 (.seq (.reg [zm 11 0, zm 12 1, zm 13 2, zo 14 (.call 223 [11, 12, 13, (.c (.l (.v (.bool true))))]), zm 15 14, ⟨(some 16), (some (15, true)), .mov 0⟩, ⟨(some 17), (some (15, true)), .nck 16⟩, ⟨(some 18), (some (15, true)), .fa 0 17⟩, ⟨(some 19), (some (15, true)), .ld 18⟩, ⟨(some 20), (some (15, true)), .mov 2⟩, ⟨(some 21), (some (15, true)), .mov 3⟩, ⟨(some 22), (some (15, true)), .mov 4⟩, ⟨(some 23), (some (15, true)), .call 249 [19, 20, 21, 22]⟩, zo 24 (.pick 15 23 (.c (.l (.v (.bool false))))), zm 10 24])
 .ret))
theorem ic248_eq : cF Tryz.prog Tryz.f248 = some ic248 := by kernel_rfl
def ic249 : IC := (.seq (.reg [zo 8 (.mov (.c (.l (.v (.bool false)))))])
 (.seq (.reg [zm 10 0, zm 11 1, zc 12 160 [10, 11], zm 9 12])
 (.seq (.reg [zm 13 9, zo 14 (.eq .p true 13 (.c (.l (.v (.pointer none))))), zm 15 14, ⟨(some 16), (some (15, true)), .mov 9⟩, ⟨(some 17), (some (15, true)), .mov 2⟩, ⟨(some 18), (some (15, true)), .mov 3⟩, ⟨(some 19), (some (15, true)), .call 250 [16, 17, 18]⟩, zo 20 (.pick 15 19 (.c (.l (.v (.bool false))))), zm 8 20])
 .ret)))
theorem ic249_eq : cF Tryz.prog Tryz.f249 = some ic249 := by kernel_rfl
def ic250 : IC := (.seq (.reg [zo 6 (.mov (.c (.l (.v (.bool false)))))])
 (.seq (.reg [zm 7 0, zn 8 7, zf 9 0 8, zm 10 1, zm 11 2, zo 12 (.esc (.call { callee := .value (.func 251), args := #[(.tmp 9), (.tmp 10), (.tmp 11)], argTypes := #[201, 23, 23] })), zm 6 12])
 .ret))
theorem ic250_eq : cF Tryz.prog Tryz.f250 = some ic250 := by kernel_rfl
def ic252 : IC := (.seq (.reg [zo 8 (.alloc [(.v (.int .i64 0)), (.v (.bool false)), (.v (.bool false)), (.v (.bool false))])])
 (.seq (.reg [zo 9 (.alloc [(.v (.int .i64 0)), (.v (.bool false)), (.v (.bool false)), (.v (.bool false))])])
 (.jn (.seq (.reg [zm 11 0, zn 12 11, zf 13 0 12, zl 14 13, zm 15 1, zc 16 212 [14, 15]])
 (.blk 0 (.seq (.reg [zo 18 (.cmp .eql .i64 16 (zi 1)), zm 17 18])
 (.cond 17
 (.seq (.reg [zm 19 0, zn 20 19, zf 21 0 20, zl 22 21, zm 23 1, zc 24 254 [22, 23], zo 25 (.cmp .geq .i64 24 (zi 0)), zm 26 25, ⟨(some 27), (some (26, true)), .mov 3⟩, ⟨(some 28), (some (26, true)), .mov 0⟩, ⟨(some 29), (some (26, true)), .nck 28⟩, ⟨(some 30), (some (26, true)), .fa 0 29⟩, ⟨(some 31), (some (26, true)), .ld 30⟩, ⟨(some 32), (some (26, true)), .mov 1⟩, ⟨(some 33), (some (26, true)), .call 254 [31, 32]⟩, ⟨(some 34), (some (26, true)), .cmp .geq .i64 27 33⟩, zo 35 (.pick 26 34 (.c (.l (.v (.bool false))))), zm 10 35])
 (.draw [zm 36 0, zm 37 0, zn 38 37, zf 39 4 38, zl 40 39, zm 41 1, zo 42 (.ixs 4 40 41), zm 43 0, zn 44 43, zf 45 2 44, zl 46 45, zm 47 1, zc 48 256 [46, 47], zm 49 2, zm 50 10, zc 51 255 [36, 42, 48, 49, 50], zs 4 9 51] [[], [], [1], [2], [3], [], [4, 5], [], [7], [8], [9], [], [10, 11], [], [], [0, 6, 12, 13, 14, 12], [15, 15, 0, 1, 2, 3, 4, 5, 6, 7, 8, 9, 10, 11, 12, 13, 14, 15]]))
 (.seq (.reg [zo 53 (.cmp .eql .i64 16 (zi 3)), zm 52 53])
 (.cond 52
 (.reg [zm 54 0, zm 55 0, zn 56 55, zf 57 4 56, zl 58 57, zm 59 1, zo 60 (.ixs 4 58 59), zm 61 2, zc 62 257 [54, 60, 61], zf 63 0 9, zs 1 63 62])
 .skip))))))
 (.jn (.seq (.draw [zm 64 0, zn 65 64, zf 66 0 65, zl 67 66, zm 68 1, zf 69 0 9, zl 70 69, zc 71 221 [67, 68, 70]] [[], [0], [1], [2], [], [], [5], [3, 4, 6]])
 (.cond 71
 (.draw [zm 72 0, zn 73 72, zf 74 4 73, zl 75 74, zm 76 1, zm 77 0, zn 78 77, zf 79 4 78, zl 80 79, zm 81 1, zo 82 (.ixs 4 80 81), zf 83 2 82, zl 84 83, zo 85 (.bld [(.v (.int .i64 0)), (.v (.int .i64 0)), (.v (.int .i64 0)), (.v (.int .i64 0))] [(2, 1, 84)]), zo 86 (.ixs 4 75 76), zs 4 86 85] [[], [0], [1], [2], [], [], [5], [6], [7], [], [8, 9], [10], [11], [12], [3, 4, 0, 1, 2, 3, 4, 5, 6, 7, 8, 9, 10, 11, 12, 13], [14, 13, 0, 1, 2, 3, 4, 5, 6, 7, 8, 9, 10, 11, 12, 13]])
 .skip))
 (.seq (.reg [zo 87 (.lda 4 9), zs 4 8 87])
 .ret)))))
theorem ic252_eq : cF Tryz.prog Tryz.f252 = some ic252 := by kernel_rfl
def ic253 : IC := (.reg [zm 4 0, zm 5 1, zn 6 4, zf 7 1 6, zs 1 7 5])
theorem ic253_eq : cF Tryz.prog Tryz.f253 = some ic253 := by kernel_rfl
def ic254 : IC := (.seq (.reg [zo 4 (.mov (zi 0))])
 (.seq (.seq (.reg [zm 5 0, zm 6 1, zc 7 216 [5, 6], zo 8 (.not 7)])
 (.cond 8
 (.seq (.reg [zo 4 (.mov (.c (.l (.v (.int .i64 (-1))))))])
 .ret)
 .skip))
 (.seq (.reg [zm 9 0, zn 10 9, zf 11 0 10, zl 12 11, zm 13 1, zo 14 (.ixs 2 12 13), zf 15 1 14, zl 16 15, zm 4 16])
 .ret)))
theorem ic254_eq : cF Tryz.prog Tryz.f254 = some ic254 := by kernel_rfl
def ic255 : IC := (.seq (.reg [zo 10 (.alloc [(.v (.int .i64 0)), (.v (.bool false)), (.v (.bool false)), (.v (.bool false))])])
 (.seq (.reg [zm 12 0, zm 13 1, zn 14 13, zf 15 2 14, zl 16 15, zc 17 258 [12, 16], zm 11 17])
 (.jn (.seq (.reg [zm 18 1, zn 19 18, zf 20 0 19, zl 21 20])
 (.blk 0 (.seq (.reg [zo 23 (.cmp .eql .i64 21 (zi 0)), zm 22 23])
 (.cond 22
 (.seq (.reg [zm 24 0, zm 25 1, zm 26 2, zm 27 3, zc 28 259 [24, 25, 26, 27], zs 4 10 28])
 .ret)
 (.seq (.reg [zo 30 (.cmp .eql .i64 21 (zi 1)), zm 29 30])
 (.cond 29
 (.reg [zm 31 0, zn 32 31, zf 33 1 32, zl 34 33, zm 35 3, zm 36 11, zo 37 (.ar .add .i64 36 (zi 2)), zo 38 (.call 219 [34, 35, 37, (.c (.l (.v (.int .u32 1))))])])
 (.seq (.reg [zo 40 (.cmp .eql .i64 21 (zi 2)), zm 39 40])
 (.cond 39
 (.reg [zm 41 0, zn 42 41, zf 43 1 42, zl 44 43, zm 45 3, zm 46 11, zo 47 (.call 219 [44, 45, 46, (.c (.l (.v (.int .u32 0))))])])
 (.seq (.reg [zo 49 (.cmp .eql .i64 21 (zi 3)), zm 48 49])
 (.cond 48
 (.reg [zm 50 0, zn 51 50, zf 52 1 51, zl 53 52, zm 54 3, zm 55 11, zo 56 (.ar .add .i64 55 (zi 1)), zo 57 (.call 219 [53, 54, 56, (.c (.l (.v (.int .u32 0))))])])
 (.seq (.reg [zo 59 (.cmp .eql .i64 21 (zi 4)), zm 58 59])
 (.cond 58
 (.seq (.draw [zm 60 1, zm 61 0, zn 62 61, zf 63 1 62, zl 64 63, zm 65 3, zm 66 0, zn 67 66, zf 68 3 67, zl 69 68, zm 70 1, zn 71 70, zf 72 2 71, zl 73 72, zo 74 (.conv .u32 73), zc 75 239 [64, 65, 69, 74], zo 76 (.conv .i64 75), zn 77 60, zf 78 3 77, zs 1 78 76] [[], [], [1], [2], [3], [], [], [6], [7], [8], [], [10], [11], [12], [13], [4, 5, 9, 14], [15], [0, 0, 1, 2, 3, 4, 5, 6, 7, 8, 9, 10, 11, 12, 13, 14, 15, 16], [17, 0, 1, 2, 3, 4, 5, 6, 7, 8, 9, 10, 11, 12, 13, 14, 15, 16], [18, 16, 15, 0, 1, 2, 3, 4, 5, 6, 7, 8, 9, 10, 11, 12, 13, 14, 15, 16]])
 (.seq (.seq (.reg [zm 79 1, zn 80 79, zf 81 3 80, zl 82 81, zo 83 (.cmp .eql .i64 82 (zi 0))])
 (.cond 83
 (.seq (.reg [zo 84 (.bld [(.v (.int .i64 0)), (.v (.bool false)), (.v (.bool false)), (.v (.bool false))] [(0, 1, (zi 1)), (1, 1, (.c (.l (.v (.bool true)))))]), zs 4 10 84])
 .ret)
 .skip))
 (.seq (.reg [zm 85 1, zn 86 85, zf 87 0 86, ⟨none, none, .sto 1 87 (zi 5)⟩])
 (.seq (.reg [zo 88 (.bld [(.v (.int .i64 0)), (.v (.bool false)), (.v (.bool false)), (.v (.bool false))] [(1, 1, (.c (.l (.v (.bool true)))))]), zs 4 10 88])
 .ret))))
 (.seq (.reg [zo 90 (.cmp .eql .i64 21 (zi 5)), zm 89 90])
 (.cond 89
 (.draw [zm 91 0, zn 92 91, zf 93 1 92, zl 94 93, zm 95 3, zm 96 0, zm 97 1, zn 98 97, zf 99 3 98, zl 100 99, zc 101 258 [96, 100], zo 102 (.ar .add .i64 101 (zi 1)), zm 103 1, zn 104 103, zf 105 2 104, zl 106 105, zo 107 (.conv .u32 106), zc 108 219 [94, 95, 102, 107]] [[], [0], [1], [2], [], [], [], [6], [7], [8], [5, 9], [10], [], [12], [13], [14], [15], [3, 4, 11, 16, 10]])
 (.seq (.reg [zo 110 (.cmp .eql .i64 21 (zi 6)), zm 109 110])
 (.cond 109
 (.seq (.seq (.reg [zm 111 0, zn 112 111, zf 113 1 112, zl 114 113, zm 115 3, zm 116 11, zc 117 220 [114, 115, 116], zo 118 (.cmp .neq .u32 117 (.c (.l (.v (.int .u32 0)))))])
 (.cond 118
 (.seq (.reg [zo 119 (.bld [(.v (.int .i64 0)), (.v (.bool false)), (.v (.bool false)), (.v (.bool false))] [(0, 1, (zi 1))]), zs 4 10 119])
 .ret)
 .skip))
 (.seq (.reg [zm 120 4, zo 121 (.not 120)])
 (.cond 121
 (.seq (.reg [zo 122 (.bld [(.v (.int .i64 0)), (.v (.bool false)), (.v (.bool false)), (.v (.bool false))] []), zs 4 10 122])
 .ret)
 .skip)))
 (.seq (.reg [zo 124 (.cmp .eql .i64 21 (zi 7)), zm 123 124])
 (.cond 123
 (.seq (.seq (.reg [zm 125 0, zn 126 125, zf 127 1 126, zl 128 127, zm 129 3, zm 130 11, zo 131 (.call 248 [128, 129, 130, (.c (.l (.v (.int .u32 0)))), (.c (.l (.v (.int .u32 2))))])])
 (.cond 131
 (.seq (.reg [zo 132 (.bld [(.v (.int .i64 0)), (.v (.bool false)), (.v (.bool false)), (.v (.bool false))] [(0, 1, (zi 2))]), zs 4 10 132])
 .ret)
 .skip))
 (.seq (.reg [zo 133 (.bld [(.v (.int .i64 0)), (.v (.bool false)), (.v (.bool false)), (.v (.bool false))] [(0, 1, (zi 1))]), zs 4 10 133])
 .ret))
 .skip))))))))))))))))))
 (.seq (.reg [zm 134 1, zn 135 134, zf 136 0 135, zl 137 136, zo 138 (.ar .add .i64 137 (zi 1)), zn 139 134, zf 140 0 139, zs 1 140 138])
 (.seq (.reg [zo 141 (.bld [(.v (.int .i64 0)), (.v (.bool false)), (.v (.bool false)), (.v (.bool false))] []), zs 4 10 141])
 .ret)))))
theorem ic255_eq : cF Tryz.prog Tryz.f255 = some ic255 := by kernel_rfl
def ic256 : IC := (.seq (.reg [zo 4 (.mov (.c (.l (.v (.slice none 0 0)))))])
 (.seq (.seq (.reg [zm 5 1, zo 6 (.cmp .lss .i64 5 (zi 0)), zm 7 6, ⟨(some 8), (some (7, false)), .mov 1⟩, ⟨(some 9), (some (7, false)), .mov 0⟩, ⟨(some 10), (some (7, false)), .nck 9⟩, ⟨(some 11), (some (7, false)), .fa 0 10⟩, ⟨(some 12), (some (7, false)), .ld 11⟩, ⟨(some 13), (some (7, false)), .len 12⟩, ⟨(some 14), (some (7, false)), .cmp .geq .i64 8 13⟩, zo 15 (.pick 7 (.c (.l (.v (.bool true)))) 14)])
 (.cond 15
 (.seq (.reg [zo 4 (.mov (.c (.l (.v (.slice none 0 0)))))])
 .ret)
 .skip))
 (.seq (.reg [zm 16 0, zn 17 16, zf 18 0 17, zl 19 18, zm 20 1, zo 21 (.ixs 1 19 20), zl 22 21, zc 23 159 [22], zm 4 23])
 .ret)))
theorem ic256_eq : cF Tryz.prog Tryz.f256 = some ic256 := by kernel_rfl
def ic257 : IC := (.seq (.reg [zo 6 (.mov (zi 0))])
 (.seq (.reg [zm 8 0, zm 9 1, zn 10 9, zf 11 2 10, zl 12 11, zc 13 258 [8, 12], zm 7 13])
 (.jn (.seq (.reg [zm 14 1, zn 15 14, zf 16 0 15, zl 17 16])
 (.blk 0 (.jn (.seq (.reg [zo 19 (.cmp .eql .i64 17 (zi 0)), zm 18 19])
 (.cond 18
 .skip
 (.reg [zo 20 (.cmp .eql .i64 17 (zi 2)), zm 18 20])))
 (.cond 18
 (.seq (.reg [zm 21 1, zm 22 0, zn 23 22, zf 24 1 23, zl 25 24, zm 26 2, zm 27 7, zo 28 (.ar .add .i64 27 (zi 1)), zc 29 220 [25, 26, 28], zo 30 (.conv .i64 29), zn 31 21, zf 32 3 31, zs 1 32 30])
 (.blk 1 (.seq (.reg [zm 34 1, zn 35 34, zf 36 3 35, zl 37 36, zo 38 (.cmp .neq .i64 37 (zi 0)), zm 33 38])
 (.cond 33
 (.reg [zm 39 1, zn 40 39, zf 41 0 40, ⟨none, none, .sto 1 41 (zi 3)⟩])
 (.seq (.reg [zm 43 1, zn 44 43, zf 45 0 44, zl 46 45, zo 47 (.cmp .eql .i64 46 (zi 0)), zm 42 47])
 (.cond 42
 (.reg [zm 48 1, zn 49 48, zf 50 0 49, ⟨none, none, .sto 1 50 (zi 1)⟩])
 .skip))))))
 (.seq (.reg [zo 52 (.cmp .eql .i64 17 (zi 1)), zm 51 52])
 (.cond 51
 (.seq (.reg [zm 53 1, zn 54 53, zf 55 0 54, ⟨none, none, .sto 1 55 (zi 2)⟩])
 (.seq (.draw [zm 56 0, zn 57 56, zf 58 1 57, zl 59 58, zm 60 2, zm 61 0, zn 62 61, zf 63 3 62, zl 64 63, zm 65 1, zn 66 65, zf 67 2 66, zl 68 67, zo 69 (.conv .u32 68), zo 70 (.call 248 [59, 60, 64, 69, (.c (.l (.v (.int .u32 0))))])] [[], [0], [1], [2], [], [], [5], [6], [7], [], [9], [10], [11], [12], [3, 4, 8, 13]])
 (.cond 70
 (.reg [zm 71 1, zn 72 71, zf 73 0 72, ⟨none, none, .sto 1 73 (zi 5)⟩])
 .skip)))
 (.seq (.reg [zo 75 (.cmp .eql .i64 17 (zi 3)), zm 74 75])
 (.cond 74
 (.seq (.reg [zm 76 1, zn 77 76, zf 78 0 77, ⟨none, none, .sto 1 78 (zi 4)⟩])
 (.seq (.draw [zm 79 0, zn 80 79, zf 81 1 80, zl 82 81, zm 83 2, zm 84 0, zm 85 1, zn 86 85, zf 87 3 86, zl 88 87, zc 89 258 [84, 88], zo 90 (.call 248 [82, 83, 89, (.c (.l (.v (.int .u32 0)))), (.c (.l (.v (.int .u32 1))))])] [[], [0], [1], [2], [], [], [], [6], [7], [8], [5, 9], [3, 4, 10, 10]])
 (.cond 90
 (.reg [zm 91 1, zn 92 91, zf 93 0 92, ⟨none, none, .sto 1 93 (zi 5)⟩])
 .skip)))
 (.seq (.reg [zo 95 (.cmp .eql .i64 17 (zi 4)), zm 94 95])
 (.cond 94
 (.seq (.reg [zm 96 0, zn 97 96, zf 98 1 97, zl 99 98, zm 100 2, zm 101 7, zo 102 (.ar .add .i64 101 (zi 2)), zo 103 (.call 219 [99, 100, 102, (.c (.l (.v (.int .u32 0))))])])
 (.reg [zm 104 1, zm 105 1, zn 106 105, zf 107 3 106, zl 108 107, zo 109 (.bld [(.v (.int .i64 0)), (.v (.int .i64 0)), (.v (.int .i64 0)), (.v (.int .i64 0))] [(0, 1, (zi 0)), (2, 1, 108)]), zn 110 104, zs 4 110 109]))
 (.seq (.reg [zo 112 (.cmp .eql .i64 17 (zi 5)), zm 111 112])
 (.cond 111
 (.seq (.reg [zm 113 0, zn 114 113, zf 115 1 114, zl 116 115, zm 117 2, zm 118 7, zo 119 (.ar .add .i64 118 (zi 2)), zo 120 (.call 219 [116, 117, 119, (.c (.l (.v (.int .u32 0))))])])
 (.seq (.reg [zo 6 (.mov (zi 3))])
 .ret))
 .skip))))))))))))
 (.seq (.reg [zo 6 (.mov (zi 0))])
 .ret))))
theorem ic257_eq : cF Tryz.prog Tryz.f257 = some ic257 := by kernel_rfl
def ic258 : IC := (.seq (.reg [zo 4 (.mov (zi 0))])
 (.seq (.reg [zm 5 0, zn 6 5, zf 7 3 6, zl 8 7, zm 9 1, zo 10 (.ar .mul .i64 (zi 3) 9), zo 11 (.ar .add .i64 8 10), zo 12 (.ar .sub .i64 11 (zi 2)), zm 4 12])
 .ret))
theorem ic258_eq : cF Tryz.prog Tryz.f258 = some ic258 := by kernel_rfl
def ic259 : IC := (.seq (.reg [zo 8 (.alloc [(.v (.int .i64 0)), (.v (.bool false)), (.v (.bool false)), (.v (.bool false))])])
 (.seq (.reg [zm 9 1, zm 10 2, zm 11 1, zn 12 11, zf 13 1 12, zl 14 13, zo 15 (.ixs 1 10 14), zl 16 15, zn 17 9, zf 18 2 17, zs 1 18 16])
 (.seq (.reg [zm 19 1, zn 20 19, zf 21 1 20, zl 22 21, zo 23 (.ar .add .i64 22 (zi 1)), zn 24 19, zf 25 1 24, zs 1 25 23])
 (.jn (.seq (.draw [zm 26 0, zn 27 26, zf 28 1 27, zl 29 28, zm 30 3, zm 31 0, zm 32 1, zn 33 32, zf 34 2 33, zl 35 34, zc 36 258 [31, 35], zo 37 (.ar .add .i64 36 (zi 2)), zc 38 220 [29, 30, 37], zo 39 (.cmp .eql .u32 38 (.c (.l (.v (.int .u32 0)))))] [[], [0], [1], [2], [], [], [], [6], [7], [8], [5, 9], [10], [3, 4, 11, 10], [12]])
 (.cond 39
 (.reg [zm 40 1, zn 41 40, zf 42 0 41, ⟨none, none, .sto 1 42 (zi 1)⟩])
 (.seq (.reg [zm 43 1, zn 44 43, zf 45 1 44, zl 46 45, zm 47 2, zo 48 (.len 47), zo 49 (.cmp .eql .i64 46 48)])
 (.cond 49
 (.seq (.reg [zo 50 (.bld [(.v (.int .i64 0)), (.v (.bool false)), (.v (.bool false)), (.v (.bool false))] [(0, 1, (zi 6))]), zs 4 8 50])
 .ret)
 .skip))))
 (.seq (.reg [zo 51 (.bld [(.v (.int .i64 0)), (.v (.bool false)), (.v (.bool false)), (.v (.bool false))] []), zs 4 8 51])
 .ret)))))
theorem ic259_eq : cF Tryz.prog Tryz.f259 = some ic259 := by kernel_rfl
def ic260 : IC := (.seq (.reg [zo 8 (.alloc [(.v (.int .i64 0)), (.v (.bool false)), (.v (.bool false)), (.v (.bool false))])])
 (.seq (.reg [zo 9 (.alloc [(.v (.int .i64 0)), (.v (.bool false)), (.v (.bool false)), (.v (.bool false))])])
 (.jn (.seq (.reg [zm 10 0, zn 11 10, zf 12 0 11, zl 13 12, zm 14 1, zc 15 212 [13, 14]])
 (.blk 0 (.seq (.reg [zo 17 (.cmp .eql .i64 15 (zi 1)), zm 16 17])
 (.cond 16
 (.reg [zm 18 0, zm 19 0, zn 20 19, zf 21 3 20, zl 22 21, zm 23 1, zo 24 (.ixs 6 22 23), zm 25 2, zc 26 262 [18, 24, 25], zs 4 9 26])
 (.seq (.reg [zo 28 (.cmp .eql .i64 15 (zi 3)), zm 27 28])
 (.cond 27
 (.reg [zm 29 0, zm 30 0, zn 31 30, zf 32 3 31, zl 33 32, zm 34 1, zo 35 (.ixs 6 33 34), zm 36 2, zc 37 263 [29, 35, 36], zf 38 0 9, zs 1 38 37])
 .skip))))))
 (.seq (.draw [zm 39 0, zn 40 39, zf 41 0 40, zl 42 41, zm 43 1, zf 44 0 9, zl 45 44, zc 46 221 [42, 43, 45]] [[], [0], [1], [2], [], [], [5], [3, 4, 6]])
 (.seq (.reg [zo 47 (.lda 4 9), zs 4 8 47])
 .ret)))))
theorem ic260_eq : cF Tryz.prog Tryz.f260 = some ic260 := by kernel_rfl
def ic261 : IC := (.reg [zm 4 0, zm 5 1, zn 6 4, zf 7 1 6, zs 1 7 5])
theorem ic261_eq : cF Tryz.prog Tryz.f261 = some ic261 := by kernel_rfl
def ic262 : IC := (.seq (.reg [zo 6 (.alloc [(.v (.int .i64 0)), (.v (.bool false)), (.v (.bool false)), (.v (.bool false))])])
 (.seq (.draw [zm 9 0, zn 10 9, zf 11 2 10, zl 12 11, zo 13 (.ar .add .i64 12 (zi 1)), zm 14 1, zn 15 14, zf 16 0 15, zl 17 16, zo 18 (.ar .add .i64 13 17), zm 7 18] [[], [0], [1], [2], [3], [], [5], [6], [7], [4, 8], [9, 0, 1, 2, 3, 4, 5, 6, 7, 8, 9]])
 (.jn (.seq (.reg [zm 19 1, zn 20 19, zf 21 5 20, zl 22 21])
 (.blk 0 (.seq (.reg [zo 24 (.cmp .eql .i64 22 (zi 0)), zm 23 24])
 (.cond 23
 (.seq (.draw [zm 25 0, zn 26 25, zf 27 1 26, zl 28 27, zm 29 2, zm 30 0, zm 31 1, zn 32 31, zf 33 1 32, zl 34 33, zc 35 264 [30, 34], zm 36 1, zn 37 36, zf 38 0 37, zl 39 38, zo 40 (.call 140 [39, (.c (.l (.v (.bool true)))), (.c (.l (.v (.bool false))))]), zc 41 219 [28, 29, 35, 40]] [[], [0], [1], [2], [], [], [], [6], [7], [8], [5, 9], [], [11], [12], [13], [14, 10], [3, 4, 10, 15, 15]])
 (.reg [zm 42 1, zn 43 42, zf 44 5 43, ⟨none, none, .sto 1 44 (zi 1)⟩]))
 (.seq (.reg [zo 46 (.cmp .eql .i64 22 (zi 1)), zm 45 46])
 (.cond 45
 (.seq (.draw [zm 47 1, zm 48 0, zn 49 48, zf 50 1 49, zl 51 50, zm 52 2, zm 53 7, zm 54 1, zn 55 54, zf 56 1 55, zl 57 56, zo 58 (.conv .u32 57), zc 59 239 [51, 52, 53, 58], zo 60 (.conv .i64 59), zn 61 47, zf 62 2 61, zs 1 62 60] [[], [], [1], [2], [3], [], [], [], [7], [8], [9], [10], [4, 5, 6, 11], [12], [0, 0, 1, 2, 3, 4, 5, 6, 7, 8, 9, 10, 11, 12, 13], [14, 0, 1, 2, 3, 4, 5, 6, 7, 8, 9, 10, 11, 12, 13], [15, 13, 12, 0, 1, 2, 3, 4, 5, 6, 7, 8, 9, 10, 11, 12, 13]])
 (.jn (.seq (.reg [zm 63 1, zn 64 63, zf 65 5 64, ⟨none, none, .sto 1 65 (zi 2)⟩])
 (.seq (.reg [zm 66 1, zn 67 66, zf 68 2 67, zl 69 68, zo 70 (.cmp .eql .i64 69 (zi 0))])
 (.cond 70
 (.reg [zm 71 1, zn 72 71, zf 73 5 72, ⟨none, none, .sto 1 73 (zi 3)⟩])
 .skip)))
 (.seq (.reg [zo 74 (.bld [(.v (.int .i64 0)), (.v (.bool false)), (.v (.bool false)), (.v (.bool false))] [(1, 1, (.c (.l (.v (.bool true)))))]), zs 4 6 74])
 .ret)))
 (.seq (.reg [zo 76 (.cmp .eql .i64 22 (zi 2)), zm 75 76])
 (.cond 75
 (.seq (.draw [zm 77 0, zn 78 77, zf 79 1 78, zl 80 79, zm 81 2, zm 82 0, zm 83 1, zn 84 83, zf 85 2 84, zl 86 85, zc 87 264 [82, 86], zc 88 220 [80, 81, 87], zm 8 88] [[], [0], [1], [2], [], [], [], [6], [7], [8], [5, 9], [3, 4, 10, 10], [11, 11, 0, 1, 2, 3, 4, 5, 6, 7, 8, 9, 10, 11]])
 (.blk 1 (.seq (.draw [zm 90 8, zc 91 265 [90], zm 92 1, zn 93 92, zf 94 0 93, zl 95 94, zo 96 (.cmp .neq .i64 91 95), zm 97 96, ⟨(some 98), (some (97, false)), .mov 8⟩, ⟨(some 99), (some (97, false)), .call 266 [98]⟩, zo 100 (.pick 97 (.c (.l (.v (.bool true)))) 99), zm 89 100] [[], [0], [], [2], [3], [4], [1, 5], [6, 1], [7], [8, 7, 7], [7, 9], [10, 9]])
 (.cond 89
 (.reg [zm 101 1, zn 102 101, zf 103 5 102, ⟨none, none, .sto 1 103 (zi 3)⟩])
 (.seq (.reg [zm 105 8, zc 106 267 [105], zo 107 (.not 106), zm 104 107])
 (.cond 104
 (.seq (.reg [zm 108 1, zo 109 (.call 268 [108, (.c (.l (.v (.bool false))))]), zs 4 6 109])
 .ret)
 .skip))))))
 (.seq (.reg [zo 111 (.cmp .eql .i64 22 (zi 3)), zm 110 111])
 (.cond 110
 (.seq (.reg [zm 112 1, zm 113 0, zn 114 113, zf 115 1 114, zl 116 115, zm 117 2, zm 118 7, zc 119 220 [116, 117, 118], zo 120 (.conv .i64 119), zn 121 112, zf 122 3 121, zs 1 122 120])
 (.reg [zm 123 1, zn 124 123, zf 125 5 124, ⟨none, none, .sto 1 125 (zi 4)⟩]))
 (.seq (.reg [zo 127 (.cmp .eql .i64 22 (zi 4)), zm 126 127])
 (.cond 126
 (.seq (.draw [zm 128 1, zm 129 0, zn 130 129, zf 131 1 130, zl 132 131, zm 133 2, zm 134 0, zn 135 134, zf 136 2 135, zl 137 136, zm 138 1, zn 139 138, zf 140 3 139, zl 141 140, zo 142 (.conv .u32 141), zc 143 239 [132, 133, 137, 142], zo 144 (.conv .i64 143), zn 145 128, zf 146 2 145, zs 1 146 144] [[], [], [1], [2], [3], [], [], [6], [7], [8], [], [10], [11], [12], [13], [4, 5, 9, 14], [15], [0, 0, 1, 2, 3, 4, 5, 6, 7, 8, 9, 10, 11, 12, 13, 14, 15, 16], [17, 0, 1, 2, 3, 4, 5, 6, 7, 8, 9, 10, 11, 12, 13, 14, 15, 16], [18, 16, 15, 0, 1, 2, 3, 4, 5, 6, 7, 8, 9, 10, 11, 12, 13, 14, 15, 16]])
 (.seq (.reg [zm 147 1, zn 148 147, zf 149 5 148, ⟨none, none, .sto 1 149 (zi 5)⟩])
 (.seq (.reg [zo 150 (.bld [(.v (.int .i64 0)), (.v (.bool false)), (.v (.bool false)), (.v (.bool false))] [(2, 1, (.c (.l (.v (.bool true)))))]), zs 4 6 150])
 .ret)))
 (.seq (.reg [zo 152 (.cmp .eql .i64 22 (zi 5)), zm 151 152])
 (.cond 151
 (.seq (.draw [zm 153 1, zm 154 0, zn 155 154, zf 156 1 155, zl 157 156, zm 158 2, zm 159 0, zm 160 1, zn 161 160, zf 162 3 161, zl 163 162, zc 164 264 [159, 163], zc 165 220 [157, 158, 164], zn 166 153, zf 167 4 166, zs 1 167 165] [[], [], [1], [2], [3], [], [], [], [7], [8], [9], [6, 10], [4, 5, 11, 11], [0, 0, 1, 2, 3, 4, 5, 6, 7, 8, 9, 10, 11, 12], [13, 0, 1, 2, 3, 4, 5, 6, 7, 8, 9, 10, 11, 12], [14, 12, 12, 0, 1, 2, 3, 4, 5, 6, 7, 8, 9, 10, 11, 12]])
 (.reg [zm 168 1, zn 169 168, zf 170 5 169, ⟨none, none, .sto 1 170 (zi 6)⟩]))
 (.seq (.reg [zo 172 (.cmp .eql .i64 22 (zi 6)), zm 171 172])
 (.cond 171
 (.seq (.reg [zm 173 1, zn 174 173, zf 175 5 174, ⟨none, none, .sto 1 175 (zi 5)⟩])
 (.seq (.draw [zm 176 0, zn 177 176, zf 178 1 177, zl 179 178, zm 180 2, zm 181 0, zm 182 1, zn 183 182, zf 184 3 183, zl 185 184, zc 186 264 [181, 185], zm 187 1, zn 188 187, zf 189 4 188, zl 190 189, zm 191 1, zn 192 191, zf 193 4 192, zl 194 193, zc 195 269 [194], zc 196 248 [179, 180, 186, 190, 195]] [[], [0], [1], [2], [], [], [], [6], [7], [8], [5, 9], [], [11], [12], [13], [], [15], [16], [17], [18, 10], [3, 4, 10, 14, 19, 19]])
 (.cond 196
 (.reg [zm 197 1, zn 198 197, zf 199 5 198, ⟨none, none, .sto 1 199 (zi 7)⟩])
 .skip)))
 (.seq (.reg [zo 201 (.cmp .eql .i64 22 (zi 7)), zm 200 201])
 (.cond 200
 (.seq (.draw [zm 202 0, zn 203 202, zf 204 1 203, zl 205 204, zm 206 2, zm 207 0, zm 208 1, zn 209 208, zf 210 2 209, zl 211 210, zc 212 264 [207, 211], zc 213 220 [205, 206, 212], zc 214 267 [213], zo 215 (.not 214)] [[], [0], [1], [2], [], [], [], [6], [7], [8], [5, 9], [3, 4, 10, 10], [11, 11], [12]])
 (.cond 215
 (.seq (.reg [zm 216 1, zo 217 (.call 268 [216, (.c (.l (.v (.bool true))))]), zs 4 6 217])
 .ret)
 .skip))
 .skip))))))))))))))))))
 (.seq (.reg [zo 218 (.bld [(.v (.int .i64 0)), (.v (.bool false)), (.v (.bool false)), (.v (.bool false))] []), zs 4 6 218])
 .ret))))
theorem ic262_eq : cF Tryz.prog Tryz.f262 = some ic262 := by kernel_rfl
def ic263 : IC := (.seq (.reg [zo 6 (.mov (zi 0))])
 (.seq (.seq (.reg [zm 7 1, zn 8 7, zf 9 5 8, zl 10 9, zo 11 (.cmp .eql .i64 10 (zi 0))])
 (.cond 11
 (.seq (.draw [zm 12 1, zm 13 1, zm 14 0, zn 15 14, zf 16 1 15, zl 17 16, zm 18 2, zm 19 0, zm 20 1, zn 21 20, zf 22 1 21, zl 23 22, zc 24 264 [19, 23], zc 25 220 [17, 18, 24], zn 26 12, zf 27 4 26, zs 1 27 25, zn 28 13, zf 29 5 28, ⟨none, none, .sto 1 29 (zi 1)⟩] [[], [], [], [2], [3], [4], [], [], [], [8], [9], [10], [7, 11], [5, 6, 12, 12], [0, 0, 2, 3, 4, 5, 6, 7, 8, 9, 10, 11, 12, 13], [14, 0, 2, 3, 4, 5, 6, 7, 8, 9, 10, 11, 12, 13], [15, 13, 13, 0, 2, 3, 4, 5, 6, 7, 8, 9, 10, 11, 12, 13], [1, 0, 1, 2, 3, 4, 5, 6, 7, 8, 9, 10, 11, 12, 13, 14, 15, 16], [17, 0, 1, 2, 3, 4, 5, 6, 7, 8, 9, 10, 11, 12, 13, 14, 15, 16], [18, 16, 0, 1, 2, 3, 4, 5, 6, 7, 8, 9, 10, 11, 12, 13, 14, 15, 16]])
 (.seq (.reg [zo 6 (.mov (zi 0))])
 .ret))
 .skip))
 (.seq (.reg [zm 30 1, zn 31 30, zf 32 5 31, ⟨none, none, .sto 1 32 (zi 0)⟩])
 (.seq (.seq (.draw [zm 33 0, zn 34 33, zf 35 1 34, zl 36 35, zm 37 2, zm 38 0, zm 39 1, zn 40 39, zf 41 1 40, zl 42 41, zc 43 264 [38, 42], zm 44 1, zn 45 44, zf 46 4 45, zl 47 46, zm 48 1, zn 49 48, zf 50 4 49, zl 51 50, zc 52 270 [51], zc 53 248 [36, 37, 43, 47, 52], zo 54 (.not 53)] [[], [0], [1], [2], [], [], [], [6], [7], [8], [5, 9], [], [11], [12], [13], [], [15], [16], [17], [18, 10], [3, 4, 10, 14, 19, 19], [20]])
 (.cond 54
 (.seq (.reg [zo 6 (.mov (zi 0))])
 .ret)
 .skip))
 (.seq (.reg [zm 55 1, zm 56 1, zn 57 56, zf 58 2 57, zl 59 58, zn 60 55, zf 61 1 60, zs 1 61 59])
 (.seq (.reg [zo 6 (.mov (zi 3))])
 .ret))))))
theorem ic263_eq : cF Tryz.prog Tryz.f263 = some ic263 := by kernel_rfl
def ic264 : IC := (.seq (.reg [zo 4 (.mov (zi 0))])
 (.seq (.reg [zm 5 0, zn 6 5, zf 7 2 6, zl 8 7, zo 9 (.ar .add .i64 8 (zi 8)), zm 10 1, zo 11 (.ar .add .i64 9 10), zm 4 11])
 .ret))
theorem ic264_eq : cF Tryz.prog Tryz.f264 = some ic264 := by kernel_rfl
def ic265 : IC := (.seq (.reg [zo 2 (.mov (zi 0))])
 (.seq (.reg [zm 3 0, zo 4 (.dv .quo .u32 3 (.c (.l (.v (.int .u32 4))))), zo 5 (.conv .i64 4), zm 2 5])
 .ret))
theorem ic265_eq : cF Tryz.prog Tryz.f265 = some ic265 := by kernel_rfl
def ic266 : IC := (.seq (.reg [zo 2 (.mov (.c (.l (.v (.bool false)))))])
 (.seq (.reg [zm 3 0, zo 4 (.bt .and .u32 3 (.c (.l (.v (.int .u32 1))))), zo 5 (.cmp .neq .u32 4 (.c (.l (.v (.int .u32 0))))), zm 2 5])
 .ret))
theorem ic266_eq : cF Tryz.prog Tryz.f266 = some ic266 := by kernel_rfl
def ic267 : IC := (.seq (.reg [zo 2 (.mov (.c (.l (.v (.bool false)))))])
 (.seq (.reg [zm 3 0, zo 4 (.bt .and .u32 3 (.c (.l (.v (.int .u32 2))))), zo 5 (.cmp .neq .u32 4 (.c (.l (.v (.int .u32 0))))), zm 2 5])
 .ret))
theorem ic267_eq : cF Tryz.prog Tryz.f267 = some ic267 := by kernel_rfl
def ic268 : IC := (.seq (.reg [zo 4 (.alloc [(.v (.int .i64 0)), (.v (.bool false)), (.v (.bool false)), (.v (.bool false))])])
 (.seq (.reg [zm 5 0, zn 6 5, zf 7 5 6, ⟨none, none, .sto 1 7 (zi 0)⟩])
 (.seq (.reg [zm 8 1, zo 9 (.bld [(.v (.int .i64 0)), (.v (.bool false)), (.v (.bool false)), (.v (.bool false))] [(0, 1, (zi 1)), (3, 1, 8)]), zs 4 4 9])
 .ret)))
theorem ic268_eq : cF Tryz.prog Tryz.f268 = some ic268 := by kernel_rfl
def ic269 : IC := (.seq (.reg [zo 2 (.mov (.c (.l (.v (.int .u32 0)))))])
 (.seq (.reg [zm 3 0, zo 4 (.bt .or .u32 3 (.c (.l (.v (.int .u32 1))))), zm 2 4])
 .ret))
theorem ic269_eq : cF Tryz.prog Tryz.f269 = some ic269 := by kernel_rfl
def ic270 : IC := (.seq (.reg [zo 2 (.mov (.c (.l (.v (.int .u32 0)))))])
 (.seq (.reg [zm 3 0, zo 4 (.bt .andNot .u32 3 (.c (.l (.v (.int .u32 2))))), zm 2 4])
 .ret))
theorem ic270_eq : cF Tryz.prog Tryz.f270 = some ic270 := by kernel_rfl
def ic271 : IC := (.seq (.reg [zo 8 (.alloc [(.v (.int .i64 0)), (.v (.bool false)), (.v (.bool false)), (.v (.bool false))])])
 (.seq (.reg [zm 12 0, zn 13 12, zf 14 0 13, zl 15 14, zm 16 1, zc 17 212 [15, 16], zm 9 17])
 (.seq (.seq (.reg [zm 18 9, zo 19 (.cmp .neq .i64 18 (zi 1)), zm 20 19, ⟨(some 21), (some (20, true)), .mov 9⟩, ⟨(some 22), (some (20, true)), .cmp .neq .i64 21 (zi 3)⟩, zo 23 (.pick 20 22 (.c (.l (.v (.bool false)))))])
 (.cond 23
 (.seq (.reg [zo 24 (.bld [(.v (.int .i64 0)), (.v (.bool false)), (.v (.bool false)), (.v (.bool false))] []), zs 4 8 24])
 .ret)
 .skip))
 (.seq (.reg [zm 25 0, zn 26 25, zf 27 13 26, zl 28 27, zm 29 1, zo 30 (.ixs 4 28 29), zm 10 30])
 (.jn (.seq (.reg [zm 31 10, zn 32 31, zf 33 2 32, zl 34 33, zo 35 (.eq .f false 34 (.c (.l (.v .nilFunc))))])
 (.cond 35
 (.reg [zm 36 0, zm 37 10, zm 38 9, zc 39 273 [36, 37, 38]])
 .skip))
 (.seq (.reg [zm 40 10, zn 41 40, zf 42 2 41, zl 43 42, zm 44 0, zm 45 10, zm 46 2, zm 47 3, zo 48 (.callv 43 [44, 45, 46, 47]), zo 11 (.alloc [(.v (.int .i64 0)), (.v (.bool false)), (.v (.bool false)), (.v (.bool false))]), zs 4 11 48])
 (.jn (.seq (.draw [zm 49 0, zn 50 49, zf 51 0 50, zl 52 51, zm 53 1, zf 54 0 11, zl 55 54, zc 56 221 [52, 53, 55]] [[], [0], [1], [2], [], [], [5], [3, 4, 6]])
 (.cond 56
 (.reg [zm 57 10, zn 58 57, zf 59 2 58, ⟨none, none, .sto 1 59 (.c (.l (.v .nilFunc)))⟩])
 .skip))
 (.seq (.reg [zo 60 (.lda 4 11), zs 4 8 60])
 .ret))))))))
theorem ic271_eq : cF Tryz.prog Tryz.f271 = some ic271 := by kernel_rfl
def ic272 : IC := (.seq (.reg [zm 6 0, zm 7 1, zn 8 6, zf 9 1 8, zs 1 9 7])
 (.seq (.reg [zm 10 0, zn 11 10, zf 12 4 11, zl 13 12, zm 14 1, zo 15 (.inv 13 "Use" [14])])
 (.seq (.reg [zm 16 0, zn 17 16, zf 18 5 17, zo 19 (.lda 8 18), zo 20 (.mov (zi 0))])
 (.blk 0 (.loop (.seq (.reg [zo 21 (.cmp .lss .i64 20 (zi 8))])
 (.seq (.cond 21
 .skip
 (.exit 0))
 (.jn (.blk 1 (.seq (.reg [zo 22 (.esc (.index 298 (.tmp 19) (.tmp 20))), zm 5 22])
 (.seq (.reg [zm 23 5, zo 24 (.eq .n true 23 (.c (.l (.v .nilIface))))])
 (.cond 24
 (.reg [zm 25 5, zm 26 1, zo 27 (.inv 25 "Use" [26])])
 .skip))))
 (.reg [zo 28 (.ar .add .i64 20 (zi 1)), zm 20 28])))))))))
theorem ic272_eq : cF Tryz.prog Tryz.f272 = some ic272 := by kernel_rfl
def ic273 : IC := (.seq (.seq (.reg [zm 6 2, zo 7 (.cmp .eql .i64 6 (zi 3))])
 (.cond 7
 (.seq (.reg [zm 8 1, zn 9 8, zf 10 2 9, ⟨none, none, .sto 1 10 (.c (.l (.c 274 [])))⟩])
 .ret)
 .skip))
 (.seq (.draw [zm 11 0, zm 12 1, zn 13 12, zf 14 0 13, zl 15 14, zn 16 11, zf 17 5 16, zo 18 (.ixa 1 8 17 15), zl 19 18, zm 20 1, zn 21 20, zf 22 1 21, zl 23 22, zn 24 19, zm 25 19, zo 26 (.inv 25 "Lock" [23, (.c (.l (.v (.int .i64 (-1)))))])] [[], [], [1], [2], [3], [0], [5], [6, 4], [7], [], [9], [10], [11], [8], [8, 13], [14, 12]])
 (.reg [zm 27 1, zn 28 27, zf 29 2 28, ⟨none, none, .sto 1 29 (.c (.l (.c 275 [])))⟩])))
theorem ic273_eq : cF Tryz.prog Tryz.f273 = some ic273 := by kernel_rfl
def ic274 : IC := (.seq (.reg [zo 8 (.alloc [(.v (.int .i64 0)), (.v (.bool false)), (.v (.bool false)), (.v (.bool false))])])
 (.seq (.draw [zm 9 1, zm 10 0, zn 11 10, zf 12 1 11, zl 13 12, zm 14 2, zm 15 0, zn 16 15, zf 17 2 16, zl 18 17, zm 19 1, zn 20 19, zf 21 0 20, zl 22 21, zo 23 (.ar .add .i64 18 22), zc 24 220 [13, 14, 23], zn 25 9, zf 26 3 25, zs 1 26 24] [[], [], [1], [2], [3], [], [], [6], [7], [8], [], [10], [11], [12], [9, 13], [4, 5, 14], [0, 0, 1, 2, 3, 4, 5, 6, 7, 8, 9, 10, 11, 12, 13, 14, 15], [16, 0, 1, 2, 3, 4, 5, 6, 7, 8, 9, 10, 11, 12, 13, 14, 15], [17, 15, 15, 0, 1, 2, 3, 4, 5, 6, 7, 8, 9, 10, 11, 12, 13, 14, 15]])
 (.jn (.seq (.reg [zm 27 1, zn 28 27, zf 29 2 28, ⟨none, none, .sto 1 29 (.c (.l (.c 276 [])))⟩])
 (.seq (.draw [zm 30 1, zn 31 30, zf 32 3 31, zl 33 32, zm 34 0, zn 35 34, zf 36 3 35, zl 37 36, zo 38 (.cmp .lss .u32 33 37)] [[], [0], [1], [2], [], [4], [5], [6], [3, 7]])
 (.cond 38
 (.seq (.draw [zm 39 0, zm 40 1, zn 41 40, zf 42 0 41, zl 43 42, zn 44 39, zf 45 5 44, zo 46 (.ixa 1 8 45 43), zl 47 46, zm 48 1, zn 49 48, zf 50 1 49, zl 51 50, zn 52 47, zm 53 47, zo 54 (.inv 53 "Probe" [51])] [[], [], [1], [2], [3], [0], [5], [6, 4], [7], [], [9], [10], [11], [8], [8, 13], [14, 12]])
 (.reg [zm 55 1, zn 56 55, zf 57 2 56, ⟨none, none, .sto 1 57 (.c (.l (.c 277 [])))⟩]))
 .skip)))
 (.seq (.reg [zo 58 (.bld [(.v (.int .i64 0)), (.v (.bool false)), (.v (.bool false)), (.v (.bool false))] []), zs 4 8 58])
 .ret))))
theorem ic274_eq : cF Tryz.prog Tryz.f274 = some ic274 := by kernel_rfl
def ic275 : IC := (.seq (.reg [zo 8 (.alloc [(.v (.int .i64 0)), (.v (.bool false)), (.v (.bool false)), (.v (.bool false))])])
 (.seq (.draw [zm 10 0, zm 11 1, zn 12 11, zf 13 0 12, zl 14 13, zn 15 10, zf 16 5 15, zo 17 (.ixa 1 8 16 14), zl 18 17, zm 19 1, zn 20 19, zf 21 1 20, zl 22 21, zm 23 2, zm 24 3, zn 25 18, zm 26 18, zo 27 (.inv 26 "Step" [22, 23, 24]), zo 9 (.alloc [(.v (.int .i64 0)), (.v (.bool false)), (.v (.bool false)), (.v (.bool false))]), zs 4 9 27] [[], [], [1], [2], [3], [0], [5], [6, 4], [7], [], [9], [10], [11], [], [], [8], [8, 15], [16, 12, 13, 14], [], [18, 17, 17, 0, 1, 2, 3, 4, 5, 6, 7, 8, 9, 10, 11, 12, 13, 14, 15, 16, 17, 18]])
 (.jn (.seq (.reg [zf 28 0 9, zl 29 28, zo 30 (.cmp .eql .i64 29 (zi 1))])
 (.cond 30
 (.reg [zm 31 1, zn 32 31, zf 33 2 32, ⟨none, none, .sto 1 33 (.c (.l (.c 278 [])))⟩])
 .skip))
 (.seq (.reg [zf 34 1 9, zl 35 34, zo 36 (.bld [(.v (.int .i64 0)), (.v (.bool false)), (.v (.bool false)), (.v (.bool false))] [(1, 1, 35)]), zs 4 8 36])
 .ret))))
theorem ic275_eq : cF Tryz.prog Tryz.f275 = some ic275 := by kernel_rfl
def ic276 : IC := (.seq (.reg [zo 8 (.alloc [(.v (.int .i64 0)), (.v (.bool false)), (.v (.bool false)), (.v (.bool false))])])
 (.seq (.draw [zm 9 0, zn 10 9, zf 11 1 10, zl 12 11, zm 13 2, zm 14 0, zn 15 14, zf 16 2 15, zl 17 16, zm 18 1, zn 19 18, zf 20 0 19, zl 21 20, zo 22 (.ar .add .i64 17 21), zo 23 (.call 219 [12, 13, 22, (.c (.l (.v (.int .u32 0))))])] [[], [0], [1], [2], [], [], [5], [6], [7], [], [9], [10], [11], [8, 12], [3, 4, 13]])
 (.seq (.draw [zm 24 0, zn 25 24, zf 26 4 25, zl 27 26, zm 28 1, zn 29 28, zf 30 0 29, zl 31 30, zn 32 27, zm 33 27, zo 34 (.inv 33 "Unlock" [31])] [[], [0], [1], [2], [], [4], [5], [6], [3], [3, 8], [9, 7]])
 (.seq (.reg [zm 35 1, zn 36 35, zf 37 2 36, ⟨none, none, .sto 1 37 (.c (.l (.c 279 [])))⟩])
 (.seq (.reg [zo 38 (.bld [(.v (.int .i64 0)), (.v (.bool false)), (.v (.bool false)), (.v (.bool false))] []), zs 4 8 38])
 .ret)))))
theorem ic276_eq : cF Tryz.prog Tryz.f276 = some ic276 := by kernel_rfl
def ic277 : IC := (.seq (.reg [zo 8 (.alloc [(.v (.int .i64 0)), (.v (.bool false)), (.v (.bool false)), (.v (.bool false))])])
 (.seq (.reg [zm 9 1, zn 10 9, zf 11 2 10, ⟨none, none, .sto 1 11 (.c (.l (.c 276 [])))⟩])
 (.jn (.seq (.draw [zm 12 0, zm 13 1, zn 14 13, zf 15 0 14, zl 16 15, zn 17 12, zf 18 5 17, zo 19 (.ixa 1 8 18 16), zl 20 19, zm 21 1, zn 22 21, zf 23 1 22, zl 24 23, zm 25 2, zm 26 3, zn 27 20, zm 28 20, zo 29 (.inv 28 "Step" [24, 25, 26]), zo 30 (.fld 0 29), zo 31 (.cmp .eql .i64 30 (zi 5))] [[], [], [1], [2], [3], [0], [5], [6, 4], [7], [], [9], [10], [11], [], [], [8], [8, 15], [16, 12, 13, 14], [17], [18]])
 (.cond 31
 (.reg [zm 32 1, zn 33 32, zf 34 2 33, ⟨none, none, .sto 1 34 (.c (.l (.c 280 [])))⟩])
 .skip))
 (.seq (.reg [zo 35 (.bld [(.v (.int .i64 0)), (.v (.bool false)), (.v (.bool false)), (.v (.bool false))] []), zs 4 8 35])
 .ret))))
theorem ic277_eq : cF Tryz.prog Tryz.f277 = some ic277 := by kernel_rfl
def ic278 : IC := (.seq (.reg [zo 8 (.alloc [(.v (.int .i64 0)), (.v (.bool false)), (.v (.bool false)), (.v (.bool false))])])
 (.seq (.seq (.draw [zm 9 0, zn 10 9, zf 11 1 10, zl 12 11, zm 13 2, zm 14 0, zn 15 14, zf 16 2 15, zl 17 16, zm 18 1, zn 19 18, zf 20 0 19, zl 21 20, zo 22 (.ar .add .i64 17 21), zc 23 220 [12, 13, 22], zo 24 (.cmp .neq .u32 23 (.c (.l (.v (.int .u32 0)))))] [[], [0], [1], [2], [], [], [5], [6], [7], [], [9], [10], [11], [8, 12], [3, 4, 13], [14]])
 (.cond 24
 (.seq (.reg [zo 25 (.bld [(.v (.int .i64 0)), (.v (.bool false)), (.v (.bool false)), (.v (.bool false))] [(0, 1, (zi 1))]), zs 4 8 25])
 .ret)
 .skip))
 (.seq (.draw [zm 26 0, zn 27 26, zf 28 4 27, zl 29 28, zm 30 1, zn 31 30, zf 32 0 31, zl 33 32, zn 34 29, zm 35 29, zo 36 (.inv 35 "Lock" [33, (.c (.l (.v (.int .i64 (-1)))))])] [[], [0], [1], [2], [], [4], [5], [6], [3], [3, 8], [9, 7]])
 (.seq (.reg [zm 37 1, zn 38 37, zf 39 2 38, ⟨none, none, .sto 1 39 (.c (.l (.c 281 [])))⟩])
 (.seq (.reg [zo 40 (.bld [(.v (.int .i64 0)), (.v (.bool false)), (.v (.bool false)), (.v (.bool false))] []), zs 4 8 40])
 .ret)))))
theorem ic278_eq : cF Tryz.prog Tryz.f278 = some ic278 := by kernel_rfl
def ic279 : IC := (.seq (.reg [zo 8 (.alloc [(.v (.int .i64 0)), (.v (.bool false)), (.v (.bool false)), (.v (.bool false))])])
 (.seq (.seq (.draw [zm 9 0, zn 10 9, zf 11 4 10, zl 12 11, zm 13 1, zn 14 13, zf 15 0 14, zl 16 15, zm 17 2, zm 18 3, zn 19 12, zm 20 12, zo 21 (.inv 20 "Step" [16, 17, 18]), zo 22 (.fld 0 21), zo 23 (.cmp .eql .i64 22 (zi 3))] [[], [0], [1], [2], [], [4], [5], [6], [], [], [3], [3, 10], [11, 7, 8, 9], [12], [13]])
 (.cond 23
 (.seq (.reg [zm 24 0, zm 25 1, zc 26 282 [24, 25], zs 4 8 26])
 .ret)
 .skip))
 (.seq (.reg [zo 27 (.bld [(.v (.int .i64 0)), (.v (.bool false)), (.v (.bool false)), (.v (.bool false))] []), zs 4 8 27])
 .ret)))
theorem ic279_eq : cF Tryz.prog Tryz.f279 = some ic279 := by kernel_rfl
def ic280 : IC := (.seq (.reg [zo 8 (.alloc [(.v (.int .i64 0)), (.v (.bool false)), (.v (.bool false)), (.v (.bool false))])])
 (.seq (.draw [zm 9 0, zn 10 9, zf 11 1 10, zl 12 11, zm 13 2, zm 14 0, zn 15 14, zf 16 2 15, zl 17 16, zm 18 1, zn 19 18, zf 20 0 19, zl 21 20, zo 22 (.ar .add .i64 17 21), zm 23 1, zn 24 23, zf 25 3 24, zl 26 25, zo 27 (.ar .add .u32 26 (.c (.l (.v (.int .u32 1))))), zc 28 219 [12, 13, 22, 27]] [[], [0], [1], [2], [], [], [5], [6], [7], [], [9], [10], [11], [8, 12], [], [14], [15], [16], [17], [3, 4, 13, 18]])
 (.seq (.reg [zm 29 0, zm 30 1, zc 31 282 [29, 30], zs 4 8 31])
 .ret)))
theorem ic280_eq : cF Tryz.prog Tryz.f280 = some ic280 := by kernel_rfl
def ic281 : IC := (.seq (.reg [zo 8 (.alloc [(.v (.int .i64 0)), (.v (.bool false)), (.v (.bool false)), (.v (.bool false))])])
 (.seq (.draw [zm 10 0, zn 11 10, zf 12 4 11, zl 13 12, zm 14 1, zn 15 14, zf 16 0 15, zl 17 16, zm 18 2, zm 19 3, zn 20 13, zm 21 13, zo 22 (.inv 21 "Step" [17, 18, 19]), zo 9 (.alloc [(.v (.int .i64 0)), (.v (.bool false)), (.v (.bool false)), (.v (.bool false))]), zs 4 9 22] [[], [0], [1], [2], [], [4], [5], [6], [], [], [3], [3, 10], [11, 7, 8, 9], [], [13, 12, 12, 0, 1, 2, 3, 4, 5, 6, 7, 8, 9, 10, 11, 12, 13]])
 (.jn (.seq (.reg [zf 23 0 9, zl 24 23, zo 25 (.cmp .eql .i64 24 (zi 1))])
 (.cond 25
 (.reg [zm 26 1, zn 27 26, zf 28 2 27, ⟨none, none, .sto 1 28 (.c (.l (.c 283 [])))⟩])
 .skip))
 (.seq (.reg [zf 29 1 9, zl 30 29, zo 31 (.bld [(.v (.int .i64 0)), (.v (.bool false)), (.v (.bool false)), (.v (.bool false))] [(2, 1, 30)]), zs 4 8 31])
 .ret))))
theorem ic281_eq : cF Tryz.prog Tryz.f281 = some ic281 := by kernel_rfl
def ic282 : IC := (.seq (.reg [zo 4 (.alloc [(.v (.int .i64 0)), (.v (.bool false)), (.v (.bool false)), (.v (.bool false))])])
 (.seq (.draw [zm 5 0, zm 6 1, zn 7 6, zf 8 0 7, zl 9 8, zn 10 5, zf 11 5 10, zo 12 (.ixa 1 8 11 9), zl 13 12, zm 14 1, zn 15 14, zf 16 1 15, zl 17 16, zn 18 13, zm 19 13, zo 20 (.inv 19 "Unlock" [17])] [[], [], [1], [2], [3], [0], [5], [6, 4], [7], [], [9], [10], [11], [8], [8, 13], [14, 12]])
 (.seq (.reg [zm 21 1, zn 22 21, zf 23 2 22, ⟨none, none, .sto 1 23 (.c (.l (.c 284 [])))⟩])
 (.seq (.reg [zo 24 (.bld [(.v (.int .i64 0)), (.v (.bool false)), (.v (.bool false)), (.v (.bool false))] []), zs 4 4 24])
 .ret))))
theorem ic282_eq : cF Tryz.prog Tryz.f282 = some ic282 := by kernel_rfl
def ic283 : IC := (.seq (.reg [zo 8 (.alloc [(.v (.int .i64 0)), (.v (.bool false)), (.v (.bool false)), (.v (.bool false))])])
 (.seq (.draw [zm 9 0, zn 10 9, zf 11 1 10, zl 12 11, zm 13 2, zm 14 0, zn 15 14, zf 16 2 15, zl 17 16, zm 18 1, zn 19 18, zf 20 0 19, zl 21 20, zo 22 (.ar .add .i64 17 21), zo 23 (.call 219 [12, 13, 22, (.c (.l (.v (.int .u32 1))))])] [[], [0], [1], [2], [], [], [5], [6], [7], [], [9], [10], [11], [8, 12], [3, 4, 13]])
 (.seq (.reg [zo 24 (.bld [(.v (.int .i64 0)), (.v (.bool false)), (.v (.bool false)), (.v (.bool false))] [(0, 1, (zi 1)), (3, 1, (.c (.l (.v (.bool true)))))]), zs 4 8 24])
 .ret)))
theorem ic283_eq : cF Tryz.prog Tryz.f283 = some ic283 := by kernel_rfl
def ic284 : IC := (.seq (.reg [zo 8 (.alloc [(.v (.int .i64 0)), (.v (.bool false)), (.v (.bool false)), (.v (.bool false))])])
 (.seq (.draw [zm 9 0, zm 10 1, zn 11 10, zf 12 0 11, zl 13 12, zn 14 9, zf 15 5 14, zo 16 (.ixa 1 8 15 13), zl 17 16, zm 18 1, zn 19 18, zf 20 1 19, zl 21 20, zm 22 2, zm 23 3, zn 24 17, zm 25 17, zo 26 (.inv 25 "Step" [21, 22, 23]), zo 27 (.fld 0 26), zo 28 (.bld [(.v (.int .i64 0)), (.v (.bool false)), (.v (.bool false)), (.v (.bool false))] [(0, 1, 27)]), zs 4 8 28] [[], [], [1], [2], [3], [0], [5], [6, 4], [7], [], [9], [10], [11], [], [], [8], [8, 15], [16, 12, 13, 14], [17], [18], [19, 17, 0, 1, 2, 3, 4, 5, 6, 7, 8, 9, 10, 11, 12, 13, 14, 15, 16, 17, 18, 19]])
 .ret))
theorem ic284_eq : cF Tryz.prog Tryz.f284 = some ic284 := by kernel_rfl
end Go.Proofs.YtlkfolopbehikaaGreat
