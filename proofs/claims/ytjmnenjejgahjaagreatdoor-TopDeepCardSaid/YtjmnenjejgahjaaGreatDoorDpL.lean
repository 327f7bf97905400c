/-
  TopDeep: memory ahead of each operation and behind it. Printed by a program (mkdeep.py).
-/
import Derived.Test.YtjmnenjejgahjaaGreatDoorDpA
set_option linter.unusedSimpArgs false
set_option linter.unusedVariables false
namespace Go.Proofs.YtjmnenjejgahjaaGreatDoor
namespace X
open Go.RowKit B
def lI0 : ML :=
  [(1, .ce 59 [.i .u32 (.ofNat 6), .i .u32 (.ofNat 5), .i .u32 (.ofNat 4)] false),
  (2, .ce 88 [.sl 1 0 3 (.q 1), I 0, .i .u32 (.ofNat 0)] true),
  (4, .ce 179 [.p 2 0, .np] true),
  (6, .mp [] 0),
  (7, .ce 233 [.mp 6, I 0] true),
  (8, .ce 53 [I 0, I 0] true),
  (9, .ce 121 [.p 4 0, .p 7 0, .sl 8 0 1 (.k 1)] true),
  (10, .ce 128 [I 100, .ns, .ns] true),
  (11, .ce 69 [.p 9 0, .ns, .ns, .p 10 0] true)]
def lI1 : ML :=
  [(1, .ce 59 [.i .u32 (.ofNat 6), .i .u32 (.ofNat 5), .i .u32 (.ofNat 4)] false),
  (2, .ce 88 [.sl 1 0 3 (.q 1), I 1, .i .u32 (.ofNat 6)] true),
  (4, .ce 179 [.p 2 0, .p 570 0] true),
  (6, .mp [] 0),
  (7, .ce 233 [.mp 6, I 0] true),
  (9, .ce 121 [.p 4 0, .p 7 0, .sl 602 0 1 (.q 2)] true),
  (10, .ce 128 [I 100, .sl 519 0 1 (.q 3), .ns] true),
  (11, .ce 69 [.p 9 0, .sl 494 0 1 (.q 2), .ns, .p 10 0] true),
  (490, .ce 161 [I 1, I 2, I 1, .i .i64 (.negSucc 0), .b true, .b false, I 0, .s [], .b false, .ns, I 0, I 0, .b false, .ns, .ns, .b false, .b false, .ns, I 3, I 3, I 0, .i .i64 (.negSucc 0), .b true, .b false, I 0, .s [], .b false, .ns, I 0, I 0, .b false, .ns, .ns, .b false, .b false, .ns] false),
  (492, .ce 98 [I 0, I 3, .sl 490 0 2 (.q 18)] false),
  (494, .ce 93 [I 1, .sl 492 0 1 (.q 3)] false),
  (519, .ce 48 [.s [], .sl 65 0 1 (.q 2), .ns] false),
  (570, .ce 258 [I 3, I 0, I 3, I 3, .s [.c 40, .c 120, .c 41], I 3, I 0, I 3, I 3, .i .u32 (.ofNat 6), .np, .np] true),
  (602, .ce 53 [I 1, I 2] false)]
def lSa1 : ML :=
  [(1, .ce 59 [.i .u32 (.ofNat 6), .i .u32 (.ofNat 5), .i .u32 (.ofNat 4)] false),
  (2, .ce 88 [.sl 1 0 3 (.q 1), I 1, .i .u32 (.ofNat 6)] true),
  (4, .ce 179 [.p 2 0, .p 570 0] true),
  (6, .mp [] 0),
  (7, .ce 233 [.mp 6, I 0] true),
  (9, .ce 121 [.p 4 0, .p 7 0, .sl 602 0 1 (.q 2)] true),
  (570, .ce 258 [.x .i64 (.mk (.ofNat 0) [(5, (.ofNat 1)), (9, (.ofNat 1)), (13, (.ofNat 1))]), I 0, I 3, I 3, .s [.a 1, .a 2, .a 3], .x .i64 (.mk (.ofNat 0) [(5, (.ofNat 1)), (9, (.ofNat 1)), (13, (.ofNat 1))]), I 0, I 3, I 3, .i .u32 (.ofNat 6), .np, .np] true),
  (602, .ce 53 [I 1, I 2] false),
  (949, .ce 142 [.x .i64 (.mk (.ofNat 0) [(5, (.ofNat 1))]), .x .i64 (.mk (.ofNat 0) [(5, (.ofNat 1)), (9, (.ofNat 1))]), .s [.a 4]] true)]
def lSb1 : ML :=
  [(4, .ce 179 [.p 2 0, .p 981 0] true),
  (6, .mp [] 0),
  (7, .ce 233 [.mp 6, I 0] true),
  (9, .ce 121 [.p 4 0, .p 7 0, .sl 1004 0 1 (.q 2)] true),
  (981, .ce 258 [.x .i64 (.mk (.ofNat 2) [(1, (.ofNat 1))]), .x .i64 (.mk (.ofNat 0) [(30, (.ofNat 1))]), .x .i64 (.mk (.ofNat 0) [(32, (.ofNat 1))]), .x .i64 (.mk (.ofNat 0) [(34, (.ofNat 1))]), .s [.c 40, .a 0, .c 41], .x .i64 (.mk (.ofNat 2) [(1, (.ofNat 1))]), .x .i64 (.mk (.ofNat 0) [(30, (.ofNat 1))]), .x .i64 (.mk (.ofNat 0) [(32, (.ofNat 1))]), .x .i64 (.mk (.ofNat 0) [(34, (.ofNat 1))]), .x .u32 (.mk (.ofNat 0) [(36, (.ofNat 1))]), .np, .np] true)]
def lT1 : ML :=
  [(4, .ce 179 [.p 2 0, .p 981 0] true),
  (6, .mp [] 0),
  (7, .ce 233 [.mp 6, I 0] true),
  (9, .ce 121 [.p 4 0, .p 7 0, .sl 1022 0 1 (.q 2)] true),
  (10, .ce 128 [I 100, .sl 946 0 2 (.q 3), .ns] true),
  (11, .ce 69 [.p 9 0, .sl 940 0 1 (.q 2), .ns, .p 10 0] true),
  (936, .ce 161 [I 1, .x .i64 (.mk (.ofNat 1) [(1, (.ofNat 1))]), I 1, .i .i64 (.negSucc 0), .b true, .b false, I 0, .s [], .b false, .ns, I 0, I 0, .b false, .ns, .ns, .b false, .b false, .ns, .x .i64 (.mk (.ofNat 2) [(1, (.ofNat 1))]), .x .i64 (.mk (.ofNat 2) [(1, (.ofNat 1))]), I 0, .i .i64 (.negSucc 0), .b true, .b false, I 0, .s [], .b false, .ns, I 0, I 0, .b false, .ns, .ns, .b false, .b false, .ns] false),
  (938, .ce 98 [I 0, .x .i64 (.mk (.ofNat 2) [(1, (.ofNat 1))]), .sl 936 0 2 (.q 18)] false),
  (940, .ce 93 [I 1, .sl 938 0 1 (.q 3)] false),
  (946, .ce 48 [.s [], .sl 65 0 1 (.q 2), .ns, .s [.c 40, .c 120, .c 41], .sl 670 0 1 (.q 2), .sl 494 0 1 (.q 2)] false),
  (981, .ce 258 [.x .i64 (.mk (.ofNat 2) [(1, (.ofNat 1))]), .x .i64 (.mk (.ofNat 0) [(30, (.ofNat 1))]), .x .i64 (.mk (.ofNat 0) [(32, (.ofNat 1))]), .x .i64 (.mk (.ofNat 0) [(34, (.ofNat 1))]), .s [.c 40, .a 0, .c 41], .x .i64 (.mk (.ofNat 2) [(1, (.ofNat 1))]), .x .i64 (.mk (.ofNat 0) [(30, (.ofNat 1))]), .x .i64 (.mk (.ofNat 0) [(32, (.ofNat 1))]), .x .i64 (.mk (.ofNat 0) [(34, (.ofNat 1))]), .x .u32 (.mk (.ofNat 0) [(36, (.ofNat 1))]), .np, .np] true),
  (1022, .ce 53 [.x .i64 (.mk (.ofNat 1) [(1, (.ofNat 1))]), .x .i64 (.mk (.ofNat 1) [(1, (.ofNat 1))])] false)]
def lN1_1 : ML :=
  [(4, .ce 179 [.p 2 0, .p 981 0] true),
  (6, .mp [] 0),
  (7, .ce 233 [.mp 6, I 0] true),
  (9, .ce 121 [.p 4 0, .p 7 0, .sl 1367 0 1 (.q 2)] true),
  (10, .ce 128 [I 100, .sl 1356 0 3 (.q 3), .ns] true),
  (11, .ce 69 [.p 9 0, .sl 1331 0 0 (.q 2), .ns, .p 10 0] true),
  (981, .ce 258 [.x .i64 (.mk (.ofNat 2) [(1, (.ofNat 1))]), .x .i64 (.mk (.ofNat 0) [(30, (.ofNat 1))]), .x .i64 (.mk (.ofNat 0) [(32, (.ofNat 1))]), .x .i64 (.mk (.ofNat 0) [(34, (.ofNat 1))]), .s [.c 40, .a 0, .c 41], .x .i64 (.mk (.ofNat 2) [(1, (.ofNat 1))]), .x .i64 (.mk (.ofNat 0) [(30, (.ofNat 1))]), .x .i64 (.mk (.ofNat 0) [(32, (.ofNat 1))]), .x .i64 (.mk (.ofNat 0) [(34, (.ofNat 1))]), .x .u32 (.mk (.ofNat 0) [(36, (.ofNat 1))]), .np, .np] true),
  (1327, .ce 161 [I 1, .x .i64 (.mk (.ofNat 1) [(1, (.ofNat 1))]), I 1, .i .i64 (.negSucc 0), .b true, .b false, I 0, .s [], .b false, .ns, I 0, I 0, .b false, .ns, .ns, .b false, .b false, .ns, .x .i64 (.mk (.ofNat 2) [(1, (.ofNat 1))]), .x .i64 (.mk (.ofNat 2) [(1, (.ofNat 1))]), I 0, .i .i64 (.negSucc 0), .b true, .b false, I 0, .s [], .b false, .ns, I 0, I 0, .b false, .ns, .ns, .b false, .b false, .ns] false),
  (1329, .ce 98 [I 0, .x .i64 (.mk (.ofNat 2) [(1, (.ofNat 1))]), .sl 1327 0 2 (.q 18)] false),
  (1331, .ce 93 [I 0, .sl 1329 0 1 (.q 3)] false),
  (1356, .ce 48 [.s [], .sl 65 0 1 (.q 2), .ns, .s [.c 40, .c 120, .c 41], .sl 670 0 1 (.q 2), .sl 494 0 1 (.q 2), .s [.c 40, .a 0, .c 41], .sl 1259 0 1 (.q 2), .sl 940 0 1 (.q 2)] false),
  (1367, .ce 53 [.x .i64 (.mk (.ofNat 2) [(1, (.ofNat 1))]), .x .i64 (.mk (.ofNat 2) [(1, (.ofNat 1))])] false)]
def lI2 : ML :=
  [(1, .ce 59 [.i .u32 (.ofNat 6), .i .u32 (.ofNat 5), .i .u32 (.ofNat 4)] false),
  (2, .ce 88 [.sl 1 0 3 (.q 1), I 3, .i .u32 (.ofNat 4)] true),
  (4, .ce 179 [.p 2 0, .p 1601 0] true),
  (6, .mp [] 0),
  (7, .ce 233 [.mp 6, I 0] true),
  (9, .ce 121 [.p 4 0, .p 7 0, .sl 1633 0 1 (.q 2)] true),
  (10, .ce 128 [I 100, .sl 1522 0 2 (.q 3), .ns] true),
  (11, .ce 69 [.p 9 0, .sl 1497 0 2 (.q 2), .ns, .p 10 0] true),
  (1471, .ce 161 [I 1, I 4, I 1, .i .i64 (.negSucc 0), .b true, .b false, I 0, .s [], .b false, .ns, I 0, I 0, .b false, .ns, .ns, .b false, .b false, .ns, I 5, I 5, I 0, .i .i64 (.negSucc 0), .b true, .b false, I 0, .s [], .b false, .ns, I 0, I 0, .b false, .ns, .ns, .b false, .b false, .ns] false),
  (1473, .ce 98 [I 0, I 5, .sl 1471 0 2 (.q 18)] false),
  (1493, .ce 161 [I 2, I 3, I 1, .i .i64 (.negSucc 0), .b true, .b false, I 0, .s [], .b false, .ns, I 0, I 0, .b false, .ns, .ns, .b false, .b false, .ns, I 4, I 4, I 0, .i .i64 (.negSucc 0), .b true, .b false, I 0, .s [], .b false, .ns, I 0, I 0, .b false, .ns, .ns, .b false, .b false, .ns] false),
  (1495, .ce 98 [I 1, I 4, .sl 1493 0 2 (.q 18)] false),
  (1497, .ce 93 [I 1, .sl 1473 0 1 (.q 3), I 1, .sl 1495 0 1 (.q 3)] false),
  (1522, .ce 48 [.s [], .sl 65 0 1 (.q 2), .ns, .s [.c 40, .c 120, .c 41], .sl 719 0 1 (.q 2), .sl 494 0 1 (.q 2)] false),
  (1601, .ce 258 [I 5, I 0, I 5, I 5, .s [.c 40, .c 40, .c 120, .c 41, .c 41], I 5, I 0, I 5, I 5, .i .u32 (.ofNat 4), .np, .np] true),
  (1633, .ce 53 [I 2, I 3] false)]
def lSa2 : ML :=
  [(1, .ce 59 [.i .u32 (.ofNat 6), .i .u32 (.ofNat 5), .i .u32 (.ofNat 4)] false),
  (2, .ce 88 [.sl 1 0 3 (.q 1), I 3, .i .u32 (.ofNat 4)] true),
  (4, .ce 179 [.p 2 0, .p 1601 0] true),
  (6, .mp [] 0),
  (7, .ce 233 [.mp 6, I 0] true),
  (9, .ce 121 [.p 4 0, .p 7 0, .sl 1633 0 1 (.q 2)] true),
  (1601, .ce 258 [.x .i64 (.mk (.ofNat 0) [(5, (.ofNat 1)), (9, (.ofNat 1)), (13, (.ofNat 1))]), I 0, I 5, I 5, .s [.a 1, .a 2, .a 3], .x .i64 (.mk (.ofNat 0) [(5, (.ofNat 1)), (9, (.ofNat 1)), (13, (.ofNat 1))]), I 0, I 5, I 5, .i .u32 (.ofNat 4), .np, .np] true),
  (1633, .ce 53 [I 2, I 3] false),
  (2234, .ce 142 [.x .i64 (.mk (.ofNat 0) [(5, (.ofNat 1))]), .x .i64 (.mk (.ofNat 0) [(5, (.ofNat 1)), (9, (.ofNat 1))]), .s [.a 4]] true)]
def lSb2 : ML :=
  [(4, .ce 179 [.p 2 0, .p 2266 0] true),
  (6, .mp [] 0),
  (7, .ce 233 [.mp 6, I 0] true),
  (9, .ce 121 [.p 4 0, .p 7 0, .sl 2289 0 1 (.q 2)] true),
  (2266, .ce 258 [.x .i64 (.mk (.ofNat 4) [(1, (.ofNat 1))]), .x .i64 (.mk (.ofNat 0) [(30, (.ofNat 1))]), .x .i64 (.mk (.ofNat 0) [(32, (.ofNat 1))]), .x .i64 (.mk (.ofNat 0) [(34, (.ofNat 1))]), .s [.c 40, .c 40, .a 0, .c 41, .c 41], .x .i64 (.mk (.ofNat 4) [(1, (.ofNat 1))]), .x .i64 (.mk (.ofNat 0) [(30, (.ofNat 1))]), .x .i64 (.mk (.ofNat 0) [(32, (.ofNat 1))]), .x .i64 (.mk (.ofNat 0) [(34, (.ofNat 1))]), .x .u32 (.mk (.ofNat 0) [(36, (.ofNat 1))]), .np, .np] true)]
def lT2 : ML :=
  [(4, .ce 179 [.p 2 0, .p 2266 0] true),
  (6, .mp [] 0),
  (7, .ce 233 [.mp 6, I 0] true),
  (9, .ce 121 [.p 4 0, .p 7 0, .sl 2307 0 1 (.q 2)] true),
  (10, .ce 128 [I 100, .sl 2231 0 3 (.q 3), .ns] true),
  (11, .ce 69 [.p 9 0, .sl 2225 0 2 (.q 2), .ns, .p 10 0] true),
  (2199, .ce 161 [I 1, .x .i64 (.mk (.ofNat 3) [(1, (.ofNat 1))]), I 1, .i .i64 (.negSucc 0), .b true, .b false, I 0, .s [], .b false, .ns, I 0, I 0, .b false, .ns, .ns, .b false, .b false, .ns, .x .i64 (.mk (.ofNat 4) [(1, (.ofNat 1))]), .x .i64 (.mk (.ofNat 4) [(1, (.ofNat 1))]), I 0, .i .i64 (.negSucc 0), .b true, .b false, I 0, .s [], .b false, .ns, I 0, I 0, .b false, .ns, .ns, .b false, .b false, .ns] false),
  (2201, .ce 98 [I 0, .x .i64 (.mk (.ofNat 4) [(1, (.ofNat 1))]), .sl 2199 0 2 (.q 18)] false),
  (2221, .ce 161 [I 2, .x .i64 (.mk (.ofNat 2) [(1, (.ofNat 1))]), I 1, .i .i64 (.negSucc 0), .b true, .b false, I 0, .s [], .b false, .ns, I 0, I 0, .b false, .ns, .ns, .b false, .b false, .ns, .x .i64 (.mk (.ofNat 3) [(1, (.ofNat 1))]), .x .i64 (.mk (.ofNat 3) [(1, (.ofNat 1))]), I 0, .i .i64 (.negSucc 0), .b true, .b false, I 0, .s [], .b false, .ns, I 0, I 0, .b false, .ns, .ns, .b false, .b false, .ns] false),
  (2223, .ce 98 [I 1, .x .i64 (.mk (.ofNat 3) [(1, (.ofNat 1))]), .sl 2221 0 2 (.q 18)] false),
  (2225, .ce 93 [I 1, .sl 2201 0 1 (.q 3), I 1, .sl 2223 0 1 (.q 3)] false),
  (2231, .ce 48 [.s [], .sl 65 0 1 (.q 2), .ns, .s [.c 40, .c 120, .c 41], .sl 719 0 1 (.q 2), .sl 494 0 1 (.q 2), .s [.c 40, .c 40, .c 120, .c 41, .c 41], .sl 1745 0 1 (.q 2), .sl 1497 0 2 (.q 2)] false),
  (2266, .ce 258 [.x .i64 (.mk (.ofNat 4) [(1, (.ofNat 1))]), .x .i64 (.mk (.ofNat 0) [(30, (.ofNat 1))]), .x .i64 (.mk (.ofNat 0) [(32, (.ofNat 1))]), .x .i64 (.mk (.ofNat 0) [(34, (.ofNat 1))]), .s [.c 40, .c 40, .a 0, .c 41, .c 41], .x .i64 (.mk (.ofNat 4) [(1, (.ofNat 1))]), .x .i64 (.mk (.ofNat 0) [(30, (.ofNat 1))]), .x .i64 (.mk (.ofNat 0) [(32, (.ofNat 1))]), .x .i64 (.mk (.ofNat 0) [(34, (.ofNat 1))]), .x .u32 (.mk (.ofNat 0) [(36, (.ofNat 1))]), .np, .np] true),
  (2307, .ce 53 [.x .i64 (.mk (.ofNat 2) [(1, (.ofNat 1))]), .x .i64 (.mk (.ofNat 2) [(1, (.ofNat 1))])] false)]
def lN2_1 : ML :=
  [(4, .ce 179 [.p 2 0, .p 2266 0] true),
  (6, .mp [] 0),
  (7, .ce 233 [.mp 6, I 0] true),
  (9, .ce 121 [.p 4 0, .p 7 0, .sl 2721 0 1 (.q 2)] true),
  (10, .ce 128 [I 100, .sl 2710 0 4 (.q 3), .ns] true),
  (11, .ce 69 [.p 9 0, .sl 2685 0 1 (.q 2), .ns, .p 10 0] true),
  (2266, .ce 258 [.x .i64 (.mk (.ofNat 4) [(1, (.ofNat 1))]), .x .i64 (.mk (.ofNat 0) [(30, (.ofNat 1))]), .x .i64 (.mk (.ofNat 0) [(32, (.ofNat 1))]), .x .i64 (.mk (.ofNat 0) [(34, (.ofNat 1))]), .s [.c 40, .c 40, .a 0, .c 41, .c 41], .x .i64 (.mk (.ofNat 4) [(1, (.ofNat 1))]), .x .i64 (.mk (.ofNat 0) [(30, (.ofNat 1))]), .x .i64 (.mk (.ofNat 0) [(32, (.ofNat 1))]), .x .i64 (.mk (.ofNat 0) [(34, (.ofNat 1))]), .x .u32 (.mk (.ofNat 0) [(36, (.ofNat 1))]), .np, .np] true),
  (2659, .ce 161 [I 1, .x .i64 (.mk (.ofNat 3) [(1, (.ofNat 1))]), I 1, .i .i64 (.negSucc 0), .b true, .b false, I 0, .s [], .b false, .ns, I 0, I 0, .b false, .ns, .ns, .b false, .b false, .ns, .x .i64 (.mk (.ofNat 4) [(1, (.ofNat 1))]), .x .i64 (.mk (.ofNat 4) [(1, (.ofNat 1))]), I 0, .i .i64 (.negSucc 0), .b true, .b false, I 0, .s [], .b false, .ns, I 0, I 0, .b false, .ns, .ns, .b false, .b false, .ns] false),
  (2661, .ce 98 [I 0, .x .i64 (.mk (.ofNat 4) [(1, (.ofNat 1))]), .sl 2659 0 2 (.q 18)] false),
  (2681, .ce 161 [I 2, .x .i64 (.mk (.ofNat 2) [(1, (.ofNat 1))]), I 1, .i .i64 (.negSucc 0), .b true, .b false, I 0, .s [], .b false, .ns, I 0, I 0, .b false, .ns, .ns, .b false, .b false, .ns, .x .i64 (.mk (.ofNat 3) [(1, (.ofNat 1))]), .x .i64 (.mk (.ofNat 3) [(1, (.ofNat 1))]), I 0, .i .i64 (.negSucc 0), .b true, .b false, I 0, .s [], .b false, .ns, I 0, I 0, .b false, .ns, .ns, .b false, .b false, .ns] false),
  (2683, .ce 98 [I 1, .x .i64 (.mk (.ofNat 3) [(1, (.ofNat 1))]), .sl 2681 0 2 (.q 18)] false),
  (2685, .ce 93 [I 1, .sl 2661 0 1 (.q 3), I 0, .sl 2683 0 1 (.q 3)] false),
  (2710, .ce 48 [.s [], .sl 65 0 1 (.q 2), .ns, .s [.c 40, .c 120, .c 41], .sl 719 0 1 (.q 2), .sl 494 0 1 (.q 2), .s [.c 40, .c 40, .c 120, .c 41, .c 41], .sl 1745 0 1 (.q 2), .sl 1497 0 2 (.q 2), .s [.c 40, .c 40, .a 0, .c 41, .c 41], .sl 2566 0 1 (.q 2), .sl 2225 0 2 (.q 2)] false),
  (2721, .ce 53 [.x .i64 (.mk (.ofNat 3) [(1, (.ofNat 1))]), .x .i64 (.mk (.ofNat 3) [(1, (.ofNat 1))])] false)]
def lN2_2 : ML :=
  [(4, .ce 179 [.p 2 0, .p 2266 0] true),
  (6, .mp [] 0),
  (7, .ce 233 [.mp 6, I 0] true),
  (9, .ce 121 [.p 4 0, .p 7 0, .sl 2867 0 1 (.q 2)] true),
  (10, .ce 128 [I 100, .sl 2856 0 5 (.q 3), .ns] true),
  (11, .ce 69 [.p 9 0, .sl 2831 0 0 (.q 2), .ns, .p 10 0] true),
  (2266, .ce 258 [.x .i64 (.mk (.ofNat 4) [(1, (.ofNat 1))]), .x .i64 (.mk (.ofNat 0) [(30, (.ofNat 1))]), .x .i64 (.mk (.ofNat 0) [(32, (.ofNat 1))]), .x .i64 (.mk (.ofNat 0) [(34, (.ofNat 1))]), .s [.c 40, .c 40, .a 0, .c 41, .c 41], .x .i64 (.mk (.ofNat 4) [(1, (.ofNat 1))]), .x .i64 (.mk (.ofNat 0) [(30, (.ofNat 1))]), .x .i64 (.mk (.ofNat 0) [(32, (.ofNat 1))]), .x .i64 (.mk (.ofNat 0) [(34, (.ofNat 1))]), .x .u32 (.mk (.ofNat 0) [(36, (.ofNat 1))]), .np, .np] true),
  (2827, .ce 161 [I 1, .x .i64 (.mk (.ofNat 3) [(1, (.ofNat 1))]), I 1, .i .i64 (.negSucc 0), .b true, .b false, I 0, .s [], .b false, .ns, I 0, I 0, .b false, .ns, .ns, .b false, .b false, .ns, .x .i64 (.mk (.ofNat 4) [(1, (.ofNat 1))]), .x .i64 (.mk (.ofNat 4) [(1, (.ofNat 1))]), I 0, .i .i64 (.negSucc 0), .b true, .b false, I 0, .s [], .b false, .ns, I 0, I 0, .b false, .ns, .ns, .b false, .b false, .ns] false),
  (2829, .ce 98 [I 0, .x .i64 (.mk (.ofNat 4) [(1, (.ofNat 1))]), .sl 2827 0 2 (.q 18)] false),
  (2831, .ce 93 [I 0, .sl 2829 0 1 (.q 3)] false),
  (2856, .ce 48 [.s [], .sl 65 0 1 (.q 2), .ns, .s [.c 40, .c 120, .c 41], .sl 719 0 1 (.q 2), .sl 494 0 1 (.q 2), .s [.c 40, .c 40, .c 120, .c 41, .c 41], .sl 1745 0 1 (.q 2), .sl 1497 0 2 (.q 2), .s [.c 40, .c 40, .a 0, .c 41, .c 41], .sl 2566 0 1 (.q 2), .sl 2225 0 2 (.q 2), .s [.c 40, .c 40, .a 0, .c 41, .c 41], .sl 2759 0 1 (.q 2), .sl 2685 0 1 (.q 2)] false),
  (2867, .ce 53 [.x .i64 (.mk (.ofNat 4) [(1, (.ofNat 1))]), .x .i64 (.mk (.ofNat 4) [(1, (.ofNat 1))])] false)]
def lI3 : ML :=
  [(1, .ce 59 [.i .u32 (.ofNat 6), .i .u32 (.ofNat 5), .i .u32 (.ofNat 4)] false),
  (2, .ce 88 [.sl 1 0 3 (.q 1), I 3, .i .u32 (.ofNat 2754714582)] true),
  (4, .ce 179 [.p 2 0, .p 2966 0] true),
  (6, .mp [] 0),
  (7, .ce 233 [.mp 6, I 0] true),
  (9, .ce 121 [.p 4 0, .p 7 0, .sl 2998 0 1 (.q 2)] true),
  (10, .ce 128 [I 100, .sl 2867 0 3 (.q 3), .ns] true),
  (11, .ce 69 [.p 9 0, .sl 2842 0 3 (.q 2), .ns, .p 10 0] true),
  (2794, .ce 161 [I 1, I 6, I 1, .i .i64 (.negSucc 0), .b true, .b false, I 0, .s [], .b false, .ns, I 0, I 0, .b false, .ns, .ns, .b false, .b false, .ns, I 7, I 7, I 0, .i .i64 (.negSucc 0), .b true, .b false, I 0, .s [], .b false, .ns, I 0, I 0, .b false, .ns, .ns, .b false, .b false, .ns] false),
  (2796, .ce 98 [I 0, I 7, .sl 2794 0 2 (.q 18)] false),
  (2816, .ce 161 [I 2, I 5, I 1, .i .i64 (.negSucc 0), .b true, .b false, I 0, .s [], .b false, .ns, I 0, I 0, .b false, .ns, .ns, .b false, .b false, .ns, I 6, I 6, I 0, .i .i64 (.negSucc 0), .b true, .b false, I 0, .s [], .b false, .ns, I 0, I 0, .b false, .ns, .ns, .b false, .b false, .ns] false),
  (2818, .ce 98 [I 1, I 6, .sl 2816 0 2 (.q 18)] false),
  (2838, .ce 161 [I 3, I 4, I 1, .i .i64 (.negSucc 0), .b true, .b false, I 0, .s [], .b false, .ns, I 0, I 0, .b false, .ns, .ns, .b false, .b false, .ns, I 5, I 5, I 0, .i .i64 (.negSucc 0), .b true, .b false, I 0, .s [], .b false, .ns, I 0, I 0, .b false, .ns, .ns, .b false, .b false, .ns] false),
  (2840, .ce 98 [I 2, I 5, .sl 2838 0 2 (.q 18)] false),
  (2842, .ce 93 [I 1, .sl 2796 0 1 (.q 3), I 1, .sl 2818 0 1 (.q 3), I 1, .sl 2840 0 1 (.q 3)] false),
  (2867, .ce 48 [.s [], .sl 65 0 1 (.q 2), .ns, .s [.c 40, .c 120, .c 41], .sl 719 0 1 (.q 2), .sl 494 0 1 (.q 2), .s [.c 40, .c 40, .c 120, .c 41, .c 41], .sl 1794 0 1 (.q 2), .sl 1497 0 2 (.q 2)] false),
  (2966, .ce 258 [I 7, I 0, I 7, I 7, .s [.c 40, .c 40, .c 40, .c 120, .c 41, .c 41, .c 41], I 7, I 0, I 7, I 7, .i .u32 (.ofNat 2754714582), .np, .np] true),
  (2998, .ce 53 [I 3, I 4] false)]
def lSa3 : ML :=
  [(1, .ce 59 [.i .u32 (.ofNat 6), .i .u32 (.ofNat 5), .i .u32 (.ofNat 4)] false),
  (2, .ce 88 [.sl 1 0 3 (.q 1), I 3, .i .u32 (.ofNat 2754714582)] true),
  (4, .ce 179 [.p 2 0, .p 2966 0] true),
  (6, .mp [] 0),
  (7, .ce 233 [.mp 6, I 0] true),
  (9, .ce 121 [.p 4 0, .p 7 0, .sl 2998 0 1 (.q 2)] true),
  (2966, .ce 258 [.x .i64 (.mk (.ofNat 0) [(5, (.ofNat 1)), (9, (.ofNat 1)), (13, (.ofNat 1))]), I 0, I 7, I 7, .s [.a 1, .a 2, .a 3], .x .i64 (.mk (.ofNat 0) [(5, (.ofNat 1)), (9, (.ofNat 1)), (13, (.ofNat 1))]), I 0, I 7, I 7, .i .u32 (.ofNat 2754714582), .np, .np] true),
  (2998, .ce 53 [I 3, I 4] false),
  (3853, .ce 142 [.x .i64 (.mk (.ofNat 0) [(5, (.ofNat 1))]), .x .i64 (.mk (.ofNat 0) [(5, (.ofNat 1)), (9, (.ofNat 1))]), .s [.a 4]] true)]
def lSb3 : ML :=
  [(4, .ce 179 [.p 2 0, .p 3885 0] true),
  (6, .mp [] 0),
  (7, .ce 233 [.mp 6, I 0] true),
  (9, .ce 121 [.p 4 0, .p 7 0, .sl 3908 0 1 (.q 2)] true),
  (3885, .ce 258 [.x .i64 (.mk (.ofNat 6) [(1, (.ofNat 1))]), .x .i64 (.mk (.ofNat 0) [(30, (.ofNat 1))]), .x .i64 (.mk (.ofNat 0) [(32, (.ofNat 1))]), .x .i64 (.mk (.ofNat 0) [(34, (.ofNat 1))]), .s [.c 40, .c 40, .c 40, .a 0, .c 41, .c 41, .c 41], .x .i64 (.mk (.ofNat 6) [(1, (.ofNat 1))]), .x .i64 (.mk (.ofNat 0) [(30, (.ofNat 1))]), .x .i64 (.mk (.ofNat 0) [(32, (.ofNat 1))]), .x .i64 (.mk (.ofNat 0) [(34, (.ofNat 1))]), .x .u32 (.mk (.ofNat 0) [(36, (.ofNat 1))]), .np, .np] true)]
def lT3 : ML :=
  [(4, .ce 179 [.p 2 0, .p 3885 0] true),
  (6, .mp [] 0),
  (7, .ce 233 [.mp 6, I 0] true),
  (9, .ce 121 [.p 4 0, .p 7 0, .sl 3926 0 1 (.q 2)] true),
  (10, .ce 128 [I 100, .sl 3850 0 4 (.q 3), .ns] true),
  (11, .ce 69 [.p 9 0, .sl 3844 0 3 (.q 2), .ns, .p 10 0] true),
  (3796, .ce 161 [I 1, .x .i64 (.mk (.ofNat 5) [(1, (.ofNat 1))]), I 1, .i .i64 (.negSucc 0), .b true, .b false, I 0, .s [], .b false, .ns, I 0, I 0, .b false, .ns, .ns, .b false, .b false, .ns, .x .i64 (.mk (.ofNat 6) [(1, (.ofNat 1))]), .x .i64 (.mk (.ofNat 6) [(1, (.ofNat 1))]), I 0, .i .i64 (.negSucc 0), .b true, .b false, I 0, .s [], .b false, .ns, I 0, I 0, .b false, .ns, .ns, .b false, .b false, .ns] false),
  (3798, .ce 98 [I 0, .x .i64 (.mk (.ofNat 6) [(1, (.ofNat 1))]), .sl 3796 0 2 (.q 18)] false),
  (3818, .ce 161 [I 2, .x .i64 (.mk (.ofNat 4) [(1, (.ofNat 1))]), I 1, .i .i64 (.negSucc 0), .b true, .b false, I 0, .s [], .b false, .ns, I 0, I 0, .b false, .ns, .ns, .b false, .b false, .ns, .x .i64 (.mk (.ofNat 5) [(1, (.ofNat 1))]), .x .i64 (.mk (.ofNat 5) [(1, (.ofNat 1))]), I 0, .i .i64 (.negSucc 0), .b true, .b false, I 0, .s [], .b false, .ns, I 0, I 0, .b false, .ns, .ns, .b false, .b false, .ns] false),
  (3820, .ce 98 [I 1, .x .i64 (.mk (.ofNat 5) [(1, (.ofNat 1))]), .sl 3818 0 2 (.q 18)] false),
  (3840, .ce 161 [I 3, .x .i64 (.mk (.ofNat 3) [(1, (.ofNat 1))]), I 1, .i .i64 (.negSucc 0), .b true, .b false, I 0, .s [], .b false, .ns, I 0, I 0, .b false, .ns, .ns, .b false, .b false, .ns, .x .i64 (.mk (.ofNat 4) [(1, (.ofNat 1))]), .x .i64 (.mk (.ofNat 4) [(1, (.ofNat 1))]), I 0, .i .i64 (.negSucc 0), .b true, .b false, I 0, .s [], .b false, .ns, I 0, I 0, .b false, .ns, .ns, .b false, .b false, .ns] false),
  (3842, .ce 98 [I 2, .x .i64 (.mk (.ofNat 4) [(1, (.ofNat 1))]), .sl 3840 0 2 (.q 18)] false),
  (3844, .ce 93 [I 1, .sl 3798 0 1 (.q 3), I 1, .sl 3820 0 1 (.q 3), I 1, .sl 3842 0 1 (.q 3)] false),
  (3850, .ce 48 [.s [], .sl 65 0 1 (.q 2), .ns, .s [.c 40, .c 120, .c 41], .sl 719 0 1 (.q 2), .sl 494 0 1 (.q 2), .s [.c 40, .c 40, .c 120, .c 41, .c 41], .sl 1794 0 1 (.q 2), .sl 1497 0 2 (.q 2), .s [.c 40, .c 40, .c 40, .c 120, .c 41, .c 41, .c 41], .sl 3154 0 1 (.q 2), .sl 2842 0 3 (.q 2)] false),
  (3885, .ce 258 [.x .i64 (.mk (.ofNat 6) [(1, (.ofNat 1))]), .x .i64 (.mk (.ofNat 0) [(30, (.ofNat 1))]), .x .i64 (.mk (.ofNat 0) [(32, (.ofNat 1))]), .x .i64 (.mk (.ofNat 0) [(34, (.ofNat 1))]), .s [.c 40, .c 40, .c 40, .a 0, .c 41, .c 41, .c 41], .x .i64 (.mk (.ofNat 6) [(1, (.ofNat 1))]), .x .i64 (.mk (.ofNat 0) [(30, (.ofNat 1))]), .x .i64 (.mk (.ofNat 0) [(32, (.ofNat 1))]), .x .i64 (.mk (.ofNat 0) [(34, (.ofNat 1))]), .x .u32 (.mk (.ofNat 0) [(36, (.ofNat 1))]), .np, .np] true),
  (3926, .ce 53 [.x .i64 (.mk (.ofNat 3) [(1, (.ofNat 1))]), .x .i64 (.mk (.ofNat 3) [(1, (.ofNat 1))])] false)]
def lN3_1 : ML :=
  [(4, .ce 179 [.p 2 0, .p 3885 0] true),
  (6, .mp [] 0),
  (7, .ce 233 [.mp 6, I 0] true),
  (9, .ce 121 [.p 4 0, .p 7 0, .sl 4409 0 1 (.q 2)] true),
  (10, .ce 128 [I 100, .sl 4398 0 5 (.q 3), .ns] true),
  (11, .ce 69 [.p 9 0, .sl 4373 0 2 (.q 2), .ns, .p 10 0] true),
  (3885, .ce 258 [.x .i64 (.mk (.ofNat 6) [(1, (.ofNat 1))]), .x .i64 (.mk (.ofNat 0) [(30, (.ofNat 1))]), .x .i64 (.mk (.ofNat 0) [(32, (.ofNat 1))]), .x .i64 (.mk (.ofNat 0) [(34, (.ofNat 1))]), .s [.c 40, .c 40, .c 40, .a 0, .c 41, .c 41, .c 41], .x .i64 (.mk (.ofNat 6) [(1, (.ofNat 1))]), .x .i64 (.mk (.ofNat 0) [(30, (.ofNat 1))]), .x .i64 (.mk (.ofNat 0) [(32, (.ofNat 1))]), .x .i64 (.mk (.ofNat 0) [(34, (.ofNat 1))]), .x .u32 (.mk (.ofNat 0) [(36, (.ofNat 1))]), .np, .np] true),
  (4325, .ce 161 [I 1, .x .i64 (.mk (.ofNat 5) [(1, (.ofNat 1))]), I 1, .i .i64 (.negSucc 0), .b true, .b false, I 0, .s [], .b false, .ns, I 0, I 0, .b false, .ns, .ns, .b false, .b false, .ns, .x .i64 (.mk (.ofNat 6) [(1, (.ofNat 1))]), .x .i64 (.mk (.ofNat 6) [(1, (.ofNat 1))]), I 0, .i .i64 (.negSucc 0), .b true, .b false, I 0, .s [], .b false, .ns, I 0, I 0, .b false, .ns, .ns, .b false, .b false, .ns] false),
  (4327, .ce 98 [I 0, .x .i64 (.mk (.ofNat 6) [(1, (.ofNat 1))]), .sl 4325 0 2 (.q 18)] false),
  (4347, .ce 161 [I 2, .x .i64 (.mk (.ofNat 4) [(1, (.ofNat 1))]), I 1, .i .i64 (.negSucc 0), .b true, .b false, I 0, .s [], .b false, .ns, I 0, I 0, .b false, .ns, .ns, .b false, .b false, .ns, .x .i64 (.mk (.ofNat 5) [(1, (.ofNat 1))]), .x .i64 (.mk (.ofNat 5) [(1, (.ofNat 1))]), I 0, .i .i64 (.negSucc 0), .b true, .b false, I 0, .s [], .b false, .ns, I 0, I 0, .b false, .ns, .ns, .b false, .b false, .ns] false),
  (4349, .ce 98 [I 1, .x .i64 (.mk (.ofNat 5) [(1, (.ofNat 1))]), .sl 4347 0 2 (.q 18)] false),
  (4369, .ce 161 [I 3, .x .i64 (.mk (.ofNat 3) [(1, (.ofNat 1))]), I 1, .i .i64 (.negSucc 0), .b true, .b false, I 0, .s [], .b false, .ns, I 0, I 0, .b false, .ns, .ns, .b false, .b false, .ns, .x .i64 (.mk (.ofNat 4) [(1, (.ofNat 1))]), .x .i64 (.mk (.ofNat 4) [(1, (.ofNat 1))]), I 0, .i .i64 (.negSucc 0), .b true, .b false, I 0, .s [], .b false, .ns, I 0, I 0, .b false, .ns, .ns, .b false, .b false, .ns] false),
  (4371, .ce 98 [I 2, .x .i64 (.mk (.ofNat 4) [(1, (.ofNat 1))]), .sl 4369 0 2 (.q 18)] false),
  (4373, .ce 93 [I 1, .sl 4327 0 1 (.q 3), I 1, .sl 4349 0 1 (.q 3), I 0, .sl 4371 0 1 (.q 3)] false),
  (4398, .ce 48 [.s [], .sl 65 0 1 (.q 2), .ns, .s [.c 40, .c 120, .c 41], .sl 719 0 1 (.q 2), .sl 494 0 1 (.q 2), .s [.c 40, .c 40, .c 120, .c 41, .c 41], .sl 1794 0 1 (.q 2), .sl 1497 0 2 (.q 2), .s [.c 40, .c 40, .c 40, .c 120, .c 41, .c 41, .c 41], .sl 3154 0 1 (.q 2), .sl 2842 0 3 (.q 2), .s [.c 40, .c 40, .c 40, .a 0, .c 41, .c 41, .c 41], .sl 4207 0 1 (.q 2), .sl 3844 0 3 (.q 2)] false),
  (4409, .ce 53 [.x .i64 (.mk (.ofNat 4) [(1, (.ofNat 1))]), .x .i64 (.mk (.ofNat 4) [(1, (.ofNat 1))])] false)]
def lN3_2 : ML :=
  [(4, .ce 179 [.p 2 0, .p 3885 0] true),
  (6, .mp [] 0),
  (7, .ce 233 [.mp 6, I 0] true),
  (9, .ce 121 [.p 4 0, .p 7 0, .sl 4624 0 1 (.q 2)] true),
  (10, .ce 128 [I 100, .sl 4613 0 6 (.q 3), .ns] true),
  (11, .ce 69 [.p 9 0, .sl 4588 0 1 (.q 2), .ns, .p 10 0] true),
  (3885, .ce 258 [.x .i64 (.mk (.ofNat 6) [(1, (.ofNat 1))]), .x .i64 (.mk (.ofNat 0) [(30, (.ofNat 1))]), .x .i64 (.mk (.ofNat 0) [(32, (.ofNat 1))]), .x .i64 (.mk (.ofNat 0) [(34, (.ofNat 1))]), .s [.c 40, .c 40, .c 40, .a 0, .c 41, .c 41, .c 41], .x .i64 (.mk (.ofNat 6) [(1, (.ofNat 1))]), .x .i64 (.mk (.ofNat 0) [(30, (.ofNat 1))]), .x .i64 (.mk (.ofNat 0) [(32, (.ofNat 1))]), .x .i64 (.mk (.ofNat 0) [(34, (.ofNat 1))]), .x .u32 (.mk (.ofNat 0) [(36, (.ofNat 1))]), .np, .np] true),
  (4562, .ce 161 [I 1, .x .i64 (.mk (.ofNat 5) [(1, (.ofNat 1))]), I 1, .i .i64 (.negSucc 0), .b true, .b false, I 0, .s [], .b false, .ns, I 0, I 0, .b false, .ns, .ns, .b false, .b false, .ns, .x .i64 (.mk (.ofNat 6) [(1, (.ofNat 1))]), .x .i64 (.mk (.ofNat 6) [(1, (.ofNat 1))]), I 0, .i .i64 (.negSucc 0), .b true, .b false, I 0, .s [], .b false, .ns, I 0, I 0, .b false, .ns, .ns, .b false, .b false, .ns] false),
  (4564, .ce 98 [I 0, .x .i64 (.mk (.ofNat 6) [(1, (.ofNat 1))]), .sl 4562 0 2 (.q 18)] false),
  (4584, .ce 161 [I 2, .x .i64 (.mk (.ofNat 4) [(1, (.ofNat 1))]), I 1, .i .i64 (.negSucc 0), .b true, .b false, I 0, .s [], .b false, .ns, I 0, I 0, .b false, .ns, .ns, .b false, .b false, .ns, .x .i64 (.mk (.ofNat 5) [(1, (.ofNat 1))]), .x .i64 (.mk (.ofNat 5) [(1, (.ofNat 1))]), I 0, .i .i64 (.negSucc 0), .b true, .b false, I 0, .s [], .b false, .ns, I 0, I 0, .b false, .ns, .ns, .b false, .b false, .ns] false),
  (4586, .ce 98 [I 1, .x .i64 (.mk (.ofNat 5) [(1, (.ofNat 1))]), .sl 4584 0 2 (.q 18)] false),
  (4588, .ce 93 [I 1, .sl 4564 0 1 (.q 3), I 0, .sl 4586 0 1 (.q 3)] false),
  (4613, .ce 48 [.s [], .sl 65 0 1 (.q 2), .ns, .s [.c 40, .c 120, .c 41], .sl 719 0 1 (.q 2), .sl 494 0 1 (.q 2), .s [.c 40, .c 40, .c 120, .c 41, .c 41], .sl 1794 0 1 (.q 2), .sl 1497 0 2 (.q 2), .s [.c 40, .c 40, .c 40, .c 120, .c 41, .c 41, .c 41], .sl 3154 0 1 (.q 2), .sl 2842 0 3 (.q 2), .s [.c 40, .c 40, .c 40, .a 0, .c 41, .c 41, .c 41], .sl 4207 0 1 (.q 2), .sl 3844 0 3 (.q 2), .s [.c 40, .c 40, .c 40, .a 0, .c 41, .c 41, .c 41], .sl 4469 0 1 (.q 2), .sl 4373 0 2 (.q 2)] false),
  (4624, .ce 53 [.x .i64 (.mk (.ofNat 5) [(1, (.ofNat 1))]), .x .i64 (.mk (.ofNat 5) [(1, (.ofNat 1))])] false)]
def lN3_3 : ML :=
  [(4, .ce 179 [.p 2 0, .p 3885 0] true),
  (6, .mp [] 0),
  (7, .ce 233 [.mp 6, I 0] true),
  (9, .ce 121 [.p 4 0, .p 7 0, .sl 4770 0 1 (.q 2)] true),
  (10, .ce 128 [I 100, .sl 4759 0 7 (.q 3), .ns] true),
  (11, .ce 69 [.p 9 0, .sl 4734 0 0 (.q 2), .ns, .p 10 0] true),
  (3885, .ce 258 [.x .i64 (.mk (.ofNat 6) [(1, (.ofNat 1))]), .x .i64 (.mk (.ofNat 0) [(30, (.ofNat 1))]), .x .i64 (.mk (.ofNat 0) [(32, (.ofNat 1))]), .x .i64 (.mk (.ofNat 0) [(34, (.ofNat 1))]), .s [.c 40, .c 40, .c 40, .a 0, .c 41, .c 41, .c 41], .x .i64 (.mk (.ofNat 6) [(1, (.ofNat 1))]), .x .i64 (.mk (.ofNat 0) [(30, (.ofNat 1))]), .x .i64 (.mk (.ofNat 0) [(32, (.ofNat 1))]), .x .i64 (.mk (.ofNat 0) [(34, (.ofNat 1))]), .x .u32 (.mk (.ofNat 0) [(36, (.ofNat 1))]), .np, .np] true),
  (4730, .ce 161 [I 1, .x .i64 (.mk (.ofNat 5) [(1, (.ofNat 1))]), I 1, .i .i64 (.negSucc 0), .b true, .b false, I 0, .s [], .b false, .ns, I 0, I 0, .b false, .ns, .ns, .b false, .b false, .ns, .x .i64 (.mk (.ofNat 6) [(1, (.ofNat 1))]), .x .i64 (.mk (.ofNat 6) [(1, (.ofNat 1))]), I 0, .i .i64 (.negSucc 0), .b true, .b false, I 0, .s [], .b false, .ns, I 0, I 0, .b false, .ns, .ns, .b false, .b false, .ns] false),
  (4732, .ce 98 [I 0, .x .i64 (.mk (.ofNat 6) [(1, (.ofNat 1))]), .sl 4730 0 2 (.q 18)] false),
  (4734, .ce 93 [I 0, .sl 4732 0 1 (.q 3)] false),
  (4759, .ce 48 [.s [], .sl 65 0 1 (.q 2), .ns, .s [.c 40, .c 120, .c 41], .sl 719 0 1 (.q 2), .sl 494 0 1 (.q 2), .s [.c 40, .c 40, .c 120, .c 41, .c 41], .sl 1794 0 1 (.q 2), .sl 1497 0 2 (.q 2), .s [.c 40, .c 40, .c 40, .c 120, .c 41, .c 41, .c 41], .sl 3154 0 1 (.q 2), .sl 2842 0 3 (.q 2), .s [.c 40, .c 40, .c 40, .a 0, .c 41, .c 41, .c 41], .sl 4207 0 1 (.q 2), .sl 3844 0 3 (.q 2), .s [.c 40, .c 40, .c 40, .a 0, .c 41, .c 41, .c 41], .sl 4469 0 1 (.q 2), .sl 4373 0 2 (.q 2), .s [.c 40, .c 40, .c 40, .a 0, .c 41, .c 41, .c 41], .sl 4662 0 1 (.q 2), .sl 4588 0 1 (.q 2)] false),
  (4770, .ce 53 [.x .i64 (.mk (.ofNat 6) [(1, (.ofNat 1))]), .x .i64 (.mk (.ofNat 6) [(1, (.ofNat 1))])] false)]
def lI4 : ML :=
  [(1, .ce 59 [.i .u32 (.ofNat 6), .i .u32 (.ofNat 5), .i .u32 (.ofNat 4)] false),
  (2, .ce 88 [.sl 1 0 3 (.q 1), I 3, .i .u32 (.ofNat 3504402808)] true),
  (4, .ce 179 [.p 2 0, .p 4665 0] true),
  (6, .mp [] 0),
  (7, .ce 233 [.mp 6, I 0] true),
  (9, .ce 121 [.p 4 0, .p 7 0, .sl 4697 0 1 (.q 2)] true),
  (10, .ce 128 [I 100, .sl 4546 0 4 (.q 3), .ns] true),
  (11, .ce 69 [.p 9 0, .sl 4521 0 4 (.q 2), .ns, .p 10 0] true),
  (4451, .ce 161 [I 1, I 8, I 1, .i .i64 (.negSucc 0), .b true, .b false, I 0, .s [], .b false, .ns, I 0, I 0, .b false, .ns, .ns, .b false, .b false, .ns, I 9, I 9, I 0, .i .i64 (.negSucc 0), .b true, .b false, I 0, .s [], .b false, .ns, I 0, I 0, .b false, .ns, .ns, .b false, .b false, .ns] false),
  (4453, .ce 98 [I 0, I 9, .sl 4451 0 2 (.q 18)] false),
  (4473, .ce 161 [I 2, I 7, I 1, .i .i64 (.negSucc 0), .b true, .b false, I 0, .s [], .b false, .ns, I 0, I 0, .b false, .ns, .ns, .b false, .b false, .ns, I 8, I 8, I 0, .i .i64 (.negSucc 0), .b true, .b false, I 0, .s [], .b false, .ns, I 0, I 0, .b false, .ns, .ns, .b false, .b false, .ns] false),
  (4475, .ce 98 [I 1, I 8, .sl 4473 0 2 (.q 18)] false),
  (4495, .ce 161 [I 3, I 6, I 1, .i .i64 (.negSucc 0), .b true, .b false, I 0, .s [], .b false, .ns, I 0, I 0, .b false, .ns, .ns, .b false, .b false, .ns, I 7, I 7, I 0, .i .i64 (.negSucc 0), .b true, .b false, I 0, .s [], .b false, .ns, I 0, I 0, .b false, .ns, .ns, .b false, .b false, .ns] false),
  (4497, .ce 98 [I 2, I 7, .sl 4495 0 2 (.q 18)] false),
  (4517, .ce 161 [I 4, I 5, I 1, .i .i64 (.negSucc 0), .b true, .b false, I 0, .s [], .b false, .ns, I 0, I 0, .b false, .ns, .ns, .b false, .b false, .ns, I 6, I 6, I 0, .i .i64 (.negSucc 0), .b true, .b false, I 0, .s [], .b false, .ns, I 0, I 0, .b false, .ns, .ns, .b false, .b false, .ns] false),
  (4519, .ce 98 [I 3, I 6, .sl 4517 0 2 (.q 18)] false),
  (4521, .ce 93 [I 1, .sl 4453 0 1 (.q 3), I 1, .sl 4475 0 1 (.q 3), I 1, .sl 4497 0 1 (.q 3), I 1, .sl 4519 0 1 (.q 3)] false),
  (4546, .ce 48 [.s [], .sl 65 0 1 (.q 2), .ns, .s [.c 40, .c 120, .c 41], .sl 719 0 1 (.q 2), .sl 494 0 1 (.q 2), .s [.c 40, .c 40, .c 120, .c 41, .c 41], .sl 1794 0 1 (.q 2), .sl 1497 0 2 (.q 2), .s [.c 40, .c 40, .c 40, .c 120, .c 41, .c 41, .c 41], .sl 3203 0 1 (.q 2), .sl 2842 0 3 (.q 2)] false),
  (4665, .ce 258 [I 9, I 0, I 9, I 9, .s [.c 40, .c 40, .c 40, .c 40, .c 120, .c 41, .c 41, .c 41, .c 41], I 9, I 0, I 9, I 9, .i .u32 (.ofNat 3504402808), .np, .np] true),
  (4697, .ce 53 [I 4, I 5] false)]
def lSa4 : ML :=
  [(1, .ce 59 [.i .u32 (.ofNat 6), .i .u32 (.ofNat 5), .i .u32 (.ofNat 4)] false),
  (2, .ce 88 [.sl 1 0 3 (.q 1), I 3, .i .u32 (.ofNat 3504402808)] true),
  (4, .ce 179 [.p 2 0, .p 4665 0] true),
  (6, .mp [] 0),
  (7, .ce 233 [.mp 6, I 0] true),
  (9, .ce 121 [.p 4 0, .p 7 0, .sl 4697 0 1 (.q 2)] true),
  (4665, .ce 258 [.x .i64 (.mk (.ofNat 0) [(5, (.ofNat 1)), (9, (.ofNat 1)), (13, (.ofNat 1))]), I 0, I 9, I 9, .s [.a 1, .a 2, .a 3], .x .i64 (.mk (.ofNat 0) [(5, (.ofNat 1)), (9, (.ofNat 1)), (13, (.ofNat 1))]), I 0, I 9, I 9, .i .u32 (.ofNat 3504402808), .np, .np] true),
  (4697, .ce 53 [I 4, I 5] false),
  (5806, .ce 142 [.x .i64 (.mk (.ofNat 0) [(5, (.ofNat 1))]), .x .i64 (.mk (.ofNat 0) [(5, (.ofNat 1)), (9, (.ofNat 1))]), .s [.a 4]] true)]
def lSb4 : ML :=
  [(4, .ce 179 [.p 2 0, .p 5838 0] true),
  (6, .mp [] 0),
  (7, .ce 233 [.mp 6, I 0] true),
  (9, .ce 121 [.p 4 0, .p 7 0, .sl 5861 0 1 (.q 2)] true),
  (5838, .ce 258 [.x .i64 (.mk (.ofNat 8) [(1, (.ofNat 1))]), .x .i64 (.mk (.ofNat 0) [(30, (.ofNat 1))]), .x .i64 (.mk (.ofNat 0) [(32, (.ofNat 1))]), .x .i64 (.mk (.ofNat 0) [(34, (.ofNat 1))]), .s [.c 40, .c 40, .c 40, .c 40, .a 0, .c 41, .c 41, .c 41, .c 41], .x .i64 (.mk (.ofNat 8) [(1, (.ofNat 1))]), .x .i64 (.mk (.ofNat 0) [(30, (.ofNat 1))]), .x .i64 (.mk (.ofNat 0) [(32, (.ofNat 1))]), .x .i64 (.mk (.ofNat 0) [(34, (.ofNat 1))]), .x .u32 (.mk (.ofNat 0) [(36, (.ofNat 1))]), .np, .np] true)]
def lT4 : ML :=
  [(4, .ce 179 [.p 2 0, .p 5838 0] true),
  (6, .mp [] 0),
  (7, .ce 233 [.mp 6, I 0] true),
  (9, .ce 121 [.p 4 0, .p 7 0, .sl 5879 0 1 (.q 2)] true),
  (10, .ce 128 [I 100, .sl 5803 0 5 (.q 3), .ns] true),
  (11, .ce 69 [.p 9 0, .sl 5797 0 4 (.q 2), .ns, .p 10 0] true),
  (5727, .ce 161 [I 1, .x .i64 (.mk (.ofNat 7) [(1, (.ofNat 1))]), I 1, .i .i64 (.negSucc 0), .b true, .b false, I 0, .s [], .b false, .ns, I 0, I 0, .b false, .ns, .ns, .b false, .b false, .ns, .x .i64 (.mk (.ofNat 8) [(1, (.ofNat 1))]), .x .i64 (.mk (.ofNat 8) [(1, (.ofNat 1))]), I 0, .i .i64 (.negSucc 0), .b true, .b false, I 0, .s [], .b false, .ns, I 0, I 0, .b false, .ns, .ns, .b false, .b false, .ns] false),
  (5729, .ce 98 [I 0, .x .i64 (.mk (.ofNat 8) [(1, (.ofNat 1))]), .sl 5727 0 2 (.q 18)] false),
  (5749, .ce 161 [I 2, .x .i64 (.mk (.ofNat 6) [(1, (.ofNat 1))]), I 1, .i .i64 (.negSucc 0), .b true, .b false, I 0, .s [], .b false, .ns, I 0, I 0, .b false, .ns, .ns, .b false, .b false, .ns, .x .i64 (.mk (.ofNat 7) [(1, (.ofNat 1))]), .x .i64 (.mk (.ofNat 7) [(1, (.ofNat 1))]), I 0, .i .i64 (.negSucc 0), .b true, .b false, I 0, .s [], .b false, .ns, I 0, I 0, .b false, .ns, .ns, .b false, .b false, .ns] false),
  (5751, .ce 98 [I 1, .x .i64 (.mk (.ofNat 7) [(1, (.ofNat 1))]), .sl 5749 0 2 (.q 18)] false),
  (5771, .ce 161 [I 3, .x .i64 (.mk (.ofNat 5) [(1, (.ofNat 1))]), I 1, .i .i64 (.negSucc 0), .b true, .b false, I 0, .s [], .b false, .ns, I 0, I 0, .b false, .ns, .ns, .b false, .b false, .ns, .x .i64 (.mk (.ofNat 6) [(1, (.ofNat 1))]), .x .i64 (.mk (.ofNat 6) [(1, (.ofNat 1))]), I 0, .i .i64 (.negSucc 0), .b true, .b false, I 0, .s [], .b false, .ns, I 0, I 0, .b false, .ns, .ns, .b false, .b false, .ns] false),
  (5773, .ce 98 [I 2, .x .i64 (.mk (.ofNat 6) [(1, (.ofNat 1))]), .sl 5771 0 2 (.q 18)] false),
  (5793, .ce 161 [I 4, .x .i64 (.mk (.ofNat 4) [(1, (.ofNat 1))]), I 1, .i .i64 (.negSucc 0), .b true, .b false, I 0, .s [], .b false, .ns, I 0, I 0, .b false, .ns, .ns, .b false, .b false, .ns, .x .i64 (.mk (.ofNat 5) [(1, (.ofNat 1))]), .x .i64 (.mk (.ofNat 5) [(1, (.ofNat 1))]), I 0, .i .i64 (.negSucc 0), .b true, .b false, I 0, .s [], .b false, .ns, I 0, I 0, .b false, .ns, .ns, .b false, .b false, .ns] false),
  (5795, .ce 98 [I 3, .x .i64 (.mk (.ofNat 5) [(1, (.ofNat 1))]), .sl 5793 0 2 (.q 18)] false),
  (5797, .ce 93 [I 1, .sl 5729 0 1 (.q 3), I 1, .sl 5751 0 1 (.q 3), I 1, .sl 5773 0 1 (.q 3), I 1, .sl 5795 0 1 (.q 3)] false),
  (5803, .ce 48 [.s [], .sl 65 0 1 (.q 2), .ns, .s [.c 40, .c 120, .c 41], .sl 719 0 1 (.q 2), .sl 494 0 1 (.q 2), .s [.c 40, .c 40, .c 120, .c 41, .c 41], .sl 1794 0 1 (.q 2), .sl 1497 0 2 (.q 2), .s [.c 40, .c 40, .c 40, .c 120, .c 41, .c 41, .c 41], .sl 3203 0 1 (.q 2), .sl 2842 0 3 (.q 2), .s [.c 40, .c 40, .c 40, .c 40, .c 120, .c 41, .c 41, .c 41, .c 41], .sl 4897 0 1 (.q 2), .sl 4521 0 4 (.q 2)] false),
  (5838, .ce 258 [.x .i64 (.mk (.ofNat 8) [(1, (.ofNat 1))]), .x .i64 (.mk (.ofNat 0) [(30, (.ofNat 1))]), .x .i64 (.mk (.ofNat 0) [(32, (.ofNat 1))]), .x .i64 (.mk (.ofNat 0) [(34, (.ofNat 1))]), .s [.c 40, .c 40, .c 40, .c 40, .a 0, .c 41, .c 41, .c 41, .c 41], .x .i64 (.mk (.ofNat 8) [(1, (.ofNat 1))]), .x .i64 (.mk (.ofNat 0) [(30, (.ofNat 1))]), .x .i64 (.mk (.ofNat 0) [(32, (.ofNat 1))]), .x .i64 (.mk (.ofNat 0) [(34, (.ofNat 1))]), .x .u32 (.mk (.ofNat 0) [(36, (.ofNat 1))]), .np, .np] true),
  (5879, .ce 53 [.x .i64 (.mk (.ofNat 4) [(1, (.ofNat 1))]), .x .i64 (.mk (.ofNat 4) [(1, (.ofNat 1))])] false)]
def lN4_1 : ML :=
  [(4, .ce 179 [.p 2 0, .p 5838 0] true),
  (6, .mp [] 0),
  (7, .ce 233 [.mp 6, I 0] true),
  (9, .ce 121 [.p 4 0, .p 7 0, .sl 6431 0 1 (.q 2)] true),
  (10, .ce 128 [I 100, .sl 6420 0 6 (.q 3), .ns] true),
  (11, .ce 69 [.p 9 0, .sl 6395 0 3 (.q 2), .ns, .p 10 0] true),
  (5838, .ce 258 [.x .i64 (.mk (.ofNat 8) [(1, (.ofNat 1))]), .x .i64 (.mk (.ofNat 0) [(30, (.ofNat 1))]), .x .i64 (.mk (.ofNat 0) [(32, (.ofNat 1))]), .x .i64 (.mk (.ofNat 0) [(34, (.ofNat 1))]), .s [.c 40, .c 40, .c 40, .c 40, .a 0, .c 41, .c 41, .c 41, .c 41], .x .i64 (.mk (.ofNat 8) [(1, (.ofNat 1))]), .x .i64 (.mk (.ofNat 0) [(30, (.ofNat 1))]), .x .i64 (.mk (.ofNat 0) [(32, (.ofNat 1))]), .x .i64 (.mk (.ofNat 0) [(34, (.ofNat 1))]), .x .u32 (.mk (.ofNat 0) [(36, (.ofNat 1))]), .np, .np] true),
  (6325, .ce 161 [I 1, .x .i64 (.mk (.ofNat 7) [(1, (.ofNat 1))]), I 1, .i .i64 (.negSucc 0), .b true, .b false, I 0, .s [], .b false, .ns, I 0, I 0, .b false, .ns, .ns, .b false, .b false, .ns, .x .i64 (.mk (.ofNat 8) [(1, (.ofNat 1))]), .x .i64 (.mk (.ofNat 8) [(1, (.ofNat 1))]), I 0, .i .i64 (.negSucc 0), .b true, .b false, I 0, .s [], .b false, .ns, I 0, I 0, .b false, .ns, .ns, .b false, .b false, .ns] false),
  (6327, .ce 98 [I 0, .x .i64 (.mk (.ofNat 8) [(1, (.ofNat 1))]), .sl 6325 0 2 (.q 18)] false),
  (6347, .ce 161 [I 2, .x .i64 (.mk (.ofNat 6) [(1, (.ofNat 1))]), I 1, .i .i64 (.negSucc 0), .b true, .b false, I 0, .s [], .b false, .ns, I 0, I 0, .b false, .ns, .ns, .b false, .b false, .ns, .x .i64 (.mk (.ofNat 7) [(1, (.ofNat 1))]), .x .i64 (.mk (.ofNat 7) [(1, (.ofNat 1))]), I 0, .i .i64 (.negSucc 0), .b true, .b false, I 0, .s [], .b false, .ns, I 0, I 0, .b false, .ns, .ns, .b false, .b false, .ns] false),
  (6349, .ce 98 [I 1, .x .i64 (.mk (.ofNat 7) [(1, (.ofNat 1))]), .sl 6347 0 2 (.q 18)] false),
  (6369, .ce 161 [I 3, .x .i64 (.mk (.ofNat 5) [(1, (.ofNat 1))]), I 1, .i .i64 (.negSucc 0), .b true, .b false, I 0, .s [], .b false, .ns, I 0, I 0, .b false, .ns, .ns, .b false, .b false, .ns, .x .i64 (.mk (.ofNat 6) [(1, (.ofNat 1))]), .x .i64 (.mk (.ofNat 6) [(1, (.ofNat 1))]), I 0, .i .i64 (.negSucc 0), .b true, .b false, I 0, .s [], .b false, .ns, I 0, I 0, .b false, .ns, .ns, .b false, .b false, .ns] false),
  (6371, .ce 98 [I 2, .x .i64 (.mk (.ofNat 6) [(1, (.ofNat 1))]), .sl 6369 0 2 (.q 18)] false),
  (6391, .ce 161 [I 4, .x .i64 (.mk (.ofNat 4) [(1, (.ofNat 1))]), I 1, .i .i64 (.negSucc 0), .b true, .b false, I 0, .s [], .b false, .ns, I 0, I 0, .b false, .ns, .ns, .b false, .b false, .ns, .x .i64 (.mk (.ofNat 5) [(1, (.ofNat 1))]), .x .i64 (.mk (.ofNat 5) [(1, (.ofNat 1))]), I 0, .i .i64 (.negSucc 0), .b true, .b false, I 0, .s [], .b false, .ns, I 0, I 0, .b false, .ns, .ns, .b false, .b false, .ns] false),
  (6393, .ce 98 [I 3, .x .i64 (.mk (.ofNat 5) [(1, (.ofNat 1))]), .sl 6391 0 2 (.q 18)] false),
  (6395, .ce 93 [I 1, .sl 6327 0 1 (.q 3), I 1, .sl 6349 0 1 (.q 3), I 1, .sl 6371 0 1 (.q 3), I 0, .sl 6393 0 1 (.q 3)] false),
  (6420, .ce 48 [.s [], .sl 65 0 1 (.q 2), .ns, .s [.c 40, .c 120, .c 41], .sl 719 0 1 (.q 2), .sl 494 0 1 (.q 2), .s [.c 40, .c 40, .c 120, .c 41, .c 41], .sl 1794 0 1 (.q 2), .sl 1497 0 2 (.q 2), .s [.c 40, .c 40, .c 40, .c 120, .c 41, .c 41, .c 41], .sl 3203 0 1 (.q 2), .sl 2842 0 3 (.q 2), .s [.c 40, .c 40, .c 40, .c 40, .c 120, .c 41, .c 41, .c 41, .c 41], .sl 4897 0 1 (.q 2), .sl 4521 0 4 (.q 2), .s [.c 40, .c 40, .c 40, .c 40, .a 0, .c 41, .c 41, .c 41, .c 41], .sl 6182 0 1 (.q 2), .sl 5797 0 4 (.q 2)] false),
  (6431, .ce 53 [.x .i64 (.mk (.ofNat 5) [(1, (.ofNat 1))]), .x .i64 (.mk (.ofNat 5) [(1, (.ofNat 1))])] false)]
def lN4_2 : ML :=
  [(4, .ce 179 [.p 2 0, .p 5838 0] true),
  (6, .mp [] 0),
  (7, .ce 233 [.mp 6, I 0] true),
  (9, .ce 121 [.p 4 0, .p 7 0, .sl 6715 0 1 (.q 2)] true),
  (10, .ce 128 [I 100, .sl 6704 0 7 (.q 3), .ns] true),
  (11, .ce 69 [.p 9 0, .sl 6679 0 2 (.q 2), .ns, .p 10 0] true),
  (5838, .ce 258 [.x .i64 (.mk (.ofNat 8) [(1, (.ofNat 1))]), .x .i64 (.mk (.ofNat 0) [(30, (.ofNat 1))]), .x .i64 (.mk (.ofNat 0) [(32, (.ofNat 1))]), .x .i64 (.mk (.ofNat 0) [(34, (.ofNat 1))]), .s [.c 40, .c 40, .c 40, .c 40, .a 0, .c 41, .c 41, .c 41, .c 41], .x .i64 (.mk (.ofNat 8) [(1, (.ofNat 1))]), .x .i64 (.mk (.ofNat 0) [(30, (.ofNat 1))]), .x .i64 (.mk (.ofNat 0) [(32, (.ofNat 1))]), .x .i64 (.mk (.ofNat 0) [(34, (.ofNat 1))]), .x .u32 (.mk (.ofNat 0) [(36, (.ofNat 1))]), .np, .np] true),
  (6631, .ce 161 [I 1, .x .i64 (.mk (.ofNat 7) [(1, (.ofNat 1))]), I 1, .i .i64 (.negSucc 0), .b true, .b false, I 0, .s [], .b false, .ns, I 0, I 0, .b false, .ns, .ns, .b false, .b false, .ns, .x .i64 (.mk (.ofNat 8) [(1, (.ofNat 1))]), .x .i64 (.mk (.ofNat 8) [(1, (.ofNat 1))]), I 0, .i .i64 (.negSucc 0), .b true, .b false, I 0, .s [], .b false, .ns, I 0, I 0, .b false, .ns, .ns, .b false, .b false, .ns] false),
  (6633, .ce 98 [I 0, .x .i64 (.mk (.ofNat 8) [(1, (.ofNat 1))]), .sl 6631 0 2 (.q 18)] false),
  (6653, .ce 161 [I 2, .x .i64 (.mk (.ofNat 6) [(1, (.ofNat 1))]), I 1, .i .i64 (.negSucc 0), .b true, .b false, I 0, .s [], .b false, .ns, I 0, I 0, .b false, .ns, .ns, .b false, .b false, .ns, .x .i64 (.mk (.ofNat 7) [(1, (.ofNat 1))]), .x .i64 (.mk (.ofNat 7) [(1, (.ofNat 1))]), I 0, .i .i64 (.negSucc 0), .b true, .b false, I 0, .s [], .b false, .ns, I 0, I 0, .b false, .ns, .ns, .b false, .b false, .ns] false),
  (6655, .ce 98 [I 1, .x .i64 (.mk (.ofNat 7) [(1, (.ofNat 1))]), .sl 6653 0 2 (.q 18)] false),
  (6675, .ce 161 [I 3, .x .i64 (.mk (.ofNat 5) [(1, (.ofNat 1))]), I 1, .i .i64 (.negSucc 0), .b true, .b false, I 0, .s [], .b false, .ns, I 0, I 0, .b false, .ns, .ns, .b false, .b false, .ns, .x .i64 (.mk (.ofNat 6) [(1, (.ofNat 1))]), .x .i64 (.mk (.ofNat 6) [(1, (.ofNat 1))]), I 0, .i .i64 (.negSucc 0), .b true, .b false, I 0, .s [], .b false, .ns, I 0, I 0, .b false, .ns, .ns, .b false, .b false, .ns] false),
  (6677, .ce 98 [I 2, .x .i64 (.mk (.ofNat 6) [(1, (.ofNat 1))]), .sl 6675 0 2 (.q 18)] false),
  (6679, .ce 93 [I 1, .sl 6633 0 1 (.q 3), I 1, .sl 6655 0 1 (.q 3), I 0, .sl 6677 0 1 (.q 3)] false),
  (6704, .ce 48 [.s [], .sl 65 0 1 (.q 2), .ns, .s [.c 40, .c 120, .c 41], .sl 719 0 1 (.q 2), .sl 494 0 1 (.q 2), .s [.c 40, .c 40, .c 120, .c 41, .c 41], .sl 1794 0 1 (.q 2), .sl 1497 0 2 (.q 2), .s [.c 40, .c 40, .c 40, .c 120, .c 41, .c 41, .c 41], .sl 3203 0 1 (.q 2), .sl 2842 0 3 (.q 2), .s [.c 40, .c 40, .c 40, .c 40, .c 120, .c 41, .c 41, .c 41, .c 41], .sl 4897 0 1 (.q 2), .sl 4521 0 4 (.q 2), .s [.c 40, .c 40, .c 40, .c 40, .a 0, .c 41, .c 41, .c 41, .c 41], .sl 6182 0 1 (.q 2), .sl 5797 0 4 (.q 2), .s [.c 40, .c 40, .c 40, .c 40, .a 0, .c 41, .c 41, .c 41, .c 41], .sl 6513 0 1 (.q 2), .sl 6395 0 3 (.q 2)] false),
  (6715, .ce 53 [.x .i64 (.mk (.ofNat 6) [(1, (.ofNat 1))]), .x .i64 (.mk (.ofNat 6) [(1, (.ofNat 1))])] false)]
def lN4_3 : ML :=
  [(4, .ce 179 [.p 2 0, .p 5838 0] true),
  (6, .mp [] 0),
  (7, .ce 233 [.mp 6, I 0] true),
  (9, .ce 121 [.p 4 0, .p 7 0, .sl 6930 0 1 (.q 2)] true),
  (10, .ce 128 [I 100, .sl 6919 0 8 (.q 3), .ns] true),
  (11, .ce 69 [.p 9 0, .sl 6894 0 1 (.q 2), .ns, .p 10 0] true),
  (5838, .ce 258 [.x .i64 (.mk (.ofNat 8) [(1, (.ofNat 1))]), .x .i64 (.mk (.ofNat 0) [(30, (.ofNat 1))]), .x .i64 (.mk (.ofNat 0) [(32, (.ofNat 1))]), .x .i64 (.mk (.ofNat 0) [(34, (.ofNat 1))]), .s [.c 40, .c 40, .c 40, .c 40, .a 0, .c 41, .c 41, .c 41, .c 41], .x .i64 (.mk (.ofNat 8) [(1, (.ofNat 1))]), .x .i64 (.mk (.ofNat 0) [(30, (.ofNat 1))]), .x .i64 (.mk (.ofNat 0) [(32, (.ofNat 1))]), .x .i64 (.mk (.ofNat 0) [(34, (.ofNat 1))]), .x .u32 (.mk (.ofNat 0) [(36, (.ofNat 1))]), .np, .np] true),
  (6868, .ce 161 [I 1, .x .i64 (.mk (.ofNat 7) [(1, (.ofNat 1))]), I 1, .i .i64 (.negSucc 0), .b true, .b false, I 0, .s [], .b false, .ns, I 0, I 0, .b false, .ns, .ns, .b false, .b false, .ns, .x .i64 (.mk (.ofNat 8) [(1, (.ofNat 1))]), .x .i64 (.mk (.ofNat 8) [(1, (.ofNat 1))]), I 0, .i .i64 (.negSucc 0), .b true, .b false, I 0, .s [], .b false, .ns, I 0, I 0, .b false, .ns, .ns, .b false, .b false, .ns] false),
  (6870, .ce 98 [I 0, .x .i64 (.mk (.ofNat 8) [(1, (.ofNat 1))]), .sl 6868 0 2 (.q 18)] false),
  (6890, .ce 161 [I 2, .x .i64 (.mk (.ofNat 6) [(1, (.ofNat 1))]), I 1, .i .i64 (.negSucc 0), .b true, .b false, I 0, .s [], .b false, .ns, I 0, I 0, .b false, .ns, .ns, .b false, .b false, .ns, .x .i64 (.mk (.ofNat 7) [(1, (.ofNat 1))]), .x .i64 (.mk (.ofNat 7) [(1, (.ofNat 1))]), I 0, .i .i64 (.negSucc 0), .b true, .b false, I 0, .s [], .b false, .ns, I 0, I 0, .b false, .ns, .ns, .b false, .b false, .ns] false),
  (6892, .ce 98 [I 1, .x .i64 (.mk (.ofNat 7) [(1, (.ofNat 1))]), .sl 6890 0 2 (.q 18)] false),
  (6894, .ce 93 [I 1, .sl 6870 0 1 (.q 3), I 0, .sl 6892 0 1 (.q 3)] false),
  (6919, .ce 48 [.s [], .sl 65 0 1 (.q 2), .ns, .s [.c 40, .c 120, .c 41], .sl 719 0 1 (.q 2), .sl 494 0 1 (.q 2), .s [.c 40, .c 40, .c 120, .c 41, .c 41], .sl 1794 0 1 (.q 2), .sl 1497 0 2 (.q 2), .s [.c 40, .c 40, .c 40, .c 120, .c 41, .c 41, .c 41], .sl 3203 0 1 (.q 2), .sl 2842 0 3 (.q 2), .s [.c 40, .c 40, .c 40, .c 40, .c 120, .c 41, .c 41, .c 41, .c 41], .sl 4897 0 1 (.q 2), .sl 4521 0 4 (.q 2), .s [.c 40, .c 40, .c 40, .c 40, .a 0, .c 41, .c 41, .c 41, .c 41], .sl 6182 0 1 (.q 2), .sl 5797 0 4 (.q 2), .s [.c 40, .c 40, .c 40, .c 40, .a 0, .c 41, .c 41, .c 41, .c 41], .sl 6513 0 1 (.q 2), .sl 6395 0 3 (.q 2), .s [.c 40, .c 40, .c 40, .c 40, .a 0, .c 41, .c 41, .c 41, .c 41], .sl 6775 0 1 (.q 2), .sl 6679 0 2 (.q 2)] false),
  (6930, .ce 53 [.x .i64 (.mk (.ofNat 7) [(1, (.ofNat 1))]), .x .i64 (.mk (.ofNat 7) [(1, (.ofNat 1))])] false)]
def lN4_4 : ML :=
  [(4, .ce 179 [.p 2 0, .p 5838 0] true),
  (6, .mp [] 0),
  (7, .ce 233 [.mp 6, I 0] true),
  (9, .ce 121 [.p 4 0, .p 7 0, .sl 7076 0 1 (.q 2)] true),
  (10, .ce 128 [I 100, .sl 7065 0 9 (.q 3), .ns] true),
  (11, .ce 69 [.p 9 0, .sl 7040 0 0 (.q 2), .ns, .p 10 0] true),
  (5838, .ce 258 [.x .i64 (.mk (.ofNat 8) [(1, (.ofNat 1))]), .x .i64 (.mk (.ofNat 0) [(30, (.ofNat 1))]), .x .i64 (.mk (.ofNat 0) [(32, (.ofNat 1))]), .x .i64 (.mk (.ofNat 0) [(34, (.ofNat 1))]), .s [.c 40, .c 40, .c 40, .c 40, .a 0, .c 41, .c 41, .c 41, .c 41], .x .i64 (.mk (.ofNat 8) [(1, (.ofNat 1))]), .x .i64 (.mk (.ofNat 0) [(30, (.ofNat 1))]), .x .i64 (.mk (.ofNat 0) [(32, (.ofNat 1))]), .x .i64 (.mk (.ofNat 0) [(34, (.ofNat 1))]), .x .u32 (.mk (.ofNat 0) [(36, (.ofNat 1))]), .np, .np] true),
  (7036, .ce 161 [I 1, .x .i64 (.mk (.ofNat 7) [(1, (.ofNat 1))]), I 1, .i .i64 (.negSucc 0), .b true, .b false, I 0, .s [], .b false, .ns, I 0, I 0, .b false, .ns, .ns, .b false, .b false, .ns, .x .i64 (.mk (.ofNat 8) [(1, (.ofNat 1))]), .x .i64 (.mk (.ofNat 8) [(1, (.ofNat 1))]), I 0, .i .i64 (.negSucc 0), .b true, .b false, I 0, .s [], .b false, .ns, I 0, I 0, .b false, .ns, .ns, .b false, .b false, .ns] false),
  (7038, .ce 98 [I 0, .x .i64 (.mk (.ofNat 8) [(1, (.ofNat 1))]), .sl 7036 0 2 (.q 18)] false),
  (7040, .ce 93 [I 0, .sl 7038 0 1 (.q 3)] false),
  (7065, .ce 48 [.s [], .sl 65 0 1 (.q 2), .ns, .s [.c 40, .c 120, .c 41], .sl 719 0 1 (.q 2), .sl 494 0 1 (.q 2), .s [.c 40, .c 40, .c 120, .c 41, .c 41], .sl 1794 0 1 (.q 2), .sl 1497 0 2 (.q 2), .s [.c 40, .c 40, .c 40, .c 120, .c 41, .c 41, .c 41], .sl 3203 0 1 (.q 2), .sl 2842 0 3 (.q 2), .s [.c 40, .c 40, .c 40, .c 40, .c 120, .c 41, .c 41, .c 41, .c 41], .sl 4897 0 1 (.q 2), .sl 4521 0 4 (.q 2), .s [.c 40, .c 40, .c 40, .c 40, .a 0, .c 41, .c 41, .c 41, .c 41], .sl 6182 0 1 (.q 2), .sl 5797 0 4 (.q 2), .s [.c 40, .c 40, .c 40, .c 40, .a 0, .c 41, .c 41, .c 41, .c 41], .sl 6513 0 1 (.q 2), .sl 6395 0 3 (.q 2), .s [.c 40, .c 40, .c 40, .c 40, .a 0, .c 41, .c 41, .c 41, .c 41], .sl 6775 0 1 (.q 2), .sl 6679 0 2 (.q 2), .s [.c 40, .c 40, .c 40, .c 40, .a 0, .c 41, .c 41, .c 41, .c 41], .sl 6968 0 1 (.q 2), .sl 6894 0 1 (.q 2)] false),
  (7076, .ce 53 [.x .i64 (.mk (.ofNat 8) [(1, (.ofNat 1))]), .x .i64 (.mk (.ofNat 8) [(1, (.ofNat 1))])] false)]
def lI5 : ML :=
  [(1, .ce 59 [.i .u32 (.ofNat 6), .i .u32 (.ofNat 5), .i .u32 (.ofNat 4)] false),
  (2, .ce 88 [.sl 1 0 3 (.q 1), I 3, .i .u32 (.ofNat 2631315818)] true),
  (4, .ce 179 [.p 2 0, .p 6698 0] true),
  (6, .mp [] 0),
  (7, .ce 233 [.mp 6, I 0] true),
  (9, .ce 121 [.p 4 0, .p 7 0, .sl 6730 0 1 (.q 2)] true),
  (10, .ce 128 [I 100, .sl 6559 0 5 (.q 3), .ns] true),
  (11, .ce 69 [.p 9 0, .sl 6534 0 5 (.q 2), .ns, .p 10 0] true),
  (6442, .ce 161 [I 1, I 10, I 1, .i .i64 (.negSucc 0), .b true, .b false, I 0, .s [], .b false, .ns, I 0, I 0, .b false, .ns, .ns, .b false, .b false, .ns, I 11, I 11, I 0, .i .i64 (.negSucc 0), .b true, .b false, I 0, .s [], .b false, .ns, I 0, I 0, .b false, .ns, .ns, .b false, .b false, .ns] false),
  (6444, .ce 98 [I 0, I 11, .sl 6442 0 2 (.q 18)] false),
  (6464, .ce 161 [I 2, I 9, I 1, .i .i64 (.negSucc 0), .b true, .b false, I 0, .s [], .b false, .ns, I 0, I 0, .b false, .ns, .ns, .b false, .b false, .ns, I 10, I 10, I 0, .i .i64 (.negSucc 0), .b true, .b false, I 0, .s [], .b false, .ns, I 0, I 0, .b false, .ns, .ns, .b false, .b false, .ns] false),
  (6466, .ce 98 [I 1, I 10, .sl 6464 0 2 (.q 18)] false),
  (6486, .ce 161 [I 3, I 8, I 1, .i .i64 (.negSucc 0), .b true, .b false, I 0, .s [], .b false, .ns, I 0, I 0, .b false, .ns, .ns, .b false, .b false, .ns, I 9, I 9, I 0, .i .i64 (.negSucc 0), .b true, .b false, I 0, .s [], .b false, .ns, I 0, I 0, .b false, .ns, .ns, .b false, .b false, .ns] false),
  (6488, .ce 98 [I 2, I 9, .sl 6486 0 2 (.q 18)] false),
  (6508, .ce 161 [I 4, I 7, I 1, .i .i64 (.negSucc 0), .b true, .b false, I 0, .s [], .b false, .ns, I 0, I 0, .b false, .ns, .ns, .b false, .b false, .ns, I 8, I 8, I 0, .i .i64 (.negSucc 0), .b true, .b false, I 0, .s [], .b false, .ns, I 0, I 0, .b false, .ns, .ns, .b false, .b false, .ns] false),
  (6510, .ce 98 [I 3, I 8, .sl 6508 0 2 (.q 18)] false),
  (6530, .ce 161 [I 5, I 6, I 1, .i .i64 (.negSucc 0), .b true, .b false, I 0, .s [], .b false, .ns, I 0, I 0, .b false, .ns, .ns, .b false, .b false, .ns, I 7, I 7, I 0, .i .i64 (.negSucc 0), .b true, .b false, I 0, .s [], .b false, .ns, I 0, I 0, .b false, .ns, .ns, .b false, .b false, .ns] false),
  (6532, .ce 98 [I 4, I 7, .sl 6530 0 2 (.q 18)] false),
  (6534, .ce 93 [I 1, .sl 6444 0 1 (.q 3), I 1, .sl 6466 0 1 (.q 3), I 1, .sl 6488 0 1 (.q 3), I 1, .sl 6510 0 1 (.q 3), I 1, .sl 6532 0 1 (.q 3)] false),
  (6559, .ce 48 [.s [], .sl 65 0 1 (.q 2), .ns, .s [.c 40, .c 120, .c 41], .sl 719 0 1 (.q 2), .sl 494 0 1 (.q 2), .s [.c 40, .c 40, .c 120, .c 41, .c 41], .sl 1794 0 1 (.q 2), .sl 1497 0 2 (.q 2), .s [.c 40, .c 40, .c 40, .c 120, .c 41, .c 41, .c 41], .sl 3203 0 1 (.q 2), .sl 2842 0 3 (.q 2), .s [.c 40, .c 40, .c 40, .c 40, .c 120, .c 41, .c 41, .c 41, .c 41], .sl 4946 0 1 (.q 2), .sl 4521 0 4 (.q 2)] false),
  (6698, .ce 258 [I 11, I 0, I 11, I 11, .s [.c 40, .c 40, .c 40, .c 40, .c 40, .c 120, .c 41, .c 41, .c 41, .c 41, .c 41], I 11, I 0, I 11, I 11, .i .u32 (.ofNat 2631315818), .np, .np] true),
  (6730, .ce 53 [I 5, I 6] false)]
def lSa5 : ML :=
  [(1, .ce 59 [.i .u32 (.ofNat 6), .i .u32 (.ofNat 5), .i .u32 (.ofNat 4)] false),
  (2, .ce 88 [.sl 1 0 3 (.q 1), I 3, .i .u32 (.ofNat 2631315818)] true),
  (4, .ce 179 [.p 2 0, .p 6698 0] true),
  (6, .mp [] 0),
  (7, .ce 233 [.mp 6, I 0] true),
  (9, .ce 121 [.p 4 0, .p 7 0, .sl 6730 0 1 (.q 2)] true),
  (6698, .ce 258 [.x .i64 (.mk (.ofNat 0) [(5, (.ofNat 1)), (9, (.ofNat 1)), (13, (.ofNat 1))]), I 0, I 11, I 11, .s [.a 1, .a 2, .a 3], .x .i64 (.mk (.ofNat 0) [(5, (.ofNat 1)), (9, (.ofNat 1)), (13, (.ofNat 1))]), I 0, I 11, I 11, .i .u32 (.ofNat 2631315818), .np, .np] true),
  (6730, .ce 53 [I 5, I 6] false),
  (8093, .ce 142 [.x .i64 (.mk (.ofNat 0) [(5, (.ofNat 1))]), .x .i64 (.mk (.ofNat 0) [(5, (.ofNat 1)), (9, (.ofNat 1))]), .s [.a 4]] true)]
def lSb5 : ML :=
  [(4, .ce 179 [.p 2 0, .p 8125 0] true),
  (6, .mp [] 0),
  (7, .ce 233 [.mp 6, I 0] true),
  (9, .ce 121 [.p 4 0, .p 7 0, .sl 8148 0 1 (.q 2)] true),
  (8125, .ce 258 [.x .i64 (.mk (.ofNat 10) [(1, (.ofNat 1))]), .x .i64 (.mk (.ofNat 0) [(30, (.ofNat 1))]), .x .i64 (.mk (.ofNat 0) [(32, (.ofNat 1))]), .x .i64 (.mk (.ofNat 0) [(34, (.ofNat 1))]), .s [.c 40, .c 40, .c 40, .c 40, .c 40, .a 0, .c 41, .c 41, .c 41, .c 41, .c 41], .x .i64 (.mk (.ofNat 10) [(1, (.ofNat 1))]), .x .i64 (.mk (.ofNat 0) [(30, (.ofNat 1))]), .x .i64 (.mk (.ofNat 0) [(32, (.ofNat 1))]), .x .i64 (.mk (.ofNat 0) [(34, (.ofNat 1))]), .x .u32 (.mk (.ofNat 0) [(36, (.ofNat 1))]), .np, .np] true)]
def lT5 : ML :=
  [(4, .ce 179 [.p 2 0, .p 8125 0] true),
  (6, .mp [] 0),
  (7, .ce 233 [.mp 6, I 0] true),
  (9, .ce 121 [.p 4 0, .p 7 0, .sl 8166 0 1 (.q 2)] true),
  (10, .ce 128 [I 100, .sl 8090 0 6 (.q 3), .ns] true),
  (11, .ce 69 [.p 9 0, .sl 8084 0 5 (.q 2), .ns, .p 10 0] true),
  (7992, .ce 161 [I 1, .x .i64 (.mk (.ofNat 9) [(1, (.ofNat 1))]), I 1, .i .i64 (.negSucc 0), .b true, .b false, I 0, .s [], .b false, .ns, I 0, I 0, .b false, .ns, .ns, .b false, .b false, .ns, .x .i64 (.mk (.ofNat 10) [(1, (.ofNat 1))]), .x .i64 (.mk (.ofNat 10) [(1, (.ofNat 1))]), I 0, .i .i64 (.negSucc 0), .b true, .b false, I 0, .s [], .b false, .ns, I 0, I 0, .b false, .ns, .ns, .b false, .b false, .ns] false),
  (7994, .ce 98 [I 0, .x .i64 (.mk (.ofNat 10) [(1, (.ofNat 1))]), .sl 7992 0 2 (.q 18)] false),
  (8014, .ce 161 [I 2, .x .i64 (.mk (.ofNat 8) [(1, (.ofNat 1))]), I 1, .i .i64 (.negSucc 0), .b true, .b false, I 0, .s [], .b false, .ns, I 0, I 0, .b false, .ns, .ns, .b false, .b false, .ns, .x .i64 (.mk (.ofNat 9) [(1, (.ofNat 1))]), .x .i64 (.mk (.ofNat 9) [(1, (.ofNat 1))]), I 0, .i .i64 (.negSucc 0), .b true, .b false, I 0, .s [], .b false, .ns, I 0, I 0, .b false, .ns, .ns, .b false, .b false, .ns] false),
  (8016, .ce 98 [I 1, .x .i64 (.mk (.ofNat 9) [(1, (.ofNat 1))]), .sl 8014 0 2 (.q 18)] false),
  (8036, .ce 161 [I 3, .x .i64 (.mk (.ofNat 7) [(1, (.ofNat 1))]), I 1, .i .i64 (.negSucc 0), .b true, .b false, I 0, .s [], .b false, .ns, I 0, I 0, .b false, .ns, .ns, .b false, .b false, .ns, .x .i64 (.mk (.ofNat 8) [(1, (.ofNat 1))]), .x .i64 (.mk (.ofNat 8) [(1, (.ofNat 1))]), I 0, .i .i64 (.negSucc 0), .b true, .b false, I 0, .s [], .b false, .ns, I 0, I 0, .b false, .ns, .ns, .b false, .b false, .ns] false),
  (8038, .ce 98 [I 2, .x .i64 (.mk (.ofNat 8) [(1, (.ofNat 1))]), .sl 8036 0 2 (.q 18)] false),
  (8058, .ce 161 [I 4, .x .i64 (.mk (.ofNat 6) [(1, (.ofNat 1))]), I 1, .i .i64 (.negSucc 0), .b true, .b false, I 0, .s [], .b false, .ns, I 0, I 0, .b false, .ns, .ns, .b false, .b false, .ns, .x .i64 (.mk (.ofNat 7) [(1, (.ofNat 1))]), .x .i64 (.mk (.ofNat 7) [(1, (.ofNat 1))]), I 0, .i .i64 (.negSucc 0), .b true, .b false, I 0, .s [], .b false, .ns, I 0, I 0, .b false, .ns, .ns, .b false, .b false, .ns] false),
  (8060, .ce 98 [I 3, .x .i64 (.mk (.ofNat 7) [(1, (.ofNat 1))]), .sl 8058 0 2 (.q 18)] false),
  (8080, .ce 161 [I 5, .x .i64 (.mk (.ofNat 5) [(1, (.ofNat 1))]), I 1, .i .i64 (.negSucc 0), .b true, .b false, I 0, .s [], .b false, .ns, I 0, I 0, .b false, .ns, .ns, .b false, .b false, .ns, .x .i64 (.mk (.ofNat 6) [(1, (.ofNat 1))]), .x .i64 (.mk (.ofNat 6) [(1, (.ofNat 1))]), I 0, .i .i64 (.negSucc 0), .b true, .b false, I 0, .s [], .b false, .ns, I 0, I 0, .b false, .ns, .ns, .b false, .b false, .ns] false),
  (8082, .ce 98 [I 4, .x .i64 (.mk (.ofNat 6) [(1, (.ofNat 1))]), .sl 8080 0 2 (.q 18)] false),
  (8084, .ce 93 [I 1, .sl 7994 0 1 (.q 3), I 1, .sl 8016 0 1 (.q 3), I 1, .sl 8038 0 1 (.q 3), I 1, .sl 8060 0 1 (.q 3), I 1, .sl 8082 0 1 (.q 3)] false),
  (8090, .ce 48 [.s [], .sl 65 0 1 (.q 2), .ns, .s [.c 40, .c 120, .c 41], .sl 719 0 1 (.q 2), .sl 494 0 1 (.q 2), .s [.c 40, .c 40, .c 120, .c 41, .c 41], .sl 1794 0 1 (.q 2), .sl 1497 0 2 (.q 2), .s [.c 40, .c 40, .c 40, .c 120, .c 41, .c 41, .c 41], .sl 3203 0 1 (.q 2), .sl 2842 0 3 (.q 2), .s [.c 40, .c 40, .c 40, .c 40, .c 120, .c 41, .c 41, .c 41, .c 41], .sl 4946 0 1 (.q 2), .sl 4521 0 4 (.q 2), .s [.c 40, .c 40, .c 40, .c 40, .c 40, .c 120, .c 41, .c 41, .c 41, .c 41, .c 41], .sl 6974 0 1 (.q 2), .sl 6534 0 5 (.q 2)] false),
  (8125, .ce 258 [.x .i64 (.mk (.ofNat 10) [(1, (.ofNat 1))]), .x .i64 (.mk (.ofNat 0) [(30, (.ofNat 1))]), .x .i64 (.mk (.ofNat 0) [(32, (.ofNat 1))]), .x .i64 (.mk (.ofNat 0) [(34, (.ofNat 1))]), .s [.c 40, .c 40, .c 40, .c 40, .c 40, .a 0, .c 41, .c 41, .c 41, .c 41, .c 41], .x .i64 (.mk (.ofNat 10) [(1, (.ofNat 1))]), .x .i64 (.mk (.ofNat 0) [(30, (.ofNat 1))]), .x .i64 (.mk (.ofNat 0) [(32, (.ofNat 1))]), .x .i64 (.mk (.ofNat 0) [(34, (.ofNat 1))]), .x .u32 (.mk (.ofNat 0) [(36, (.ofNat 1))]), .np, .np] true),
  (8166, .ce 53 [.x .i64 (.mk (.ofNat 5) [(1, (.ofNat 1))]), .x .i64 (.mk (.ofNat 5) [(1, (.ofNat 1))])] false)]
def lN5_1 : ML :=
  [(4, .ce 179 [.p 2 0, .p 8125 0] true),
  (6, .mp [] 0),
  (7, .ce 233 [.mp 6, I 0] true),
  (9, .ce 121 [.p 4 0, .p 7 0, .sl 8787 0 1 (.q 2)] true),
  (10, .ce 128 [I 100, .sl 8776 0 7 (.q 3), .ns] true),
  (11, .ce 69 [.p 9 0, .sl 8751 0 4 (.q 2), .ns, .p 10 0] true),
  (8125, .ce 258 [.x .i64 (.mk (.ofNat 10) [(1, (.ofNat 1))]), .x .i64 (.mk (.ofNat 0) [(30, (.ofNat 1))]), .x .i64 (.mk (.ofNat 0) [(32, (.ofNat 1))]), .x .i64 (.mk (.ofNat 0) [(34, (.ofNat 1))]), .s [.c 40, .c 40, .c 40, .c 40, .c 40, .a 0, .c 41, .c 41, .c 41, .c 41, .c 41], .x .i64 (.mk (.ofNat 10) [(1, (.ofNat 1))]), .x .i64 (.mk (.ofNat 0) [(30, (.ofNat 1))]), .x .i64 (.mk (.ofNat 0) [(32, (.ofNat 1))]), .x .i64 (.mk (.ofNat 0) [(34, (.ofNat 1))]), .x .u32 (.mk (.ofNat 0) [(36, (.ofNat 1))]), .np, .np] true),
  (8659, .ce 161 [I 1, .x .i64 (.mk (.ofNat 9) [(1, (.ofNat 1))]), I 1, .i .i64 (.negSucc 0), .b true, .b false, I 0, .s [], .b false, .ns, I 0, I 0, .b false, .ns, .ns, .b false, .b false, .ns, .x .i64 (.mk (.ofNat 10) [(1, (.ofNat 1))]), .x .i64 (.mk (.ofNat 10) [(1, (.ofNat 1))]), I 0, .i .i64 (.negSucc 0), .b true, .b false, I 0, .s [], .b false, .ns, I 0, I 0, .b false, .ns, .ns, .b false, .b false, .ns] false),
  (8661, .ce 98 [I 0, .x .i64 (.mk (.ofNat 10) [(1, (.ofNat 1))]), .sl 8659 0 2 (.q 18)] false),
  (8681, .ce 161 [I 2, .x .i64 (.mk (.ofNat 8) [(1, (.ofNat 1))]), I 1, .i .i64 (.negSucc 0), .b true, .b false, I 0, .s [], .b false, .ns, I 0, I 0, .b false, .ns, .ns, .b false, .b false, .ns, .x .i64 (.mk (.ofNat 9) [(1, (.ofNat 1))]), .x .i64 (.mk (.ofNat 9) [(1, (.ofNat 1))]), I 0, .i .i64 (.negSucc 0), .b true, .b false, I 0, .s [], .b false, .ns, I 0, I 0, .b false, .ns, .ns, .b false, .b false, .ns] false),
  (8683, .ce 98 [I 1, .x .i64 (.mk (.ofNat 9) [(1, (.ofNat 1))]), .sl 8681 0 2 (.q 18)] false),
  (8703, .ce 161 [I 3, .x .i64 (.mk (.ofNat 7) [(1, (.ofNat 1))]), I 1, .i .i64 (.negSucc 0), .b true, .b false, I 0, .s [], .b false, .ns, I 0, I 0, .b false, .ns, .ns, .b false, .b false, .ns, .x .i64 (.mk (.ofNat 8) [(1, (.ofNat 1))]), .x .i64 (.mk (.ofNat 8) [(1, (.ofNat 1))]), I 0, .i .i64 (.negSucc 0), .b true, .b false, I 0, .s [], .b false, .ns, I 0, I 0, .b false, .ns, .ns, .b false, .b false, .ns] false),
  (8705, .ce 98 [I 2, .x .i64 (.mk (.ofNat 8) [(1, (.ofNat 1))]), .sl 8703 0 2 (.q 18)] false),
  (8725, .ce 161 [I 4, .x .i64 (.mk (.ofNat 6) [(1, (.ofNat 1))]), I 1, .i .i64 (.negSucc 0), .b true, .b false, I 0, .s [], .b false, .ns, I 0, I 0, .b false, .ns, .ns, .b false, .b false, .ns, .x .i64 (.mk (.ofNat 7) [(1, (.ofNat 1))]), .x .i64 (.mk (.ofNat 7) [(1, (.ofNat 1))]), I 0, .i .i64 (.negSucc 0), .b true, .b false, I 0, .s [], .b false, .ns, I 0, I 0, .b false, .ns, .ns, .b false, .b false, .ns] false),
  (8727, .ce 98 [I 3, .x .i64 (.mk (.ofNat 7) [(1, (.ofNat 1))]), .sl 8725 0 2 (.q 18)] false),
  (8747, .ce 161 [I 5, .x .i64 (.mk (.ofNat 5) [(1, (.ofNat 1))]), I 1, .i .i64 (.negSucc 0), .b true, .b false, I 0, .s [], .b false, .ns, I 0, I 0, .b false, .ns, .ns, .b false, .b false, .ns, .x .i64 (.mk (.ofNat 6) [(1, (.ofNat 1))]), .x .i64 (.mk (.ofNat 6) [(1, (.ofNat 1))]), I 0, .i .i64 (.negSucc 0), .b true, .b false, I 0, .s [], .b false, .ns, I 0, I 0, .b false, .ns, .ns, .b false, .b false, .ns] false),
  (8749, .ce 98 [I 4, .x .i64 (.mk (.ofNat 6) [(1, (.ofNat 1))]), .sl 8747 0 2 (.q 18)] false),
  (8751, .ce 93 [I 1, .sl 8661 0 1 (.q 3), I 1, .sl 8683 0 1 (.q 3), I 1, .sl 8705 0 1 (.q 3), I 1, .sl 8727 0 1 (.q 3), I 0, .sl 8749 0 1 (.q 3)] false),
  (8776, .ce 48 [.s [], .sl 65 0 1 (.q 2), .ns, .s [.c 40, .c 120, .c 41], .sl 719 0 1 (.q 2), .sl 494 0 1 (.q 2), .s [.c 40, .c 40, .c 120, .c 41, .c 41], .sl 1794 0 1 (.q 2), .sl 1497 0 2 (.q 2), .s [.c 40, .c 40, .c 40, .c 120, .c 41, .c 41, .c 41], .sl 3203 0 1 (.q 2), .sl 2842 0 3 (.q 2), .s [.c 40, .c 40, .c 40, .c 40, .c 120, .c 41, .c 41, .c 41, .c 41], .sl 4946 0 1 (.q 2), .sl 4521 0 4 (.q 2), .s [.c 40, .c 40, .c 40, .c 40, .c 40, .c 120, .c 41, .c 41, .c 41, .c 41, .c 41], .sl 6974 0 1 (.q 2), .sl 6534 0 5 (.q 2), .s [.c 40, .c 40, .c 40, .c 40, .c 40, .a 0, .c 41, .c 41, .c 41, .c 41, .c 41], .sl 8491 0 1 (.q 2), .sl 8084 0 5 (.q 2)] false),
  (8787, .ce 53 [.x .i64 (.mk (.ofNat 6) [(1, (.ofNat 1))]), .x .i64 (.mk (.ofNat 6) [(1, (.ofNat 1))])] false)]
def lN5_2 : ML :=
  [(4, .ce 179 [.p 2 0, .p 8125 0] true),
  (6, .mp [] 0),
  (7, .ce 233 [.mp 6, I 0] true),
  (9, .ce 121 [.p 4 0, .p 7 0, .sl 9140 0 1 (.q 2)] true),
  (10, .ce 128 [I 100, .sl 9129 0 8 (.q 3), .ns] true),
  (11, .ce 69 [.p 9 0, .sl 9104 0 3 (.q 2), .ns, .p 10 0] true),
  (8125, .ce 258 [.x .i64 (.mk (.ofNat 10) [(1, (.ofNat 1))]), .x .i64 (.mk (.ofNat 0) [(30, (.ofNat 1))]), .x .i64 (.mk (.ofNat 0) [(32, (.ofNat 1))]), .x .i64 (.mk (.ofNat 0) [(34, (.ofNat 1))]), .s [.c 40, .c 40, .c 40, .c 40, .c 40, .a 0, .c 41, .c 41, .c 41, .c 41, .c 41], .x .i64 (.mk (.ofNat 10) [(1, (.ofNat 1))]), .x .i64 (.mk (.ofNat 0) [(30, (.ofNat 1))]), .x .i64 (.mk (.ofNat 0) [(32, (.ofNat 1))]), .x .i64 (.mk (.ofNat 0) [(34, (.ofNat 1))]), .x .u32 (.mk (.ofNat 0) [(36, (.ofNat 1))]), .np, .np] true),
  (9034, .ce 161 [I 1, .x .i64 (.mk (.ofNat 9) [(1, (.ofNat 1))]), I 1, .i .i64 (.negSucc 0), .b true, .b false, I 0, .s [], .b false, .ns, I 0, I 0, .b false, .ns, .ns, .b false, .b false, .ns, .x .i64 (.mk (.ofNat 10) [(1, (.ofNat 1))]), .x .i64 (.mk (.ofNat 10) [(1, (.ofNat 1))]), I 0, .i .i64 (.negSucc 0), .b true, .b false, I 0, .s [], .b false, .ns, I 0, I 0, .b false, .ns, .ns, .b false, .b false, .ns] false),
  (9036, .ce 98 [I 0, .x .i64 (.mk (.ofNat 10) [(1, (.ofNat 1))]), .sl 9034 0 2 (.q 18)] false),
  (9056, .ce 161 [I 2, .x .i64 (.mk (.ofNat 8) [(1, (.ofNat 1))]), I 1, .i .i64 (.negSucc 0), .b true, .b false, I 0, .s [], .b false, .ns, I 0, I 0, .b false, .ns, .ns, .b false, .b false, .ns, .x .i64 (.mk (.ofNat 9) [(1, (.ofNat 1))]), .x .i64 (.mk (.ofNat 9) [(1, (.ofNat 1))]), I 0, .i .i64 (.negSucc 0), .b true, .b false, I 0, .s [], .b false, .ns, I 0, I 0, .b false, .ns, .ns, .b false, .b false, .ns] false),
  (9058, .ce 98 [I 1, .x .i64 (.mk (.ofNat 9) [(1, (.ofNat 1))]), .sl 9056 0 2 (.q 18)] false),
  (9078, .ce 161 [I 3, .x .i64 (.mk (.ofNat 7) [(1, (.ofNat 1))]), I 1, .i .i64 (.negSucc 0), .b true, .b false, I 0, .s [], .b false, .ns, I 0, I 0, .b false, .ns, .ns, .b false, .b false, .ns, .x .i64 (.mk (.ofNat 8) [(1, (.ofNat 1))]), .x .i64 (.mk (.ofNat 8) [(1, (.ofNat 1))]), I 0, .i .i64 (.negSucc 0), .b true, .b false, I 0, .s [], .b false, .ns, I 0, I 0, .b false, .ns, .ns, .b false, .b false, .ns] false),
  (9080, .ce 98 [I 2, .x .i64 (.mk (.ofNat 8) [(1, (.ofNat 1))]), .sl 9078 0 2 (.q 18)] false),
  (9100, .ce 161 [I 4, .x .i64 (.mk (.ofNat 6) [(1, (.ofNat 1))]), I 1, .i .i64 (.negSucc 0), .b true, .b false, I 0, .s [], .b false, .ns, I 0, I 0, .b false, .ns, .ns, .b false, .b false, .ns, .x .i64 (.mk (.ofNat 7) [(1, (.ofNat 1))]), .x .i64 (.mk (.ofNat 7) [(1, (.ofNat 1))]), I 0, .i .i64 (.negSucc 0), .b true, .b false, I 0, .s [], .b false, .ns, I 0, I 0, .b false, .ns, .ns, .b false, .b false, .ns] false),
  (9102, .ce 98 [I 3, .x .i64 (.mk (.ofNat 7) [(1, (.ofNat 1))]), .sl 9100 0 2 (.q 18)] false),
  (9104, .ce 93 [I 1, .sl 9036 0 1 (.q 3), I 1, .sl 9058 0 1 (.q 3), I 1, .sl 9080 0 1 (.q 3), I 0, .sl 9102 0 1 (.q 3)] false),
  (9129, .ce 48 [.s [], .sl 65 0 1 (.q 2), .ns, .s [.c 40, .c 120, .c 41], .sl 719 0 1 (.q 2), .sl 494 0 1 (.q 2), .s [.c 40, .c 40, .c 120, .c 41, .c 41], .sl 1794 0 1 (.q 2), .sl 1497 0 2 (.q 2), .s [.c 40, .c 40, .c 40, .c 120, .c 41, .c 41, .c 41], .sl 3203 0 1 (.q 2), .sl 2842 0 3 (.q 2), .s [.c 40, .c 40, .c 40, .c 40, .c 120, .c 41, .c 41, .c 41, .c 41], .sl 4946 0 1 (.q 2), .sl 4521 0 4 (.q 2), .s [.c 40, .c 40, .c 40, .c 40, .c 40, .c 120, .c 41, .c 41, .c 41, .c 41, .c 41], .sl 6974 0 1 (.q 2), .sl 6534 0 5 (.q 2), .s [.c 40, .c 40, .c 40, .c 40, .c 40, .a 0, .c 41, .c 41, .c 41, .c 41, .c 41], .sl 8491 0 1 (.q 2), .sl 8084 0 5 (.q 2), .s [.c 40, .c 40, .c 40, .c 40, .c 40, .a 0, .c 41, .c 41, .c 41, .c 41, .c 41], .sl 8891 0 1 (.q 2), .sl 8751 0 4 (.q 2)] false),
  (9140, .ce 53 [.x .i64 (.mk (.ofNat 7) [(1, (.ofNat 1))]), .x .i64 (.mk (.ofNat 7) [(1, (.ofNat 1))])] false)]
def lN5_3 : ML :=
  [(4, .ce 179 [.p 2 0, .p 8125 0] true),
  (6, .mp [] 0),
  (7, .ce 233 [.mp 6, I 0] true),
  (9, .ce 121 [.p 4 0, .p 7 0, .sl 9424 0 1 (.q 2)] true),
  (10, .ce 128 [I 100, .sl 9413 0 9 (.q 3), .ns] true),
  (11, .ce 69 [.p 9 0, .sl 9388 0 2 (.q 2), .ns, .p 10 0] true),
  (8125, .ce 258 [.x .i64 (.mk (.ofNat 10) [(1, (.ofNat 1))]), .x .i64 (.mk (.ofNat 0) [(30, (.ofNat 1))]), .x .i64 (.mk (.ofNat 0) [(32, (.ofNat 1))]), .x .i64 (.mk (.ofNat 0) [(34, (.ofNat 1))]), .s [.c 40, .c 40, .c 40, .c 40, .c 40, .a 0, .c 41, .c 41, .c 41, .c 41, .c 41], .x .i64 (.mk (.ofNat 10) [(1, (.ofNat 1))]), .x .i64 (.mk (.ofNat 0) [(30, (.ofNat 1))]), .x .i64 (.mk (.ofNat 0) [(32, (.ofNat 1))]), .x .i64 (.mk (.ofNat 0) [(34, (.ofNat 1))]), .x .u32 (.mk (.ofNat 0) [(36, (.ofNat 1))]), .np, .np] true),
  (9340, .ce 161 [I 1, .x .i64 (.mk (.ofNat 9) [(1, (.ofNat 1))]), I 1, .i .i64 (.negSucc 0), .b true, .b false, I 0, .s [], .b false, .ns, I 0, I 0, .b false, .ns, .ns, .b false, .b false, .ns, .x .i64 (.mk (.ofNat 10) [(1, (.ofNat 1))]), .x .i64 (.mk (.ofNat 10) [(1, (.ofNat 1))]), I 0, .i .i64 (.negSucc 0), .b true, .b false, I 0, .s [], .b false, .ns, I 0, I 0, .b false, .ns, .ns, .b false, .b false, .ns] false),
  (9342, .ce 98 [I 0, .x .i64 (.mk (.ofNat 10) [(1, (.ofNat 1))]), .sl 9340 0 2 (.q 18)] false),
  (9362, .ce 161 [I 2, .x .i64 (.mk (.ofNat 8) [(1, (.ofNat 1))]), I 1, .i .i64 (.negSucc 0), .b true, .b false, I 0, .s [], .b false, .ns, I 0, I 0, .b false, .ns, .ns, .b false, .b false, .ns, .x .i64 (.mk (.ofNat 9) [(1, (.ofNat 1))]), .x .i64 (.mk (.ofNat 9) [(1, (.ofNat 1))]), I 0, .i .i64 (.negSucc 0), .b true, .b false, I 0, .s [], .b false, .ns, I 0, I 0, .b false, .ns, .ns, .b false, .b false, .ns] false),
  (9364, .ce 98 [I 1, .x .i64 (.mk (.ofNat 9) [(1, (.ofNat 1))]), .sl 9362 0 2 (.q 18)] false),
  (9384, .ce 161 [I 3, .x .i64 (.mk (.ofNat 7) [(1, (.ofNat 1))]), I 1, .i .i64 (.negSucc 0), .b true, .b false, I 0, .s [], .b false, .ns, I 0, I 0, .b false, .ns, .ns, .b false, .b false, .ns, .x .i64 (.mk (.ofNat 8) [(1, (.ofNat 1))]), .x .i64 (.mk (.ofNat 8) [(1, (.ofNat 1))]), I 0, .i .i64 (.negSucc 0), .b true, .b false, I 0, .s [], .b false, .ns, I 0, I 0, .b false, .ns, .ns, .b false, .b false, .ns] false),
  (9386, .ce 98 [I 2, .x .i64 (.mk (.ofNat 8) [(1, (.ofNat 1))]), .sl 9384 0 2 (.q 18)] false),
  (9388, .ce 93 [I 1, .sl 9342 0 1 (.q 3), I 1, .sl 9364 0 1 (.q 3), I 0, .sl 9386 0 1 (.q 3)] false),
  (9413, .ce 48 [.s [], .sl 65 0 1 (.q 2), .ns, .s [.c 40, .c 120, .c 41], .sl 719 0 1 (.q 2), .sl 494 0 1 (.q 2), .s [.c 40, .c 40, .c 120, .c 41, .c 41], .sl 1794 0 1 (.q 2), .sl 1497 0 2 (.q 2), .s [.c 40, .c 40, .c 40, .c 120, .c 41, .c 41, .c 41], .sl 3203 0 1 (.q 2), .sl 2842 0 3 (.q 2), .s [.c 40, .c 40, .c 40, .c 40, .c 120, .c 41, .c 41, .c 41, .c 41], .sl 4946 0 1 (.q 2), .sl 4521 0 4 (.q 2), .s [.c 40, .c 40, .c 40, .c 40, .c 40, .c 120, .c 41, .c 41, .c 41, .c 41, .c 41], .sl 6974 0 1 (.q 2), .sl 6534 0 5 (.q 2), .s [.c 40, .c 40, .c 40, .c 40, .c 40, .a 0, .c 41, .c 41, .c 41, .c 41, .c 41], .sl 8491 0 1 (.q 2), .sl 8084 0 5 (.q 2), .s [.c 40, .c 40, .c 40, .c 40, .c 40, .a 0, .c 41, .c 41, .c 41, .c 41, .c 41], .sl 8891 0 1 (.q 2), .sl 8751 0 4 (.q 2), .s [.c 40, .c 40, .c 40, .c 40, .c 40, .a 0, .c 41, .c 41, .c 41, .c 41, .c 41], .sl 9222 0 1 (.q 2), .sl 9104 0 3 (.q 2)] false),
  (9424, .ce 53 [.x .i64 (.mk (.ofNat 8) [(1, (.ofNat 1))]), .x .i64 (.mk (.ofNat 8) [(1, (.ofNat 1))])] false)]
def lN5_4 : ML :=
  [(4, .ce 179 [.p 2 0, .p 8125 0] true),
  (6, .mp [] 0),
  (7, .ce 233 [.mp 6, I 0] true),
  (9, .ce 121 [.p 4 0, .p 7 0, .sl 9639 0 1 (.q 2)] true),
  (10, .ce 128 [I 100, .sl 9628 0 10 (.q 3), .ns] true),
  (11, .ce 69 [.p 9 0, .sl 9603 0 1 (.q 2), .ns, .p 10 0] true),
  (8125, .ce 258 [.x .i64 (.mk (.ofNat 10) [(1, (.ofNat 1))]), .x .i64 (.mk (.ofNat 0) [(30, (.ofNat 1))]), .x .i64 (.mk (.ofNat 0) [(32, (.ofNat 1))]), .x .i64 (.mk (.ofNat 0) [(34, (.ofNat 1))]), .s [.c 40, .c 40, .c 40, .c 40, .c 40, .a 0, .c 41, .c 41, .c 41, .c 41, .c 41], .x .i64 (.mk (.ofNat 10) [(1, (.ofNat 1))]), .x .i64 (.mk (.ofNat 0) [(30, (.ofNat 1))]), .x .i64 (.mk (.ofNat 0) [(32, (.ofNat 1))]), .x .i64 (.mk (.ofNat 0) [(34, (.ofNat 1))]), .x .u32 (.mk (.ofNat 0) [(36, (.ofNat 1))]), .np, .np] true),
  (9577, .ce 161 [I 1, .x .i64 (.mk (.ofNat 9) [(1, (.ofNat 1))]), I 1, .i .i64 (.negSucc 0), .b true, .b false, I 0, .s [], .b false, .ns, I 0, I 0, .b false, .ns, .ns, .b false, .b false, .ns, .x .i64 (.mk (.ofNat 10) [(1, (.ofNat 1))]), .x .i64 (.mk (.ofNat 10) [(1, (.ofNat 1))]), I 0, .i .i64 (.negSucc 0), .b true, .b false, I 0, .s [], .b false, .ns, I 0, I 0, .b false, .ns, .ns, .b false, .b false, .ns] false),
  (9579, .ce 98 [I 0, .x .i64 (.mk (.ofNat 10) [(1, (.ofNat 1))]), .sl 9577 0 2 (.q 18)] false),
  (9599, .ce 161 [I 2, .x .i64 (.mk (.ofNat 8) [(1, (.ofNat 1))]), I 1, .i .i64 (.negSucc 0), .b true, .b false, I 0, .s [], .b false, .ns, I 0, I 0, .b false, .ns, .ns, .b false, .b false, .ns, .x .i64 (.mk (.ofNat 9) [(1, (.ofNat 1))]), .x .i64 (.mk (.ofNat 9) [(1, (.ofNat 1))]), I 0, .i .i64 (.negSucc 0), .b true, .b false, I 0, .s [], .b false, .ns, I 0, I 0, .b false, .ns, .ns, .b false, .b false, .ns] false),
  (9601, .ce 98 [I 1, .x .i64 (.mk (.ofNat 9) [(1, (.ofNat 1))]), .sl 9599 0 2 (.q 18)] false),
  (9603, .ce 93 [I 1, .sl 9579 0 1 (.q 3), I 0, .sl 9601 0 1 (.q 3)] false),
  (9628, .ce 48 [.s [], .sl 65 0 1 (.q 2), .ns, .s [.c 40, .c 120, .c 41], .sl 719 0 1 (.q 2), .sl 494 0 1 (.q 2), .s [.c 40, .c 40, .c 120, .c 41, .c 41], .sl 1794 0 1 (.q 2), .sl 1497 0 2 (.q 2), .s [.c 40, .c 40, .c 40, .c 120, .c 41, .c 41, .c 41], .sl 3203 0 1 (.q 2), .sl 2842 0 3 (.q 2), .s [.c 40, .c 40, .c 40, .c 40, .c 120, .c 41, .c 41, .c 41, .c 41], .sl 4946 0 1 (.q 2), .sl 4521 0 4 (.q 2), .s [.c 40, .c 40, .c 40, .c 40, .c 40, .c 120, .c 41, .c 41, .c 41, .c 41, .c 41], .sl 6974 0 1 (.q 2), .sl 6534 0 5 (.q 2), .s [.c 40, .c 40, .c 40, .c 40, .c 40, .a 0, .c 41, .c 41, .c 41, .c 41, .c 41], .sl 8491 0 1 (.q 2), .sl 8084 0 5 (.q 2), .s [.c 40, .c 40, .c 40, .c 40, .c 40, .a 0, .c 41, .c 41, .c 41, .c 41, .c 41], .sl 8891 0 1 (.q 2), .sl 8751 0 4 (.q 2), .s [.c 40, .c 40, .c 40, .c 40, .c 40, .a 0, .c 41, .c 41, .c 41, .c 41, .c 41], .sl 9222 0 1 (.q 2), .sl 9104 0 3 (.q 2), .s [.c 40, .c 40, .c 40, .c 40, .c 40, .a 0, .c 41, .c 41, .c 41, .c 41, .c 41], .sl 9484 0 1 (.q 2), .sl 9388 0 2 (.q 2)] false),
  (9639, .ce 53 [.x .i64 (.mk (.ofNat 9) [(1, (.ofNat 1))]), .x .i64 (.mk (.ofNat 9) [(1, (.ofNat 1))])] false)]
def lN5_5 : ML :=
  [(4, .ce 179 [.p 2 0, .p 8125 0] true),
  (6, .mp [] 0),
  (7, .ce 233 [.mp 6, I 0] true),
  (9, .ce 121 [.p 4 0, .p 7 0, .sl 9785 0 1 (.q 2)] true),
  (10, .ce 128 [I 100, .sl 9774 0 11 (.q 3), .ns] true),
  (11, .ce 69 [.p 9 0, .sl 9749 0 0 (.q 2), .ns, .p 10 0] true),
  (8125, .ce 258 [.x .i64 (.mk (.ofNat 10) [(1, (.ofNat 1))]), .x .i64 (.mk (.ofNat 0) [(30, (.ofNat 1))]), .x .i64 (.mk (.ofNat 0) [(32, (.ofNat 1))]), .x .i64 (.mk (.ofNat 0) [(34, (.ofNat 1))]), .s [.c 40, .c 40, .c 40, .c 40, .c 40, .a 0, .c 41, .c 41, .c 41, .c 41, .c 41], .x .i64 (.mk (.ofNat 10) [(1, (.ofNat 1))]), .x .i64 (.mk (.ofNat 0) [(30, (.ofNat 1))]), .x .i64 (.mk (.ofNat 0) [(32, (.ofNat 1))]), .x .i64 (.mk (.ofNat 0) [(34, (.ofNat 1))]), .x .u32 (.mk (.ofNat 0) [(36, (.ofNat 1))]), .np, .np] true),
  (9745, .ce 161 [I 1, .x .i64 (.mk (.ofNat 9) [(1, (.ofNat 1))]), I 1, .i .i64 (.negSucc 0), .b true, .b false, I 0, .s [], .b false, .ns, I 0, I 0, .b false, .ns, .ns, .b false, .b false, .ns, .x .i64 (.mk (.ofNat 10) [(1, (.ofNat 1))]), .x .i64 (.mk (.ofNat 10) [(1, (.ofNat 1))]), I 0, .i .i64 (.negSucc 0), .b true, .b false, I 0, .s [], .b false, .ns, I 0, I 0, .b false, .ns, .ns, .b false, .b false, .ns] false),
  (9747, .ce 98 [I 0, .x .i64 (.mk (.ofNat 10) [(1, (.ofNat 1))]), .sl 9745 0 2 (.q 18)] false),
  (9749, .ce 93 [I 0, .sl 9747 0 1 (.q 3)] false),
  (9774, .ce 48 [.s [], .sl 65 0 1 (.q 2), .ns, .s [.c 40, .c 120, .c 41], .sl 719 0 1 (.q 2), .sl 494 0 1 (.q 2), .s [.c 40, .c 40, .c 120, .c 41, .c 41], .sl 1794 0 1 (.q 2), .sl 1497 0 2 (.q 2), .s [.c 40, .c 40, .c 40, .c 120, .c 41, .c 41, .c 41], .sl 3203 0 1 (.q 2), .sl 2842 0 3 (.q 2), .s [.c 40, .c 40, .c 40, .c 40, .c 120, .c 41, .c 41, .c 41, .c 41], .sl 4946 0 1 (.q 2), .sl 4521 0 4 (.q 2), .s [.c 40, .c 40, .c 40, .c 40, .c 40, .c 120, .c 41, .c 41, .c 41, .c 41, .c 41], .sl 6974 0 1 (.q 2), .sl 6534 0 5 (.q 2), .s [.c 40, .c 40, .c 40, .c 40, .c 40, .a 0, .c 41, .c 41, .c 41, .c 41, .c 41], .sl 8491 0 1 (.q 2), .sl 8084 0 5 (.q 2), .s [.c 40, .c 40, .c 40, .c 40, .c 40, .a 0, .c 41, .c 41, .c 41, .c 41, .c 41], .sl 8891 0 1 (.q 2), .sl 8751 0 4 (.q 2), .s [.c 40, .c 40, .c 40, .c 40, .c 40, .a 0, .c 41, .c 41, .c 41, .c 41, .c 41], .sl 9222 0 1 (.q 2), .sl 9104 0 3 (.q 2), .s [.c 40, .c 40, .c 40, .c 40, .c 40, .a 0, .c 41, .c 41, .c 41, .c 41, .c 41], .sl 9484 0 1 (.q 2), .sl 9388 0 2 (.q 2), .s [.c 40, .c 40, .c 40, .c 40, .c 40, .a 0, .c 41, .c 41, .c 41, .c 41, .c 41], .sl 9677 0 1 (.q 2), .sl 9603 0 1 (.q 2)] false),
  (9785, .ce 53 [.x .i64 (.mk (.ofNat 10) [(1, (.ofNat 1))]), .x .i64 (.mk (.ofNat 10) [(1, (.ofNat 1))])] false)]
def lI6 : ML :=
  [(1, .ce 59 [.i .u32 (.ofNat 6), .i .u32 (.ofNat 5), .i .u32 (.ofNat 4)] false),
  (2, .ce 88 [.sl 1 0 3 (.q 1), I 3, .i .u32 (.ofNat 1308450860)] true),
  (4, .ce 179 [.p 2 0, .p 9065 0] true),
  (6, .mp [] 0),
  (7, .ce 233 [.mp 6, I 0] true),
  (9, .ce 121 [.p 4 0, .p 7 0, .sl 9097 0 1 (.q 2)] true),
  (10, .ce 128 [I 100, .sl 8906 0 6 (.q 3), .ns] true),
  (11, .ce 69 [.p 9 0, .sl 8881 0 6 (.q 2), .ns, .p 10 0] true),
  (8767, .ce 161 [I 1, I 12, I 1, .i .i64 (.negSucc 0), .b true, .b false, I 0, .s [], .b false, .ns, I 0, I 0, .b false, .ns, .ns, .b false, .b false, .ns, I 13, I 13, I 0, .i .i64 (.negSucc 0), .b true, .b false, I 0, .s [], .b false, .ns, I 0, I 0, .b false, .ns, .ns, .b false, .b false, .ns] false),
  (8769, .ce 98 [I 0, I 13, .sl 8767 0 2 (.q 18)] false),
  (8789, .ce 161 [I 2, I 11, I 1, .i .i64 (.negSucc 0), .b true, .b false, I 0, .s [], .b false, .ns, I 0, I 0, .b false, .ns, .ns, .b false, .b false, .ns, I 12, I 12, I 0, .i .i64 (.negSucc 0), .b true, .b false, I 0, .s [], .b false, .ns, I 0, I 0, .b false, .ns, .ns, .b false, .b false, .ns] false),
  (8791, .ce 98 [I 1, I 12, .sl 8789 0 2 (.q 18)] false),
  (8811, .ce 161 [I 3, I 10, I 1, .i .i64 (.negSucc 0), .b true, .b false, I 0, .s [], .b false, .ns, I 0, I 0, .b false, .ns, .ns, .b false, .b false, .ns, I 11, I 11, I 0, .i .i64 (.negSucc 0), .b true, .b false, I 0, .s [], .b false, .ns, I 0, I 0, .b false, .ns, .ns, .b false, .b false, .ns] false),
  (8813, .ce 98 [I 2, I 11, .sl 8811 0 2 (.q 18)] false),
  (8833, .ce 161 [I 4, I 9, I 1, .i .i64 (.negSucc 0), .b true, .b false, I 0, .s [], .b false, .ns, I 0, I 0, .b false, .ns, .ns, .b false, .b false, .ns, I 10, I 10, I 0, .i .i64 (.negSucc 0), .b true, .b false, I 0, .s [], .b false, .ns, I 0, I 0, .b false, .ns, .ns, .b false, .b false, .ns] false),
  (8835, .ce 98 [I 3, I 10, .sl 8833 0 2 (.q 18)] false),
  (8855, .ce 161 [I 5, I 8, I 1, .i .i64 (.negSucc 0), .b true, .b false, I 0, .s [], .b false, .ns, I 0, I 0, .b false, .ns, .ns, .b false, .b false, .ns, I 9, I 9, I 0, .i .i64 (.negSucc 0), .b true, .b false, I 0, .s [], .b false, .ns, I 0, I 0, .b false, .ns, .ns, .b false, .b false, .ns] false),
  (8857, .ce 98 [I 4, I 9, .sl 8855 0 2 (.q 18)] false),
  (8877, .ce 161 [I 6, I 7, I 1, .i .i64 (.negSucc 0), .b true, .b false, I 0, .s [], .b false, .ns, I 0, I 0, .b false, .ns, .ns, .b false, .b false, .ns, I 8, I 8, I 0, .i .i64 (.negSucc 0), .b true, .b false, I 0, .s [], .b false, .ns, I 0, I 0, .b false, .ns, .ns, .b false, .b false, .ns] false),
  (8879, .ce 98 [I 5, I 8, .sl 8877 0 2 (.q 18)] false),
  (8881, .ce 93 [I 1, .sl 8769 0 1 (.q 3), I 1, .sl 8791 0 1 (.q 3), I 1, .sl 8813 0 1 (.q 3), I 1, .sl 8835 0 1 (.q 3), I 1, .sl 8857 0 1 (.q 3), I 1, .sl 8879 0 1 (.q 3)] false),
  (8906, .ce 48 [.s [], .sl 65 0 1 (.q 2), .ns, .s [.c 40, .c 120, .c 41], .sl 719 0 1 (.q 2), .sl 494 0 1 (.q 2), .s [.c 40, .c 40, .c 120, .c 41, .c 41], .sl 1794 0 1 (.q 2), .sl 1497 0 2 (.q 2), .s [.c 40, .c 40, .c 40, .c 120, .c 41, .c 41, .c 41], .sl 3203 0 1 (.q 2), .sl 2842 0 3 (.q 2), .s [.c 40, .c 40, .c 40, .c 40, .c 120, .c 41, .c 41, .c 41, .c 41], .sl 4946 0 1 (.q 2), .sl 4521 0 4 (.q 2), .s [.c 40, .c 40, .c 40, .c 40, .c 40, .c 120, .c 41, .c 41, .c 41, .c 41, .c 41], .sl 7023 0 1 (.q 2), .sl 6534 0 5 (.q 2)] false),
  (9065, .ce 258 [I 13, I 0, I 13, I 13, .s [.c 40, .c 40, .c 40, .c 40, .c 40, .c 40, .c 120, .c 41, .c 41, .c 41, .c 41, .c 41, .c 41], I 13, I 0, I 13, I 13, .i .u32 (.ofNat 1308450860), .np, .np] true),
  (9097, .ce 53 [I 6, I 7] false)]
def lSa6 : ML :=
  [(1, .ce 59 [.i .u32 (.ofNat 6), .i .u32 (.ofNat 5), .i .u32 (.ofNat 4)] false),
  (2, .ce 88 [.sl 1 0 3 (.q 1), I 3, .i .u32 (.ofNat 1308450860)] true),
  (4, .ce 179 [.p 2 0, .p 9065 0] true),
  (6, .mp [] 0),
  (7, .ce 233 [.mp 6, I 0] true),
  (9, .ce 121 [.p 4 0, .p 7 0, .sl 9097 0 1 (.q 2)] true),
  (9065, .ce 258 [.x .i64 (.mk (.ofNat 0) [(5, (.ofNat 1)), (9, (.ofNat 1)), (13, (.ofNat 1))]), I 0, I 13, I 13, .s [.a 1, .a 2, .a 3], .x .i64 (.mk (.ofNat 0) [(5, (.ofNat 1)), (9, (.ofNat 1)), (13, (.ofNat 1))]), I 0, I 13, I 13, .i .u32 (.ofNat 1308450860), .np, .np] true),
  (9097, .ce 53 [I 6, I 7] false),
  (10714, .ce 142 [.x .i64 (.mk (.ofNat 0) [(5, (.ofNat 1))]), .x .i64 (.mk (.ofNat 0) [(5, (.ofNat 1)), (9, (.ofNat 1))]), .s [.a 4]] true)]
def lSb6 : ML :=
  [(4, .ce 179 [.p 2 0, .p 10746 0] true),
  (6, .mp [] 0),
  (7, .ce 233 [.mp 6, I 0] true),
  (9, .ce 121 [.p 4 0, .p 7 0, .sl 10769 0 1 (.q 2)] true),
  (10746, .ce 258 [.x .i64 (.mk (.ofNat 12) [(1, (.ofNat 1))]), .x .i64 (.mk (.ofNat 0) [(30, (.ofNat 1))]), .x .i64 (.mk (.ofNat 0) [(32, (.ofNat 1))]), .x .i64 (.mk (.ofNat 0) [(34, (.ofNat 1))]), .s [.c 40, .c 40, .c 40, .c 40, .c 40, .c 40, .a 0, .c 41, .c 41, .c 41, .c 41, .c 41, .c 41], .x .i64 (.mk (.ofNat 12) [(1, (.ofNat 1))]), .x .i64 (.mk (.ofNat 0) [(30, (.ofNat 1))]), .x .i64 (.mk (.ofNat 0) [(32, (.ofNat 1))]), .x .i64 (.mk (.ofNat 0) [(34, (.ofNat 1))]), .x .u32 (.mk (.ofNat 0) [(36, (.ofNat 1))]), .np, .np] true)]
def lT6 : ML :=
  [(4, .ce 179 [.p 2 0, .p 10746 0] true),
  (6, .mp [] 0),
  (7, .ce 233 [.mp 6, I 0] true),
  (9, .ce 121 [.p 4 0, .p 7 0, .sl 10787 0 1 (.q 2)] true),
  (10, .ce 128 [I 100, .sl 10711 0 7 (.q 3), .ns] true),
  (11, .ce 69 [.p 9 0, .sl 10705 0 6 (.q 2), .ns, .p 10 0] true),
  (10591, .ce 161 [I 1, .x .i64 (.mk (.ofNat 11) [(1, (.ofNat 1))]), I 1, .i .i64 (.negSucc 0), .b true, .b false, I 0, .s [], .b false, .ns, I 0, I 0, .b false, .ns, .ns, .b false, .b false, .ns, .x .i64 (.mk (.ofNat 12) [(1, (.ofNat 1))]), .x .i64 (.mk (.ofNat 12) [(1, (.ofNat 1))]), I 0, .i .i64 (.negSucc 0), .b true, .b false, I 0, .s [], .b false, .ns, I 0, I 0, .b false, .ns, .ns, .b false, .b false, .ns] false),
  (10593, .ce 98 [I 0, .x .i64 (.mk (.ofNat 12) [(1, (.ofNat 1))]), .sl 10591 0 2 (.q 18)] false),
  (10613, .ce 161 [I 2, .x .i64 (.mk (.ofNat 10) [(1, (.ofNat 1))]), I 1, .i .i64 (.negSucc 0), .b true, .b false, I 0, .s [], .b false, .ns, I 0, I 0, .b false, .ns, .ns, .b false, .b false, .ns, .x .i64 (.mk (.ofNat 11) [(1, (.ofNat 1))]), .x .i64 (.mk (.ofNat 11) [(1, (.ofNat 1))]), I 0, .i .i64 (.negSucc 0), .b true, .b false, I 0, .s [], .b false, .ns, I 0, I 0, .b false, .ns, .ns, .b false, .b false, .ns] false),
  (10615, .ce 98 [I 1, .x .i64 (.mk (.ofNat 11) [(1, (.ofNat 1))]), .sl 10613 0 2 (.q 18)] false),
  (10635, .ce 161 [I 3, .x .i64 (.mk (.ofNat 9) [(1, (.ofNat 1))]), I 1, .i .i64 (.negSucc 0), .b true, .b false, I 0, .s [], .b false, .ns, I 0, I 0, .b false, .ns, .ns, .b false, .b false, .ns, .x .i64 (.mk (.ofNat 10) [(1, (.ofNat 1))]), .x .i64 (.mk (.ofNat 10) [(1, (.ofNat 1))]), I 0, .i .i64 (.negSucc 0), .b true, .b false, I 0, .s [], .b false, .ns, I 0, I 0, .b false, .ns, .ns, .b false, .b false, .ns] false),
  (10637, .ce 98 [I 2, .x .i64 (.mk (.ofNat 10) [(1, (.ofNat 1))]), .sl 10635 0 2 (.q 18)] false),
  (10657, .ce 161 [I 4, .x .i64 (.mk (.ofNat 8) [(1, (.ofNat 1))]), I 1, .i .i64 (.negSucc 0), .b true, .b false, I 0, .s [], .b false, .ns, I 0, I 0, .b false, .ns, .ns, .b false, .b false, .ns, .x .i64 (.mk (.ofNat 9) [(1, (.ofNat 1))]), .x .i64 (.mk (.ofNat 9) [(1, (.ofNat 1))]), I 0, .i .i64 (.negSucc 0), .b true, .b false, I 0, .s [], .b false, .ns, I 0, I 0, .b false, .ns, .ns, .b false, .b false, .ns] false),
  (10659, .ce 98 [I 3, .x .i64 (.mk (.ofNat 9) [(1, (.ofNat 1))]), .sl 10657 0 2 (.q 18)] false),
  (10679, .ce 161 [I 5, .x .i64 (.mk (.ofNat 7) [(1, (.ofNat 1))]), I 1, .i .i64 (.negSucc 0), .b true, .b false, I 0, .s [], .b false, .ns, I 0, I 0, .b false, .ns, .ns, .b false, .b false, .ns, .x .i64 (.mk (.ofNat 8) [(1, (.ofNat 1))]), .x .i64 (.mk (.ofNat 8) [(1, (.ofNat 1))]), I 0, .i .i64 (.negSucc 0), .b true, .b false, I 0, .s [], .b false, .ns, I 0, I 0, .b false, .ns, .ns, .b false, .b false, .ns] false),
  (10681, .ce 98 [I 4, .x .i64 (.mk (.ofNat 8) [(1, (.ofNat 1))]), .sl 10679 0 2 (.q 18)] false),
  (10701, .ce 161 [I 6, .x .i64 (.mk (.ofNat 6) [(1, (.ofNat 1))]), I 1, .i .i64 (.negSucc 0), .b true, .b false, I 0, .s [], .b false, .ns, I 0, I 0, .b false, .ns, .ns, .b false, .b false, .ns, .x .i64 (.mk (.ofNat 7) [(1, (.ofNat 1))]), .x .i64 (.mk (.ofNat 7) [(1, (.ofNat 1))]), I 0, .i .i64 (.negSucc 0), .b true, .b false, I 0, .s [], .b false, .ns, I 0, I 0, .b false, .ns, .ns, .b false, .b false, .ns] false),
  (10703, .ce 98 [I 5, .x .i64 (.mk (.ofNat 7) [(1, (.ofNat 1))]), .sl 10701 0 2 (.q 18)] false),
  (10705, .ce 93 [I 1, .sl 10593 0 1 (.q 3), I 1, .sl 10615 0 1 (.q 3), I 1, .sl 10637 0 1 (.q 3), I 1, .sl 10659 0 1 (.q 3), I 1, .sl 10681 0 1 (.q 3), I 1, .sl 10703 0 1 (.q 3)] false),
  (10711, .ce 48 [.s [], .sl 65 0 1 (.q 2), .ns, .s [.c 40, .c 120, .c 41], .sl 719 0 1 (.q 2), .sl 494 0 1 (.q 2), .s [.c 40, .c 40, .c 120, .c 41, .c 41], .sl 1794 0 1 (.q 2), .sl 1497 0 2 (.q 2), .s [.c 40, .c 40, .c 40, .c 120, .c 41, .c 41, .c 41], .sl 3203 0 1 (.q 2), .sl 2842 0 3 (.q 2), .s [.c 40, .c 40, .c 40, .c 40, .c 120, .c 41, .c 41, .c 41, .c 41], .sl 4946 0 1 (.q 2), .sl 4521 0 4 (.q 2), .s [.c 40, .c 40, .c 40, .c 40, .c 40, .c 120, .c 41, .c 41, .c 41, .c 41, .c 41], .sl 7023 0 1 (.q 2), .sl 6534 0 5 (.q 2), .s [.c 40, .c 40, .c 40, .c 40, .c 40, .c 40, .c 120, .c 41, .c 41, .c 41, .c 41, .c 41, .c 41], .sl 9385 0 1 (.q 2), .sl 8881 0 6 (.q 2)] false),
  (10746, .ce 258 [.x .i64 (.mk (.ofNat 12) [(1, (.ofNat 1))]), .x .i64 (.mk (.ofNat 0) [(30, (.ofNat 1))]), .x .i64 (.mk (.ofNat 0) [(32, (.ofNat 1))]), .x .i64 (.mk (.ofNat 0) [(34, (.ofNat 1))]), .s [.c 40, .c 40, .c 40, .c 40, .c 40, .c 40, .a 0, .c 41, .c 41, .c 41, .c 41, .c 41, .c 41], .x .i64 (.mk (.ofNat 12) [(1, (.ofNat 1))]), .x .i64 (.mk (.ofNat 0) [(30, (.ofNat 1))]), .x .i64 (.mk (.ofNat 0) [(32, (.ofNat 1))]), .x .i64 (.mk (.ofNat 0) [(34, (.ofNat 1))]), .x .u32 (.mk (.ofNat 0) [(36, (.ofNat 1))]), .np, .np] true),
  (10787, .ce 53 [.x .i64 (.mk (.ofNat 6) [(1, (.ofNat 1))]), .x .i64 (.mk (.ofNat 6) [(1, (.ofNat 1))])] false)]
def lN6_1 : ML :=
  [(4, .ce 179 [.p 2 0, .p 10746 0] true),
  (6, .mp [] 0),
  (7, .ce 233 [.mp 6, I 0] true),
  (9, .ce 121 [.p 4 0, .p 7 0, .sl 11477 0 1 (.q 2)] true),
  (10, .ce 128 [I 100, .sl 11466 0 8 (.q 3), .ns] true),
  (11, .ce 69 [.p 9 0, .sl 11441 0 5 (.q 2), .ns, .p 10 0] true),
  (10746, .ce 258 [.x .i64 (.mk (.ofNat 12) [(1, (.ofNat 1))]), .x .i64 (.mk (.ofNat 0) [(30, (.ofNat 1))]), .x .i64 (.mk (.ofNat 0) [(32, (.ofNat 1))]), .x .i64 (.mk (.ofNat 0) [(34, (.ofNat 1))]), .s [.c 40, .c 40, .c 40, .c 40, .c 40, .c 40, .a 0, .c 41, .c 41, .c 41, .c 41, .c 41, .c 41], .x .i64 (.mk (.ofNat 12) [(1, (.ofNat 1))]), .x .i64 (.mk (.ofNat 0) [(30, (.ofNat 1))]), .x .i64 (.mk (.ofNat 0) [(32, (.ofNat 1))]), .x .i64 (.mk (.ofNat 0) [(34, (.ofNat 1))]), .x .u32 (.mk (.ofNat 0) [(36, (.ofNat 1))]), .np, .np] true),
  (11327, .ce 161 [I 1, .x .i64 (.mk (.ofNat 11) [(1, (.ofNat 1))]), I 1, .i .i64 (.negSucc 0), .b true, .b false, I 0, .s [], .b false, .ns, I 0, I 0, .b false, .ns, .ns, .b false, .b false, .ns, .x .i64 (.mk (.ofNat 12) [(1, (.ofNat 1))]), .x .i64 (.mk (.ofNat 12) [(1, (.ofNat 1))]), I 0, .i .i64 (.negSucc 0), .b true, .b false, I 0, .s [], .b false, .ns, I 0, I 0, .b false, .ns, .ns, .b false, .b false, .ns] false),
  (11329, .ce 98 [I 0, .x .i64 (.mk (.ofNat 12) [(1, (.ofNat 1))]), .sl 11327 0 2 (.q 18)] false),
  (11349, .ce 161 [I 2, .x .i64 (.mk (.ofNat 10) [(1, (.ofNat 1))]), I 1, .i .i64 (.negSucc 0), .b true, .b false, I 0, .s [], .b false, .ns, I 0, I 0, .b false, .ns, .ns, .b false, .b false, .ns, .x .i64 (.mk (.ofNat 11) [(1, (.ofNat 1))]), .x .i64 (.mk (.ofNat 11) [(1, (.ofNat 1))]), I 0, .i .i64 (.negSucc 0), .b true, .b false, I 0, .s [], .b false, .ns, I 0, I 0, .b false, .ns, .ns, .b false, .b false, .ns] false),
  (11351, .ce 98 [I 1, .x .i64 (.mk (.ofNat 11) [(1, (.ofNat 1))]), .sl 11349 0 2 (.q 18)] false),
  (11371, .ce 161 [I 3, .x .i64 (.mk (.ofNat 9) [(1, (.ofNat 1))]), I 1, .i .i64 (.negSucc 0), .b true, .b false, I 0, .s [], .b false, .ns, I 0, I 0, .b false, .ns, .ns, .b false, .b false, .ns, .x .i64 (.mk (.ofNat 10) [(1, (.ofNat 1))]), .x .i64 (.mk (.ofNat 10) [(1, (.ofNat 1))]), I 0, .i .i64 (.negSucc 0), .b true, .b false, I 0, .s [], .b false, .ns, I 0, I 0, .b false, .ns, .ns, .b false, .b false, .ns] false),
  (11373, .ce 98 [I 2, .x .i64 (.mk (.ofNat 10) [(1, (.ofNat 1))]), .sl 11371 0 2 (.q 18)] false),
  (11393, .ce 161 [I 4, .x .i64 (.mk (.ofNat 8) [(1, (.ofNat 1))]), I 1, .i .i64 (.negSucc 0), .b true, .b false, I 0, .s [], .b false, .ns, I 0, I 0, .b false, .ns, .ns, .b false, .b false, .ns, .x .i64 (.mk (.ofNat 9) [(1, (.ofNat 1))]), .x .i64 (.mk (.ofNat 9) [(1, (.ofNat 1))]), I 0, .i .i64 (.negSucc 0), .b true, .b false, I 0, .s [], .b false, .ns, I 0, I 0, .b false, .ns, .ns, .b false, .b false, .ns] false),
  (11395, .ce 98 [I 3, .x .i64 (.mk (.ofNat 9) [(1, (.ofNat 1))]), .sl 11393 0 2 (.q 18)] false),
  (11415, .ce 161 [I 5, .x .i64 (.mk (.ofNat 7) [(1, (.ofNat 1))]), I 1, .i .i64 (.negSucc 0), .b true, .b false, I 0, .s [], .b false, .ns, I 0, I 0, .b false, .ns, .ns, .b false, .b false, .ns, .x .i64 (.mk (.ofNat 8) [(1, (.ofNat 1))]), .x .i64 (.mk (.ofNat 8) [(1, (.ofNat 1))]), I 0, .i .i64 (.negSucc 0), .b true, .b false, I 0, .s [], .b false, .ns, I 0, I 0, .b false, .ns, .ns, .b false, .b false, .ns] false),
  (11417, .ce 98 [I 4, .x .i64 (.mk (.ofNat 8) [(1, (.ofNat 1))]), .sl 11415 0 2 (.q 18)] false),
  (11437, .ce 161 [I 6, .x .i64 (.mk (.ofNat 6) [(1, (.ofNat 1))]), I 1, .i .i64 (.negSucc 0), .b true, .b false, I 0, .s [], .b false, .ns, I 0, I 0, .b false, .ns, .ns, .b false, .b false, .ns, .x .i64 (.mk (.ofNat 7) [(1, (.ofNat 1))]), .x .i64 (.mk (.ofNat 7) [(1, (.ofNat 1))]), I 0, .i .i64 (.negSucc 0), .b true, .b false, I 0, .s [], .b false, .ns, I 0, I 0, .b false, .ns, .ns, .b false, .b false, .ns] false),
  (11439, .ce 98 [I 5, .x .i64 (.mk (.ofNat 7) [(1, (.ofNat 1))]), .sl 11437 0 2 (.q 18)] false),
  (11441, .ce 93 [I 1, .sl 11329 0 1 (.q 3), I 1, .sl 11351 0 1 (.q 3), I 1, .sl 11373 0 1 (.q 3), I 1, .sl 11395 0 1 (.q 3), I 1, .sl 11417 0 1 (.q 3), I 0, .sl 11439 0 1 (.q 3)] false),
  (11466, .ce 48 [.s [], .sl 65 0 1 (.q 2), .ns, .s [.c 40, .c 120, .c 41], .sl 719 0 1 (.q 2), .sl 494 0 1 (.q 2), .s [.c 40, .c 40, .c 120, .c 41, .c 41], .sl 1794 0 1 (.q 2), .sl 1497 0 2 (.q 2), .s [.c 40, .c 40, .c 40, .c 120, .c 41, .c 41, .c 41], .sl 3203 0 1 (.q 2), .sl 2842 0 3 (.q 2), .s [.c 40, .c 40, .c 40, .c 40, .c 120, .c 41, .c 41, .c 41, .c 41], .sl 4946 0 1 (.q 2), .sl 4521 0 4 (.q 2), .s [.c 40, .c 40, .c 40, .c 40, .c 40, .c 120, .c 41, .c 41, .c 41, .c 41, .c 41], .sl 7023 0 1 (.q 2), .sl 6534 0 5 (.q 2), .s [.c 40, .c 40, .c 40, .c 40, .c 40, .c 40, .c 120, .c 41, .c 41, .c 41, .c 41, .c 41, .c 41], .sl 9385 0 1 (.q 2), .sl 8881 0 6 (.q 2), .s [.c 40, .c 40, .c 40, .c 40, .c 40, .c 40, .a 0, .c 41, .c 41, .c 41, .c 41, .c 41, .c 41], .sl 11134 0 1 (.q 2), .sl 10705 0 6 (.q 2)] false),
  (11477, .ce 53 [.x .i64 (.mk (.ofNat 7) [(1, (.ofNat 1))]), .x .i64 (.mk (.ofNat 7) [(1, (.ofNat 1))])] false)]
def lN6_2 : ML :=
  [(4, .ce 179 [.p 2 0, .p 10746 0] true),
  (6, .mp [] 0),
  (7, .ce 233 [.mp 6, I 0] true),
  (9, .ce 121 [.p 4 0, .p 7 0, .sl 11899 0 1 (.q 2)] true),
  (10, .ce 128 [I 100, .sl 11888 0 9 (.q 3), .ns] true),
  (11, .ce 69 [.p 9 0, .sl 11863 0 4 (.q 2), .ns, .p 10 0] true),
  (10746, .ce 258 [.x .i64 (.mk (.ofNat 12) [(1, (.ofNat 1))]), .x .i64 (.mk (.ofNat 0) [(30, (.ofNat 1))]), .x .i64 (.mk (.ofNat 0) [(32, (.ofNat 1))]), .x .i64 (.mk (.ofNat 0) [(34, (.ofNat 1))]), .s [.c 40, .c 40, .c 40, .c 40, .c 40, .c 40, .a 0, .c 41, .c 41, .c 41, .c 41, .c 41, .c 41], .x .i64 (.mk (.ofNat 12) [(1, (.ofNat 1))]), .x .i64 (.mk (.ofNat 0) [(30, (.ofNat 1))]), .x .i64 (.mk (.ofNat 0) [(32, (.ofNat 1))]), .x .i64 (.mk (.ofNat 0) [(34, (.ofNat 1))]), .x .u32 (.mk (.ofNat 0) [(36, (.ofNat 1))]), .np, .np] true),
  (11771, .ce 161 [I 1, .x .i64 (.mk (.ofNat 11) [(1, (.ofNat 1))]), I 1, .i .i64 (.negSucc 0), .b true, .b false, I 0, .s [], .b false, .ns, I 0, I 0, .b false, .ns, .ns, .b false, .b false, .ns, .x .i64 (.mk (.ofNat 12) [(1, (.ofNat 1))]), .x .i64 (.mk (.ofNat 12) [(1, (.ofNat 1))]), I 0, .i .i64 (.negSucc 0), .b true, .b false, I 0, .s [], .b false, .ns, I 0, I 0, .b false, .ns, .ns, .b false, .b false, .ns] false),
  (11773, .ce 98 [I 0, .x .i64 (.mk (.ofNat 12) [(1, (.ofNat 1))]), .sl 11771 0 2 (.q 18)] false),
  (11793, .ce 161 [I 2, .x .i64 (.mk (.ofNat 10) [(1, (.ofNat 1))]), I 1, .i .i64 (.negSucc 0), .b true, .b false, I 0, .s [], .b false, .ns, I 0, I 0, .b false, .ns, .ns, .b false, .b false, .ns, .x .i64 (.mk (.ofNat 11) [(1, (.ofNat 1))]), .x .i64 (.mk (.ofNat 11) [(1, (.ofNat 1))]), I 0, .i .i64 (.negSucc 0), .b true, .b false, I 0, .s [], .b false, .ns, I 0, I 0, .b false, .ns, .ns, .b false, .b false, .ns] false),
  (11795, .ce 98 [I 1, .x .i64 (.mk (.ofNat 11) [(1, (.ofNat 1))]), .sl 11793 0 2 (.q 18)] false),
  (11815, .ce 161 [I 3, .x .i64 (.mk (.ofNat 9) [(1, (.ofNat 1))]), I 1, .i .i64 (.negSucc 0), .b true, .b false, I 0, .s [], .b false, .ns, I 0, I 0, .b false, .ns, .ns, .b false, .b false, .ns, .x .i64 (.mk (.ofNat 10) [(1, (.ofNat 1))]), .x .i64 (.mk (.ofNat 10) [(1, (.ofNat 1))]), I 0, .i .i64 (.negSucc 0), .b true, .b false, I 0, .s [], .b false, .ns, I 0, I 0, .b false, .ns, .ns, .b false, .b false, .ns] false),
  (11817, .ce 98 [I 2, .x .i64 (.mk (.ofNat 10) [(1, (.ofNat 1))]), .sl 11815 0 2 (.q 18)] false),
  (11837, .ce 161 [I 4, .x .i64 (.mk (.ofNat 8) [(1, (.ofNat 1))]), I 1, .i .i64 (.negSucc 0), .b true, .b false, I 0, .s [], .b false, .ns, I 0, I 0, .b false, .ns, .ns, .b false, .b false, .ns, .x .i64 (.mk (.ofNat 9) [(1, (.ofNat 1))]), .x .i64 (.mk (.ofNat 9) [(1, (.ofNat 1))]), I 0, .i .i64 (.negSucc 0), .b true, .b false, I 0, .s [], .b false, .ns, I 0, I 0, .b false, .ns, .ns, .b false, .b false, .ns] false),
  (11839, .ce 98 [I 3, .x .i64 (.mk (.ofNat 9) [(1, (.ofNat 1))]), .sl 11837 0 2 (.q 18)] false),
  (11859, .ce 161 [I 5, .x .i64 (.mk (.ofNat 7) [(1, (.ofNat 1))]), I 1, .i .i64 (.negSucc 0), .b true, .b false, I 0, .s [], .b false, .ns, I 0, I 0, .b false, .ns, .ns, .b false, .b false, .ns, .x .i64 (.mk (.ofNat 8) [(1, (.ofNat 1))]), .x .i64 (.mk (.ofNat 8) [(1, (.ofNat 1))]), I 0, .i .i64 (.negSucc 0), .b true, .b false, I 0, .s [], .b false, .ns, I 0, I 0, .b false, .ns, .ns, .b false, .b false, .ns] false),
  (11861, .ce 98 [I 4, .x .i64 (.mk (.ofNat 8) [(1, (.ofNat 1))]), .sl 11859 0 2 (.q 18)] false),
  (11863, .ce 93 [I 1, .sl 11773 0 1 (.q 3), I 1, .sl 11795 0 1 (.q 3), I 1, .sl 11817 0 1 (.q 3), I 1, .sl 11839 0 1 (.q 3), I 0, .sl 11861 0 1 (.q 3)] false),
  (11888, .ce 48 [.s [], .sl 65 0 1 (.q 2), .ns, .s [.c 40, .c 120, .c 41], .sl 719 0 1 (.q 2), .sl 494 0 1 (.q 2), .s [.c 40, .c 40, .c 120, .c 41, .c 41], .sl 1794 0 1 (.q 2), .sl 1497 0 2 (.q 2), .s [.c 40, .c 40, .c 40, .c 120, .c 41, .c 41, .c 41], .sl 3203 0 1 (.q 2), .sl 2842 0 3 (.q 2), .s [.c 40, .c 40, .c 40, .c 40, .c 120, .c 41, .c 41, .c 41, .c 41], .sl 4946 0 1 (.q 2), .sl 4521 0 4 (.q 2), .s [.c 40, .c 40, .c 40, .c 40, .c 40, .c 120, .c 41, .c 41, .c 41, .c 41, .c 41], .sl 7023 0 1 (.q 2), .sl 6534 0 5 (.q 2), .s [.c 40, .c 40, .c 40, .c 40, .c 40, .c 40, .c 120, .c 41, .c 41, .c 41, .c 41, .c 41, .c 41], .sl 9385 0 1 (.q 2), .sl 8881 0 6 (.q 2), .s [.c 40, .c 40, .c 40, .c 40, .c 40, .c 40, .a 0, .c 41, .c 41, .c 41, .c 41, .c 41, .c 41], .sl 11134 0 1 (.q 2), .sl 10705 0 6 (.q 2), .s [.c 40, .c 40, .c 40, .c 40, .c 40, .c 40, .a 0, .c 41, .c 41, .c 41, .c 41, .c 41, .c 41], .sl 11603 0 1 (.q 2), .sl 11441 0 5 (.q 2)] false),
  (11899, .ce 53 [.x .i64 (.mk (.ofNat 8) [(1, (.ofNat 1))]), .x .i64 (.mk (.ofNat 8) [(1, (.ofNat 1))])] false)]
def lN6_3 : ML :=
  [(4, .ce 179 [.p 2 0, .p 10746 0] true),
  (6, .mp [] 0),
  (7, .ce 233 [.mp 6, I 0] true),
  (9, .ce 121 [.p 4 0, .p 7 0, .sl 12252 0 1 (.q 2)] true),
  (10, .ce 128 [I 100, .sl 12241 0 10 (.q 3), .ns] true),
  (11, .ce 69 [.p 9 0, .sl 12216 0 3 (.q 2), .ns, .p 10 0] true),
  (10746, .ce 258 [.x .i64 (.mk (.ofNat 12) [(1, (.ofNat 1))]), .x .i64 (.mk (.ofNat 0) [(30, (.ofNat 1))]), .x .i64 (.mk (.ofNat 0) [(32, (.ofNat 1))]), .x .i64 (.mk (.ofNat 0) [(34, (.ofNat 1))]), .s [.c 40, .c 40, .c 40, .c 40, .c 40, .c 40, .a 0, .c 41, .c 41, .c 41, .c 41, .c 41, .c 41], .x .i64 (.mk (.ofNat 12) [(1, (.ofNat 1))]), .x .i64 (.mk (.ofNat 0) [(30, (.ofNat 1))]), .x .i64 (.mk (.ofNat 0) [(32, (.ofNat 1))]), .x .i64 (.mk (.ofNat 0) [(34, (.ofNat 1))]), .x .u32 (.mk (.ofNat 0) [(36, (.ofNat 1))]), .np, .np] true),
  (12146, .ce 161 [I 1, .x .i64 (.mk (.ofNat 11) [(1, (.ofNat 1))]), I 1, .i .i64 (.negSucc 0), .b true, .b false, I 0, .s [], .b false, .ns, I 0, I 0, .b false, .ns, .ns, .b false, .b false, .ns, .x .i64 (.mk (.ofNat 12) [(1, (.ofNat 1))]), .x .i64 (.mk (.ofNat 12) [(1, (.ofNat 1))]), I 0, .i .i64 (.negSucc 0), .b true, .b false, I 0, .s [], .b false, .ns, I 0, I 0, .b false, .ns, .ns, .b false, .b false, .ns] false),
  (12148, .ce 98 [I 0, .x .i64 (.mk (.ofNat 12) [(1, (.ofNat 1))]), .sl 12146 0 2 (.q 18)] false),
  (12168, .ce 161 [I 2, .x .i64 (.mk (.ofNat 10) [(1, (.ofNat 1))]), I 1, .i .i64 (.negSucc 0), .b true, .b false, I 0, .s [], .b false, .ns, I 0, I 0, .b false, .ns, .ns, .b false, .b false, .ns, .x .i64 (.mk (.ofNat 11) [(1, (.ofNat 1))]), .x .i64 (.mk (.ofNat 11) [(1, (.ofNat 1))]), I 0, .i .i64 (.negSucc 0), .b true, .b false, I 0, .s [], .b false, .ns, I 0, I 0, .b false, .ns, .ns, .b false, .b false, .ns] false),
  (12170, .ce 98 [I 1, .x .i64 (.mk (.ofNat 11) [(1, (.ofNat 1))]), .sl 12168 0 2 (.q 18)] false),
  (12190, .ce 161 [I 3, .x .i64 (.mk (.ofNat 9) [(1, (.ofNat 1))]), I 1, .i .i64 (.negSucc 0), .b true, .b false, I 0, .s [], .b false, .ns, I 0, I 0, .b false, .ns, .ns, .b false, .b false, .ns, .x .i64 (.mk (.ofNat 10) [(1, (.ofNat 1))]), .x .i64 (.mk (.ofNat 10) [(1, (.ofNat 1))]), I 0, .i .i64 (.negSucc 0), .b true, .b false, I 0, .s [], .b false, .ns, I 0, I 0, .b false, .ns, .ns, .b false, .b false, .ns] false),
  (12192, .ce 98 [I 2, .x .i64 (.mk (.ofNat 10) [(1, (.ofNat 1))]), .sl 12190 0 2 (.q 18)] false),
  (12212, .ce 161 [I 4, .x .i64 (.mk (.ofNat 8) [(1, (.ofNat 1))]), I 1, .i .i64 (.negSucc 0), .b true, .b false, I 0, .s [], .b false, .ns, I 0, I 0, .b false, .ns, .ns, .b false, .b false, .ns, .x .i64 (.mk (.ofNat 9) [(1, (.ofNat 1))]), .x .i64 (.mk (.ofNat 9) [(1, (.ofNat 1))]), I 0, .i .i64 (.negSucc 0), .b true, .b false, I 0, .s [], .b false, .ns, I 0, I 0, .b false, .ns, .ns, .b false, .b false, .ns] false),
  (12214, .ce 98 [I 3, .x .i64 (.mk (.ofNat 9) [(1, (.ofNat 1))]), .sl 12212 0 2 (.q 18)] false),
  (12216, .ce 93 [I 1, .sl 12148 0 1 (.q 3), I 1, .sl 12170 0 1 (.q 3), I 1, .sl 12192 0 1 (.q 3), I 0, .sl 12214 0 1 (.q 3)] false),
  (12241, .ce 48 [.s [], .sl 65 0 1 (.q 2), .ns, .s [.c 40, .c 120, .c 41], .sl 719 0 1 (.q 2), .sl 494 0 1 (.q 2), .s [.c 40, .c 40, .c 120, .c 41, .c 41], .sl 1794 0 1 (.q 2), .sl 1497 0 2 (.q 2), .s [.c 40, .c 40, .c 40, .c 120, .c 41, .c 41, .c 41], .sl 3203 0 1 (.q 2), .sl 2842 0 3 (.q 2), .s [.c 40, .c 40, .c 40, .c 40, .c 120, .c 41, .c 41, .c 41, .c 41], .sl 4946 0 1 (.q 2), .sl 4521 0 4 (.q 2), .s [.c 40, .c 40, .c 40, .c 40, .c 40, .c 120, .c 41, .c 41, .c 41, .c 41, .c 41], .sl 7023 0 1 (.q 2), .sl 6534 0 5 (.q 2), .s [.c 40, .c 40, .c 40, .c 40, .c 40, .c 40, .c 120, .c 41, .c 41, .c 41, .c 41, .c 41, .c 41], .sl 9385 0 1 (.q 2), .sl 8881 0 6 (.q 2), .s [.c 40, .c 40, .c 40, .c 40, .c 40, .c 40, .a 0, .c 41, .c 41, .c 41, .c 41, .c 41, .c 41], .sl 11134 0 1 (.q 2), .sl 10705 0 6 (.q 2), .s [.c 40, .c 40, .c 40, .c 40, .c 40, .c 40, .a 0, .c 41, .c 41, .c 41, .c 41, .c 41, .c 41], .sl 11603 0 1 (.q 2), .sl 11441 0 5 (.q 2), .s [.c 40, .c 40, .c 40, .c 40, .c 40, .c 40, .a 0, .c 41, .c 41, .c 41, .c 41, .c 41, .c 41], .sl 12003 0 1 (.q 2), .sl 11863 0 4 (.q 2)] false),
  (12252, .ce 53 [.x .i64 (.mk (.ofNat 9) [(1, (.ofNat 1))]), .x .i64 (.mk (.ofNat 9) [(1, (.ofNat 1))])] false)]
def lN6_4 : ML :=
  [(4, .ce 179 [.p 2 0, .p 10746 0] true),
  (6, .mp [] 0),
  (7, .ce 233 [.mp 6, I 0] true),
  (9, .ce 121 [.p 4 0, .p 7 0, .sl 12536 0 1 (.q 2)] true),
  (10, .ce 128 [I 100, .sl 12525 0 11 (.q 3), .ns] true),
  (11, .ce 69 [.p 9 0, .sl 12500 0 2 (.q 2), .ns, .p 10 0] true),
  (10746, .ce 258 [.x .i64 (.mk (.ofNat 12) [(1, (.ofNat 1))]), .x .i64 (.mk (.ofNat 0) [(30, (.ofNat 1))]), .x .i64 (.mk (.ofNat 0) [(32, (.ofNat 1))]), .x .i64 (.mk (.ofNat 0) [(34, (.ofNat 1))]), .s [.c 40, .c 40, .c 40, .c 40, .c 40, .c 40, .a 0, .c 41, .c 41, .c 41, .c 41, .c 41, .c 41], .x .i64 (.mk (.ofNat 12) [(1, (.ofNat 1))]), .x .i64 (.mk (.ofNat 0) [(30, (.ofNat 1))]), .x .i64 (.mk (.ofNat 0) [(32, (.ofNat 1))]), .x .i64 (.mk (.ofNat 0) [(34, (.ofNat 1))]), .x .u32 (.mk (.ofNat 0) [(36, (.ofNat 1))]), .np, .np] true),
  (12452, .ce 161 [I 1, .x .i64 (.mk (.ofNat 11) [(1, (.ofNat 1))]), I 1, .i .i64 (.negSucc 0), .b true, .b false, I 0, .s [], .b false, .ns, I 0, I 0, .b false, .ns, .ns, .b false, .b false, .ns, .x .i64 (.mk (.ofNat 12) [(1, (.ofNat 1))]), .x .i64 (.mk (.ofNat 12) [(1, (.ofNat 1))]), I 0, .i .i64 (.negSucc 0), .b true, .b false, I 0, .s [], .b false, .ns, I 0, I 0, .b false, .ns, .ns, .b false, .b false, .ns] false),
  (12454, .ce 98 [I 0, .x .i64 (.mk (.ofNat 12) [(1, (.ofNat 1))]), .sl 12452 0 2 (.q 18)] false),
  (12474, .ce 161 [I 2, .x .i64 (.mk (.ofNat 10) [(1, (.ofNat 1))]), I 1, .i .i64 (.negSucc 0), .b true, .b false, I 0, .s [], .b false, .ns, I 0, I 0, .b false, .ns, .ns, .b false, .b false, .ns, .x .i64 (.mk (.ofNat 11) [(1, (.ofNat 1))]), .x .i64 (.mk (.ofNat 11) [(1, (.ofNat 1))]), I 0, .i .i64 (.negSucc 0), .b true, .b false, I 0, .s [], .b false, .ns, I 0, I 0, .b false, .ns, .ns, .b false, .b false, .ns] false),
  (12476, .ce 98 [I 1, .x .i64 (.mk (.ofNat 11) [(1, (.ofNat 1))]), .sl 12474 0 2 (.q 18)] false),
  (12496, .ce 161 [I 3, .x .i64 (.mk (.ofNat 9) [(1, (.ofNat 1))]), I 1, .i .i64 (.negSucc 0), .b true, .b false, I 0, .s [], .b false, .ns, I 0, I 0, .b false, .ns, .ns, .b false, .b false, .ns, .x .i64 (.mk (.ofNat 10) [(1, (.ofNat 1))]), .x .i64 (.mk (.ofNat 10) [(1, (.ofNat 1))]), I 0, .i .i64 (.negSucc 0), .b true, .b false, I 0, .s [], .b false, .ns, I 0, I 0, .b false, .ns, .ns, .b false, .b false, .ns] false),
  (12498, .ce 98 [I 2, .x .i64 (.mk (.ofNat 10) [(1, (.ofNat 1))]), .sl 12496 0 2 (.q 18)] false),
  (12500, .ce 93 [I 1, .sl 12454 0 1 (.q 3), I 1, .sl 12476 0 1 (.q 3), I 0, .sl 12498 0 1 (.q 3)] false),
  (12525, .ce 48 [.s [], .sl 65 0 1 (.q 2), .ns, .s [.c 40, .c 120, .c 41], .sl 719 0 1 (.q 2), .sl 494 0 1 (.q 2), .s [.c 40, .c 40, .c 120, .c 41, .c 41], .sl 1794 0 1 (.q 2), .sl 1497 0 2 (.q 2), .s [.c 40, .c 40, .c 40, .c 120, .c 41, .c 41, .c 41], .sl 3203 0 1 (.q 2), .sl 2842 0 3 (.q 2), .s [.c 40, .c 40, .c 40, .c 40, .c 120, .c 41, .c 41, .c 41, .c 41], .sl 4946 0 1 (.q 2), .sl 4521 0 4 (.q 2), .s [.c 40, .c 40, .c 40, .c 40, .c 40, .c 120, .c 41, .c 41, .c 41, .c 41, .c 41], .sl 7023 0 1 (.q 2), .sl 6534 0 5 (.q 2), .s [.c 40, .c 40, .c 40, .c 40, .c 40, .c 40, .c 120, .c 41, .c 41, .c 41, .c 41, .c 41, .c 41], .sl 9385 0 1 (.q 2), .sl 8881 0 6 (.q 2), .s [.c 40, .c 40, .c 40, .c 40, .c 40, .c 40, .a 0, .c 41, .c 41, .c 41, .c 41, .c 41, .c 41], .sl 11134 0 1 (.q 2), .sl 10705 0 6 (.q 2), .s [.c 40, .c 40, .c 40, .c 40, .c 40, .c 40, .a 0, .c 41, .c 41, .c 41, .c 41, .c 41, .c 41], .sl 11603 0 1 (.q 2), .sl 11441 0 5 (.q 2), .s [.c 40, .c 40, .c 40, .c 40, .c 40, .c 40, .a 0, .c 41, .c 41, .c 41, .c 41, .c 41, .c 41], .sl 12003 0 1 (.q 2), .sl 11863 0 4 (.q 2), .s [.c 40, .c 40, .c 40, .c 40, .c 40, .c 40, .a 0, .c 41, .c 41, .c 41, .c 41, .c 41, .c 41], .sl 12334 0 1 (.q 2), .sl 12216 0 3 (.q 2)] false),
  (12536, .ce 53 [.x .i64 (.mk (.ofNat 10) [(1, (.ofNat 1))]), .x .i64 (.mk (.ofNat 10) [(1, (.ofNat 1))])] false)]
def lN6_5 : ML :=
  [(4, .ce 179 [.p 2 0, .p 10746 0] true),
  (6, .mp [] 0),
  (7, .ce 233 [.mp 6, I 0] true),
  (9, .ce 121 [.p 4 0, .p 7 0, .sl 12751 0 1 (.q 2)] true),
  (10, .ce 128 [I 100, .sl 12740 0 12 (.q 3), .ns] true),
  (11, .ce 69 [.p 9 0, .sl 12715 0 1 (.q 2), .ns, .p 10 0] true),
  (10746, .ce 258 [.x .i64 (.mk (.ofNat 12) [(1, (.ofNat 1))]), .x .i64 (.mk (.ofNat 0) [(30, (.ofNat 1))]), .x .i64 (.mk (.ofNat 0) [(32, (.ofNat 1))]), .x .i64 (.mk (.ofNat 0) [(34, (.ofNat 1))]), .s [.c 40, .c 40, .c 40, .c 40, .c 40, .c 40, .a 0, .c 41, .c 41, .c 41, .c 41, .c 41, .c 41], .x .i64 (.mk (.ofNat 12) [(1, (.ofNat 1))]), .x .i64 (.mk (.ofNat 0) [(30, (.ofNat 1))]), .x .i64 (.mk (.ofNat 0) [(32, (.ofNat 1))]), .x .i64 (.mk (.ofNat 0) [(34, (.ofNat 1))]), .x .u32 (.mk (.ofNat 0) [(36, (.ofNat 1))]), .np, .np] true),
  (12689, .ce 161 [I 1, .x .i64 (.mk (.ofNat 11) [(1, (.ofNat 1))]), I 1, .i .i64 (.negSucc 0), .b true, .b false, I 0, .s [], .b false, .ns, I 0, I 0, .b false, .ns, .ns, .b false, .b false, .ns, .x .i64 (.mk (.ofNat 12) [(1, (.ofNat 1))]), .x .i64 (.mk (.ofNat 12) [(1, (.ofNat 1))]), I 0, .i .i64 (.negSucc 0), .b true, .b false, I 0, .s [], .b false, .ns, I 0, I 0, .b false, .ns, .ns, .b false, .b false, .ns] false),
  (12691, .ce 98 [I 0, .x .i64 (.mk (.ofNat 12) [(1, (.ofNat 1))]), .sl 12689 0 2 (.q 18)] false),
  (12711, .ce 161 [I 2, .x .i64 (.mk (.ofNat 10) [(1, (.ofNat 1))]), I 1, .i .i64 (.negSucc 0), .b true, .b false, I 0, .s [], .b false, .ns, I 0, I 0, .b false, .ns, .ns, .b false, .b false, .ns, .x .i64 (.mk (.ofNat 11) [(1, (.ofNat 1))]), .x .i64 (.mk (.ofNat 11) [(1, (.ofNat 1))]), I 0, .i .i64 (.negSucc 0), .b true, .b false, I 0, .s [], .b false, .ns, I 0, I 0, .b false, .ns, .ns, .b false, .b false, .ns] false),
  (12713, .ce 98 [I 1, .x .i64 (.mk (.ofNat 11) [(1, (.ofNat 1))]), .sl 12711 0 2 (.q 18)] false),
  (12715, .ce 93 [I 1, .sl 12691 0 1 (.q 3), I 0, .sl 12713 0 1 (.q 3)] false),
  (12740, .ce 48 [.s [], .sl 65 0 1 (.q 2), .ns, .s [.c 40, .c 120, .c 41], .sl 719 0 1 (.q 2), .sl 494 0 1 (.q 2), .s [.c 40, .c 40, .c 120, .c 41, .c 41], .sl 1794 0 1 (.q 2), .sl 1497 0 2 (.q 2), .s [.c 40, .c 40, .c 40, .c 120, .c 41, .c 41, .c 41], .sl 3203 0 1 (.q 2), .sl 2842 0 3 (.q 2), .s [.c 40, .c 40, .c 40, .c 40, .c 120, .c 41, .c 41, .c 41, .c 41], .sl 4946 0 1 (.q 2), .sl 4521 0 4 (.q 2), .s [.c 40, .c 40, .c 40, .c 40, .c 40, .c 120, .c 41, .c 41, .c 41, .c 41, .c 41], .sl 7023 0 1 (.q 2), .sl 6534 0 5 (.q 2), .s [.c 40, .c 40, .c 40, .c 40, .c 40, .c 40, .c 120, .c 41, .c 41, .c 41, .c 41, .c 41, .c 41], .sl 9385 0 1 (.q 2), .sl 8881 0 6 (.q 2), .s [.c 40, .c 40, .c 40, .c 40, .c 40, .c 40, .a 0, .c 41, .c 41, .c 41, .c 41, .c 41, .c 41], .sl 11134 0 1 (.q 2), .sl 10705 0 6 (.q 2), .s [.c 40, .c 40, .c 40, .c 40, .c 40, .c 40, .a 0, .c 41, .c 41, .c 41, .c 41, .c 41, .c 41], .sl 11603 0 1 (.q 2), .sl 11441 0 5 (.q 2), .s [.c 40, .c 40, .c 40, .c 40, .c 40, .c 40, .a 0, .c 41, .c 41, .c 41, .c 41, .c 41, .c 41], .sl 12003 0 1 (.q 2), .sl 11863 0 4 (.q 2), .s [.c 40, .c 40, .c 40, .c 40, .c 40, .c 40, .a 0, .c 41, .c 41, .c 41, .c 41, .c 41, .c 41], .sl 12334 0 1 (.q 2), .sl 12216 0 3 (.q 2), .s [.c 40, .c 40, .c 40, .c 40, .c 40, .c 40, .a 0, .c 41, .c 41, .c 41, .c 41, .c 41, .c 41], .sl 12596 0 1 (.q 2), .sl 12500 0 2 (.q 2)] false),
  (12751, .ce 53 [.x .i64 (.mk (.ofNat 11) [(1, (.ofNat 1))]), .x .i64 (.mk (.ofNat 11) [(1, (.ofNat 1))])] false)]
def lN6_6 : ML :=
  [(4, .ce 179 [.p 2 0, .p 10746 0] true),
  (6, .mp [] 0),
  (7, .ce 233 [.mp 6, I 0] true),
  (9, .ce 121 [.p 4 0, .p 7 0, .sl 12897 0 1 (.q 2)] true),
  (10, .ce 128 [I 100, .sl 12886 0 13 (.q 3), .ns] true),
  (11, .ce 69 [.p 9 0, .sl 12861 0 0 (.q 2), .ns, .p 10 0] true),
  (10746, .ce 258 [.x .i64 (.mk (.ofNat 12) [(1, (.ofNat 1))]), .x .i64 (.mk (.ofNat 0) [(30, (.ofNat 1))]), .x .i64 (.mk (.ofNat 0) [(32, (.ofNat 1))]), .x .i64 (.mk (.ofNat 0) [(34, (.ofNat 1))]), .s [.c 40, .c 40, .c 40, .c 40, .c 40, .c 40, .a 0, .c 41, .c 41, .c 41, .c 41, .c 41, .c 41], .x .i64 (.mk (.ofNat 12) [(1, (.ofNat 1))]), .x .i64 (.mk (.ofNat 0) [(30, (.ofNat 1))]), .x .i64 (.mk (.ofNat 0) [(32, (.ofNat 1))]), .x .i64 (.mk (.ofNat 0) [(34, (.ofNat 1))]), .x .u32 (.mk (.ofNat 0) [(36, (.ofNat 1))]), .np, .np] true),
  (12857, .ce 161 [I 1, .x .i64 (.mk (.ofNat 11) [(1, (.ofNat 1))]), I 1, .i .i64 (.negSucc 0), .b true, .b false, I 0, .s [], .b false, .ns, I 0, I 0, .b false, .ns, .ns, .b false, .b false, .ns, .x .i64 (.mk (.ofNat 12) [(1, (.ofNat 1))]), .x .i64 (.mk (.ofNat 12) [(1, (.ofNat 1))]), I 0, .i .i64 (.negSucc 0), .b true, .b false, I 0, .s [], .b false, .ns, I 0, I 0, .b false, .ns, .ns, .b false, .b false, .ns] false),
  (12859, .ce 98 [I 0, .x .i64 (.mk (.ofNat 12) [(1, (.ofNat 1))]), .sl 12857 0 2 (.q 18)] false),
  (12861, .ce 93 [I 0, .sl 12859 0 1 (.q 3)] false),
  (12886, .ce 48 [.s [], .sl 65 0 1 (.q 2), .ns, .s [.c 40, .c 120, .c 41], .sl 719 0 1 (.q 2), .sl 494 0 1 (.q 2), .s [.c 40, .c 40, .c 120, .c 41, .c 41], .sl 1794 0 1 (.q 2), .sl 1497 0 2 (.q 2), .s [.c 40, .c 40, .c 40, .c 120, .c 41, .c 41, .c 41], .sl 3203 0 1 (.q 2), .sl 2842 0 3 (.q 2), .s [.c 40, .c 40, .c 40, .c 40, .c 120, .c 41, .c 41, .c 41, .c 41], .sl 4946 0 1 (.q 2), .sl 4521 0 4 (.q 2), .s [.c 40, .c 40, .c 40, .c 40, .c 40, .c 120, .c 41, .c 41, .c 41, .c 41, .c 41], .sl 7023 0 1 (.q 2), .sl 6534 0 5 (.q 2), .s [.c 40, .c 40, .c 40, .c 40, .c 40, .c 40, .c 120, .c 41, .c 41, .c 41, .c 41, .c 41, .c 41], .sl 9385 0 1 (.q 2), .sl 8881 0 6 (.q 2), .s [.c 40, .c 40, .c 40, .c 40, .c 40, .c 40, .a 0, .c 41, .c 41, .c 41, .c 41, .c 41, .c 41], .sl 11134 0 1 (.q 2), .sl 10705 0 6 (.q 2), .s [.c 40, .c 40, .c 40, .c 40, .c 40, .c 40, .a 0, .c 41, .c 41, .c 41, .c 41, .c 41, .c 41], .sl 11603 0 1 (.q 2), .sl 11441 0 5 (.q 2), .s [.c 40, .c 40, .c 40, .c 40, .c 40, .c 40, .a 0, .c 41, .c 41, .c 41, .c 41, .c 41, .c 41], .sl 12003 0 1 (.q 2), .sl 11863 0 4 (.q 2), .s [.c 40, .c 40, .c 40, .c 40, .c 40, .c 40, .a 0, .c 41, .c 41, .c 41, .c 41, .c 41, .c 41], .sl 12334 0 1 (.q 2), .sl 12216 0 3 (.q 2), .s [.c 40, .c 40, .c 40, .c 40, .c 40, .c 40, .a 0, .c 41, .c 41, .c 41, .c 41, .c 41, .c 41], .sl 12596 0 1 (.q 2), .sl 12500 0 2 (.q 2), .s [.c 40, .c 40, .c 40, .c 40, .c 40, .c 40, .a 0, .c 41, .c 41, .c 41, .c 41, .c 41, .c 41], .sl 12789 0 1 (.q 2), .sl 12715 0 1 (.q 2)] false),
  (12897, .ce 53 [.x .i64 (.mk (.ofNat 12) [(1, (.ofNat 1))]), .x .i64 (.mk (.ofNat 12) [(1, (.ofNat 1))])] false)]
def lI7 : ML :=
  [(1, .ce 59 [.i .u32 (.ofNat 6), .i .u32 (.ofNat 5), .i .u32 (.ofNat 4)] false),
  (2, .ce 88 [.sl 1 0 3 (.q 1), I 3, .i .u32 (.ofNat 3485759038)] true),
  (4, .ce 179 [.p 2 0, .p 11766 0] true),
  (6, .mp [] 0),
  (7, .ce 233 [.mp 6, I 0] true),
  (9, .ce 121 [.p 4 0, .p 7 0, .sl 11798 0 1 (.q 2)] true),
  (10, .ce 128 [I 100, .sl 11587 0 7 (.q 3), .ns] true),
  (11, .ce 69 [.p 9 0, .sl 11562 0 7 (.q 2), .ns, .p 10 0] true),
  (11426, .ce 161 [I 1, I 14, I 1, .i .i64 (.negSucc 0), .b true, .b false, I 0, .s [], .b false, .ns, I 0, I 0, .b false, .ns, .ns, .b false, .b false, .ns, I 15, I 15, I 0, .i .i64 (.negSucc 0), .b true, .b false, I 0, .s [], .b false, .ns, I 0, I 0, .b false, .ns, .ns, .b false, .b false, .ns] false),
  (11428, .ce 98 [I 0, I 15, .sl 11426 0 2 (.q 18)] false),
  (11448, .ce 161 [I 2, I 13, I 1, .i .i64 (.negSucc 0), .b true, .b false, I 0, .s [], .b false, .ns, I 0, I 0, .b false, .ns, .ns, .b false, .b false, .ns, I 14, I 14, I 0, .i .i64 (.negSucc 0), .b true, .b false, I 0, .s [], .b false, .ns, I 0, I 0, .b false, .ns, .ns, .b false, .b false, .ns] false),
  (11450, .ce 98 [I 1, I 14, .sl 11448 0 2 (.q 18)] false),
  (11470, .ce 161 [I 3, I 12, I 1, .i .i64 (.negSucc 0), .b true, .b false, I 0, .s [], .b false, .ns, I 0, I 0, .b false, .ns, .ns, .b false, .b false, .ns, I 13, I 13, I 0, .i .i64 (.negSucc 0), .b true, .b false, I 0, .s [], .b false, .ns, I 0, I 0, .b false, .ns, .ns, .b false, .b false, .ns] false),
  (11472, .ce 98 [I 2, I 13, .sl 11470 0 2 (.q 18)] false),
  (11492, .ce 161 [I 4, I 11, I 1, .i .i64 (.negSucc 0), .b true, .b false, I 0, .s [], .b false, .ns, I 0, I 0, .b false, .ns, .ns, .b false, .b false, .ns, I 12, I 12, I 0, .i .i64 (.negSucc 0), .b true, .b false, I 0, .s [], .b false, .ns, I 0, I 0, .b false, .ns, .ns, .b false, .b false, .ns] false),
  (11494, .ce 98 [I 3, I 12, .sl 11492 0 2 (.q 18)] false),
  (11514, .ce 161 [I 5, I 10, I 1, .i .i64 (.negSucc 0), .b true, .b false, I 0, .s [], .b false, .ns, I 0, I 0, .b false, .ns, .ns, .b false, .b false, .ns, I 11, I 11, I 0, .i .i64 (.negSucc 0), .b true, .b false, I 0, .s [], .b false, .ns, I 0, I 0, .b false, .ns, .ns, .b false, .b false, .ns] false),
  (11516, .ce 98 [I 4, I 11, .sl 11514 0 2 (.q 18)] false),
  (11536, .ce 161 [I 6, I 9, I 1, .i .i64 (.negSucc 0), .b true, .b false, I 0, .s [], .b false, .ns, I 0, I 0, .b false, .ns, .ns, .b false, .b false, .ns, I 10, I 10, I 0, .i .i64 (.negSucc 0), .b true, .b false, I 0, .s [], .b false, .ns, I 0, I 0, .b false, .ns, .ns, .b false, .b false, .ns] false),
  (11538, .ce 98 [I 5, I 10, .sl 11536 0 2 (.q 18)] false),
  (11558, .ce 161 [I 7, I 8, I 1, .i .i64 (.negSucc 0), .b true, .b false, I 0, .s [], .b false, .ns, I 0, I 0, .b false, .ns, .ns, .b false, .b false, .ns, I 9, I 9, I 0, .i .i64 (.negSucc 0), .b true, .b false, I 0, .s [], .b false, .ns, I 0, I 0, .b false, .ns, .ns, .b false, .b false, .ns] false),
  (11560, .ce 98 [I 6, I 9, .sl 11558 0 2 (.q 18)] false),
  (11562, .ce 93 [I 1, .sl 11428 0 1 (.q 3), I 1, .sl 11450 0 1 (.q 3), I 1, .sl 11472 0 1 (.q 3), I 1, .sl 11494 0 1 (.q 3), I 1, .sl 11516 0 1 (.q 3), I 1, .sl 11538 0 1 (.q 3), I 1, .sl 11560 0 1 (.q 3)] false),
  (11587, .ce 48 [.s [], .sl 65 0 1 (.q 2), .ns, .s [.c 40, .c 120, .c 41], .sl 719 0 1 (.q 2), .sl 494 0 1 (.q 2), .s [.c 40, .c 40, .c 120, .c 41, .c 41], .sl 1794 0 1 (.q 2), .sl 1497 0 2 (.q 2), .s [.c 40, .c 40, .c 40, .c 120, .c 41, .c 41, .c 41], .sl 3203 0 1 (.q 2), .sl 2842 0 3 (.q 2), .s [.c 40, .c 40, .c 40, .c 40, .c 120, .c 41, .c 41, .c 41, .c 41], .sl 4946 0 1 (.q 2), .sl 4521 0 4 (.q 2), .s [.c 40, .c 40, .c 40, .c 40, .c 40, .c 120, .c 41, .c 41, .c 41, .c 41, .c 41], .sl 7023 0 1 (.q 2), .sl 6534 0 5 (.q 2), .s [.c 40, .c 40, .c 40, .c 40, .c 40, .c 40, .c 120, .c 41, .c 41, .c 41, .c 41, .c 41, .c 41], .sl 9434 0 1 (.q 2), .sl 8881 0 6 (.q 2)] false),
  (11766, .ce 258 [I 15, I 0, I 15, I 15, .s [.c 40, .c 40, .c 40, .c 40, .c 40, .c 40, .c 40, .c 120, .c 41, .c 41, .c 41, .c 41, .c 41, .c 41, .c 41], I 15, I 0, I 15, I 15, .i .u32 (.ofNat 3485759038), .np, .np] true),
  (11798, .ce 53 [I 7, I 8] false)]
def lSa7 : ML :=
  [(1, .ce 59 [.i .u32 (.ofNat 6), .i .u32 (.ofNat 5), .i .u32 (.ofNat 4)] false),
  (2, .ce 88 [.sl 1 0 3 (.q 1), I 3, .i .u32 (.ofNat 3485759038)] true),
  (4, .ce 179 [.p 2 0, .p 11766 0] true),
  (6, .mp [] 0),
  (7, .ce 233 [.mp 6, I 0] true),
  (9, .ce 121 [.p 4 0, .p 7 0, .sl 11798 0 1 (.q 2)] true),
  (11766, .ce 258 [.x .i64 (.mk (.ofNat 0) [(5, (.ofNat 1)), (9, (.ofNat 1)), (13, (.ofNat 1))]), I 0, I 15, I 15, .s [.a 1, .a 2, .a 3], .x .i64 (.mk (.ofNat 0) [(5, (.ofNat 1)), (9, (.ofNat 1)), (13, (.ofNat 1))]), I 0, I 15, I 15, .i .u32 (.ofNat 3485759038), .np, .np] true),
  (11798, .ce 53 [I 7, I 8] false),
  (13669, .ce 142 [.x .i64 (.mk (.ofNat 0) [(5, (.ofNat 1))]), .x .i64 (.mk (.ofNat 0) [(5, (.ofNat 1)), (9, (.ofNat 1))]), .s [.a 4]] true)]
def lSb7 : ML :=
  [(4, .ce 179 [.p 2 0, .p 13701 0] true),
  (6, .mp [] 0),
  (7, .ce 233 [.mp 6, I 0] true),
  (9, .ce 121 [.p 4 0, .p 7 0, .sl 13724 0 1 (.q 2)] true),
  (13701, .ce 258 [.x .i64 (.mk (.ofNat 14) [(1, (.ofNat 1))]), .x .i64 (.mk (.ofNat 0) [(30, (.ofNat 1))]), .x .i64 (.mk (.ofNat 0) [(32, (.ofNat 1))]), .x .i64 (.mk (.ofNat 0) [(34, (.ofNat 1))]), .s [.c 40, .c 40, .c 40, .c 40, .c 40, .c 40, .c 40, .a 0, .c 41, .c 41, .c 41, .c 41, .c 41, .c 41, .c 41], .x .i64 (.mk (.ofNat 14) [(1, (.ofNat 1))]), .x .i64 (.mk (.ofNat 0) [(30, (.ofNat 1))]), .x .i64 (.mk (.ofNat 0) [(32, (.ofNat 1))]), .x .i64 (.mk (.ofNat 0) [(34, (.ofNat 1))]), .x .u32 (.mk (.ofNat 0) [(36, (.ofNat 1))]), .np, .np] true)]
def lT7 : ML :=
  [(4, .ce 179 [.p 2 0, .p 13701 0] true),
  (6, .mp [] 0),
  (7, .ce 233 [.mp 6, I 0] true),
  (9, .ce 121 [.p 4 0, .p 7 0, .sl 13742 0 1 (.q 2)] true),
  (10, .ce 128 [I 100, .sl 13666 0 8 (.q 3), .ns] true),
  (11, .ce 69 [.p 9 0, .sl 13660 0 7 (.q 2), .ns, .p 10 0] true),
  (13524, .ce 161 [I 1, .x .i64 (.mk (.ofNat 13) [(1, (.ofNat 1))]), I 1, .i .i64 (.negSucc 0), .b true, .b false, I 0, .s [], .b false, .ns, I 0, I 0, .b false, .ns, .ns, .b false, .b false, .ns, .x .i64 (.mk (.ofNat 14) [(1, (.ofNat 1))]), .x .i64 (.mk (.ofNat 14) [(1, (.ofNat 1))]), I 0, .i .i64 (.negSucc 0), .b true, .b false, I 0, .s [], .b false, .ns, I 0, I 0, .b false, .ns, .ns, .b false, .b false, .ns] false),
  (13526, .ce 98 [I 0, .x .i64 (.mk (.ofNat 14) [(1, (.ofNat 1))]), .sl 13524 0 2 (.q 18)] false),
  (13546, .ce 161 [I 2, .x .i64 (.mk (.ofNat 12) [(1, (.ofNat 1))]), I 1, .i .i64 (.negSucc 0), .b true, .b false, I 0, .s [], .b false, .ns, I 0, I 0, .b false, .ns, .ns, .b false, .b false, .ns, .x .i64 (.mk (.ofNat 13) [(1, (.ofNat 1))]), .x .i64 (.mk (.ofNat 13) [(1, (.ofNat 1))]), I 0, .i .i64 (.negSucc 0), .b true, .b false, I 0, .s [], .b false, .ns, I 0, I 0, .b false, .ns, .ns, .b false, .b false, .ns] false),
  (13548, .ce 98 [I 1, .x .i64 (.mk (.ofNat 13) [(1, (.ofNat 1))]), .sl 13546 0 2 (.q 18)] false),
  (13568, .ce 161 [I 3, .x .i64 (.mk (.ofNat 11) [(1, (.ofNat 1))]), I 1, .i .i64 (.negSucc 0), .b true, .b false, I 0, .s [], .b false, .ns, I 0, I 0, .b false, .ns, .ns, .b false, .b false, .ns, .x .i64 (.mk (.ofNat 12) [(1, (.ofNat 1))]), .x .i64 (.mk (.ofNat 12) [(1, (.ofNat 1))]), I 0, .i .i64 (.negSucc 0), .b true, .b false, I 0, .s [], .b false, .ns, I 0, I 0, .b false, .ns, .ns, .b false, .b false, .ns] false),
  (13570, .ce 98 [I 2, .x .i64 (.mk (.ofNat 12) [(1, (.ofNat 1))]), .sl 13568 0 2 (.q 18)] false),
  (13590, .ce 161 [I 4, .x .i64 (.mk (.ofNat 10) [(1, (.ofNat 1))]), I 1, .i .i64 (.negSucc 0), .b true, .b false, I 0, .s [], .b false, .ns, I 0, I 0, .b false, .ns, .ns, .b false, .b false, .ns, .x .i64 (.mk (.ofNat 11) [(1, (.ofNat 1))]), .x .i64 (.mk (.ofNat 11) [(1, (.ofNat 1))]), I 0, .i .i64 (.negSucc 0), .b true, .b false, I 0, .s [], .b false, .ns, I 0, I 0, .b false, .ns, .ns, .b false, .b false, .ns] false),
  (13592, .ce 98 [I 3, .x .i64 (.mk (.ofNat 11) [(1, (.ofNat 1))]), .sl 13590 0 2 (.q 18)] false),
  (13612, .ce 161 [I 5, .x .i64 (.mk (.ofNat 9) [(1, (.ofNat 1))]), I 1, .i .i64 (.negSucc 0), .b true, .b false, I 0, .s [], .b false, .ns, I 0, I 0, .b false, .ns, .ns, .b false, .b false, .ns, .x .i64 (.mk (.ofNat 10) [(1, (.ofNat 1))]), .x .i64 (.mk (.ofNat 10) [(1, (.ofNat 1))]), I 0, .i .i64 (.negSucc 0), .b true, .b false, I 0, .s [], .b false, .ns, I 0, I 0, .b false, .ns, .ns, .b false, .b false, .ns] false),
  (13614, .ce 98 [I 4, .x .i64 (.mk (.ofNat 10) [(1, (.ofNat 1))]), .sl 13612 0 2 (.q 18)] false),
  (13634, .ce 161 [I 6, .x .i64 (.mk (.ofNat 8) [(1, (.ofNat 1))]), I 1, .i .i64 (.negSucc 0), .b true, .b false, I 0, .s [], .b false, .ns, I 0, I 0, .b false, .ns, .ns, .b false, .b false, .ns, .x .i64 (.mk (.ofNat 9) [(1, (.ofNat 1))]), .x .i64 (.mk (.ofNat 9) [(1, (.ofNat 1))]), I 0, .i .i64 (.negSucc 0), .b true, .b false, I 0, .s [], .b false, .ns, I 0, I 0, .b false, .ns, .ns, .b false, .b false, .ns] false),
  (13636, .ce 98 [I 5, .x .i64 (.mk (.ofNat 9) [(1, (.ofNat 1))]), .sl 13634 0 2 (.q 18)] false),
  (13656, .ce 161 [I 7, .x .i64 (.mk (.ofNat 7) [(1, (.ofNat 1))]), I 1, .i .i64 (.negSucc 0), .b true, .b false, I 0, .s [], .b false, .ns, I 0, I 0, .b false, .ns, .ns, .b false, .b false, .ns, .x .i64 (.mk (.ofNat 8) [(1, (.ofNat 1))]), .x .i64 (.mk (.ofNat 8) [(1, (.ofNat 1))]), I 0, .i .i64 (.negSucc 0), .b true, .b false, I 0, .s [], .b false, .ns, I 0, I 0, .b false, .ns, .ns, .b false, .b false, .ns] false),
  (13658, .ce 98 [I 6, .x .i64 (.mk (.ofNat 8) [(1, (.ofNat 1))]), .sl 13656 0 2 (.q 18)] false),
  (13660, .ce 93 [I 1, .sl 13526 0 1 (.q 3), I 1, .sl 13548 0 1 (.q 3), I 1, .sl 13570 0 1 (.q 3), I 1, .sl 13592 0 1 (.q 3), I 1, .sl 13614 0 1 (.q 3), I 1, .sl 13636 0 1 (.q 3), I 1, .sl 13658 0 1 (.q 3)] false),
  (13666, .ce 48 [.s [], .sl 65 0 1 (.q 2), .ns, .s [.c 40, .c 120, .c 41], .sl 719 0 1 (.q 2), .sl 494 0 1 (.q 2), .s [.c 40, .c 40, .c 120, .c 41, .c 41], .sl 1794 0 1 (.q 2), .sl 1497 0 2 (.q 2), .s [.c 40, .c 40, .c 40, .c 120, .c 41, .c 41, .c 41], .sl 3203 0 1 (.q 2), .sl 2842 0 3 (.q 2), .s [.c 40, .c 40, .c 40, .c 40, .c 120, .c 41, .c 41, .c 41, .c 41], .sl 4946 0 1 (.q 2), .sl 4521 0 4 (.q 2), .s [.c 40, .c 40, .c 40, .c 40, .c 40, .c 120, .c 41, .c 41, .c 41, .c 41, .c 41], .sl 7023 0 1 (.q 2), .sl 6534 0 5 (.q 2), .s [.c 40, .c 40, .c 40, .c 40, .c 40, .c 40, .c 120, .c 41, .c 41, .c 41, .c 41, .c 41, .c 41], .sl 9434 0 1 (.q 2), .sl 8881 0 6 (.q 2), .s [.c 40, .c 40, .c 40, .c 40, .c 40, .c 40, .c 40, .c 120, .c 41, .c 41, .c 41, .c 41, .c 41, .c 41, .c 41], .sl 12130 0 1 (.q 2), .sl 11562 0 7 (.q 2)] false),
  (13701, .ce 258 [.x .i64 (.mk (.ofNat 14) [(1, (.ofNat 1))]), .x .i64 (.mk (.ofNat 0) [(30, (.ofNat 1))]), .x .i64 (.mk (.ofNat 0) [(32, (.ofNat 1))]), .x .i64 (.mk (.ofNat 0) [(34, (.ofNat 1))]), .s [.c 40, .c 40, .c 40, .c 40, .c 40, .c 40, .c 40, .a 0, .c 41, .c 41, .c 41, .c 41, .c 41, .c 41, .c 41], .x .i64 (.mk (.ofNat 14) [(1, (.ofNat 1))]), .x .i64 (.mk (.ofNat 0) [(30, (.ofNat 1))]), .x .i64 (.mk (.ofNat 0) [(32, (.ofNat 1))]), .x .i64 (.mk (.ofNat 0) [(34, (.ofNat 1))]), .x .u32 (.mk (.ofNat 0) [(36, (.ofNat 1))]), .np, .np] true),
  (13742, .ce 53 [.x .i64 (.mk (.ofNat 7) [(1, (.ofNat 1))]), .x .i64 (.mk (.ofNat 7) [(1, (.ofNat 1))])] false)]
def lN7_1 : ML :=
  [(4, .ce 179 [.p 2 0, .p 13701 0] true),
  (6, .mp [] 0),
  (7, .ce 233 [.mp 6, I 0] true),
  (9, .ce 121 [.p 4 0, .p 7 0, .sl 14501 0 1 (.q 2)] true),
  (10, .ce 128 [I 100, .sl 14490 0 9 (.q 3), .ns] true),
  (11, .ce 69 [.p 9 0, .sl 14465 0 6 (.q 2), .ns, .p 10 0] true),
  (13701, .ce 258 [.x .i64 (.mk (.ofNat 14) [(1, (.ofNat 1))]), .x .i64 (.mk (.ofNat 0) [(30, (.ofNat 1))]), .x .i64 (.mk (.ofNat 0) [(32, (.ofNat 1))]), .x .i64 (.mk (.ofNat 0) [(34, (.ofNat 1))]), .s [.c 40, .c 40, .c 40, .c 40, .c 40, .c 40, .c 40, .a 0, .c 41, .c 41, .c 41, .c 41, .c 41, .c 41, .c 41], .x .i64 (.mk (.ofNat 14) [(1, (.ofNat 1))]), .x .i64 (.mk (.ofNat 0) [(30, (.ofNat 1))]), .x .i64 (.mk (.ofNat 0) [(32, (.ofNat 1))]), .x .i64 (.mk (.ofNat 0) [(34, (.ofNat 1))]), .x .u32 (.mk (.ofNat 0) [(36, (.ofNat 1))]), .np, .np] true),
  (14329, .ce 161 [I 1, .x .i64 (.mk (.ofNat 13) [(1, (.ofNat 1))]), I 1, .i .i64 (.negSucc 0), .b true, .b false, I 0, .s [], .b false, .ns, I 0, I 0, .b false, .ns, .ns, .b false, .b false, .ns, .x .i64 (.mk (.ofNat 14) [(1, (.ofNat 1))]), .x .i64 (.mk (.ofNat 14) [(1, (.ofNat 1))]), I 0, .i .i64 (.negSucc 0), .b true, .b false, I 0, .s [], .b false, .ns, I 0, I 0, .b false, .ns, .ns, .b false, .b false, .ns] false),
  (14331, .ce 98 [I 0, .x .i64 (.mk (.ofNat 14) [(1, (.ofNat 1))]), .sl 14329 0 2 (.q 18)] false),
  (14351, .ce 161 [I 2, .x .i64 (.mk (.ofNat 12) [(1, (.ofNat 1))]), I 1, .i .i64 (.negSucc 0), .b true, .b false, I 0, .s [], .b false, .ns, I 0, I 0, .b false, .ns, .ns, .b false, .b false, .ns, .x .i64 (.mk (.ofNat 13) [(1, (.ofNat 1))]), .x .i64 (.mk (.ofNat 13) [(1, (.ofNat 1))]), I 0, .i .i64 (.negSucc 0), .b true, .b false, I 0, .s [], .b false, .ns, I 0, I 0, .b false, .ns, .ns, .b false, .b false, .ns] false),
  (14353, .ce 98 [I 1, .x .i64 (.mk (.ofNat 13) [(1, (.ofNat 1))]), .sl 14351 0 2 (.q 18)] false),
  (14373, .ce 161 [I 3, .x .i64 (.mk (.ofNat 11) [(1, (.ofNat 1))]), I 1, .i .i64 (.negSucc 0), .b true, .b false, I 0, .s [], .b false, .ns, I 0, I 0, .b false, .ns, .ns, .b false, .b false, .ns, .x .i64 (.mk (.ofNat 12) [(1, (.ofNat 1))]), .x .i64 (.mk (.ofNat 12) [(1, (.ofNat 1))]), I 0, .i .i64 (.negSucc 0), .b true, .b false, I 0, .s [], .b false, .ns, I 0, I 0, .b false, .ns, .ns, .b false, .b false, .ns] false),
  (14375, .ce 98 [I 2, .x .i64 (.mk (.ofNat 12) [(1, (.ofNat 1))]), .sl 14373 0 2 (.q 18)] false),
  (14395, .ce 161 [I 4, .x .i64 (.mk (.ofNat 10) [(1, (.ofNat 1))]), I 1, .i .i64 (.negSucc 0), .b true, .b false, I 0, .s [], .b false, .ns, I 0, I 0, .b false, .ns, .ns, .b false, .b false, .ns, .x .i64 (.mk (.ofNat 11) [(1, (.ofNat 1))]), .x .i64 (.mk (.ofNat 11) [(1, (.ofNat 1))]), I 0, .i .i64 (.negSucc 0), .b true, .b false, I 0, .s [], .b false, .ns, I 0, I 0, .b false, .ns, .ns, .b false, .b false, .ns] false),
  (14397, .ce 98 [I 3, .x .i64 (.mk (.ofNat 11) [(1, (.ofNat 1))]), .sl 14395 0 2 (.q 18)] false),
  (14417, .ce 161 [I 5, .x .i64 (.mk (.ofNat 9) [(1, (.ofNat 1))]), I 1, .i .i64 (.negSucc 0), .b true, .b false, I 0, .s [], .b false, .ns, I 0, I 0, .b false, .ns, .ns, .b false, .b false, .ns, .x .i64 (.mk (.ofNat 10) [(1, (.ofNat 1))]), .x .i64 (.mk (.ofNat 10) [(1, (.ofNat 1))]), I 0, .i .i64 (.negSucc 0), .b true, .b false, I 0, .s [], .b false, .ns, I 0, I 0, .b false, .ns, .ns, .b false, .b false, .ns] false),
  (14419, .ce 98 [I 4, .x .i64 (.mk (.ofNat 10) [(1, (.ofNat 1))]), .sl 14417 0 2 (.q 18)] false),
  (14439, .ce 161 [I 6, .x .i64 (.mk (.ofNat 8) [(1, (.ofNat 1))]), I 1, .i .i64 (.negSucc 0), .b true, .b false, I 0, .s [], .b false, .ns, I 0, I 0, .b false, .ns, .ns, .b false, .b false, .ns, .x .i64 (.mk (.ofNat 9) [(1, (.ofNat 1))]), .x .i64 (.mk (.ofNat 9) [(1, (.ofNat 1))]), I 0, .i .i64 (.negSucc 0), .b true, .b false, I 0, .s [], .b false, .ns, I 0, I 0, .b false, .ns, .ns, .b false, .b false, .ns] false),
  (14441, .ce 98 [I 5, .x .i64 (.mk (.ofNat 9) [(1, (.ofNat 1))]), .sl 14439 0 2 (.q 18)] false),
  (14461, .ce 161 [I 7, .x .i64 (.mk (.ofNat 7) [(1, (.ofNat 1))]), I 1, .i .i64 (.negSucc 0), .b true, .b false, I 0, .s [], .b false, .ns, I 0, I 0, .b false, .ns, .ns, .b false, .b false, .ns, .x .i64 (.mk (.ofNat 8) [(1, (.ofNat 1))]), .x .i64 (.mk (.ofNat 8) [(1, (.ofNat 1))]), I 0, .i .i64 (.negSucc 0), .b true, .b false, I 0, .s [], .b false, .ns, I 0, I 0, .b false, .ns, .ns, .b false, .b false, .ns] false),
  (14463, .ce 98 [I 6, .x .i64 (.mk (.ofNat 8) [(1, (.ofNat 1))]), .sl 14461 0 2 (.q 18)] false),
  (14465, .ce 93 [I 1, .sl 14331 0 1 (.q 3), I 1, .sl 14353 0 1 (.q 3), I 1, .sl 14375 0 1 (.q 3), I 1, .sl 14397 0 1 (.q 3), I 1, .sl 14419 0 1 (.q 3), I 1, .sl 14441 0 1 (.q 3), I 0, .sl 14463 0 1 (.q 3)] false),
  (14490, .ce 48 [.s [], .sl 65 0 1 (.q 2), .ns, .s [.c 40, .c 120, .c 41], .sl 719 0 1 (.q 2), .sl 494 0 1 (.q 2), .s [.c 40, .c 40, .c 120, .c 41, .c 41], .sl 1794 0 1 (.q 2), .sl 1497 0 2 (.q 2), .s [.c 40, .c 40, .c 40, .c 120, .c 41, .c 41, .c 41], .sl 3203 0 1 (.q 2), .sl 2842 0 3 (.q 2), .s [.c 40, .c 40, .c 40, .c 40, .c 120, .c 41, .c 41, .c 41, .c 41], .sl 4946 0 1 (.q 2), .sl 4521 0 4 (.q 2), .s [.c 40, .c 40, .c 40, .c 40, .c 40, .c 120, .c 41, .c 41, .c 41, .c 41, .c 41], .sl 7023 0 1 (.q 2), .sl 6534 0 5 (.q 2), .s [.c 40, .c 40, .c 40, .c 40, .c 40, .c 40, .c 120, .c 41, .c 41, .c 41, .c 41, .c 41, .c 41], .sl 9434 0 1 (.q 2), .sl 8881 0 6 (.q 2), .s [.c 40, .c 40, .c 40, .c 40, .c 40, .c 40, .c 40, .c 120, .c 41, .c 41, .c 41, .c 41, .c 41, .c 41, .c 41], .sl 12130 0 1 (.q 2), .sl 11562 0 7 (.q 2), .s [.c 40, .c 40, .c 40, .c 40, .c 40, .c 40, .c 40, .a 0, .c 41, .c 41, .c 41, .c 41, .c 41, .c 41, .c 41], .sl 14111 0 1 (.q 2), .sl 13660 0 7 (.q 2)] false),
  (14501, .ce 53 [.x .i64 (.mk (.ofNat 8) [(1, (.ofNat 1))]), .x .i64 (.mk (.ofNat 8) [(1, (.ofNat 1))])] false)]
def lN7_2 : ML :=
  [(4, .ce 179 [.p 2 0, .p 13701 0] true),
  (6, .mp [] 0),
  (7, .ce 233 [.mp 6, I 0] true),
  (9, .ce 121 [.p 4 0, .p 7 0, .sl 14992 0 1 (.q 2)] true),
  (10, .ce 128 [I 100, .sl 14981 0 10 (.q 3), .ns] true),
  (11, .ce 69 [.p 9 0, .sl 14956 0 5 (.q 2), .ns, .p 10 0] true),
  (13701, .ce 258 [.x .i64 (.mk (.ofNat 14) [(1, (.ofNat 1))]), .x .i64 (.mk (.ofNat 0) [(30, (.ofNat 1))]), .x .i64 (.mk (.ofNat 0) [(32, (.ofNat 1))]), .x .i64 (.mk (.ofNat 0) [(34, (.ofNat 1))]), .s [.c 40, .c 40, .c 40, .c 40, .c 40, .c 40, .c 40, .a 0, .c 41, .c 41, .c 41, .c 41, .c 41, .c 41, .c 41], .x .i64 (.mk (.ofNat 14) [(1, (.ofNat 1))]), .x .i64 (.mk (.ofNat 0) [(30, (.ofNat 1))]), .x .i64 (.mk (.ofNat 0) [(32, (.ofNat 1))]), .x .i64 (.mk (.ofNat 0) [(34, (.ofNat 1))]), .x .u32 (.mk (.ofNat 0) [(36, (.ofNat 1))]), .np, .np] true),
  (14842, .ce 161 [I 1, .x .i64 (.mk (.ofNat 13) [(1, (.ofNat 1))]), I 1, .i .i64 (.negSucc 0), .b true, .b false, I 0, .s [], .b false, .ns, I 0, I 0, .b false, .ns, .ns, .b false, .b false, .ns, .x .i64 (.mk (.ofNat 14) [(1, (.ofNat 1))]), .x .i64 (.mk (.ofNat 14) [(1, (.ofNat 1))]), I 0, .i .i64 (.negSucc 0), .b true, .b false, I 0, .s [], .b false, .ns, I 0, I 0, .b false, .ns, .ns, .b false, .b false, .ns] false),
  (14844, .ce 98 [I 0, .x .i64 (.mk (.ofNat 14) [(1, (.ofNat 1))]), .sl 14842 0 2 (.q 18)] false),
  (14864, .ce 161 [I 2, .x .i64 (.mk (.ofNat 12) [(1, (.ofNat 1))]), I 1, .i .i64 (.negSucc 0), .b true, .b false, I 0, .s [], .b false, .ns, I 0, I 0, .b false, .ns, .ns, .b false, .b false, .ns, .x .i64 (.mk (.ofNat 13) [(1, (.ofNat 1))]), .x .i64 (.mk (.ofNat 13) [(1, (.ofNat 1))]), I 0, .i .i64 (.negSucc 0), .b true, .b false, I 0, .s [], .b false, .ns, I 0, I 0, .b false, .ns, .ns, .b false, .b false, .ns] false),
  (14866, .ce 98 [I 1, .x .i64 (.mk (.ofNat 13) [(1, (.ofNat 1))]), .sl 14864 0 2 (.q 18)] false),
  (14886, .ce 161 [I 3, .x .i64 (.mk (.ofNat 11) [(1, (.ofNat 1))]), I 1, .i .i64 (.negSucc 0), .b true, .b false, I 0, .s [], .b false, .ns, I 0, I 0, .b false, .ns, .ns, .b false, .b false, .ns, .x .i64 (.mk (.ofNat 12) [(1, (.ofNat 1))]), .x .i64 (.mk (.ofNat 12) [(1, (.ofNat 1))]), I 0, .i .i64 (.negSucc 0), .b true, .b false, I 0, .s [], .b false, .ns, I 0, I 0, .b false, .ns, .ns, .b false, .b false, .ns] false),
  (14888, .ce 98 [I 2, .x .i64 (.mk (.ofNat 12) [(1, (.ofNat 1))]), .sl 14886 0 2 (.q 18)] false),
  (14908, .ce 161 [I 4, .x .i64 (.mk (.ofNat 10) [(1, (.ofNat 1))]), I 1, .i .i64 (.negSucc 0), .b true, .b false, I 0, .s [], .b false, .ns, I 0, I 0, .b false, .ns, .ns, .b false, .b false, .ns, .x .i64 (.mk (.ofNat 11) [(1, (.ofNat 1))]), .x .i64 (.mk (.ofNat 11) [(1, (.ofNat 1))]), I 0, .i .i64 (.negSucc 0), .b true, .b false, I 0, .s [], .b false, .ns, I 0, I 0, .b false, .ns, .ns, .b false, .b false, .ns] false),
  (14910, .ce 98 [I 3, .x .i64 (.mk (.ofNat 11) [(1, (.ofNat 1))]), .sl 14908 0 2 (.q 18)] false),
  (14930, .ce 161 [I 5, .x .i64 (.mk (.ofNat 9) [(1, (.ofNat 1))]), I 1, .i .i64 (.negSucc 0), .b true, .b false, I 0, .s [], .b false, .ns, I 0, I 0, .b false, .ns, .ns, .b false, .b false, .ns, .x .i64 (.mk (.ofNat 10) [(1, (.ofNat 1))]), .x .i64 (.mk (.ofNat 10) [(1, (.ofNat 1))]), I 0, .i .i64 (.negSucc 0), .b true, .b false, I 0, .s [], .b false, .ns, I 0, I 0, .b false, .ns, .ns, .b false, .b false, .ns] false),
  (14932, .ce 98 [I 4, .x .i64 (.mk (.ofNat 10) [(1, (.ofNat 1))]), .sl 14930 0 2 (.q 18)] false),
  (14952, .ce 161 [I 6, .x .i64 (.mk (.ofNat 8) [(1, (.ofNat 1))]), I 1, .i .i64 (.negSucc 0), .b true, .b false, I 0, .s [], .b false, .ns, I 0, I 0, .b false, .ns, .ns, .b false, .b false, .ns, .x .i64 (.mk (.ofNat 9) [(1, (.ofNat 1))]), .x .i64 (.mk (.ofNat 9) [(1, (.ofNat 1))]), I 0, .i .i64 (.negSucc 0), .b true, .b false, I 0, .s [], .b false, .ns, I 0, I 0, .b false, .ns, .ns, .b false, .b false, .ns] false),
  (14954, .ce 98 [I 5, .x .i64 (.mk (.ofNat 9) [(1, (.ofNat 1))]), .sl 14952 0 2 (.q 18)] false),
  (14956, .ce 93 [I 1, .sl 14844 0 1 (.q 3), I 1, .sl 14866 0 1 (.q 3), I 1, .sl 14888 0 1 (.q 3), I 1, .sl 14910 0 1 (.q 3), I 1, .sl 14932 0 1 (.q 3), I 0, .sl 14954 0 1 (.q 3)] false),
  (14981, .ce 48 [.s [], .sl 65 0 1 (.q 2), .ns, .s [.c 40, .c 120, .c 41], .sl 719 0 1 (.q 2), .sl 494 0 1 (.q 2), .s [.c 40, .c 40, .c 120, .c 41, .c 41], .sl 1794 0 1 (.q 2), .sl 1497 0 2 (.q 2), .s [.c 40, .c 40, .c 40, .c 120, .c 41, .c 41, .c 41], .sl 3203 0 1 (.q 2), .sl 2842 0 3 (.q 2), .s [.c 40, .c 40, .c 40, .c 40, .c 120, .c 41, .c 41, .c 41, .c 41], .sl 4946 0 1 (.q 2), .sl 4521 0 4 (.q 2), .s [.c 40, .c 40, .c 40, .c 40, .c 40, .c 120, .c 41, .c 41, .c 41, .c 41, .c 41], .sl 7023 0 1 (.q 2), .sl 6534 0 5 (.q 2), .s [.c 40, .c 40, .c 40, .c 40, .c 40, .c 40, .c 120, .c 41, .c 41, .c 41, .c 41, .c 41, .c 41], .sl 9434 0 1 (.q 2), .sl 8881 0 6 (.q 2), .s [.c 40, .c 40, .c 40, .c 40, .c 40, .c 40, .c 40, .c 120, .c 41, .c 41, .c 41, .c 41, .c 41, .c 41, .c 41], .sl 12130 0 1 (.q 2), .sl 11562 0 7 (.q 2), .s [.c 40, .c 40, .c 40, .c 40, .c 40, .c 40, .c 40, .a 0, .c 41, .c 41, .c 41, .c 41, .c 41, .c 41, .c 41], .sl 14111 0 1 (.q 2), .sl 13660 0 7 (.q 2), .s [.c 40, .c 40, .c 40, .c 40, .c 40, .c 40, .c 40, .a 0, .c 41, .c 41, .c 41, .c 41, .c 41, .c 41, .c 41], .sl 14649 0 1 (.q 2), .sl 14465 0 6 (.q 2)] false),
  (14992, .ce 53 [.x .i64 (.mk (.ofNat 9) [(1, (.ofNat 1))]), .x .i64 (.mk (.ofNat 9) [(1, (.ofNat 1))])] false)]
def lN7_3 : ML :=
  [(4, .ce 179 [.p 2 0, .p 13701 0] true),
  (6, .mp [] 0),
  (7, .ce 233 [.mp 6, I 0] true),
  (9, .ce 121 [.p 4 0, .p 7 0, .sl 15414 0 1 (.q 2)] true),
  (10, .ce 128 [I 100, .sl 15403 0 11 (.q 3), .ns] true),
  (11, .ce 69 [.p 9 0, .sl 15378 0 4 (.q 2), .ns, .p 10 0] true),
  (13701, .ce 258 [.x .i64 (.mk (.ofNat 14) [(1, (.ofNat 1))]), .x .i64 (.mk (.ofNat 0) [(30, (.ofNat 1))]), .x .i64 (.mk (.ofNat 0) [(32, (.ofNat 1))]), .x .i64 (.mk (.ofNat 0) [(34, (.ofNat 1))]), .s [.c 40, .c 40, .c 40, .c 40, .c 40, .c 40, .c 40, .a 0, .c 41, .c 41, .c 41, .c 41, .c 41, .c 41, .c 41], .x .i64 (.mk (.ofNat 14) [(1, (.ofNat 1))]), .x .i64 (.mk (.ofNat 0) [(30, (.ofNat 1))]), .x .i64 (.mk (.ofNat 0) [(32, (.ofNat 1))]), .x .i64 (.mk (.ofNat 0) [(34, (.ofNat 1))]), .x .u32 (.mk (.ofNat 0) [(36, (.ofNat 1))]), .np, .np] true),
  (15286, .ce 161 [I 1, .x .i64 (.mk (.ofNat 13) [(1, (.ofNat 1))]), I 1, .i .i64 (.negSucc 0), .b true, .b false, I 0, .s [], .b false, .ns, I 0, I 0, .b false, .ns, .ns, .b false, .b false, .ns, .x .i64 (.mk (.ofNat 14) [(1, (.ofNat 1))]), .x .i64 (.mk (.ofNat 14) [(1, (.ofNat 1))]), I 0, .i .i64 (.negSucc 0), .b true, .b false, I 0, .s [], .b false, .ns, I 0, I 0, .b false, .ns, .ns, .b false, .b false, .ns] false),
  (15288, .ce 98 [I 0, .x .i64 (.mk (.ofNat 14) [(1, (.ofNat 1))]), .sl 15286 0 2 (.q 18)] false),
  (15308, .ce 161 [I 2, .x .i64 (.mk (.ofNat 12) [(1, (.ofNat 1))]), I 1, .i .i64 (.negSucc 0), .b true, .b false, I 0, .s [], .b false, .ns, I 0, I 0, .b false, .ns, .ns, .b false, .b false, .ns, .x .i64 (.mk (.ofNat 13) [(1, (.ofNat 1))]), .x .i64 (.mk (.ofNat 13) [(1, (.ofNat 1))]), I 0, .i .i64 (.negSucc 0), .b true, .b false, I 0, .s [], .b false, .ns, I 0, I 0, .b false, .ns, .ns, .b false, .b false, .ns] false),
  (15310, .ce 98 [I 1, .x .i64 (.mk (.ofNat 13) [(1, (.ofNat 1))]), .sl 15308 0 2 (.q 18)] false),
  (15330, .ce 161 [I 3, .x .i64 (.mk (.ofNat 11) [(1, (.ofNat 1))]), I 1, .i .i64 (.negSucc 0), .b true, .b false, I 0, .s [], .b false, .ns, I 0, I 0, .b false, .ns, .ns, .b false, .b false, .ns, .x .i64 (.mk (.ofNat 12) [(1, (.ofNat 1))]), .x .i64 (.mk (.ofNat 12) [(1, (.ofNat 1))]), I 0, .i .i64 (.negSucc 0), .b true, .b false, I 0, .s [], .b false, .ns, I 0, I 0, .b false, .ns, .ns, .b false, .b false, .ns] false),
  (15332, .ce 98 [I 2, .x .i64 (.mk (.ofNat 12) [(1, (.ofNat 1))]), .sl 15330 0 2 (.q 18)] false),
  (15352, .ce 161 [I 4, .x .i64 (.mk (.ofNat 10) [(1, (.ofNat 1))]), I 1, .i .i64 (.negSucc 0), .b true, .b false, I 0, .s [], .b false, .ns, I 0, I 0, .b false, .ns, .ns, .b false, .b false, .ns, .x .i64 (.mk (.ofNat 11) [(1, (.ofNat 1))]), .x .i64 (.mk (.ofNat 11) [(1, (.ofNat 1))]), I 0, .i .i64 (.negSucc 0), .b true, .b false, I 0, .s [], .b false, .ns, I 0, I 0, .b false, .ns, .ns, .b false, .b false, .ns] false),
  (15354, .ce 98 [I 3, .x .i64 (.mk (.ofNat 11) [(1, (.ofNat 1))]), .sl 15352 0 2 (.q 18)] false),
  (15374, .ce 161 [I 5, .x .i64 (.mk (.ofNat 9) [(1, (.ofNat 1))]), I 1, .i .i64 (.negSucc 0), .b true, .b false, I 0, .s [], .b false, .ns, I 0, I 0, .b false, .ns, .ns, .b false, .b false, .ns, .x .i64 (.mk (.ofNat 10) [(1, (.ofNat 1))]), .x .i64 (.mk (.ofNat 10) [(1, (.ofNat 1))]), I 0, .i .i64 (.negSucc 0), .b true, .b false, I 0, .s [], .b false, .ns, I 0, I 0, .b false, .ns, .ns, .b false, .b false, .ns] false),
  (15376, .ce 98 [I 4, .x .i64 (.mk (.ofNat 10) [(1, (.ofNat 1))]), .sl 15374 0 2 (.q 18)] false),
  (15378, .ce 93 [I 1, .sl 15288 0 1 (.q 3), I 1, .sl 15310 0 1 (.q 3), I 1, .sl 15332 0 1 (.q 3), I 1, .sl 15354 0 1 (.q 3), I 0, .sl 15376 0 1 (.q 3)] false),
  (15403, .ce 48 [.s [], .sl 65 0 1 (.q 2), .ns, .s [.c 40, .c 120, .c 41], .sl 719 0 1 (.q 2), .sl 494 0 1 (.q 2), .s [.c 40, .c 40, .c 120, .c 41, .c 41], .sl 1794 0 1 (.q 2), .sl 1497 0 2 (.q 2), .s [.c 40, .c 40, .c 40, .c 120, .c 41, .c 41, .c 41], .sl 3203 0 1 (.q 2), .sl 2842 0 3 (.q 2), .s [.c 40, .c 40, .c 40, .c 40, .c 120, .c 41, .c 41, .c 41, .c 41], .sl 4946 0 1 (.q 2), .sl 4521 0 4 (.q 2), .s [.c 40, .c 40, .c 40, .c 40, .c 40, .c 120, .c 41, .c 41, .c 41, .c 41, .c 41], .sl 7023 0 1 (.q 2), .sl 6534 0 5 (.q 2), .s [.c 40, .c 40, .c 40, .c 40, .c 40, .c 40, .c 120, .c 41, .c 41, .c 41, .c 41, .c 41, .c 41], .sl 9434 0 1 (.q 2), .sl 8881 0 6 (.q 2), .s [.c 40, .c 40, .c 40, .c 40, .c 40, .c 40, .c 40, .c 120, .c 41, .c 41, .c 41, .c 41, .c 41, .c 41, .c 41], .sl 12130 0 1 (.q 2), .sl 11562 0 7 (.q 2), .s [.c 40, .c 40, .c 40, .c 40, .c 40, .c 40, .c 40, .a 0, .c 41, .c 41, .c 41, .c 41, .c 41, .c 41, .c 41], .sl 14111 0 1 (.q 2), .sl 13660 0 7 (.q 2), .s [.c 40, .c 40, .c 40, .c 40, .c 40, .c 40, .c 40, .a 0, .c 41, .c 41, .c 41, .c 41, .c 41, .c 41, .c 41], .sl 14649 0 1 (.q 2), .sl 14465 0 6 (.q 2), .s [.c 40, .c 40, .c 40, .c 40, .c 40, .c 40, .c 40, .a 0, .c 41, .c 41, .c 41, .c 41, .c 41, .c 41, .c 41], .sl 15118 0 1 (.q 2), .sl 14956 0 5 (.q 2)] false),
  (15414, .ce 53 [.x .i64 (.mk (.ofNat 10) [(1, (.ofNat 1))]), .x .i64 (.mk (.ofNat 10) [(1, (.ofNat 1))])] false)]
def lN7_4 : ML :=
  [(4, .ce 179 [.p 2 0, .p 13701 0] true),
  (6, .mp [] 0),
  (7, .ce 233 [.mp 6, I 0] true),
  (9, .ce 121 [.p 4 0, .p 7 0, .sl 15767 0 1 (.q 2)] true),
  (10, .ce 128 [I 100, .sl 15756 0 12 (.q 3), .ns] true),
  (11, .ce 69 [.p 9 0, .sl 15731 0 3 (.q 2), .ns, .p 10 0] true),
  (13701, .ce 258 [.x .i64 (.mk (.ofNat 14) [(1, (.ofNat 1))]), .x .i64 (.mk (.ofNat 0) [(30, (.ofNat 1))]), .x .i64 (.mk (.ofNat 0) [(32, (.ofNat 1))]), .x .i64 (.mk (.ofNat 0) [(34, (.ofNat 1))]), .s [.c 40, .c 40, .c 40, .c 40, .c 40, .c 40, .c 40, .a 0, .c 41, .c 41, .c 41, .c 41, .c 41, .c 41, .c 41], .x .i64 (.mk (.ofNat 14) [(1, (.ofNat 1))]), .x .i64 (.mk (.ofNat 0) [(30, (.ofNat 1))]), .x .i64 (.mk (.ofNat 0) [(32, (.ofNat 1))]), .x .i64 (.mk (.ofNat 0) [(34, (.ofNat 1))]), .x .u32 (.mk (.ofNat 0) [(36, (.ofNat 1))]), .np, .np] true),
  (15661, .ce 161 [I 1, .x .i64 (.mk (.ofNat 13) [(1, (.ofNat 1))]), I 1, .i .i64 (.negSucc 0), .b true, .b false, I 0, .s [], .b false, .ns, I 0, I 0, .b false, .ns, .ns, .b false, .b false, .ns, .x .i64 (.mk (.ofNat 14) [(1, (.ofNat 1))]), .x .i64 (.mk (.ofNat 14) [(1, (.ofNat 1))]), I 0, .i .i64 (.negSucc 0), .b true, .b false, I 0, .s [], .b false, .ns, I 0, I 0, .b false, .ns, .ns, .b false, .b false, .ns] false),
  (15663, .ce 98 [I 0, .x .i64 (.mk (.ofNat 14) [(1, (.ofNat 1))]), .sl 15661 0 2 (.q 18)] false),
  (15683, .ce 161 [I 2, .x .i64 (.mk (.ofNat 12) [(1, (.ofNat 1))]), I 1, .i .i64 (.negSucc 0), .b true, .b false, I 0, .s [], .b false, .ns, I 0, I 0, .b false, .ns, .ns, .b false, .b false, .ns, .x .i64 (.mk (.ofNat 13) [(1, (.ofNat 1))]), .x .i64 (.mk (.ofNat 13) [(1, (.ofNat 1))]), I 0, .i .i64 (.negSucc 0), .b true, .b false, I 0, .s [], .b false, .ns, I 0, I 0, .b false, .ns, .ns, .b false, .b false, .ns] false),
  (15685, .ce 98 [I 1, .x .i64 (.mk (.ofNat 13) [(1, (.ofNat 1))]), .sl 15683 0 2 (.q 18)] false),
  (15705, .ce 161 [I 3, .x .i64 (.mk (.ofNat 11) [(1, (.ofNat 1))]), I 1, .i .i64 (.negSucc 0), .b true, .b false, I 0, .s [], .b false, .ns, I 0, I 0, .b false, .ns, .ns, .b false, .b false, .ns, .x .i64 (.mk (.ofNat 12) [(1, (.ofNat 1))]), .x .i64 (.mk (.ofNat 12) [(1, (.ofNat 1))]), I 0, .i .i64 (.negSucc 0), .b true, .b false, I 0, .s [], .b false, .ns, I 0, I 0, .b false, .ns, .ns, .b false, .b false, .ns] false),
  (15707, .ce 98 [I 2, .x .i64 (.mk (.ofNat 12) [(1, (.ofNat 1))]), .sl 15705 0 2 (.q 18)] false),
  (15727, .ce 161 [I 4, .x .i64 (.mk (.ofNat 10) [(1, (.ofNat 1))]), I 1, .i .i64 (.negSucc 0), .b true, .b false, I 0, .s [], .b false, .ns, I 0, I 0, .b false, .ns, .ns, .b false, .b false, .ns, .x .i64 (.mk (.ofNat 11) [(1, (.ofNat 1))]), .x .i64 (.mk (.ofNat 11) [(1, (.ofNat 1))]), I 0, .i .i64 (.negSucc 0), .b true, .b false, I 0, .s [], .b false, .ns, I 0, I 0, .b false, .ns, .ns, .b false, .b false, .ns] false),
  (15729, .ce 98 [I 3, .x .i64 (.mk (.ofNat 11) [(1, (.ofNat 1))]), .sl 15727 0 2 (.q 18)] false),
  (15731, .ce 93 [I 1, .sl 15663 0 1 (.q 3), I 1, .sl 15685 0 1 (.q 3), I 1, .sl 15707 0 1 (.q 3), I 0, .sl 15729 0 1 (.q 3)] false),
  (15756, .ce 48 [.s [], .sl 65 0 1 (.q 2), .ns, .s [.c 40, .c 120, .c 41], .sl 719 0 1 (.q 2), .sl 494 0 1 (.q 2), .s [.c 40, .c 40, .c 120, .c 41, .c 41], .sl 1794 0 1 (.q 2), .sl 1497 0 2 (.q 2), .s [.c 40, .c 40, .c 40, .c 120, .c 41, .c 41, .c 41], .sl 3203 0 1 (.q 2), .sl 2842 0 3 (.q 2), .s [.c 40, .c 40, .c 40, .c 40, .c 120, .c 41, .c 41, .c 41, .c 41], .sl 4946 0 1 (.q 2), .sl 4521 0 4 (.q 2), .s [.c 40, .c 40, .c 40, .c 40, .c 40, .c 120, .c 41, .c 41, .c 41, .c 41, .c 41], .sl 7023 0 1 (.q 2), .sl 6534 0 5 (.q 2), .s [.c 40, .c 40, .c 40, .c 40, .c 40, .c 40, .c 120, .c 41, .c 41, .c 41, .c 41, .c 41, .c 41], .sl 9434 0 1 (.q 2), .sl 8881 0 6 (.q 2), .s [.c 40, .c 40, .c 40, .c 40, .c 40, .c 40, .c 40, .c 120, .c 41, .c 41, .c 41, .c 41, .c 41, .c 41, .c 41], .sl 12130 0 1 (.q 2), .sl 11562 0 7 (.q 2), .s [.c 40, .c 40, .c 40, .c 40, .c 40, .c 40, .c 40, .a 0, .c 41, .c 41, .c 41, .c 41, .c 41, .c 41, .c 41], .sl 14111 0 1 (.q 2), .sl 13660 0 7 (.q 2), .s [.c 40, .c 40, .c 40, .c 40, .c 40, .c 40, .c 40, .a 0, .c 41, .c 41, .c 41, .c 41, .c 41, .c 41, .c 41], .sl 14649 0 1 (.q 2), .sl 14465 0 6 (.q 2), .s [.c 40, .c 40, .c 40, .c 40, .c 40, .c 40, .c 40, .a 0, .c 41, .c 41, .c 41, .c 41, .c 41, .c 41, .c 41], .sl 15118 0 1 (.q 2), .sl 14956 0 5 (.q 2), .s [.c 40, .c 40, .c 40, .c 40, .c 40, .c 40, .c 40, .a 0, .c 41, .c 41, .c 41, .c 41, .c 41, .c 41, .c 41], .sl 15518 0 1 (.q 2), .sl 15378 0 4 (.q 2)] false),
  (15767, .ce 53 [.x .i64 (.mk (.ofNat 11) [(1, (.ofNat 1))]), .x .i64 (.mk (.ofNat 11) [(1, (.ofNat 1))])] false)]
def lN7_5 : ML :=
  [(4, .ce 179 [.p 2 0, .p 13701 0] true),
  (6, .mp [] 0),
  (7, .ce 233 [.mp 6, I 0] true),
  (9, .ce 121 [.p 4 0, .p 7 0, .sl 16051 0 1 (.q 2)] true),
  (10, .ce 128 [I 100, .sl 16040 0 13 (.q 3), .ns] true),
  (11, .ce 69 [.p 9 0, .sl 16015 0 2 (.q 2), .ns, .p 10 0] true),
  (13701, .ce 258 [.x .i64 (.mk (.ofNat 14) [(1, (.ofNat 1))]), .x .i64 (.mk (.ofNat 0) [(30, (.ofNat 1))]), .x .i64 (.mk (.ofNat 0) [(32, (.ofNat 1))]), .x .i64 (.mk (.ofNat 0) [(34, (.ofNat 1))]), .s [.c 40, .c 40, .c 40, .c 40, .c 40, .c 40, .c 40, .a 0, .c 41, .c 41, .c 41, .c 41, .c 41, .c 41, .c 41], .x .i64 (.mk (.ofNat 14) [(1, (.ofNat 1))]), .x .i64 (.mk (.ofNat 0) [(30, (.ofNat 1))]), .x .i64 (.mk (.ofNat 0) [(32, (.ofNat 1))]), .x .i64 (.mk (.ofNat 0) [(34, (.ofNat 1))]), .x .u32 (.mk (.ofNat 0) [(36, (.ofNat 1))]), .np, .np] true),
  (15967, .ce 161 [I 1, .x .i64 (.mk (.ofNat 13) [(1, (.ofNat 1))]), I 1, .i .i64 (.negSucc 0), .b true, .b false, I 0, .s [], .b false, .ns, I 0, I 0, .b false, .ns, .ns, .b false, .b false, .ns, .x .i64 (.mk (.ofNat 14) [(1, (.ofNat 1))]), .x .i64 (.mk (.ofNat 14) [(1, (.ofNat 1))]), I 0, .i .i64 (.negSucc 0), .b true, .b false, I 0, .s [], .b false, .ns, I 0, I 0, .b false, .ns, .ns, .b false, .b false, .ns] false),
  (15969, .ce 98 [I 0, .x .i64 (.mk (.ofNat 14) [(1, (.ofNat 1))]), .sl 15967 0 2 (.q 18)] false),
  (15989, .ce 161 [I 2, .x .i64 (.mk (.ofNat 12) [(1, (.ofNat 1))]), I 1, .i .i64 (.negSucc 0), .b true, .b false, I 0, .s [], .b false, .ns, I 0, I 0, .b false, .ns, .ns, .b false, .b false, .ns, .x .i64 (.mk (.ofNat 13) [(1, (.ofNat 1))]), .x .i64 (.mk (.ofNat 13) [(1, (.ofNat 1))]), I 0, .i .i64 (.negSucc 0), .b true, .b false, I 0, .s [], .b false, .ns, I 0, I 0, .b false, .ns, .ns, .b false, .b false, .ns] false),
  (15991, .ce 98 [I 1, .x .i64 (.mk (.ofNat 13) [(1, (.ofNat 1))]), .sl 15989 0 2 (.q 18)] false),
  (16011, .ce 161 [I 3, .x .i64 (.mk (.ofNat 11) [(1, (.ofNat 1))]), I 1, .i .i64 (.negSucc 0), .b true, .b false, I 0, .s [], .b false, .ns, I 0, I 0, .b false, .ns, .ns, .b false, .b false, .ns, .x .i64 (.mk (.ofNat 12) [(1, (.ofNat 1))]), .x .i64 (.mk (.ofNat 12) [(1, (.ofNat 1))]), I 0, .i .i64 (.negSucc 0), .b true, .b false, I 0, .s [], .b false, .ns, I 0, I 0, .b false, .ns, .ns, .b false, .b false, .ns] false),
  (16013, .ce 98 [I 2, .x .i64 (.mk (.ofNat 12) [(1, (.ofNat 1))]), .sl 16011 0 2 (.q 18)] false),
  (16015, .ce 93 [I 1, .sl 15969 0 1 (.q 3), I 1, .sl 15991 0 1 (.q 3), I 0, .sl 16013 0 1 (.q 3)] false),
  (16040, .ce 48 [.s [], .sl 65 0 1 (.q 2), .ns, .s [.c 40, .c 120, .c 41], .sl 719 0 1 (.q 2), .sl 494 0 1 (.q 2), .s [.c 40, .c 40, .c 120, .c 41, .c 41], .sl 1794 0 1 (.q 2), .sl 1497 0 2 (.q 2), .s [.c 40, .c 40, .c 40, .c 120, .c 41, .c 41, .c 41], .sl 3203 0 1 (.q 2), .sl 2842 0 3 (.q 2), .s [.c 40, .c 40, .c 40, .c 40, .c 120, .c 41, .c 41, .c 41, .c 41], .sl 4946 0 1 (.q 2), .sl 4521 0 4 (.q 2), .s [.c 40, .c 40, .c 40, .c 40, .c 40, .c 120, .c 41, .c 41, .c 41, .c 41, .c 41], .sl 7023 0 1 (.q 2), .sl 6534 0 5 (.q 2), .s [.c 40, .c 40, .c 40, .c 40, .c 40, .c 40, .c 120, .c 41, .c 41, .c 41, .c 41, .c 41, .c 41], .sl 9434 0 1 (.q 2), .sl 8881 0 6 (.q 2), .s [.c 40, .c 40, .c 40, .c 40, .c 40, .c 40, .c 40, .c 120, .c 41, .c 41, .c 41, .c 41, .c 41, .c 41, .c 41], .sl 12130 0 1 (.q 2), .sl 11562 0 7 (.q 2), .s [.c 40, .c 40, .c 40, .c 40, .c 40, .c 40, .c 40, .a 0, .c 41, .c 41, .c 41, .c 41, .c 41, .c 41, .c 41], .sl 14111 0 1 (.q 2), .sl 13660 0 7 (.q 2), .s [.c 40, .c 40, .c 40, .c 40, .c 40, .c 40, .c 40, .a 0, .c 41, .c 41, .c 41, .c 41, .c 41, .c 41, .c 41], .sl 14649 0 1 (.q 2), .sl 14465 0 6 (.q 2), .s [.c 40, .c 40, .c 40, .c 40, .c 40, .c 40, .c 40, .a 0, .c 41, .c 41, .c 41, .c 41, .c 41, .c 41, .c 41], .sl 15118 0 1 (.q 2), .sl 14956 0 5 (.q 2), .s [.c 40, .c 40, .c 40, .c 40, .c 40, .c 40, .c 40, .a 0, .c 41, .c 41, .c 41, .c 41, .c 41, .c 41, .c 41], .sl 15518 0 1 (.q 2), .sl 15378 0 4 (.q 2), .s [.c 40, .c 40, .c 40, .c 40, .c 40, .c 40, .c 40, .a 0, .c 41, .c 41, .c 41, .c 41, .c 41, .c 41, .c 41], .sl 15849 0 1 (.q 2), .sl 15731 0 3 (.q 2)] false),
  (16051, .ce 53 [.x .i64 (.mk (.ofNat 12) [(1, (.ofNat 1))]), .x .i64 (.mk (.ofNat 12) [(1, (.ofNat 1))])] false)]
def lN7_6 : ML :=
  [(4, .ce 179 [.p 2 0, .p 13701 0] true),
  (6, .mp [] 0),
  (7, .ce 233 [.mp 6, I 0] true),
  (9, .ce 121 [.p 4 0, .p 7 0, .sl 16266 0 1 (.q 2)] true),
  (10, .ce 128 [I 100, .sl 16255 0 14 (.q 3), .ns] true),
  (11, .ce 69 [.p 9 0, .sl 16230 0 1 (.q 2), .ns, .p 10 0] true),
  (13701, .ce 258 [.x .i64 (.mk (.ofNat 14) [(1, (.ofNat 1))]), .x .i64 (.mk (.ofNat 0) [(30, (.ofNat 1))]), .x .i64 (.mk (.ofNat 0) [(32, (.ofNat 1))]), .x .i64 (.mk (.ofNat 0) [(34, (.ofNat 1))]), .s [.c 40, .c 40, .c 40, .c 40, .c 40, .c 40, .c 40, .a 0, .c 41, .c 41, .c 41, .c 41, .c 41, .c 41, .c 41], .x .i64 (.mk (.ofNat 14) [(1, (.ofNat 1))]), .x .i64 (.mk (.ofNat 0) [(30, (.ofNat 1))]), .x .i64 (.mk (.ofNat 0) [(32, (.ofNat 1))]), .x .i64 (.mk (.ofNat 0) [(34, (.ofNat 1))]), .x .u32 (.mk (.ofNat 0) [(36, (.ofNat 1))]), .np, .np] true),
  (16204, .ce 161 [I 1, .x .i64 (.mk (.ofNat 13) [(1, (.ofNat 1))]), I 1, .i .i64 (.negSucc 0), .b true, .b false, I 0, .s [], .b false, .ns, I 0, I 0, .b false, .ns, .ns, .b false, .b false, .ns, .x .i64 (.mk (.ofNat 14) [(1, (.ofNat 1))]), .x .i64 (.mk (.ofNat 14) [(1, (.ofNat 1))]), I 0, .i .i64 (.negSucc 0), .b true, .b false, I 0, .s [], .b false, .ns, I 0, I 0, .b false, .ns, .ns, .b false, .b false, .ns] false),
  (16206, .ce 98 [I 0, .x .i64 (.mk (.ofNat 14) [(1, (.ofNat 1))]), .sl 16204 0 2 (.q 18)] false),
  (16226, .ce 161 [I 2, .x .i64 (.mk (.ofNat 12) [(1, (.ofNat 1))]), I 1, .i .i64 (.negSucc 0), .b true, .b false, I 0, .s [], .b false, .ns, I 0, I 0, .b false, .ns, .ns, .b false, .b false, .ns, .x .i64 (.mk (.ofNat 13) [(1, (.ofNat 1))]), .x .i64 (.mk (.ofNat 13) [(1, (.ofNat 1))]), I 0, .i .i64 (.negSucc 0), .b true, .b false, I 0, .s [], .b false, .ns, I 0, I 0, .b false, .ns, .ns, .b false, .b false, .ns] false),
  (16228, .ce 98 [I 1, .x .i64 (.mk (.ofNat 13) [(1, (.ofNat 1))]), .sl 16226 0 2 (.q 18)] false),
  (16230, .ce 93 [I 1, .sl 16206 0 1 (.q 3), I 0, .sl 16228 0 1 (.q 3)] false),
  (16255, .ce 48 [.s [], .sl 65 0 1 (.q 2), .ns, .s [.c 40, .c 120, .c 41], .sl 719 0 1 (.q 2), .sl 494 0 1 (.q 2), .s [.c 40, .c 40, .c 120, .c 41, .c 41], .sl 1794 0 1 (.q 2), .sl 1497 0 2 (.q 2), .s [.c 40, .c 40, .c 40, .c 120, .c 41, .c 41, .c 41], .sl 3203 0 1 (.q 2), .sl 2842 0 3 (.q 2), .s [.c 40, .c 40, .c 40, .c 40, .c 120, .c 41, .c 41, .c 41, .c 41], .sl 4946 0 1 (.q 2), .sl 4521 0 4 (.q 2), .s [.c 40, .c 40, .c 40, .c 40, .c 40, .c 120, .c 41, .c 41, .c 41, .c 41, .c 41], .sl 7023 0 1 (.q 2), .sl 6534 0 5 (.q 2), .s [.c 40, .c 40, .c 40, .c 40, .c 40, .c 40, .c 120, .c 41, .c 41, .c 41, .c 41, .c 41, .c 41], .sl 9434 0 1 (.q 2), .sl 8881 0 6 (.q 2), .s [.c 40, .c 40, .c 40, .c 40, .c 40, .c 40, .c 40, .c 120, .c 41, .c 41, .c 41, .c 41, .c 41, .c 41, .c 41], .sl 12130 0 1 (.q 2), .sl 11562 0 7 (.q 2), .s [.c 40, .c 40, .c 40, .c 40, .c 40, .c 40, .c 40, .a 0, .c 41, .c 41, .c 41, .c 41, .c 41, .c 41, .c 41], .sl 14111 0 1 (.q 2), .sl 13660 0 7 (.q 2), .s [.c 40, .c 40, .c 40, .c 40, .c 40, .c 40, .c 40, .a 0, .c 41, .c 41, .c 41, .c 41, .c 41, .c 41, .c 41], .sl 14649 0 1 (.q 2), .sl 14465 0 6 (.q 2), .s [.c 40, .c 40, .c 40, .c 40, .c 40, .c 40, .c 40, .a 0, .c 41, .c 41, .c 41, .c 41, .c 41, .c 41, .c 41], .sl 15118 0 1 (.q 2), .sl 14956 0 5 (.q 2), .s [.c 40, .c 40, .c 40, .c 40, .c 40, .c 40, .c 40, .a 0, .c 41, .c 41, .c 41, .c 41, .c 41, .c 41, .c 41], .sl 15518 0 1 (.q 2), .sl 15378 0 4 (.q 2), .s [.c 40, .c 40, .c 40, .c 40, .c 40, .c 40, .c 40, .a 0, .c 41, .c 41, .c 41, .c 41, .c 41, .c 41, .c 41], .sl 15849 0 1 (.q 2), .sl 15731 0 3 (.q 2), .s [.c 40, .c 40, .c 40, .c 40, .c 40, .c 40, .c 40, .a 0, .c 41, .c 41, .c 41, .c 41, .c 41, .c 41, .c 41], .sl 16111 0 1 (.q 2), .sl 16015 0 2 (.q 2)] false),
  (16266, .ce 53 [.x .i64 (.mk (.ofNat 13) [(1, (.ofNat 1))]), .x .i64 (.mk (.ofNat 13) [(1, (.ofNat 1))])] false)]
def lN7_7 : ML :=
  [(4, .ce 179 [.p 2 0, .p 13701 0] true),
  (6, .mp [] 0),
  (7, .ce 233 [.mp 6, I 0] true),
  (9, .ce 121 [.p 4 0, .p 7 0, .sl 16412 0 1 (.q 2)] true),
  (10, .ce 128 [I 100, .sl 16401 0 15 (.q 3), .ns] true),
  (11, .ce 69 [.p 9 0, .sl 16376 0 0 (.q 2), .ns, .p 10 0] true),
  (13701, .ce 258 [.x .i64 (.mk (.ofNat 14) [(1, (.ofNat 1))]), .x .i64 (.mk (.ofNat 0) [(30, (.ofNat 1))]), .x .i64 (.mk (.ofNat 0) [(32, (.ofNat 1))]), .x .i64 (.mk (.ofNat 0) [(34, (.ofNat 1))]), .s [.c 40, .c 40, .c 40, .c 40, .c 40, .c 40, .c 40, .a 0, .c 41, .c 41, .c 41, .c 41, .c 41, .c 41, .c 41], .x .i64 (.mk (.ofNat 14) [(1, (.ofNat 1))]), .x .i64 (.mk (.ofNat 0) [(30, (.ofNat 1))]), .x .i64 (.mk (.ofNat 0) [(32, (.ofNat 1))]), .x .i64 (.mk (.ofNat 0) [(34, (.ofNat 1))]), .x .u32 (.mk (.ofNat 0) [(36, (.ofNat 1))]), .np, .np] true),
  (16372, .ce 161 [I 1, .x .i64 (.mk (.ofNat 13) [(1, (.ofNat 1))]), I 1, .i .i64 (.negSucc 0), .b true, .b false, I 0, .s [], .b false, .ns, I 0, I 0, .b false, .ns, .ns, .b false, .b false, .ns, .x .i64 (.mk (.ofNat 14) [(1, (.ofNat 1))]), .x .i64 (.mk (.ofNat 14) [(1, (.ofNat 1))]), I 0, .i .i64 (.negSucc 0), .b true, .b false, I 0, .s [], .b false, .ns, I 0, I 0, .b false, .ns, .ns, .b false, .b false, .ns] false),
  (16374, .ce 98 [I 0, .x .i64 (.mk (.ofNat 14) [(1, (.ofNat 1))]), .sl 16372 0 2 (.q 18)] false),
  (16376, .ce 93 [I 0, .sl 16374 0 1 (.q 3)] false),
  (16401, .ce 48 [.s [], .sl 65 0 1 (.q 2), .ns, .s [.c 40, .c 120, .c 41], .sl 719 0 1 (.q 2), .sl 494 0 1 (.q 2), .s [.c 40, .c 40, .c 120, .c 41, .c 41], .sl 1794 0 1 (.q 2), .sl 1497 0 2 (.q 2), .s [.c 40, .c 40, .c 40, .c 120, .c 41, .c 41, .c 41], .sl 3203 0 1 (.q 2), .sl 2842 0 3 (.q 2), .s [.c 40, .c 40, .c 40, .c 40, .c 120, .c 41, .c 41, .c 41, .c 41], .sl 4946 0 1 (.q 2), .sl 4521 0 4 (.q 2), .s [.c 40, .c 40, .c 40, .c 40, .c 40, .c 120, .c 41, .c 41, .c 41, .c 41, .c 41], .sl 7023 0 1 (.q 2), .sl 6534 0 5 (.q 2), .s [.c 40, .c 40, .c 40, .c 40, .c 40, .c 40, .c 120, .c 41, .c 41, .c 41, .c 41, .c 41, .c 41], .sl 9434 0 1 (.q 2), .sl 8881 0 6 (.q 2), .s [.c 40, .c 40, .c 40, .c 40, .c 40, .c 40, .c 40, .c 120, .c 41, .c 41, .c 41, .c 41, .c 41, .c 41, .c 41], .sl 12130 0 1 (.q 2), .sl 11562 0 7 (.q 2), .s [.c 40, .c 40, .c 40, .c 40, .c 40, .c 40, .c 40, .a 0, .c 41, .c 41, .c 41, .c 41, .c 41, .c 41, .c 41], .sl 14111 0 1 (.q 2), .sl 13660 0 7 (.q 2), .s [.c 40, .c 40, .c 40, .c 40, .c 40, .c 40, .c 40, .a 0, .c 41, .c 41, .c 41, .c 41, .c 41, .c 41, .c 41], .sl 14649 0 1 (.q 2), .sl 14465 0 6 (.q 2), .s [.c 40, .c 40, .c 40, .c 40, .c 40, .c 40, .c 40, .a 0, .c 41, .c 41, .c 41, .c 41, .c 41, .c 41, .c 41], .sl 15118 0 1 (.q 2), .sl 14956 0 5 (.q 2), .s [.c 40, .c 40, .c 40, .c 40, .c 40, .c 40, .c 40, .a 0, .c 41, .c 41, .c 41, .c 41, .c 41, .c 41, .c 41], .sl 15518 0 1 (.q 2), .sl 15378 0 4 (.q 2), .s [.c 40, .c 40, .c 40, .c 40, .c 40, .c 40, .c 40, .a 0, .c 41, .c 41, .c 41, .c 41, .c 41, .c 41, .c 41], .sl 15849 0 1 (.q 2), .sl 15731 0 3 (.q 2), .s [.c 40, .c 40, .c 40, .c 40, .c 40, .c 40, .c 40, .a 0, .c 41, .c 41, .c 41, .c 41, .c 41, .c 41, .c 41], .sl 16111 0 1 (.q 2), .sl 16015 0 2 (.q 2), .s [.c 40, .c 40, .c 40, .c 40, .c 40, .c 40, .c 40, .a 0, .c 41, .c 41, .c 41, .c 41, .c 41, .c 41, .c 41], .sl 16304 0 1 (.q 2), .sl 16230 0 1 (.q 2)] false),
  (16412, .ce 53 [.x .i64 (.mk (.ofNat 14) [(1, (.ofNat 1))]), .x .i64 (.mk (.ofNat 14) [(1, (.ofNat 1))])] false)]
def lI8 : ML :=
  [(1, .ce 59 [.i .u32 (.ofNat 6), .i .u32 (.ofNat 5), .i .u32 (.ofNat 4)] false),
  (2, .ce 88 [.sl 1 0 3 (.q 1), I 3, .i .u32 (.ofNat 2047901728)] true),
  (4, .ce 179 [.p 2 0, .p 14801 0] true),
  (6, .mp [] 0),
  (7, .ce 233 [.mp 6, I 0] true),
  (9, .ce 121 [.p 4 0, .p 7 0, .sl 14833 0 1 (.q 2)] true),
  (10, .ce 128 [I 100, .sl 14602 0 8 (.q 3), .ns] true),
  (11, .ce 69 [.p 9 0, .sl 14577 0 8 (.q 2), .ns, .p 10 0] true),
  (14419, .ce 161 [I 1, I 16, I 1, .i .i64 (.negSucc 0), .b true, .b false, I 0, .s [], .b false, .ns, I 0, I 0, .b false, .ns, .ns, .b false, .b false, .ns, I 17, I 17, I 0, .i .i64 (.negSucc 0), .b true, .b false, I 0, .s [], .b false, .ns, I 0, I 0, .b false, .ns, .ns, .b false, .b false, .ns] false),
  (14421, .ce 98 [I 0, I 17, .sl 14419 0 2 (.q 18)] false),
  (14441, .ce 161 [I 2, I 15, I 1, .i .i64 (.negSucc 0), .b true, .b false, I 0, .s [], .b false, .ns, I 0, I 0, .b false, .ns, .ns, .b false, .b false, .ns, I 16, I 16, I 0, .i .i64 (.negSucc 0), .b true, .b false, I 0, .s [], .b false, .ns, I 0, I 0, .b false, .ns, .ns, .b false, .b false, .ns] false),
  (14443, .ce 98 [I 1, I 16, .sl 14441 0 2 (.q 18)] false),
  (14463, .ce 161 [I 3, I 14, I 1, .i .i64 (.negSucc 0), .b true, .b false, I 0, .s [], .b false, .ns, I 0, I 0, .b false, .ns, .ns, .b false, .b false, .ns, I 15, I 15, I 0, .i .i64 (.negSucc 0), .b true, .b false, I 0, .s [], .b false, .ns, I 0, I 0, .b false, .ns, .ns, .b false, .b false, .ns] false),
  (14465, .ce 98 [I 2, I 15, .sl 14463 0 2 (.q 18)] false),
  (14485, .ce 161 [I 4, I 13, I 1, .i .i64 (.negSucc 0), .b true, .b false, I 0, .s [], .b false, .ns, I 0, I 0, .b false, .ns, .ns, .b false, .b false, .ns, I 14, I 14, I 0, .i .i64 (.negSucc 0), .b true, .b false, I 0, .s [], .b false, .ns, I 0, I 0, .b false, .ns, .ns, .b false, .b false, .ns] false),
  (14487, .ce 98 [I 3, I 14, .sl 14485 0 2 (.q 18)] false),
  (14507, .ce 161 [I 5, I 12, I 1, .i .i64 (.negSucc 0), .b true, .b false, I 0, .s [], .b false, .ns, I 0, I 0, .b false, .ns, .ns, .b false, .b false, .ns, I 13, I 13, I 0, .i .i64 (.negSucc 0), .b true, .b false, I 0, .s [], .b false, .ns, I 0, I 0, .b false, .ns, .ns, .b false, .b false, .ns] false),
  (14509, .ce 98 [I 4, I 13, .sl 14507 0 2 (.q 18)] false),
  (14529, .ce 161 [I 6, I 11, I 1, .i .i64 (.negSucc 0), .b true, .b false, I 0, .s [], .b false, .ns, I 0, I 0, .b false, .ns, .ns, .b false, .b false, .ns, I 12, I 12, I 0, .i .i64 (.negSucc 0), .b true, .b false, I 0, .s [], .b false, .ns, I 0, I 0, .b false, .ns, .ns, .b false, .b false, .ns] false),
  (14531, .ce 98 [I 5, I 12, .sl 14529 0 2 (.q 18)] false),
  (14551, .ce 161 [I 7, I 10, I 1, .i .i64 (.negSucc 0), .b true, .b false, I 0, .s [], .b false, .ns, I 0, I 0, .b false, .ns, .ns, .b false, .b false, .ns, I 11, I 11, I 0, .i .i64 (.negSucc 0), .b true, .b false, I 0, .s [], .b false, .ns, I 0, I 0, .b false, .ns, .ns, .b false, .b false, .ns] false),
  (14553, .ce 98 [I 6, I 11, .sl 14551 0 2 (.q 18)] false),
  (14573, .ce 161 [I 8, I 9, I 1, .i .i64 (.negSucc 0), .b true, .b false, I 0, .s [], .b false, .ns, I 0, I 0, .b false, .ns, .ns, .b false, .b false, .ns, I 10, I 10, I 0, .i .i64 (.negSucc 0), .b true, .b false, I 0, .s [], .b false, .ns, I 0, I 0, .b false, .ns, .ns, .b false, .b false, .ns] false),
  (14575, .ce 98 [I 7, I 10, .sl 14573 0 2 (.q 18)] false),
  (14577, .ce 93 [I 1, .sl 14421 0 1 (.q 3), I 1, .sl 14443 0 1 (.q 3), I 1, .sl 14465 0 1 (.q 3), I 1, .sl 14487 0 1 (.q 3), I 1, .sl 14509 0 1 (.q 3), I 1, .sl 14531 0 1 (.q 3), I 1, .sl 14553 0 1 (.q 3), I 1, .sl 14575 0 1 (.q 3)] false),
  (14602, .ce 48 [.s [], .sl 65 0 1 (.q 2), .ns, .s [.c 40, .c 120, .c 41], .sl 719 0 1 (.q 2), .sl 494 0 1 (.q 2), .s [.c 40, .c 40, .c 120, .c 41, .c 41], .sl 1794 0 1 (.q 2), .sl 1497 0 2 (.q 2), .s [.c 40, .c 40, .c 40, .c 120, .c 41, .c 41, .c 41], .sl 3203 0 1 (.q 2), .sl 2842 0 3 (.q 2), .s [.c 40, .c 40, .c 40, .c 40, .c 120, .c 41, .c 41, .c 41, .c 41], .sl 4946 0 1 (.q 2), .sl 4521 0 4 (.q 2), .s [.c 40, .c 40, .c 40, .c 40, .c 40, .c 120, .c 41, .c 41, .c 41, .c 41, .c 41], .sl 7023 0 1 (.q 2), .sl 6534 0 5 (.q 2), .s [.c 40, .c 40, .c 40, .c 40, .c 40, .c 40, .c 120, .c 41, .c 41, .c 41, .c 41, .c 41, .c 41], .sl 9434 0 1 (.q 2), .sl 8881 0 6 (.q 2), .s [.c 40, .c 40, .c 40, .c 40, .c 40, .c 40, .c 40, .c 120, .c 41, .c 41, .c 41, .c 41, .c 41, .c 41, .c 41], .sl 12179 0 1 (.q 2), .sl 11562 0 7 (.q 2)] false),
  (14801, .ce 258 [I 17, I 0, I 17, I 17, .s [.c 40, .c 40, .c 40, .c 40, .c 40, .c 40, .c 40, .c 40, .c 120, .c 41, .c 41, .c 41, .c 41, .c 41, .c 41, .c 41, .c 41], I 17, I 0, I 17, I 17, .i .u32 (.ofNat 2047901728), .np, .np] true),
  (14833, .ce 53 [I 8, I 9] false)]
def lSa8 : ML :=
  [(1, .ce 59 [.i .u32 (.ofNat 6), .i .u32 (.ofNat 5), .i .u32 (.ofNat 4)] false),
  (2, .ce 88 [.sl 1 0 3 (.q 1), I 3, .i .u32 (.ofNat 2047901728)] true),
  (4, .ce 179 [.p 2 0, .p 14801 0] true),
  (6, .mp [] 0),
  (7, .ce 233 [.mp 6, I 0] true),
  (9, .ce 121 [.p 4 0, .p 7 0, .sl 14833 0 1 (.q 2)] true),
  (14801, .ce 258 [.x .i64 (.mk (.ofNat 0) [(5, (.ofNat 1)), (9, (.ofNat 1)), (13, (.ofNat 1))]), I 0, I 17, I 17, .s [.a 1, .a 2, .a 3], .x .i64 (.mk (.ofNat 0) [(5, (.ofNat 1)), (9, (.ofNat 1)), (13, (.ofNat 1))]), I 0, I 17, I 17, .i .u32 (.ofNat 2047901728), .np, .np] true),
  (14833, .ce 53 [I 8, I 9] false),
  (16958, .ce 142 [.x .i64 (.mk (.ofNat 0) [(5, (.ofNat 1))]), .x .i64 (.mk (.ofNat 0) [(5, (.ofNat 1)), (9, (.ofNat 1))]), .s [.a 4]] true)]
def lSb8 : ML :=
  [(4, .ce 179 [.p 2 0, .p 16990 0] true),
  (6, .mp [] 0),
  (7, .ce 233 [.mp 6, I 0] true),
  (9, .ce 121 [.p 4 0, .p 7 0, .sl 17013 0 1 (.q 2)] true),
  (16990, .ce 258 [.x .i64 (.mk (.ofNat 16) [(1, (.ofNat 1))]), .x .i64 (.mk (.ofNat 0) [(30, (.ofNat 1))]), .x .i64 (.mk (.ofNat 0) [(32, (.ofNat 1))]), .x .i64 (.mk (.ofNat 0) [(34, (.ofNat 1))]), .s [.c 40, .c 40, .c 40, .c 40, .c 40, .c 40, .c 40, .c 40, .a 0, .c 41, .c 41, .c 41, .c 41, .c 41, .c 41, .c 41, .c 41], .x .i64 (.mk (.ofNat 16) [(1, (.ofNat 1))]), .x .i64 (.mk (.ofNat 0) [(30, (.ofNat 1))]), .x .i64 (.mk (.ofNat 0) [(32, (.ofNat 1))]), .x .i64 (.mk (.ofNat 0) [(34, (.ofNat 1))]), .x .u32 (.mk (.ofNat 0) [(36, (.ofNat 1))]), .np, .np] true)]
def lT8 : ML :=
  [(4, .ce 179 [.p 2 0, .p 16990 0] true),
  (6, .mp [] 0),
  (7, .ce 233 [.mp 6, I 0] true),
  (9, .ce 121 [.p 4 0, .p 7 0, .sl 17031 0 1 (.q 2)] true),
  (10, .ce 128 [I 100, .sl 16955 0 9 (.q 3), .ns] true),
  (11, .ce 69 [.p 9 0, .sl 16949 0 8 (.q 2), .ns, .p 10 0] true),
  (16791, .ce 161 [I 1, .x .i64 (.mk (.ofNat 15) [(1, (.ofNat 1))]), I 1, .i .i64 (.negSucc 0), .b true, .b false, I 0, .s [], .b false, .ns, I 0, I 0, .b false, .ns, .ns, .b false, .b false, .ns, .x .i64 (.mk (.ofNat 16) [(1, (.ofNat 1))]), .x .i64 (.mk (.ofNat 16) [(1, (.ofNat 1))]), I 0, .i .i64 (.negSucc 0), .b true, .b false, I 0, .s [], .b false, .ns, I 0, I 0, .b false, .ns, .ns, .b false, .b false, .ns] false),
  (16793, .ce 98 [I 0, .x .i64 (.mk (.ofNat 16) [(1, (.ofNat 1))]), .sl 16791 0 2 (.q 18)] false),
  (16813, .ce 161 [I 2, .x .i64 (.mk (.ofNat 14) [(1, (.ofNat 1))]), I 1, .i .i64 (.negSucc 0), .b true, .b false, I 0, .s [], .b false, .ns, I 0, I 0, .b false, .ns, .ns, .b false, .b false, .ns, .x .i64 (.mk (.ofNat 15) [(1, (.ofNat 1))]), .x .i64 (.mk (.ofNat 15) [(1, (.ofNat 1))]), I 0, .i .i64 (.negSucc 0), .b true, .b false, I 0, .s [], .b false, .ns, I 0, I 0, .b false, .ns, .ns, .b false, .b false, .ns] false),
  (16815, .ce 98 [I 1, .x .i64 (.mk (.ofNat 15) [(1, (.ofNat 1))]), .sl 16813 0 2 (.q 18)] false),
  (16835, .ce 161 [I 3, .x .i64 (.mk (.ofNat 13) [(1, (.ofNat 1))]), I 1, .i .i64 (.negSucc 0), .b true, .b false, I 0, .s [], .b false, .ns, I 0, I 0, .b false, .ns, .ns, .b false, .b false, .ns, .x .i64 (.mk (.ofNat 14) [(1, (.ofNat 1))]), .x .i64 (.mk (.ofNat 14) [(1, (.ofNat 1))]), I 0, .i .i64 (.negSucc 0), .b true, .b false, I 0, .s [], .b false, .ns, I 0, I 0, .b false, .ns, .ns, .b false, .b false, .ns] false),
  (16837, .ce 98 [I 2, .x .i64 (.mk (.ofNat 14) [(1, (.ofNat 1))]), .sl 16835 0 2 (.q 18)] false),
  (16857, .ce 161 [I 4, .x .i64 (.mk (.ofNat 12) [(1, (.ofNat 1))]), I 1, .i .i64 (.negSucc 0), .b true, .b false, I 0, .s [], .b false, .ns, I 0, I 0, .b false, .ns, .ns, .b false, .b false, .ns, .x .i64 (.mk (.ofNat 13) [(1, (.ofNat 1))]), .x .i64 (.mk (.ofNat 13) [(1, (.ofNat 1))]), I 0, .i .i64 (.negSucc 0), .b true, .b false, I 0, .s [], .b false, .ns, I 0, I 0, .b false, .ns, .ns, .b false, .b false, .ns] false),
  (16859, .ce 98 [I 3, .x .i64 (.mk (.ofNat 13) [(1, (.ofNat 1))]), .sl 16857 0 2 (.q 18)] false),
  (16879, .ce 161 [I 5, .x .i64 (.mk (.ofNat 11) [(1, (.ofNat 1))]), I 1, .i .i64 (.negSucc 0), .b true, .b false, I 0, .s [], .b false, .ns, I 0, I 0, .b false, .ns, .ns, .b false, .b false, .ns, .x .i64 (.mk (.ofNat 12) [(1, (.ofNat 1))]), .x .i64 (.mk (.ofNat 12) [(1, (.ofNat 1))]), I 0, .i .i64 (.negSucc 0), .b true, .b false, I 0, .s [], .b false, .ns, I 0, I 0, .b false, .ns, .ns, .b false, .b false, .ns] false),
  (16881, .ce 98 [I 4, .x .i64 (.mk (.ofNat 12) [(1, (.ofNat 1))]), .sl 16879 0 2 (.q 18)] false),
  (16901, .ce 161 [I 6, .x .i64 (.mk (.ofNat 10) [(1, (.ofNat 1))]), I 1, .i .i64 (.negSucc 0), .b true, .b false, I 0, .s [], .b false, .ns, I 0, I 0, .b false, .ns, .ns, .b false, .b false, .ns, .x .i64 (.mk (.ofNat 11) [(1, (.ofNat 1))]), .x .i64 (.mk (.ofNat 11) [(1, (.ofNat 1))]), I 0, .i .i64 (.negSucc 0), .b true, .b false, I 0, .s [], .b false, .ns, I 0, I 0, .b false, .ns, .ns, .b false, .b false, .ns] false),
  (16903, .ce 98 [I 5, .x .i64 (.mk (.ofNat 11) [(1, (.ofNat 1))]), .sl 16901 0 2 (.q 18)] false),
  (16923, .ce 161 [I 7, .x .i64 (.mk (.ofNat 9) [(1, (.ofNat 1))]), I 1, .i .i64 (.negSucc 0), .b true, .b false, I 0, .s [], .b false, .ns, I 0, I 0, .b false, .ns, .ns, .b false, .b false, .ns, .x .i64 (.mk (.ofNat 10) [(1, (.ofNat 1))]), .x .i64 (.mk (.ofNat 10) [(1, (.ofNat 1))]), I 0, .i .i64 (.negSucc 0), .b true, .b false, I 0, .s [], .b false, .ns, I 0, I 0, .b false, .ns, .ns, .b false, .b false, .ns] false),
  (16925, .ce 98 [I 6, .x .i64 (.mk (.ofNat 10) [(1, (.ofNat 1))]), .sl 16923 0 2 (.q 18)] false),
  (16945, .ce 161 [I 8, .x .i64 (.mk (.ofNat 8) [(1, (.ofNat 1))]), I 1, .i .i64 (.negSucc 0), .b true, .b false, I 0, .s [], .b false, .ns, I 0, I 0, .b false, .ns, .ns, .b false, .b false, .ns, .x .i64 (.mk (.ofNat 9) [(1, (.ofNat 1))]), .x .i64 (.mk (.ofNat 9) [(1, (.ofNat 1))]), I 0, .i .i64 (.negSucc 0), .b true, .b false, I 0, .s [], .b false, .ns, I 0, I 0, .b false, .ns, .ns, .b false, .b false, .ns] false),
  (16947, .ce 98 [I 7, .x .i64 (.mk (.ofNat 9) [(1, (.ofNat 1))]), .sl 16945 0 2 (.q 18)] false),
  (16949, .ce 93 [I 1, .sl 16793 0 1 (.q 3), I 1, .sl 16815 0 1 (.q 3), I 1, .sl 16837 0 1 (.q 3), I 1, .sl 16859 0 1 (.q 3), I 1, .sl 16881 0 1 (.q 3), I 1, .sl 16903 0 1 (.q 3), I 1, .sl 16925 0 1 (.q 3), I 1, .sl 16947 0 1 (.q 3)] false),
  (16955, .ce 48 [.s [], .sl 65 0 1 (.q 2), .ns, .s [.c 40, .c 120, .c 41], .sl 719 0 1 (.q 2), .sl 494 0 1 (.q 2), .s [.c 40, .c 40, .c 120, .c 41, .c 41], .sl 1794 0 1 (.q 2), .sl 1497 0 2 (.q 2), .s [.c 40, .c 40, .c 40, .c 120, .c 41, .c 41, .c 41], .sl 3203 0 1 (.q 2), .sl 2842 0 3 (.q 2), .s [.c 40, .c 40, .c 40, .c 40, .c 120, .c 41, .c 41, .c 41, .c 41], .sl 4946 0 1 (.q 2), .sl 4521 0 4 (.q 2), .s [.c 40, .c 40, .c 40, .c 40, .c 40, .c 120, .c 41, .c 41, .c 41, .c 41, .c 41], .sl 7023 0 1 (.q 2), .sl 6534 0 5 (.q 2), .s [.c 40, .c 40, .c 40, .c 40, .c 40, .c 40, .c 120, .c 41, .c 41, .c 41, .c 41, .c 41, .c 41], .sl 9434 0 1 (.q 2), .sl 8881 0 6 (.q 2), .s [.c 40, .c 40, .c 40, .c 40, .c 40, .c 40, .c 40, .c 120, .c 41, .c 41, .c 41, .c 41, .c 41, .c 41, .c 41], .sl 12179 0 1 (.q 2), .sl 11562 0 7 (.q 2), .s [.c 40, .c 40, .c 40, .c 40, .c 40, .c 40, .c 40, .c 40, .c 120, .c 41, .c 41, .c 41, .c 41, .c 41, .c 41, .c 41, .c 41], .sl 15209 0 1 (.q 2), .sl 14577 0 8 (.q 2)] false),
  (16990, .ce 258 [.x .i64 (.mk (.ofNat 16) [(1, (.ofNat 1))]), .x .i64 (.mk (.ofNat 0) [(30, (.ofNat 1))]), .x .i64 (.mk (.ofNat 0) [(32, (.ofNat 1))]), .x .i64 (.mk (.ofNat 0) [(34, (.ofNat 1))]), .s [.c 40, .c 40, .c 40, .c 40, .c 40, .c 40, .c 40, .c 40, .a 0, .c 41, .c 41, .c 41, .c 41, .c 41, .c 41, .c 41, .c 41], .x .i64 (.mk (.ofNat 16) [(1, (.ofNat 1))]), .x .i64 (.mk (.ofNat 0) [(30, (.ofNat 1))]), .x .i64 (.mk (.ofNat 0) [(32, (.ofNat 1))]), .x .i64 (.mk (.ofNat 0) [(34, (.ofNat 1))]), .x .u32 (.mk (.ofNat 0) [(36, (.ofNat 1))]), .np, .np] true),
  (17031, .ce 53 [.x .i64 (.mk (.ofNat 8) [(1, (.ofNat 1))]), .x .i64 (.mk (.ofNat 8) [(1, (.ofNat 1))])] false)]
def lN8_1 : ML :=
  [(4, .ce 179 [.p 2 0, .p 16990 0] true),
  (6, .mp [] 0),
  (7, .ce 233 [.mp 6, I 0] true),
  (9, .ce 121 [.p 4 0, .p 7 0, .sl 17859 0 1 (.q 2)] true),
  (10, .ce 128 [I 100, .sl 17848 0 10 (.q 3), .ns] true),
  (11, .ce 69 [.p 9 0, .sl 17823 0 7 (.q 2), .ns, .p 10 0] true),
  (16990, .ce 258 [.x .i64 (.mk (.ofNat 16) [(1, (.ofNat 1))]), .x .i64 (.mk (.ofNat 0) [(30, (.ofNat 1))]), .x .i64 (.mk (.ofNat 0) [(32, (.ofNat 1))]), .x .i64 (.mk (.ofNat 0) [(34, (.ofNat 1))]), .s [.c 40, .c 40, .c 40, .c 40, .c 40, .c 40, .c 40, .c 40, .a 0, .c 41, .c 41, .c 41, .c 41, .c 41, .c 41, .c 41, .c 41], .x .i64 (.mk (.ofNat 16) [(1, (.ofNat 1))]), .x .i64 (.mk (.ofNat 0) [(30, (.ofNat 1))]), .x .i64 (.mk (.ofNat 0) [(32, (.ofNat 1))]), .x .i64 (.mk (.ofNat 0) [(34, (.ofNat 1))]), .x .u32 (.mk (.ofNat 0) [(36, (.ofNat 1))]), .np, .np] true),
  (17665, .ce 161 [I 1, .x .i64 (.mk (.ofNat 15) [(1, (.ofNat 1))]), I 1, .i .i64 (.negSucc 0), .b true, .b false, I 0, .s [], .b false, .ns, I 0, I 0, .b false, .ns, .ns, .b false, .b false, .ns, .x .i64 (.mk (.ofNat 16) [(1, (.ofNat 1))]), .x .i64 (.mk (.ofNat 16) [(1, (.ofNat 1))]), I 0, .i .i64 (.negSucc 0), .b true, .b false, I 0, .s [], .b false, .ns, I 0, I 0, .b false, .ns, .ns, .b false, .b false, .ns] false),
  (17667, .ce 98 [I 0, .x .i64 (.mk (.ofNat 16) [(1, (.ofNat 1))]), .sl 17665 0 2 (.q 18)] false),
  (17687, .ce 161 [I 2, .x .i64 (.mk (.ofNat 14) [(1, (.ofNat 1))]), I 1, .i .i64 (.negSucc 0), .b true, .b false, I 0, .s [], .b false, .ns, I 0, I 0, .b false, .ns, .ns, .b false, .b false, .ns, .x .i64 (.mk (.ofNat 15) [(1, (.ofNat 1))]), .x .i64 (.mk (.ofNat 15) [(1, (.ofNat 1))]), I 0, .i .i64 (.negSucc 0), .b true, .b false, I 0, .s [], .b false, .ns, I 0, I 0, .b false, .ns, .ns, .b false, .b false, .ns] false),
  (17689, .ce 98 [I 1, .x .i64 (.mk (.ofNat 15) [(1, (.ofNat 1))]), .sl 17687 0 2 (.q 18)] false),
  (17709, .ce 161 [I 3, .x .i64 (.mk (.ofNat 13) [(1, (.ofNat 1))]), I 1, .i .i64 (.negSucc 0), .b true, .b false, I 0, .s [], .b false, .ns, I 0, I 0, .b false, .ns, .ns, .b false, .b false, .ns, .x .i64 (.mk (.ofNat 14) [(1, (.ofNat 1))]), .x .i64 (.mk (.ofNat 14) [(1, (.ofNat 1))]), I 0, .i .i64 (.negSucc 0), .b true, .b false, I 0, .s [], .b false, .ns, I 0, I 0, .b false, .ns, .ns, .b false, .b false, .ns] false),
  (17711, .ce 98 [I 2, .x .i64 (.mk (.ofNat 14) [(1, (.ofNat 1))]), .sl 17709 0 2 (.q 18)] false),
  (17731, .ce 161 [I 4, .x .i64 (.mk (.ofNat 12) [(1, (.ofNat 1))]), I 1, .i .i64 (.negSucc 0), .b true, .b false, I 0, .s [], .b false, .ns, I 0, I 0, .b false, .ns, .ns, .b false, .b false, .ns, .x .i64 (.mk (.ofNat 13) [(1, (.ofNat 1))]), .x .i64 (.mk (.ofNat 13) [(1, (.ofNat 1))]), I 0, .i .i64 (.negSucc 0), .b true, .b false, I 0, .s [], .b false, .ns, I 0, I 0, .b false, .ns, .ns, .b false, .b false, .ns] false),
  (17733, .ce 98 [I 3, .x .i64 (.mk (.ofNat 13) [(1, (.ofNat 1))]), .sl 17731 0 2 (.q 18)] false),
  (17753, .ce 161 [I 5, .x .i64 (.mk (.ofNat 11) [(1, (.ofNat 1))]), I 1, .i .i64 (.negSucc 0), .b true, .b false, I 0, .s [], .b false, .ns, I 0, I 0, .b false, .ns, .ns, .b false, .b false, .ns, .x .i64 (.mk (.ofNat 12) [(1, (.ofNat 1))]), .x .i64 (.mk (.ofNat 12) [(1, (.ofNat 1))]), I 0, .i .i64 (.negSucc 0), .b true, .b false, I 0, .s [], .b false, .ns, I 0, I 0, .b false, .ns, .ns, .b false, .b false, .ns] false),
  (17755, .ce 98 [I 4, .x .i64 (.mk (.ofNat 12) [(1, (.ofNat 1))]), .sl 17753 0 2 (.q 18)] false),
  (17775, .ce 161 [I 6, .x .i64 (.mk (.ofNat 10) [(1, (.ofNat 1))]), I 1, .i .i64 (.negSucc 0), .b true, .b false, I 0, .s [], .b false, .ns, I 0, I 0, .b false, .ns, .ns, .b false, .b false, .ns, .x .i64 (.mk (.ofNat 11) [(1, (.ofNat 1))]), .x .i64 (.mk (.ofNat 11) [(1, (.ofNat 1))]), I 0, .i .i64 (.negSucc 0), .b true, .b false, I 0, .s [], .b false, .ns, I 0, I 0, .b false, .ns, .ns, .b false, .b false, .ns] false),
  (17777, .ce 98 [I 5, .x .i64 (.mk (.ofNat 11) [(1, (.ofNat 1))]), .sl 17775 0 2 (.q 18)] false),
  (17797, .ce 161 [I 7, .x .i64 (.mk (.ofNat 9) [(1, (.ofNat 1))]), I 1, .i .i64 (.negSucc 0), .b true, .b false, I 0, .s [], .b false, .ns, I 0, I 0, .b false, .ns, .ns, .b false, .b false, .ns, .x .i64 (.mk (.ofNat 10) [(1, (.ofNat 1))]), .x .i64 (.mk (.ofNat 10) [(1, (.ofNat 1))]), I 0, .i .i64 (.negSucc 0), .b true, .b false, I 0, .s [], .b false, .ns, I 0, I 0, .b false, .ns, .ns, .b false, .b false, .ns] false),
  (17799, .ce 98 [I 6, .x .i64 (.mk (.ofNat 10) [(1, (.ofNat 1))]), .sl 17797 0 2 (.q 18)] false),
  (17819, .ce 161 [I 8, .x .i64 (.mk (.ofNat 8) [(1, (.ofNat 1))]), I 1, .i .i64 (.negSucc 0), .b true, .b false, I 0, .s [], .b false, .ns, I 0, I 0, .b false, .ns, .ns, .b false, .b false, .ns, .x .i64 (.mk (.ofNat 9) [(1, (.ofNat 1))]), .x .i64 (.mk (.ofNat 9) [(1, (.ofNat 1))]), I 0, .i .i64 (.negSucc 0), .b true, .b false, I 0, .s [], .b false, .ns, I 0, I 0, .b false, .ns, .ns, .b false, .b false, .ns] false),
  (17821, .ce 98 [I 7, .x .i64 (.mk (.ofNat 9) [(1, (.ofNat 1))]), .sl 17819 0 2 (.q 18)] false),
  (17823, .ce 93 [I 1, .sl 17667 0 1 (.q 3), I 1, .sl 17689 0 1 (.q 3), I 1, .sl 17711 0 1 (.q 3), I 1, .sl 17733 0 1 (.q 3), I 1, .sl 17755 0 1 (.q 3), I 1, .sl 17777 0 1 (.q 3), I 1, .sl 17799 0 1 (.q 3), I 0, .sl 17821 0 1 (.q 3)] false),
  (17848, .ce 48 [.s [], .sl 65 0 1 (.q 2), .ns, .s [.c 40, .c 120, .c 41], .sl 719 0 1 (.q 2), .sl 494 0 1 (.q 2), .s [.c 40, .c 40, .c 120, .c 41, .c 41], .sl 1794 0 1 (.q 2), .sl 1497 0 2 (.q 2), .s [.c 40, .c 40, .c 40, .c 120, .c 41, .c 41, .c 41], .sl 3203 0 1 (.q 2), .sl 2842 0 3 (.q 2), .s [.c 40, .c 40, .c 40, .c 40, .c 120, .c 41, .c 41, .c 41, .c 41], .sl 4946 0 1 (.q 2), .sl 4521 0 4 (.q 2), .s [.c 40, .c 40, .c 40, .c 40, .c 40, .c 120, .c 41, .c 41, .c 41, .c 41, .c 41], .sl 7023 0 1 (.q 2), .sl 6534 0 5 (.q 2), .s [.c 40, .c 40, .c 40, .c 40, .c 40, .c 40, .c 120, .c 41, .c 41, .c 41, .c 41, .c 41, .c 41], .sl 9434 0 1 (.q 2), .sl 8881 0 6 (.q 2), .s [.c 40, .c 40, .c 40, .c 40, .c 40, .c 40, .c 40, .c 120, .c 41, .c 41, .c 41, .c 41, .c 41, .c 41, .c 41], .sl 12179 0 1 (.q 2), .sl 11562 0 7 (.q 2), .s [.c 40, .c 40, .c 40, .c 40, .c 40, .c 40, .c 40, .c 40, .c 120, .c 41, .c 41, .c 41, .c 41, .c 41, .c 41, .c 41, .c 41], .sl 15209 0 1 (.q 2), .sl 14577 0 8 (.q 2), .s [.c 40, .c 40, .c 40, .c 40, .c 40, .c 40, .c 40, .c 40, .a 0, .c 41, .c 41, .c 41, .c 41, .c 41, .c 41, .c 41, .c 41], .sl 17422 0 1 (.q 2), .sl 16949 0 8 (.q 2)] false),
  (17859, .ce 53 [.x .i64 (.mk (.ofNat 9) [(1, (.ofNat 1))]), .x .i64 (.mk (.ofNat 9) [(1, (.ofNat 1))])] false)]
def lN8_2 : ML :=
  [(4, .ce 179 [.p 2 0, .p 16990 0] true),
  (6, .mp [] 0),
  (7, .ce 233 [.mp 6, I 0] true),
  (9, .ce 121 [.p 4 0, .p 7 0, .sl 18419 0 1 (.q 2)] true),
  (10, .ce 128 [I 100, .sl 18408 0 11 (.q 3), .ns] true),
  (11, .ce 69 [.p 9 0, .sl 18383 0 6 (.q 2), .ns, .p 10 0] true),
  (16990, .ce 258 [.x .i64 (.mk (.ofNat 16) [(1, (.ofNat 1))]), .x .i64 (.mk (.ofNat 0) [(30, (.ofNat 1))]), .x .i64 (.mk (.ofNat 0) [(32, (.ofNat 1))]), .x .i64 (.mk (.ofNat 0) [(34, (.ofNat 1))]), .s [.c 40, .c 40, .c 40, .c 40, .c 40, .c 40, .c 40, .c 40, .a 0, .c 41, .c 41, .c 41, .c 41, .c 41, .c 41, .c 41, .c 41], .x .i64 (.mk (.ofNat 16) [(1, (.ofNat 1))]), .x .i64 (.mk (.ofNat 0) [(30, (.ofNat 1))]), .x .i64 (.mk (.ofNat 0) [(32, (.ofNat 1))]), .x .i64 (.mk (.ofNat 0) [(34, (.ofNat 1))]), .x .u32 (.mk (.ofNat 0) [(36, (.ofNat 1))]), .np, .np] true),
  (18247, .ce 161 [I 1, .x .i64 (.mk (.ofNat 15) [(1, (.ofNat 1))]), I 1, .i .i64 (.negSucc 0), .b true, .b false, I 0, .s [], .b false, .ns, I 0, I 0, .b false, .ns, .ns, .b false, .b false, .ns, .x .i64 (.mk (.ofNat 16) [(1, (.ofNat 1))]), .x .i64 (.mk (.ofNat 16) [(1, (.ofNat 1))]), I 0, .i .i64 (.negSucc 0), .b true, .b false, I 0, .s [], .b false, .ns, I 0, I 0, .b false, .ns, .ns, .b false, .b false, .ns] false),
  (18249, .ce 98 [I 0, .x .i64 (.mk (.ofNat 16) [(1, (.ofNat 1))]), .sl 18247 0 2 (.q 18)] false),
  (18269, .ce 161 [I 2, .x .i64 (.mk (.ofNat 14) [(1, (.ofNat 1))]), I 1, .i .i64 (.negSucc 0), .b true, .b false, I 0, .s [], .b false, .ns, I 0, I 0, .b false, .ns, .ns, .b false, .b false, .ns, .x .i64 (.mk (.ofNat 15) [(1, (.ofNat 1))]), .x .i64 (.mk (.ofNat 15) [(1, (.ofNat 1))]), I 0, .i .i64 (.negSucc 0), .b true, .b false, I 0, .s [], .b false, .ns, I 0, I 0, .b false, .ns, .ns, .b false, .b false, .ns] false),
  (18271, .ce 98 [I 1, .x .i64 (.mk (.ofNat 15) [(1, (.ofNat 1))]), .sl 18269 0 2 (.q 18)] false),
  (18291, .ce 161 [I 3, .x .i64 (.mk (.ofNat 13) [(1, (.ofNat 1))]), I 1, .i .i64 (.negSucc 0), .b true, .b false, I 0, .s [], .b false, .ns, I 0, I 0, .b false, .ns, .ns, .b false, .b false, .ns, .x .i64 (.mk (.ofNat 14) [(1, (.ofNat 1))]), .x .i64 (.mk (.ofNat 14) [(1, (.ofNat 1))]), I 0, .i .i64 (.negSucc 0), .b true, .b false, I 0, .s [], .b false, .ns, I 0, I 0, .b false, .ns, .ns, .b false, .b false, .ns] false),
  (18293, .ce 98 [I 2, .x .i64 (.mk (.ofNat 14) [(1, (.ofNat 1))]), .sl 18291 0 2 (.q 18)] false),
  (18313, .ce 161 [I 4, .x .i64 (.mk (.ofNat 12) [(1, (.ofNat 1))]), I 1, .i .i64 (.negSucc 0), .b true, .b false, I 0, .s [], .b false, .ns, I 0, I 0, .b false, .ns, .ns, .b false, .b false, .ns, .x .i64 (.mk (.ofNat 13) [(1, (.ofNat 1))]), .x .i64 (.mk (.ofNat 13) [(1, (.ofNat 1))]), I 0, .i .i64 (.negSucc 0), .b true, .b false, I 0, .s [], .b false, .ns, I 0, I 0, .b false, .ns, .ns, .b false, .b false, .ns] false),
  (18315, .ce 98 [I 3, .x .i64 (.mk (.ofNat 13) [(1, (.ofNat 1))]), .sl 18313 0 2 (.q 18)] false),
  (18335, .ce 161 [I 5, .x .i64 (.mk (.ofNat 11) [(1, (.ofNat 1))]), I 1, .i .i64 (.negSucc 0), .b true, .b false, I 0, .s [], .b false, .ns, I 0, I 0, .b false, .ns, .ns, .b false, .b false, .ns, .x .i64 (.mk (.ofNat 12) [(1, (.ofNat 1))]), .x .i64 (.mk (.ofNat 12) [(1, (.ofNat 1))]), I 0, .i .i64 (.negSucc 0), .b true, .b false, I 0, .s [], .b false, .ns, I 0, I 0, .b false, .ns, .ns, .b false, .b false, .ns] false),
  (18337, .ce 98 [I 4, .x .i64 (.mk (.ofNat 12) [(1, (.ofNat 1))]), .sl 18335 0 2 (.q 18)] false),
  (18357, .ce 161 [I 6, .x .i64 (.mk (.ofNat 10) [(1, (.ofNat 1))]), I 1, .i .i64 (.negSucc 0), .b true, .b false, I 0, .s [], .b false, .ns, I 0, I 0, .b false, .ns, .ns, .b false, .b false, .ns, .x .i64 (.mk (.ofNat 11) [(1, (.ofNat 1))]), .x .i64 (.mk (.ofNat 11) [(1, (.ofNat 1))]), I 0, .i .i64 (.negSucc 0), .b true, .b false, I 0, .s [], .b false, .ns, I 0, I 0, .b false, .ns, .ns, .b false, .b false, .ns] false),
  (18359, .ce 98 [I 5, .x .i64 (.mk (.ofNat 11) [(1, (.ofNat 1))]), .sl 18357 0 2 (.q 18)] false),
  (18379, .ce 161 [I 7, .x .i64 (.mk (.ofNat 9) [(1, (.ofNat 1))]), I 1, .i .i64 (.negSucc 0), .b true, .b false, I 0, .s [], .b false, .ns, I 0, I 0, .b false, .ns, .ns, .b false, .b false, .ns, .x .i64 (.mk (.ofNat 10) [(1, (.ofNat 1))]), .x .i64 (.mk (.ofNat 10) [(1, (.ofNat 1))]), I 0, .i .i64 (.negSucc 0), .b true, .b false, I 0, .s [], .b false, .ns, I 0, I 0, .b false, .ns, .ns, .b false, .b false, .ns] false),
  (18381, .ce 98 [I 6, .x .i64 (.mk (.ofNat 10) [(1, (.ofNat 1))]), .sl 18379 0 2 (.q 18)] false),
  (18383, .ce 93 [I 1, .sl 18249 0 1 (.q 3), I 1, .sl 18271 0 1 (.q 3), I 1, .sl 18293 0 1 (.q 3), I 1, .sl 18315 0 1 (.q 3), I 1, .sl 18337 0 1 (.q 3), I 1, .sl 18359 0 1 (.q 3), I 0, .sl 18381 0 1 (.q 3)] false),
  (18408, .ce 48 [.s [], .sl 65 0 1 (.q 2), .ns, .s [.c 40, .c 120, .c 41], .sl 719 0 1 (.q 2), .sl 494 0 1 (.q 2), .s [.c 40, .c 40, .c 120, .c 41, .c 41], .sl 1794 0 1 (.q 2), .sl 1497 0 2 (.q 2), .s [.c 40, .c 40, .c 40, .c 120, .c 41, .c 41, .c 41], .sl 3203 0 1 (.q 2), .sl 2842 0 3 (.q 2), .s [.c 40, .c 40, .c 40, .c 40, .c 120, .c 41, .c 41, .c 41, .c 41], .sl 4946 0 1 (.q 2), .sl 4521 0 4 (.q 2), .s [.c 40, .c 40, .c 40, .c 40, .c 40, .c 120, .c 41, .c 41, .c 41, .c 41, .c 41], .sl 7023 0 1 (.q 2), .sl 6534 0 5 (.q 2), .s [.c 40, .c 40, .c 40, .c 40, .c 40, .c 40, .c 120, .c 41, .c 41, .c 41, .c 41, .c 41, .c 41], .sl 9434 0 1 (.q 2), .sl 8881 0 6 (.q 2), .s [.c 40, .c 40, .c 40, .c 40, .c 40, .c 40, .c 40, .c 120, .c 41, .c 41, .c 41, .c 41, .c 41, .c 41, .c 41], .sl 12179 0 1 (.q 2), .sl 11562 0 7 (.q 2), .s [.c 40, .c 40, .c 40, .c 40, .c 40, .c 40, .c 40, .c 40, .c 120, .c 41, .c 41, .c 41, .c 41, .c 41, .c 41, .c 41, .c 41], .sl 15209 0 1 (.q 2), .sl 14577 0 8 (.q 2), .s [.c 40, .c 40, .c 40, .c 40, .c 40, .c 40, .c 40, .c 40, .a 0, .c 41, .c 41, .c 41, .c 41, .c 41, .c 41, .c 41, .c 41], .sl 17422 0 1 (.q 2), .sl 16949 0 8 (.q 2), .s [.c 40, .c 40, .c 40, .c 40, .c 40, .c 40, .c 40, .c 40, .a 0, .c 41, .c 41, .c 41, .c 41, .c 41, .c 41, .c 41, .c 41], .sl 18029 0 1 (.q 2), .sl 17823 0 7 (.q 2)] false),
  (18419, .ce 53 [.x .i64 (.mk (.ofNat 10) [(1, (.ofNat 1))]), .x .i64 (.mk (.ofNat 10) [(1, (.ofNat 1))])] false)]
def lN8_3 : ML :=
  [(4, .ce 179 [.p 2 0, .p 16990 0] true),
  (6, .mp [] 0),
  (7, .ce 233 [.mp 6, I 0] true),
  (9, .ce 121 [.p 4 0, .p 7 0, .sl 18910 0 1 (.q 2)] true),
  (10, .ce 128 [I 100, .sl 18899 0 12 (.q 3), .ns] true),
  (11, .ce 69 [.p 9 0, .sl 18874 0 5 (.q 2), .ns, .p 10 0] true),
  (16990, .ce 258 [.x .i64 (.mk (.ofNat 16) [(1, (.ofNat 1))]), .x .i64 (.mk (.ofNat 0) [(30, (.ofNat 1))]), .x .i64 (.mk (.ofNat 0) [(32, (.ofNat 1))]), .x .i64 (.mk (.ofNat 0) [(34, (.ofNat 1))]), .s [.c 40, .c 40, .c 40, .c 40, .c 40, .c 40, .c 40, .c 40, .a 0, .c 41, .c 41, .c 41, .c 41, .c 41, .c 41, .c 41, .c 41], .x .i64 (.mk (.ofNat 16) [(1, (.ofNat 1))]), .x .i64 (.mk (.ofNat 0) [(30, (.ofNat 1))]), .x .i64 (.mk (.ofNat 0) [(32, (.ofNat 1))]), .x .i64 (.mk (.ofNat 0) [(34, (.ofNat 1))]), .x .u32 (.mk (.ofNat 0) [(36, (.ofNat 1))]), .np, .np] true),
  (18760, .ce 161 [I 1, .x .i64 (.mk (.ofNat 15) [(1, (.ofNat 1))]), I 1, .i .i64 (.negSucc 0), .b true, .b false, I 0, .s [], .b false, .ns, I 0, I 0, .b false, .ns, .ns, .b false, .b false, .ns, .x .i64 (.mk (.ofNat 16) [(1, (.ofNat 1))]), .x .i64 (.mk (.ofNat 16) [(1, (.ofNat 1))]), I 0, .i .i64 (.negSucc 0), .b true, .b false, I 0, .s [], .b false, .ns, I 0, I 0, .b false, .ns, .ns, .b false, .b false, .ns] false),
  (18762, .ce 98 [I 0, .x .i64 (.mk (.ofNat 16) [(1, (.ofNat 1))]), .sl 18760 0 2 (.q 18)] false),
  (18782, .ce 161 [I 2, .x .i64 (.mk (.ofNat 14) [(1, (.ofNat 1))]), I 1, .i .i64 (.negSucc 0), .b true, .b false, I 0, .s [], .b false, .ns, I 0, I 0, .b false, .ns, .ns, .b false, .b false, .ns, .x .i64 (.mk (.ofNat 15) [(1, (.ofNat 1))]), .x .i64 (.mk (.ofNat 15) [(1, (.ofNat 1))]), I 0, .i .i64 (.negSucc 0), .b true, .b false, I 0, .s [], .b false, .ns, I 0, I 0, .b false, .ns, .ns, .b false, .b false, .ns] false),
  (18784, .ce 98 [I 1, .x .i64 (.mk (.ofNat 15) [(1, (.ofNat 1))]), .sl 18782 0 2 (.q 18)] false),
  (18804, .ce 161 [I 3, .x .i64 (.mk (.ofNat 13) [(1, (.ofNat 1))]), I 1, .i .i64 (.negSucc 0), .b true, .b false, I 0, .s [], .b false, .ns, I 0, I 0, .b false, .ns, .ns, .b false, .b false, .ns, .x .i64 (.mk (.ofNat 14) [(1, (.ofNat 1))]), .x .i64 (.mk (.ofNat 14) [(1, (.ofNat 1))]), I 0, .i .i64 (.negSucc 0), .b true, .b false, I 0, .s [], .b false, .ns, I 0, I 0, .b false, .ns, .ns, .b false, .b false, .ns] false),
  (18806, .ce 98 [I 2, .x .i64 (.mk (.ofNat 14) [(1, (.ofNat 1))]), .sl 18804 0 2 (.q 18)] false),
  (18826, .ce 161 [I 4, .x .i64 (.mk (.ofNat 12) [(1, (.ofNat 1))]), I 1, .i .i64 (.negSucc 0), .b true, .b false, I 0, .s [], .b false, .ns, I 0, I 0, .b false, .ns, .ns, .b false, .b false, .ns, .x .i64 (.mk (.ofNat 13) [(1, (.ofNat 1))]), .x .i64 (.mk (.ofNat 13) [(1, (.ofNat 1))]), I 0, .i .i64 (.negSucc 0), .b true, .b false, I 0, .s [], .b false, .ns, I 0, I 0, .b false, .ns, .ns, .b false, .b false, .ns] false),
  (18828, .ce 98 [I 3, .x .i64 (.mk (.ofNat 13) [(1, (.ofNat 1))]), .sl 18826 0 2 (.q 18)] false),
  (18848, .ce 161 [I 5, .x .i64 (.mk (.ofNat 11) [(1, (.ofNat 1))]), I 1, .i .i64 (.negSucc 0), .b true, .b false, I 0, .s [], .b false, .ns, I 0, I 0, .b false, .ns, .ns, .b false, .b false, .ns, .x .i64 (.mk (.ofNat 12) [(1, (.ofNat 1))]), .x .i64 (.mk (.ofNat 12) [(1, (.ofNat 1))]), I 0, .i .i64 (.negSucc 0), .b true, .b false, I 0, .s [], .b false, .ns, I 0, I 0, .b false, .ns, .ns, .b false, .b false, .ns] false),
  (18850, .ce 98 [I 4, .x .i64 (.mk (.ofNat 12) [(1, (.ofNat 1))]), .sl 18848 0 2 (.q 18)] false),
  (18870, .ce 161 [I 6, .x .i64 (.mk (.ofNat 10) [(1, (.ofNat 1))]), I 1, .i .i64 (.negSucc 0), .b true, .b false, I 0, .s [], .b false, .ns, I 0, I 0, .b false, .ns, .ns, .b false, .b false, .ns, .x .i64 (.mk (.ofNat 11) [(1, (.ofNat 1))]), .x .i64 (.mk (.ofNat 11) [(1, (.ofNat 1))]), I 0, .i .i64 (.negSucc 0), .b true, .b false, I 0, .s [], .b false, .ns, I 0, I 0, .b false, .ns, .ns, .b false, .b false, .ns] false),
  (18872, .ce 98 [I 5, .x .i64 (.mk (.ofNat 11) [(1, (.ofNat 1))]), .sl 18870 0 2 (.q 18)] false),
  (18874, .ce 93 [I 1, .sl 18762 0 1 (.q 3), I 1, .sl 18784 0 1 (.q 3), I 1, .sl 18806 0 1 (.q 3), I 1, .sl 18828 0 1 (.q 3), I 1, .sl 18850 0 1 (.q 3), I 0, .sl 18872 0 1 (.q 3)] false),
  (18899, .ce 48 [.s [], .sl 65 0 1 (.q 2), .ns, .s [.c 40, .c 120, .c 41], .sl 719 0 1 (.q 2), .sl 494 0 1 (.q 2), .s [.c 40, .c 40, .c 120, .c 41, .c 41], .sl 1794 0 1 (.q 2), .sl 1497 0 2 (.q 2), .s [.c 40, .c 40, .c 40, .c 120, .c 41, .c 41, .c 41], .sl 3203 0 1 (.q 2), .sl 2842 0 3 (.q 2), .s [.c 40, .c 40, .c 40, .c 40, .c 120, .c 41, .c 41, .c 41, .c 41], .sl 4946 0 1 (.q 2), .sl 4521 0 4 (.q 2), .s [.c 40, .c 40, .c 40, .c 40, .c 40, .c 120, .c 41, .c 41, .c 41, .c 41, .c 41], .sl 7023 0 1 (.q 2), .sl 6534 0 5 (.q 2), .s [.c 40, .c 40, .c 40, .c 40, .c 40, .c 40, .c 120, .c 41, .c 41, .c 41, .c 41, .c 41, .c 41], .sl 9434 0 1 (.q 2), .sl 8881 0 6 (.q 2), .s [.c 40, .c 40, .c 40, .c 40, .c 40, .c 40, .c 40, .c 120, .c 41, .c 41, .c 41, .c 41, .c 41, .c 41, .c 41], .sl 12179 0 1 (.q 2), .sl 11562 0 7 (.q 2), .s [.c 40, .c 40, .c 40, .c 40, .c 40, .c 40, .c 40, .c 40, .c 120, .c 41, .c 41, .c 41, .c 41, .c 41, .c 41, .c 41, .c 41], .sl 15209 0 1 (.q 2), .sl 14577 0 8 (.q 2), .s [.c 40, .c 40, .c 40, .c 40, .c 40, .c 40, .c 40, .c 40, .a 0, .c 41, .c 41, .c 41, .c 41, .c 41, .c 41, .c 41, .c 41], .sl 17422 0 1 (.q 2), .sl 16949 0 8 (.q 2), .s [.c 40, .c 40, .c 40, .c 40, .c 40, .c 40, .c 40, .c 40, .a 0, .c 41, .c 41, .c 41, .c 41, .c 41, .c 41, .c 41, .c 41], .sl 18029 0 1 (.q 2), .sl 17823 0 7 (.q 2), .s [.c 40, .c 40, .c 40, .c 40, .c 40, .c 40, .c 40, .c 40, .a 0, .c 41, .c 41, .c 41, .c 41, .c 41, .c 41, .c 41, .c 41], .sl 18567 0 1 (.q 2), .sl 18383 0 6 (.q 2)] false),
  (18910, .ce 53 [.x .i64 (.mk (.ofNat 11) [(1, (.ofNat 1))]), .x .i64 (.mk (.ofNat 11) [(1, (.ofNat 1))])] false)]
def lN8_4 : ML :=
  [(4, .ce 179 [.p 2 0, .p 16990 0] true),
  (6, .mp [] 0),
  (7, .ce 233 [.mp 6, I 0] true),
  (9, .ce 121 [.p 4 0, .p 7 0, .sl 19332 0 1 (.q 2)] true),
  (10, .ce 128 [I 100, .sl 19321 0 13 (.q 3), .ns] true),
  (11, .ce 69 [.p 9 0, .sl 19296 0 4 (.q 2), .ns, .p 10 0] true),
  (16990, .ce 258 [.x .i64 (.mk (.ofNat 16) [(1, (.ofNat 1))]), .x .i64 (.mk (.ofNat 0) [(30, (.ofNat 1))]), .x .i64 (.mk (.ofNat 0) [(32, (.ofNat 1))]), .x .i64 (.mk (.ofNat 0) [(34, (.ofNat 1))]), .s [.c 40, .c 40, .c 40, .c 40, .c 40, .c 40, .c 40, .c 40, .a 0, .c 41, .c 41, .c 41, .c 41, .c 41, .c 41, .c 41, .c 41], .x .i64 (.mk (.ofNat 16) [(1, (.ofNat 1))]), .x .i64 (.mk (.ofNat 0) [(30, (.ofNat 1))]), .x .i64 (.mk (.ofNat 0) [(32, (.ofNat 1))]), .x .i64 (.mk (.ofNat 0) [(34, (.ofNat 1))]), .x .u32 (.mk (.ofNat 0) [(36, (.ofNat 1))]), .np, .np] true),
  (19204, .ce 161 [I 1, .x .i64 (.mk (.ofNat 15) [(1, (.ofNat 1))]), I 1, .i .i64 (.negSucc 0), .b true, .b false, I 0, .s [], .b false, .ns, I 0, I 0, .b false, .ns, .ns, .b false, .b false, .ns, .x .i64 (.mk (.ofNat 16) [(1, (.ofNat 1))]), .x .i64 (.mk (.ofNat 16) [(1, (.ofNat 1))]), I 0, .i .i64 (.negSucc 0), .b true, .b false, I 0, .s [], .b false, .ns, I 0, I 0, .b false, .ns, .ns, .b false, .b false, .ns] false),
  (19206, .ce 98 [I 0, .x .i64 (.mk (.ofNat 16) [(1, (.ofNat 1))]), .sl 19204 0 2 (.q 18)] false),
  (19226, .ce 161 [I 2, .x .i64 (.mk (.ofNat 14) [(1, (.ofNat 1))]), I 1, .i .i64 (.negSucc 0), .b true, .b false, I 0, .s [], .b false, .ns, I 0, I 0, .b false, .ns, .ns, .b false, .b false, .ns, .x .i64 (.mk (.ofNat 15) [(1, (.ofNat 1))]), .x .i64 (.mk (.ofNat 15) [(1, (.ofNat 1))]), I 0, .i .i64 (.negSucc 0), .b true, .b false, I 0, .s [], .b false, .ns, I 0, I 0, .b false, .ns, .ns, .b false, .b false, .ns] false),
  (19228, .ce 98 [I 1, .x .i64 (.mk (.ofNat 15) [(1, (.ofNat 1))]), .sl 19226 0 2 (.q 18)] false),
  (19248, .ce 161 [I 3, .x .i64 (.mk (.ofNat 13) [(1, (.ofNat 1))]), I 1, .i .i64 (.negSucc 0), .b true, .b false, I 0, .s [], .b false, .ns, I 0, I 0, .b false, .ns, .ns, .b false, .b false, .ns, .x .i64 (.mk (.ofNat 14) [(1, (.ofNat 1))]), .x .i64 (.mk (.ofNat 14) [(1, (.ofNat 1))]), I 0, .i .i64 (.negSucc 0), .b true, .b false, I 0, .s [], .b false, .ns, I 0, I 0, .b false, .ns, .ns, .b false, .b false, .ns] false),
  (19250, .ce 98 [I 2, .x .i64 (.mk (.ofNat 14) [(1, (.ofNat 1))]), .sl 19248 0 2 (.q 18)] false),
  (19270, .ce 161 [I 4, .x .i64 (.mk (.ofNat 12) [(1, (.ofNat 1))]), I 1, .i .i64 (.negSucc 0), .b true, .b false, I 0, .s [], .b false, .ns, I 0, I 0, .b false, .ns, .ns, .b false, .b false, .ns, .x .i64 (.mk (.ofNat 13) [(1, (.ofNat 1))]), .x .i64 (.mk (.ofNat 13) [(1, (.ofNat 1))]), I 0, .i .i64 (.negSucc 0), .b true, .b false, I 0, .s [], .b false, .ns, I 0, I 0, .b false, .ns, .ns, .b false, .b false, .ns] false),
  (19272, .ce 98 [I 3, .x .i64 (.mk (.ofNat 13) [(1, (.ofNat 1))]), .sl 19270 0 2 (.q 18)] false),
  (19292, .ce 161 [I 5, .x .i64 (.mk (.ofNat 11) [(1, (.ofNat 1))]), I 1, .i .i64 (.negSucc 0), .b true, .b false, I 0, .s [], .b false, .ns, I 0, I 0, .b false, .ns, .ns, .b false, .b false, .ns, .x .i64 (.mk (.ofNat 12) [(1, (.ofNat 1))]), .x .i64 (.mk (.ofNat 12) [(1, (.ofNat 1))]), I 0, .i .i64 (.negSucc 0), .b true, .b false, I 0, .s [], .b false, .ns, I 0, I 0, .b false, .ns, .ns, .b false, .b false, .ns] false),
  (19294, .ce 98 [I 4, .x .i64 (.mk (.ofNat 12) [(1, (.ofNat 1))]), .sl 19292 0 2 (.q 18)] false),
  (19296, .ce 93 [I 1, .sl 19206 0 1 (.q 3), I 1, .sl 19228 0 1 (.q 3), I 1, .sl 19250 0 1 (.q 3), I 1, .sl 19272 0 1 (.q 3), I 0, .sl 19294 0 1 (.q 3)] false),
  (19321, .ce 48 [.s [], .sl 65 0 1 (.q 2), .ns, .s [.c 40, .c 120, .c 41], .sl 719 0 1 (.q 2), .sl 494 0 1 (.q 2), .s [.c 40, .c 40, .c 120, .c 41, .c 41], .sl 1794 0 1 (.q 2), .sl 1497 0 2 (.q 2), .s [.c 40, .c 40, .c 40, .c 120, .c 41, .c 41, .c 41], .sl 3203 0 1 (.q 2), .sl 2842 0 3 (.q 2), .s [.c 40, .c 40, .c 40, .c 40, .c 120, .c 41, .c 41, .c 41, .c 41], .sl 4946 0 1 (.q 2), .sl 4521 0 4 (.q 2), .s [.c 40, .c 40, .c 40, .c 40, .c 40, .c 120, .c 41, .c 41, .c 41, .c 41, .c 41], .sl 7023 0 1 (.q 2), .sl 6534 0 5 (.q 2), .s [.c 40, .c 40, .c 40, .c 40, .c 40, .c 40, .c 120, .c 41, .c 41, .c 41, .c 41, .c 41, .c 41], .sl 9434 0 1 (.q 2), .sl 8881 0 6 (.q 2), .s [.c 40, .c 40, .c 40, .c 40, .c 40, .c 40, .c 40, .c 120, .c 41, .c 41, .c 41, .c 41, .c 41, .c 41, .c 41], .sl 12179 0 1 (.q 2), .sl 11562 0 7 (.q 2), .s [.c 40, .c 40, .c 40, .c 40, .c 40, .c 40, .c 40, .c 40, .c 120, .c 41, .c 41, .c 41, .c 41, .c 41, .c 41, .c 41, .c 41], .sl 15209 0 1 (.q 2), .sl 14577 0 8 (.q 2), .s [.c 40, .c 40, .c 40, .c 40, .c 40, .c 40, .c 40, .c 40, .a 0, .c 41, .c 41, .c 41, .c 41, .c 41, .c 41, .c 41, .c 41], .sl 17422 0 1 (.q 2), .sl 16949 0 8 (.q 2), .s [.c 40, .c 40, .c 40, .c 40, .c 40, .c 40, .c 40, .c 40, .a 0, .c 41, .c 41, .c 41, .c 41, .c 41, .c 41, .c 41, .c 41], .sl 18029 0 1 (.q 2), .sl 17823 0 7 (.q 2), .s [.c 40, .c 40, .c 40, .c 40, .c 40, .c 40, .c 40, .c 40, .a 0, .c 41, .c 41, .c 41, .c 41, .c 41, .c 41, .c 41, .c 41], .sl 18567 0 1 (.q 2), .sl 18383 0 6 (.q 2), .s [.c 40, .c 40, .c 40, .c 40, .c 40, .c 40, .c 40, .c 40, .a 0, .c 41, .c 41, .c 41, .c 41, .c 41, .c 41, .c 41, .c 41], .sl 19036 0 1 (.q 2), .sl 18874 0 5 (.q 2)] false),
  (19332, .ce 53 [.x .i64 (.mk (.ofNat 12) [(1, (.ofNat 1))]), .x .i64 (.mk (.ofNat 12) [(1, (.ofNat 1))])] false)]
def lN8_5 : ML :=
  [(4, .ce 179 [.p 2 0, .p 16990 0] true),
  (6, .mp [] 0),
  (7, .ce 233 [.mp 6, I 0] true),
  (9, .ce 121 [.p 4 0, .p 7 0, .sl 19685 0 1 (.q 2)] true),
  (10, .ce 128 [I 100, .sl 19674 0 14 (.q 3), .ns] true),
  (11, .ce 69 [.p 9 0, .sl 19649 0 3 (.q 2), .ns, .p 10 0] true),
  (16990, .ce 258 [.x .i64 (.mk (.ofNat 16) [(1, (.ofNat 1))]), .x .i64 (.mk (.ofNat 0) [(30, (.ofNat 1))]), .x .i64 (.mk (.ofNat 0) [(32, (.ofNat 1))]), .x .i64 (.mk (.ofNat 0) [(34, (.ofNat 1))]), .s [.c 40, .c 40, .c 40, .c 40, .c 40, .c 40, .c 40, .c 40, .a 0, .c 41, .c 41, .c 41, .c 41, .c 41, .c 41, .c 41, .c 41], .x .i64 (.mk (.ofNat 16) [(1, (.ofNat 1))]), .x .i64 (.mk (.ofNat 0) [(30, (.ofNat 1))]), .x .i64 (.mk (.ofNat 0) [(32, (.ofNat 1))]), .x .i64 (.mk (.ofNat 0) [(34, (.ofNat 1))]), .x .u32 (.mk (.ofNat 0) [(36, (.ofNat 1))]), .np, .np] true),
  (19579, .ce 161 [I 1, .x .i64 (.mk (.ofNat 15) [(1, (.ofNat 1))]), I 1, .i .i64 (.negSucc 0), .b true, .b false, I 0, .s [], .b false, .ns, I 0, I 0, .b false, .ns, .ns, .b false, .b false, .ns, .x .i64 (.mk (.ofNat 16) [(1, (.ofNat 1))]), .x .i64 (.mk (.ofNat 16) [(1, (.ofNat 1))]), I 0, .i .i64 (.negSucc 0), .b true, .b false, I 0, .s [], .b false, .ns, I 0, I 0, .b false, .ns, .ns, .b false, .b false, .ns] false),
  (19581, .ce 98 [I 0, .x .i64 (.mk (.ofNat 16) [(1, (.ofNat 1))]), .sl 19579 0 2 (.q 18)] false),
  (19601, .ce 161 [I 2, .x .i64 (.mk (.ofNat 14) [(1, (.ofNat 1))]), I 1, .i .i64 (.negSucc 0), .b true, .b false, I 0, .s [], .b false, .ns, I 0, I 0, .b false, .ns, .ns, .b false, .b false, .ns, .x .i64 (.mk (.ofNat 15) [(1, (.ofNat 1))]), .x .i64 (.mk (.ofNat 15) [(1, (.ofNat 1))]), I 0, .i .i64 (.negSucc 0), .b true, .b false, I 0, .s [], .b false, .ns, I 0, I 0, .b false, .ns, .ns, .b false, .b false, .ns] false),
  (19603, .ce 98 [I 1, .x .i64 (.mk (.ofNat 15) [(1, (.ofNat 1))]), .sl 19601 0 2 (.q 18)] false),
  (19623, .ce 161 [I 3, .x .i64 (.mk (.ofNat 13) [(1, (.ofNat 1))]), I 1, .i .i64 (.negSucc 0), .b true, .b false, I 0, .s [], .b false, .ns, I 0, I 0, .b false, .ns, .ns, .b false, .b false, .ns, .x .i64 (.mk (.ofNat 14) [(1, (.ofNat 1))]), .x .i64 (.mk (.ofNat 14) [(1, (.ofNat 1))]), I 0, .i .i64 (.negSucc 0), .b true, .b false, I 0, .s [], .b false, .ns, I 0, I 0, .b false, .ns, .ns, .b false, .b false, .ns] false),
  (19625, .ce 98 [I 2, .x .i64 (.mk (.ofNat 14) [(1, (.ofNat 1))]), .sl 19623 0 2 (.q 18)] false),
  (19645, .ce 161 [I 4, .x .i64 (.mk (.ofNat 12) [(1, (.ofNat 1))]), I 1, .i .i64 (.negSucc 0), .b true, .b false, I 0, .s [], .b false, .ns, I 0, I 0, .b false, .ns, .ns, .b false, .b false, .ns, .x .i64 (.mk (.ofNat 13) [(1, (.ofNat 1))]), .x .i64 (.mk (.ofNat 13) [(1, (.ofNat 1))]), I 0, .i .i64 (.negSucc 0), .b true, .b false, I 0, .s [], .b false, .ns, I 0, I 0, .b false, .ns, .ns, .b false, .b false, .ns] false),
  (19647, .ce 98 [I 3, .x .i64 (.mk (.ofNat 13) [(1, (.ofNat 1))]), .sl 19645 0 2 (.q 18)] false),
  (19649, .ce 93 [I 1, .sl 19581 0 1 (.q 3), I 1, .sl 19603 0 1 (.q 3), I 1, .sl 19625 0 1 (.q 3), I 0, .sl 19647 0 1 (.q 3)] false),
  (19674, .ce 48 [.s [], .sl 65 0 1 (.q 2), .ns, .s [.c 40, .c 120, .c 41], .sl 719 0 1 (.q 2), .sl 494 0 1 (.q 2), .s [.c 40, .c 40, .c 120, .c 41, .c 41], .sl 1794 0 1 (.q 2), .sl 1497 0 2 (.q 2), .s [.c 40, .c 40, .c 40, .c 120, .c 41, .c 41, .c 41], .sl 3203 0 1 (.q 2), .sl 2842 0 3 (.q 2), .s [.c 40, .c 40, .c 40, .c 40, .c 120, .c 41, .c 41, .c 41, .c 41], .sl 4946 0 1 (.q 2), .sl 4521 0 4 (.q 2), .s [.c 40, .c 40, .c 40, .c 40, .c 40, .c 120, .c 41, .c 41, .c 41, .c 41, .c 41], .sl 7023 0 1 (.q 2), .sl 6534 0 5 (.q 2), .s [.c 40, .c 40, .c 40, .c 40, .c 40, .c 40, .c 120, .c 41, .c 41, .c 41, .c 41, .c 41, .c 41], .sl 9434 0 1 (.q 2), .sl 8881 0 6 (.q 2), .s [.c 40, .c 40, .c 40, .c 40, .c 40, .c 40, .c 40, .c 120, .c 41, .c 41, .c 41, .c 41, .c 41, .c 41, .c 41], .sl 12179 0 1 (.q 2), .sl 11562 0 7 (.q 2), .s [.c 40, .c 40, .c 40, .c 40, .c 40, .c 40, .c 40, .c 40, .c 120, .c 41, .c 41, .c 41, .c 41, .c 41, .c 41, .c 41, .c 41], .sl 15209 0 1 (.q 2), .sl 14577 0 8 (.q 2), .s [.c 40, .c 40, .c 40, .c 40, .c 40, .c 40, .c 40, .c 40, .a 0, .c 41, .c 41, .c 41, .c 41, .c 41, .c 41, .c 41, .c 41], .sl 17422 0 1 (.q 2), .sl 16949 0 8 (.q 2), .s [.c 40, .c 40, .c 40, .c 40, .c 40, .c 40, .c 40, .c 40, .a 0, .c 41, .c 41, .c 41, .c 41, .c 41, .c 41, .c 41, .c 41], .sl 18029 0 1 (.q 2), .sl 17823 0 7 (.q 2), .s [.c 40, .c 40, .c 40, .c 40, .c 40, .c 40, .c 40, .c 40, .a 0, .c 41, .c 41, .c 41, .c 41, .c 41, .c 41, .c 41, .c 41], .sl 18567 0 1 (.q 2), .sl 18383 0 6 (.q 2), .s [.c 40, .c 40, .c 40, .c 40, .c 40, .c 40, .c 40, .c 40, .a 0, .c 41, .c 41, .c 41, .c 41, .c 41, .c 41, .c 41, .c 41], .sl 19036 0 1 (.q 2), .sl 18874 0 5 (.q 2), .s [.c 40, .c 40, .c 40, .c 40, .c 40, .c 40, .c 40, .c 40, .a 0, .c 41, .c 41, .c 41, .c 41, .c 41, .c 41, .c 41, .c 41], .sl 19436 0 1 (.q 2), .sl 19296 0 4 (.q 2)] false),
  (19685, .ce 53 [.x .i64 (.mk (.ofNat 13) [(1, (.ofNat 1))]), .x .i64 (.mk (.ofNat 13) [(1, (.ofNat 1))])] false)]
def lN8_6 : ML :=
  [(4, .ce 179 [.p 2 0, .p 16990 0] true),
  (6, .mp [] 0),
  (7, .ce 233 [.mp 6, I 0] true),
  (9, .ce 121 [.p 4 0, .p 7 0, .sl 19969 0 1 (.q 2)] true),
  (10, .ce 128 [I 100, .sl 19958 0 15 (.q 3), .ns] true),
  (11, .ce 69 [.p 9 0, .sl 19933 0 2 (.q 2), .ns, .p 10 0] true),
  (16990, .ce 258 [.x .i64 (.mk (.ofNat 16) [(1, (.ofNat 1))]), .x .i64 (.mk (.ofNat 0) [(30, (.ofNat 1))]), .x .i64 (.mk (.ofNat 0) [(32, (.ofNat 1))]), .x .i64 (.mk (.ofNat 0) [(34, (.ofNat 1))]), .s [.c 40, .c 40, .c 40, .c 40, .c 40, .c 40, .c 40, .c 40, .a 0, .c 41, .c 41, .c 41, .c 41, .c 41, .c 41, .c 41, .c 41], .x .i64 (.mk (.ofNat 16) [(1, (.ofNat 1))]), .x .i64 (.mk (.ofNat 0) [(30, (.ofNat 1))]), .x .i64 (.mk (.ofNat 0) [(32, (.ofNat 1))]), .x .i64 (.mk (.ofNat 0) [(34, (.ofNat 1))]), .x .u32 (.mk (.ofNat 0) [(36, (.ofNat 1))]), .np, .np] true),
  (19885, .ce 161 [I 1, .x .i64 (.mk (.ofNat 15) [(1, (.ofNat 1))]), I 1, .i .i64 (.negSucc 0), .b true, .b false, I 0, .s [], .b false, .ns, I 0, I 0, .b false, .ns, .ns, .b false, .b false, .ns, .x .i64 (.mk (.ofNat 16) [(1, (.ofNat 1))]), .x .i64 (.mk (.ofNat 16) [(1, (.ofNat 1))]), I 0, .i .i64 (.negSucc 0), .b true, .b false, I 0, .s [], .b false, .ns, I 0, I 0, .b false, .ns, .ns, .b false, .b false, .ns] false),
  (19887, .ce 98 [I 0, .x .i64 (.mk (.ofNat 16) [(1, (.ofNat 1))]), .sl 19885 0 2 (.q 18)] false),
  (19907, .ce 161 [I 2, .x .i64 (.mk (.ofNat 14) [(1, (.ofNat 1))]), I 1, .i .i64 (.negSucc 0), .b true, .b false, I 0, .s [], .b false, .ns, I 0, I 0, .b false, .ns, .ns, .b false, .b false, .ns, .x .i64 (.mk (.ofNat 15) [(1, (.ofNat 1))]), .x .i64 (.mk (.ofNat 15) [(1, (.ofNat 1))]), I 0, .i .i64 (.negSucc 0), .b true, .b false, I 0, .s [], .b false, .ns, I 0, I 0, .b false, .ns, .ns, .b false, .b false, .ns] false),
  (19909, .ce 98 [I 1, .x .i64 (.mk (.ofNat 15) [(1, (.ofNat 1))]), .sl 19907 0 2 (.q 18)] false),
  (19929, .ce 161 [I 3, .x .i64 (.mk (.ofNat 13) [(1, (.ofNat 1))]), I 1, .i .i64 (.negSucc 0), .b true, .b false, I 0, .s [], .b false, .ns, I 0, I 0, .b false, .ns, .ns, .b false, .b false, .ns, .x .i64 (.mk (.ofNat 14) [(1, (.ofNat 1))]), .x .i64 (.mk (.ofNat 14) [(1, (.ofNat 1))]), I 0, .i .i64 (.negSucc 0), .b true, .b false, I 0, .s [], .b false, .ns, I 0, I 0, .b false, .ns, .ns, .b false, .b false, .ns] false),
  (19931, .ce 98 [I 2, .x .i64 (.mk (.ofNat 14) [(1, (.ofNat 1))]), .sl 19929 0 2 (.q 18)] false),
  (19933, .ce 93 [I 1, .sl 19887 0 1 (.q 3), I 1, .sl 19909 0 1 (.q 3), I 0, .sl 19931 0 1 (.q 3)] false),
  (19958, .ce 48 [.s [], .sl 65 0 1 (.q 2), .ns, .s [.c 40, .c 120, .c 41], .sl 719 0 1 (.q 2), .sl 494 0 1 (.q 2), .s [.c 40, .c 40, .c 120, .c 41, .c 41], .sl 1794 0 1 (.q 2), .sl 1497 0 2 (.q 2), .s [.c 40, .c 40, .c 40, .c 120, .c 41, .c 41, .c 41], .sl 3203 0 1 (.q 2), .sl 2842 0 3 (.q 2), .s [.c 40, .c 40, .c 40, .c 40, .c 120, .c 41, .c 41, .c 41, .c 41], .sl 4946 0 1 (.q 2), .sl 4521 0 4 (.q 2), .s [.c 40, .c 40, .c 40, .c 40, .c 40, .c 120, .c 41, .c 41, .c 41, .c 41, .c 41], .sl 7023 0 1 (.q 2), .sl 6534 0 5 (.q 2), .s [.c 40, .c 40, .c 40, .c 40, .c 40, .c 40, .c 120, .c 41, .c 41, .c 41, .c 41, .c 41, .c 41], .sl 9434 0 1 (.q 2), .sl 8881 0 6 (.q 2), .s [.c 40, .c 40, .c 40, .c 40, .c 40, .c 40, .c 40, .c 120, .c 41, .c 41, .c 41, .c 41, .c 41, .c 41, .c 41], .sl 12179 0 1 (.q 2), .sl 11562 0 7 (.q 2), .s [.c 40, .c 40, .c 40, .c 40, .c 40, .c 40, .c 40, .c 40, .c 120, .c 41, .c 41, .c 41, .c 41, .c 41, .c 41, .c 41, .c 41], .sl 15209 0 1 (.q 2), .sl 14577 0 8 (.q 2), .s [.c 40, .c 40, .c 40, .c 40, .c 40, .c 40, .c 40, .c 40, .a 0, .c 41, .c 41, .c 41, .c 41, .c 41, .c 41, .c 41, .c 41], .sl 17422 0 1 (.q 2), .sl 16949 0 8 (.q 2), .s [.c 40, .c 40, .c 40, .c 40, .c 40, .c 40, .c 40, .c 40, .a 0, .c 41, .c 41, .c 41, .c 41, .c 41, .c 41, .c 41, .c 41], .sl 18029 0 1 (.q 2), .sl 17823 0 7 (.q 2), .s [.c 40, .c 40, .c 40, .c 40, .c 40, .c 40, .c 40, .c 40, .a 0, .c 41, .c 41, .c 41, .c 41, .c 41, .c 41, .c 41, .c 41], .sl 18567 0 1 (.q 2), .sl 18383 0 6 (.q 2), .s [.c 40, .c 40, .c 40, .c 40, .c 40, .c 40, .c 40, .c 40, .a 0, .c 41, .c 41, .c 41, .c 41, .c 41, .c 41, .c 41, .c 41], .sl 19036 0 1 (.q 2), .sl 18874 0 5 (.q 2), .s [.c 40, .c 40, .c 40, .c 40, .c 40, .c 40, .c 40, .c 40, .a 0, .c 41, .c 41, .c 41, .c 41, .c 41, .c 41, .c 41, .c 41], .sl 19436 0 1 (.q 2), .sl 19296 0 4 (.q 2), .s [.c 40, .c 40, .c 40, .c 40, .c 40, .c 40, .c 40, .c 40, .a 0, .c 41, .c 41, .c 41, .c 41, .c 41, .c 41, .c 41, .c 41], .sl 19767 0 1 (.q 2), .sl 19649 0 3 (.q 2)] false),
  (19969, .ce 53 [.x .i64 (.mk (.ofNat 14) [(1, (.ofNat 1))]), .x .i64 (.mk (.ofNat 14) [(1, (.ofNat 1))])] false)]
def lN8_7 : ML :=
  [(4, .ce 179 [.p 2 0, .p 16990 0] true),
  (6, .mp [] 0),
  (7, .ce 233 [.mp 6, I 0] true),
  (9, .ce 121 [.p 4 0, .p 7 0, .sl 20184 0 1 (.q 2)] true),
  (10, .ce 128 [I 100, .sl 20173 0 16 (.q 3), .ns] true),
  (11, .ce 69 [.p 9 0, .sl 20148 0 1 (.q 2), .ns, .p 10 0] true),
  (16990, .ce 258 [.x .i64 (.mk (.ofNat 16) [(1, (.ofNat 1))]), .x .i64 (.mk (.ofNat 0) [(30, (.ofNat 1))]), .x .i64 (.mk (.ofNat 0) [(32, (.ofNat 1))]), .x .i64 (.mk (.ofNat 0) [(34, (.ofNat 1))]), .s [.c 40, .c 40, .c 40, .c 40, .c 40, .c 40, .c 40, .c 40, .a 0, .c 41, .c 41, .c 41, .c 41, .c 41, .c 41, .c 41, .c 41], .x .i64 (.mk (.ofNat 16) [(1, (.ofNat 1))]), .x .i64 (.mk (.ofNat 0) [(30, (.ofNat 1))]), .x .i64 (.mk (.ofNat 0) [(32, (.ofNat 1))]), .x .i64 (.mk (.ofNat 0) [(34, (.ofNat 1))]), .x .u32 (.mk (.ofNat 0) [(36, (.ofNat 1))]), .np, .np] true),
  (20122, .ce 161 [I 1, .x .i64 (.mk (.ofNat 15) [(1, (.ofNat 1))]), I 1, .i .i64 (.negSucc 0), .b true, .b false, I 0, .s [], .b false, .ns, I 0, I 0, .b false, .ns, .ns, .b false, .b false, .ns, .x .i64 (.mk (.ofNat 16) [(1, (.ofNat 1))]), .x .i64 (.mk (.ofNat 16) [(1, (.ofNat 1))]), I 0, .i .i64 (.negSucc 0), .b true, .b false, I 0, .s [], .b false, .ns, I 0, I 0, .b false, .ns, .ns, .b false, .b false, .ns] false),
  (20124, .ce 98 [I 0, .x .i64 (.mk (.ofNat 16) [(1, (.ofNat 1))]), .sl 20122 0 2 (.q 18)] false),
  (20144, .ce 161 [I 2, .x .i64 (.mk (.ofNat 14) [(1, (.ofNat 1))]), I 1, .i .i64 (.negSucc 0), .b true, .b false, I 0, .s [], .b false, .ns, I 0, I 0, .b false, .ns, .ns, .b false, .b false, .ns, .x .i64 (.mk (.ofNat 15) [(1, (.ofNat 1))]), .x .i64 (.mk (.ofNat 15) [(1, (.ofNat 1))]), I 0, .i .i64 (.negSucc 0), .b true, .b false, I 0, .s [], .b false, .ns, I 0, I 0, .b false, .ns, .ns, .b false, .b false, .ns] false),
  (20146, .ce 98 [I 1, .x .i64 (.mk (.ofNat 15) [(1, (.ofNat 1))]), .sl 20144 0 2 (.q 18)] false),
  (20148, .ce 93 [I 1, .sl 20124 0 1 (.q 3), I 0, .sl 20146 0 1 (.q 3)] false),
  (20173, .ce 48 [.s [], .sl 65 0 1 (.q 2), .ns, .s [.c 40, .c 120, .c 41], .sl 719 0 1 (.q 2), .sl 494 0 1 (.q 2), .s [.c 40, .c 40, .c 120, .c 41, .c 41], .sl 1794 0 1 (.q 2), .sl 1497 0 2 (.q 2), .s [.c 40, .c 40, .c 40, .c 120, .c 41, .c 41, .c 41], .sl 3203 0 1 (.q 2), .sl 2842 0 3 (.q 2), .s [.c 40, .c 40, .c 40, .c 40, .c 120, .c 41, .c 41, .c 41, .c 41], .sl 4946 0 1 (.q 2), .sl 4521 0 4 (.q 2), .s [.c 40, .c 40, .c 40, .c 40, .c 40, .c 120, .c 41, .c 41, .c 41, .c 41, .c 41], .sl 7023 0 1 (.q 2), .sl 6534 0 5 (.q 2), .s [.c 40, .c 40, .c 40, .c 40, .c 40, .c 40, .c 120, .c 41, .c 41, .c 41, .c 41, .c 41, .c 41], .sl 9434 0 1 (.q 2), .sl 8881 0 6 (.q 2), .s [.c 40, .c 40, .c 40, .c 40, .c 40, .c 40, .c 40, .c 120, .c 41, .c 41, .c 41, .c 41, .c 41, .c 41, .c 41], .sl 12179 0 1 (.q 2), .sl 11562 0 7 (.q 2), .s [.c 40, .c 40, .c 40, .c 40, .c 40, .c 40, .c 40, .c 40, .c 120, .c 41, .c 41, .c 41, .c 41, .c 41, .c 41, .c 41, .c 41], .sl 15209 0 1 (.q 2), .sl 14577 0 8 (.q 2), .s [.c 40, .c 40, .c 40, .c 40, .c 40, .c 40, .c 40, .c 40, .a 0, .c 41, .c 41, .c 41, .c 41, .c 41, .c 41, .c 41, .c 41], .sl 17422 0 1 (.q 2), .sl 16949 0 8 (.q 2), .s [.c 40, .c 40, .c 40, .c 40, .c 40, .c 40, .c 40, .c 40, .a 0, .c 41, .c 41, .c 41, .c 41, .c 41, .c 41, .c 41, .c 41], .sl 18029 0 1 (.q 2), .sl 17823 0 7 (.q 2), .s [.c 40, .c 40, .c 40, .c 40, .c 40, .c 40, .c 40, .c 40, .a 0, .c 41, .c 41, .c 41, .c 41, .c 41, .c 41, .c 41, .c 41], .sl 18567 0 1 (.q 2), .sl 18383 0 6 (.q 2), .s [.c 40, .c 40, .c 40, .c 40, .c 40, .c 40, .c 40, .c 40, .a 0, .c 41, .c 41, .c 41, .c 41, .c 41, .c 41, .c 41, .c 41], .sl 19036 0 1 (.q 2), .sl 18874 0 5 (.q 2), .s [.c 40, .c 40, .c 40, .c 40, .c 40, .c 40, .c 40, .c 40, .a 0, .c 41, .c 41, .c 41, .c 41, .c 41, .c 41, .c 41, .c 41], .sl 19436 0 1 (.q 2), .sl 19296 0 4 (.q 2), .s [.c 40, .c 40, .c 40, .c 40, .c 40, .c 40, .c 40, .c 40, .a 0, .c 41, .c 41, .c 41, .c 41, .c 41, .c 41, .c 41, .c 41], .sl 19767 0 1 (.q 2), .sl 19649 0 3 (.q 2), .s [.c 40, .c 40, .c 40, .c 40, .c 40, .c 40, .c 40, .c 40, .a 0, .c 41, .c 41, .c 41, .c 41, .c 41, .c 41, .c 41, .c 41], .sl 20029 0 1 (.q 2), .sl 19933 0 2 (.q 2)] false),
  (20184, .ce 53 [.x .i64 (.mk (.ofNat 15) [(1, (.ofNat 1))]), .x .i64 (.mk (.ofNat 15) [(1, (.ofNat 1))])] false)]
def lN8_8 : ML :=
  [(4, .ce 179 [.p 2 0, .p 16990 0] true),
  (6, .mp [] 0),
  (7, .ce 233 [.mp 6, I 0] true),
  (9, .ce 121 [.p 4 0, .p 7 0, .sl 20330 0 1 (.q 2)] true),
  (10, .ce 128 [I 100, .sl 20319 0 17 (.q 3), .ns] true),
  (11, .ce 69 [.p 9 0, .sl 20294 0 0 (.q 2), .ns, .p 10 0] true),
  (16990, .ce 258 [.x .i64 (.mk (.ofNat 16) [(1, (.ofNat 1))]), .x .i64 (.mk (.ofNat 0) [(30, (.ofNat 1))]), .x .i64 (.mk (.ofNat 0) [(32, (.ofNat 1))]), .x .i64 (.mk (.ofNat 0) [(34, (.ofNat 1))]), .s [.c 40, .c 40, .c 40, .c 40, .c 40, .c 40, .c 40, .c 40, .a 0, .c 41, .c 41, .c 41, .c 41, .c 41, .c 41, .c 41, .c 41], .x .i64 (.mk (.ofNat 16) [(1, (.ofNat 1))]), .x .i64 (.mk (.ofNat 0) [(30, (.ofNat 1))]), .x .i64 (.mk (.ofNat 0) [(32, (.ofNat 1))]), .x .i64 (.mk (.ofNat 0) [(34, (.ofNat 1))]), .x .u32 (.mk (.ofNat 0) [(36, (.ofNat 1))]), .np, .np] true),
  (20290, .ce 161 [I 1, .x .i64 (.mk (.ofNat 15) [(1, (.ofNat 1))]), I 1, .i .i64 (.negSucc 0), .b true, .b false, I 0, .s [], .b false, .ns, I 0, I 0, .b false, .ns, .ns, .b false, .b false, .ns, .x .i64 (.mk (.ofNat 16) [(1, (.ofNat 1))]), .x .i64 (.mk (.ofNat 16) [(1, (.ofNat 1))]), I 0, .i .i64 (.negSucc 0), .b true, .b false, I 0, .s [], .b false, .ns, I 0, I 0, .b false, .ns, .ns, .b false, .b false, .ns] false),
  (20292, .ce 98 [I 0, .x .i64 (.mk (.ofNat 16) [(1, (.ofNat 1))]), .sl 20290 0 2 (.q 18)] false),
  (20294, .ce 93 [I 0, .sl 20292 0 1 (.q 3)] false),
  (20319, .ce 48 [.s [], .sl 65 0 1 (.q 2), .ns, .s [.c 40, .c 120, .c 41], .sl 719 0 1 (.q 2), .sl 494 0 1 (.q 2), .s [.c 40, .c 40, .c 120, .c 41, .c 41], .sl 1794 0 1 (.q 2), .sl 1497 0 2 (.q 2), .s [.c 40, .c 40, .c 40, .c 120, .c 41, .c 41, .c 41], .sl 3203 0 1 (.q 2), .sl 2842 0 3 (.q 2), .s [.c 40, .c 40, .c 40, .c 40, .c 120, .c 41, .c 41, .c 41, .c 41], .sl 4946 0 1 (.q 2), .sl 4521 0 4 (.q 2), .s [.c 40, .c 40, .c 40, .c 40, .c 40, .c 120, .c 41, .c 41, .c 41, .c 41, .c 41], .sl 7023 0 1 (.q 2), .sl 6534 0 5 (.q 2), .s [.c 40, .c 40, .c 40, .c 40, .c 40, .c 40, .c 120, .c 41, .c 41, .c 41, .c 41, .c 41, .c 41], .sl 9434 0 1 (.q 2), .sl 8881 0 6 (.q 2), .s [.c 40, .c 40, .c 40, .c 40, .c 40, .c 40, .c 40, .c 120, .c 41, .c 41, .c 41, .c 41, .c 41, .c 41, .c 41], .sl 12179 0 1 (.q 2), .sl 11562 0 7 (.q 2), .s [.c 40, .c 40, .c 40, .c 40, .c 40, .c 40, .c 40, .c 40, .c 120, .c 41, .c 41, .c 41, .c 41, .c 41, .c 41, .c 41, .c 41], .sl 15209 0 1 (.q 2), .sl 14577 0 8 (.q 2), .s [.c 40, .c 40, .c 40, .c 40, .c 40, .c 40, .c 40, .c 40, .a 0, .c 41, .c 41, .c 41, .c 41, .c 41, .c 41, .c 41, .c 41], .sl 17422 0 1 (.q 2), .sl 16949 0 8 (.q 2), .s [.c 40, .c 40, .c 40, .c 40, .c 40, .c 40, .c 40, .c 40, .a 0, .c 41, .c 41, .c 41, .c 41, .c 41, .c 41, .c 41, .c 41], .sl 18029 0 1 (.q 2), .sl 17823 0 7 (.q 2), .s [.c 40, .c 40, .c 40, .c 40, .c 40, .c 40, .c 40, .c 40, .a 0, .c 41, .c 41, .c 41, .c 41, .c 41, .c 41, .c 41, .c 41], .sl 18567 0 1 (.q 2), .sl 18383 0 6 (.q 2), .s [.c 40, .c 40, .c 40, .c 40, .c 40, .c 40, .c 40, .c 40, .a 0, .c 41, .c 41, .c 41, .c 41, .c 41, .c 41, .c 41, .c 41], .sl 19036 0 1 (.q 2), .sl 18874 0 5 (.q 2), .s [.c 40, .c 40, .c 40, .c 40, .c 40, .c 40, .c 40, .c 40, .a 0, .c 41, .c 41, .c 41, .c 41, .c 41, .c 41, .c 41, .c 41], .sl 19436 0 1 (.q 2), .sl 19296 0 4 (.q 2), .s [.c 40, .c 40, .c 40, .c 40, .c 40, .c 40, .c 40, .c 40, .a 0, .c 41, .c 41, .c 41, .c 41, .c 41, .c 41, .c 41, .c 41], .sl 19767 0 1 (.q 2), .sl 19649 0 3 (.q 2), .s [.c 40, .c 40, .c 40, .c 40, .c 40, .c 40, .c 40, .c 40, .a 0, .c 41, .c 41, .c 41, .c 41, .c 41, .c 41, .c 41, .c 41], .sl 20029 0 1 (.q 2), .sl 19933 0 2 (.q 2), .s [.c 40, .c 40, .c 40, .c 40, .c 40, .c 40, .c 40, .c 40, .a 0, .c 41, .c 41, .c 41, .c 41, .c 41, .c 41, .c 41, .c 41], .sl 20222 0 1 (.q 2), .sl 20148 0 1 (.q 2)] false),
  (20330, .ce 53 [.x .i64 (.mk (.ofNat 16) [(1, (.ofNat 1))]), .x .i64 (.mk (.ofNat 16) [(1, (.ofNat 1))])] false)]
def aIns : List SV := [.p 11 0, .ag [I 7, .s [], .s [.c 40, .c 36, .c 123, .c 49, .c 58, .c 120, .c 125, .c 41], I 0, .b false, .ns, .ns]]
def aTyp : List SV := [.p 11 0, .ag [I 2, .s [], .s [.a 0], I 0, .b false, .ns, .ns]]
def aNxt : List SV := [.p 11 0, .ag [I 8, .s [], .s [], I 0, .b false, .ns, .ns]]
def cI1 : Cd := ⟨62, aIns, lI0, [], I 0, lI1, 603⟩
def cT1 : Cd := ⟨666, aTyp, lI1, pcD, I 0, lT1, 1223⟩
def cN1_1 : Cd := ⟨1255, aNxt, lT1, pcD, I 0, lN1_1, 1368⟩
def cN1_2 : Cd := ⟨1379, aNxt, lN1_1, pcD, I 6, lN1_1, 1404⟩
def cI2 : Cd := ⟨715, aIns, lI1, [], I 0, lI2, 1634⟩
def cT2 : Cd := ⟨1741, aTyp, lI2, pcD, I 0, lT2, 2508⟩
def cN2_1 : Cd := ⟨2562, aNxt, lT2, pcD, I 0, lN2_1, 2722⟩
def cN2_2 : Cd := ⟨2755, aNxt, lN2_1, pcD, I 0, lN2_2, 2868⟩
def cN2_3 : Cd := ⟨2879, aNxt, lN2_2, pcD, I 6, lN2_2, 2904⟩
def cI3 : Cd := ⟨1790, aIns, lI2, [], I 0, lI3, 2999⟩
def cT3 : Cd := ⟨3150, aTyp, lI3, pcD, I 0, lT3, 4127⟩
def cN3_1 : Cd := ⟨4203, aNxt, lT3, pcD, I 0, lN3_1, 4410⟩
def cN3_2 : Cd := ⟨4465, aNxt, lN3_1, pcD, I 0, lN3_2, 4625⟩
def cN3_3 : Cd := ⟨4658, aNxt, lN3_2, pcD, I 0, lN3_3, 4771⟩
def cN3_4 : Cd := ⟨4782, aNxt, lN3_3, pcD, I 6, lN3_3, 4807⟩
def cI4 : Cd := ⟨3199, aIns, lI3, [], I 0, lI4, 4698⟩
def cT4 : Cd := ⟨4893, aTyp, lI4, pcD, I 0, lT4, 6080⟩
def cN4_1 : Cd := ⟨6178, aNxt, lT4, pcD, I 0, lN4_1, 6432⟩
def cN4_2 : Cd := ⟨6509, aNxt, lN4_1, pcD, I 0, lN4_2, 6716⟩
def cN4_3 : Cd := ⟨6771, aNxt, lN4_2, pcD, I 0, lN4_3, 6931⟩
def cN4_4 : Cd := ⟨6964, aNxt, lN4_3, pcD, I 0, lN4_4, 7077⟩
def cN4_5 : Cd := ⟨7088, aNxt, lN4_4, pcD, I 6, lN4_4, 7113⟩
def cI5 : Cd := ⟨4942, aIns, lI4, [], I 0, lI5, 6731⟩
def cT5 : Cd := ⟨6970, aTyp, lI5, pcD, I 0, lT5, 8367⟩
def cN5_1 : Cd := ⟨8487, aNxt, lT5, pcD, I 0, lN5_1, 8788⟩
def cN5_2 : Cd := ⟨8887, aNxt, lN5_1, pcD, I 0, lN5_2, 9141⟩
def cN5_3 : Cd := ⟨9218, aNxt, lN5_2, pcD, I 0, lN5_3, 9425⟩
def cN5_4 : Cd := ⟨9480, aNxt, lN5_3, pcD, I 0, lN5_4, 9640⟩
def cN5_5 : Cd := ⟨9673, aNxt, lN5_4, pcD, I 0, lN5_5, 9786⟩
def cN5_6 : Cd := ⟨9797, aNxt, lN5_5, pcD, I 6, lN5_5, 9822⟩
def cI6 : Cd := ⟨7019, aIns, lI5, [], I 0, lI6, 9098⟩
def cT6 : Cd := ⟨9381, aTyp, lI6, pcD, I 0, lT6, 10988⟩
def cN6_1 : Cd := ⟨11130, aNxt, lT6, pcD, I 0, lN6_1, 11478⟩
def cN6_2 : Cd := ⟨11599, aNxt, lN6_1, pcD, I 0, lN6_2, 11900⟩
def cN6_3 : Cd := ⟨11999, aNxt, lN6_2, pcD, I 0, lN6_3, 12253⟩
def cN6_4 : Cd := ⟨12330, aNxt, lN6_3, pcD, I 0, lN6_4, 12537⟩
def cN6_5 : Cd := ⟨12592, aNxt, lN6_4, pcD, I 0, lN6_5, 12752⟩
def cN6_6 : Cd := ⟨12785, aNxt, lN6_5, pcD, I 0, lN6_6, 12898⟩
def cN6_7 : Cd := ⟨12909, aNxt, lN6_6, pcD, I 6, lN6_6, 12934⟩
def cI7 : Cd := ⟨9430, aIns, lI6, [], I 0, lI7, 11799⟩
def cT7 : Cd := ⟨12126, aTyp, lI7, pcD, I 0, lT7, 13943⟩
def cN7_1 : Cd := ⟨14107, aNxt, lT7, pcD, I 0, lN7_1, 14502⟩
def cN7_2 : Cd := ⟨14645, aNxt, lN7_1, pcD, I 0, lN7_2, 14993⟩
def cN7_3 : Cd := ⟨15114, aNxt, lN7_2, pcD, I 0, lN7_3, 15415⟩
def cN7_4 : Cd := ⟨15514, aNxt, lN7_3, pcD, I 0, lN7_4, 15768⟩
def cN7_5 : Cd := ⟨15845, aNxt, lN7_4, pcD, I 0, lN7_5, 16052⟩
def cN7_6 : Cd := ⟨16107, aNxt, lN7_5, pcD, I 0, lN7_6, 16267⟩
def cN7_7 : Cd := ⟨16300, aNxt, lN7_6, pcD, I 0, lN7_7, 16413⟩
def cN7_8 : Cd := ⟨16424, aNxt, lN7_7, pcD, I 6, lN7_7, 16449⟩
def cI8 : Cd := ⟨12175, aIns, lI7, [], I 0, lI8, 14834⟩
def cT8 : Cd := ⟨15205, aTyp, lI8, pcD, I 0, lT8, 17232⟩
def cN8_1 : Cd := ⟨17418, aNxt, lT8, pcD, I 0, lN8_1, 17860⟩
def cN8_2 : Cd := ⟨18025, aNxt, lN8_1, pcD, I 0, lN8_2, 18420⟩
def cN8_3 : Cd := ⟨18563, aNxt, lN8_2, pcD, I 0, lN8_3, 18911⟩
def cN8_4 : Cd := ⟨19032, aNxt, lN8_3, pcD, I 0, lN8_4, 19333⟩
def cN8_5 : Cd := ⟨19432, aNxt, lN8_4, pcD, I 0, lN8_5, 19686⟩
def cN8_6 : Cd := ⟨19763, aNxt, lN8_5, pcD, I 0, lN8_6, 19970⟩
def cN8_7 : Cd := ⟨20025, aNxt, lN8_6, pcD, I 0, lN8_7, 20185⟩
def cN8_8 : Cd := ⟨20218, aNxt, lN8_7, pcD, I 0, lN8_8, 20331⟩
def cN8_9 : Cd := ⟨20342, aNxt, lN8_8, pcD, I 6, lN8_8, 20367⟩
def cS : Nat → Cd
  | 1 => ⟨950, [.p 9 0, .sl 949 0 1 (.k 1)], lSa1, factsT 1 ++ notX :: pcD, .tu [.sl 976 0 1 (.q 3), I 0], lSb1, 1014⟩
  | 2 => ⟨2235, [.p 9 0, .sl 2234 0 1 (.k 1)], lSa2, factsT 2 ++ notX :: pcD, .tu [.sl 2261 0 1 (.q 3), I 0], lSb2, 2299⟩
  | 3 => ⟨3854, [.p 9 0, .sl 3853 0 1 (.k 1)], lSa3, factsT 3 ++ notX :: pcD, .tu [.sl 3880 0 1 (.q 3), I 0], lSb3, 3918⟩
  | 4 => ⟨5807, [.p 9 0, .sl 5806 0 1 (.k 1)], lSa4, factsT 4 ++ notX :: pcD, .tu [.sl 5833 0 1 (.q 3), I 0], lSb4, 5871⟩
  | 5 => ⟨8094, [.p 9 0, .sl 8093 0 1 (.k 1)], lSa5, factsT 5 ++ notX :: pcD, .tu [.sl 8120 0 1 (.q 3), I 0], lSb5, 8158⟩
  | 6 => ⟨10715, [.p 9 0, .sl 10714 0 1 (.k 1)], lSa6, factsT 6 ++ notX :: pcD, .tu [.sl 10741 0 1 (.q 3), I 0], lSb6, 10779⟩
  | 7 => ⟨13670, [.p 9 0, .sl 13669 0 1 (.k 1)], lSa7, factsT 7 ++ notX :: pcD, .tu [.sl 13696 0 1 (.q 3), I 0], lSb7, 13734⟩
  | 8 => ⟨16959, [.p 9 0, .sl 16958 0 1 (.k 1)], lSa8, factsT 8 ++ notX :: pcD, .tu [.sl 16985 0 1 (.q 3), I 0], lSb8, 17023⟩
  | _ => ⟨0, [], [], [], .ns, [], 0⟩
def cutsN : Nat → List Cd
  | 1 => [cI1, cT1, cN1_1, cN1_2]
  | 2 => [cI1, cI2, cT2, cN2_1, cN2_2, cN2_3]
  | 3 => [cI1, cI2, cI3, cT3, cN3_1, cN3_2, cN3_3, cN3_4]
  | 4 => [cI1, cI2, cI3, cI4, cT4, cN4_1, cN4_2, cN4_3, cN4_4, cN4_5]
  | 5 => [cI1, cI2, cI3, cI4, cI5, cT5, cN5_1, cN5_2, cN5_3, cN5_4, cN5_5, cN5_6]
  | 6 => [cI1, cI2, cI3, cI4, cI5, cI6, cT6, cN6_1, cN6_2, cN6_3, cN6_4, cN6_5, cN6_6, cN6_7]
  | 7 => [cI1, cI2, cI3, cI4, cI5, cI6, cI7, cT7, cN7_1, cN7_2, cN7_3, cN7_4, cN7_5, cN7_6, cN7_7, cN7_8]
  | 8 => [cI1, cI2, cI3, cI4, cI5, cI6, cI7, cI8, cT8, cN8_1, cN8_2, cN8_3, cN8_4, cN8_5, cN8_6, cN8_7, cN8_8, cN8_9]
  | _ => []
def tagN : Nat → Nat
  | 1 => 570
  | 2 => 1601
  | 3 => 2966
  | 4 => 4665
  | 5 => 6698
  | 6 => 9065
  | 7 => 11766
  | 8 => 14801
  | _ => 0
def p0N : Nat → Nat
  | 1 => 6
  | 2 => 4
  | 3 => 2754714582
  | 4 => 3504402808
  | 5 => 2631315818
  | 6 => 1308450860
  | 7 => 3485759038
  | 8 => 2047901728
  | _ => 0
def p1N : Nat → Nat
  | 1 => 5
  | 2 => 1020562323
  | 3 => 2398167357
  | 4 => 214500983
  | 5 => 291516865
  | 6 => 2330615195
  | 7 => 2626922629
  | 8 => 2238854399
  | _ => 0
def p2N : Nat → Nat
  | 1 => 4
  | 2 => 2754714582
  | 3 => 3504402808
  | 4 => 2631315818
  | 5 => 1308450860
  | 6 => 3485759038
  | 7 => 2047901728
  | 8 => 2973777490
  | _ => 0
def b1N (n : Nat) : Blk := .ce 258 [.x .i64 L123, I 0, I (2 * n + 1), I (2 * n + 1), .s [.a 1, .a 2, .a 3], .x .i64 L123, I 0, I (2 * n + 1), I (2 * n + 1), .i .u32 (.ofNat (p0N n)), .np, .np] true
end X
end Go.Proofs.YtjmnenjejgahjaaGreatDoor
