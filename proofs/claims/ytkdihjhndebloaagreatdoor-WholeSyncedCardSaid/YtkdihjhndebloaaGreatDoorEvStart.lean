/- Known states at the start. Conditions: none. -/
import Derived.Test.YtkdihjhndebloaaGreatDoorEvHeads
set_option linter.unusedSectionVars false
set_option linter.unusedVariables false
set_option linter.unusedSimpArgs false
namespace Go.Ev
open Go Go.Proofs.Tryz
abbrev i (n : Nat) : V := .int .i64 (.ofNat n)
abbrev u (n : Nat) : V := .int .u64 (.ofNat n)
def b0 : List Nat := [13, 147, 79, 23, 145, 228, 183, 239, 6, 0, 0, 0, 0, 0, 0, 0, 0, 0, 0, 0, 0, 0, 0, 0, 0, 0, 0, 0, 0, 0, 0, 0, 0, 0, 0, 0, 0, 0, 0, 0, 0, 0, 0, 0, 0, 0, 0, 0, 0, 0, 0, 0, 0, 0, 0, 0, 2, 0, 0, 0, 0, 0, 0, 0]
def b1 : List Nat := [238, 252, 219, 232, 205, 239, 158, 61, 6, 0, 0, 0, 0, 0, 0, 0, 1, 0, 0, 0, 0, 0, 0, 0, 0, 0, 0, 0, 0, 0, 0, 0, 0, 0, 0, 0, 0, 0, 0, 0, 0, 0, 0, 0, 0, 0, 0, 0, 0, 0, 0, 0, 0, 0, 0, 0, 2, 0, 0, 0, 0, 0, 0, 0]
def b2 : List Nat := [83, 53, 51, 13, 182, 238, 87, 201, 6, 0, 0, 0, 0, 0, 0, 0, 2, 0, 0, 0, 0, 0, 0, 0, 2, 0, 0, 0, 0, 0, 0, 0, 1, 0, 0, 0, 0, 0, 0, 0, 0, 0, 0, 0, 0, 0, 0, 0, 0, 0, 0, 0, 0, 0, 0, 0, 3, 0, 0, 0, 0, 0, 0, 0]
def b3 : List Nat := [28, 183, 46, 87, 58, 157, 236, 57, 1, 0, 0, 0, 0, 0, 0, 0, 1, 0, 0, 0, 0, 0, 0, 0, 1, 0, 107, 1, 0, 0, 0, 0, 0, 0, 0, 2, 0, 118, 48]
def b4 : List Nat := [91, 249, 172, 232, 104, 244, 69, 179, 6, 0, 0, 0, 0, 0, 0, 0, 3, 0, 0, 0, 0, 0, 0, 0, 3, 0, 0, 0, 0, 0, 0, 0, 1, 0, 0, 0, 0, 0, 0, 0, 0, 0, 0, 0, 0, 0, 0, 0, 4, 0, 0, 0, 0, 0, 0, 0, 5, 0, 0, 0, 0, 0, 0, 0]
def b5 : List Nat := [29, 183, 46, 87, 58, 157, 236, 57, 1, 0, 0, 0, 0, 0, 0, 0, 1, 0, 0, 0, 0, 0, 0, 0, 1, 0, 107, 1, 0, 0, 0, 0, 0, 0, 0, 2, 0, 118, 49]
def b6 : List Nat := [145, 151, 225, 89, 6, 227, 24, 115, 5, 0, 0, 0, 0, 0, 0, 0, 1, 0, 0, 0, 0, 0, 0, 0, 3, 0, 0, 0, 0, 0, 0, 0, 1, 0, 0, 0, 0, 0, 0, 0, 2, 0, 0, 0, 0, 0, 0, 0, 0, 0, 0, 0, 0, 0, 0, 0]
def b7 : List Nat := [130, 138, 81, 172, 11, 142, 109, 113, 6, 0, 0, 0, 0, 0, 0, 0, 4, 0, 0, 0, 0, 0, 0, 0, 5, 0, 0, 0, 0, 0, 0, 0, 1, 0, 0, 0, 0, 0, 0, 0, 0, 0, 0, 0, 0, 0, 0, 0, 6, 0, 0, 0, 0, 0, 0, 0, 7, 0, 0, 0, 0, 0, 0, 0]
def b8 : List Nat := [30, 183, 46, 87, 58, 157, 236, 57, 1, 0, 0, 0, 0, 0, 0, 0, 1, 0, 0, 0, 0, 0, 0, 0, 1, 0, 107, 1, 0, 0, 0, 0, 0, 0, 0, 2, 0, 118, 50]
def b9 : List Nat := [223, 231, 174, 30, 155, 214, 179, 195, 5, 0, 0, 0, 0, 0, 0, 0, 2, 0, 0, 0, 0, 0, 0, 0, 3, 0, 0, 0, 0, 0, 0, 0, 1, 0, 0, 0, 0, 0, 0, 0, 2, 0, 0, 0, 0, 0, 0, 0, 4, 0, 0, 0, 0, 0, 0, 0, 2, 0, 0, 0, 0, 0, 0, 0, 3, 0, 0, 0, 0, 0, 0, 0, 4, 0, 0, 0, 0, 0, 0, 0, 0, 0, 0, 0, 0, 0, 0, 0]
def b10 : List Nat := [130, 164, 149, 116, 35, 8, 210, 198, 6, 0, 0, 0, 0, 0, 0, 0, 5, 0, 0, 0, 0, 0, 0, 0, 2, 0, 0, 0, 0, 0, 0, 0, 1, 0, 0, 0, 0, 0, 0, 0, 0, 0, 0, 0, 0, 0, 0, 0, 7, 0, 0, 0, 0, 0, 0, 0, 8, 0, 0, 0, 0, 0, 0, 0]
def b11 : List Nat := [31, 183, 46, 87, 58, 157, 236, 57, 1, 0, 0, 0, 0, 0, 0, 0, 1, 0, 0, 0, 0, 0, 0, 0, 1, 0, 107, 1, 0, 0, 0, 0, 0, 0, 0, 2, 0, 118, 51]
def b12 : List Nat := [107, 87, 144, 182, 157, 143, 80, 76, 5, 0, 0, 0, 0, 0, 0, 0, 2, 0, 0, 0, 0, 0, 0, 0, 4, 0, 0, 0, 0, 0, 0, 0, 2, 0, 0, 0, 0, 0, 0, 0, 3, 0, 0, 0, 0, 0, 0, 0, 4, 0, 0, 0, 0, 0, 0, 0, 5, 0, 0, 0, 0, 0, 0, 0, 2, 0, 0, 0, 0, 0, 0, 0, 5, 0, 0, 0, 0, 0, 0, 0, 6, 0, 0, 0, 0, 0, 0, 0, 0, 0, 0, 0, 0, 0, 0, 0]
def b13 : List Nat := [161, 181, 23, 34, 61, 22, 251, 156, 6, 0, 0, 0, 0, 0, 0, 0, 6, 0, 0, 0, 0, 0, 0, 0, 3, 0, 0, 0, 0, 0, 0, 0, 1, 0, 0, 0, 0, 0, 0, 0, 0, 0, 0, 0, 0, 0, 0, 0, 4, 0, 0, 0, 0, 0, 0, 0, 8, 0, 0, 0, 0, 0, 0, 0]
def b14 : List Nat := [32, 183, 46, 87, 58, 157, 236, 57, 1, 0, 0, 0, 0, 0, 0, 0, 1, 0, 0, 0, 0, 0, 0, 0, 1, 0, 107, 1, 0, 0, 0, 0, 0, 0, 0, 2, 0, 118, 52]
def b15 : List Nat := [239, 215, 56, 125, 72, 250, 153, 218, 5, 0, 0, 0, 0, 0, 0, 0, 2, 0, 0, 0, 0, 0, 0, 0, 5, 0, 0, 0, 0, 0, 0, 0, 2, 0, 0, 0, 0, 0, 0, 0, 5, 0, 0, 0, 0, 0, 0, 0, 6, 0, 0, 0, 0, 0, 0, 0, 6, 0, 0, 0, 0, 0, 0, 0, 2, 0, 0, 0, 0, 0, 0, 0, 2, 0, 0, 0, 0, 0, 0, 0, 7, 0, 0, 0, 0, 0, 0, 0, 0, 0, 0, 0, 0, 0, 0, 0]
def b16 : List Nat := [76, 163, 94, 226, 44, 213, 136, 103, 1, 0, 0, 0, 0, 0, 0, 0, 1, 0, 0, 0, 0, 0, 0, 0, 1, 0, 107, 1, 0, 0, 0, 0, 0, 0, 0, 4, 0, 108, 97, 115, 116]
def b17 : List Nat := [45, 140, 206, 78, 225, 53, 145, 106, 5, 0, 0, 0, 0, 0, 0, 0, 2, 0, 0, 0, 0, 0, 0, 0, 6, 0, 0, 0, 0, 0, 0, 0, 2, 0, 0, 0, 0, 0, 0, 0, 2, 0, 0, 0, 0, 0, 0, 0, 7, 0, 0, 0, 0, 0, 0, 0, 7, 0, 0, 0, 0, 0, 0, 0, 2, 0, 0, 0, 0, 0, 0, 0, 3, 0, 0, 0, 0, 0, 0, 0, 4, 0, 0, 0, 0, 0, 0, 0, 0, 0, 0, 0, 0, 0, 0, 0]
def b18 : List Nat := [6, 157, 56, 13, 204, 175, 34, 91, 6, 0, 0, 0, 0, 0, 0, 0, 7, 0, 0, 0, 0, 0, 0, 0, 5, 0, 0, 0, 0, 0, 0, 0, 1, 0, 0, 0, 0, 0, 0, 0, 0, 0, 0, 0, 0, 0, 0, 0, 6, 0, 0, 0, 0, 0, 0, 0, 8, 0, 0, 0, 0, 0, 0, 0]
def lA : List (Nat × O) := [(0, .raw), (1, .kept)]
def vsA : Ts := .cons 0 (.raw 0) (.cons 1 (.raw 1) (.cons 2 (.raw 2) .nil))
def o0 : O := .cells 139 [i 0, i 0, u 0, i 0, u 0, i 0, u 0, i 0, u 0, i 0, u 0, i 0, u 0, i 0, u 0, i 0, u 0]
def o1 : O := .cells 67 [.bool false, .ptr 1630 0, .ptr 1631 0, .ptr 1632 0, .snil, i 0]
def lA5 : List (Nat × O) := [(0, .raw), (1, .kept), (1629, .map [] 0), (1630, .cells 134 [.snil, .snil, .map 1629]), (1631, o0), (1632, .cells 141 [.snil, i 0]), (1633, o1)]
def o2 : O := .cells 67 [.bool false, .ptr 1630 0, .ptr 1631 0, .ptr 1632 0, .sl 1640 0 1 (.un 116 0 1), i 1]
def o3 : O := .cells 149 [i 1, .bool false, .snil, .bool false, i 0, .bool false, i 0, .pnil, .pnil, .pnil, .pnil]
def lA6 : List (Nat × O) := [(0, .raw), (1, .kept), (1629, .map [] 0), (1630, .cells 134 [.snil, .snil, .map 1629]), (1631, o0), (1632, .cells 141 [.sl 1637 0 1 (.un 115 0 1), i 1]), (1633, o2), (1637, .cells 3 [i 1]), (1638, o3), (1640, .cells 70 [.ptr 1638 0])]
def o4 : O := .cells 134 [.sl 1693 0 2 (.un 121 0 1), .sl 1695 0 2 (.un 122 0 1), .map 1696]
def o5 : O := .cells 67 [.bool false, .ptr 1630 0, .ptr 1658 0, .ptr 1632 0, .sl 1640 0 1 (.un 116 0 1), i 4]
def o6 : O := .cells 149 [i 1, .bool false, .sl 1647 0 1 (.un 117 0 14), .bool false, i 2, .bool true, i 300, .pnil, .pnil, .pnil, .pnil]
def o7 : O := .cells 77 [i 1, i 1, i 1, .str [], .str [], .str [], i 0, i 300, i 2, i 4, i 0, .str [], .str [], u 0]
def lA7 : List (Nat × O) := [(0, .raw), (1, .kept), (1630, o4), (1632, .cells 141 [.sl 1637 0 1 (.un 115 0 1), i 1]), (1633, o5), (1637, .cells 3 [i 1]), (1638, o6), (1640, .cells 70 [.ptr 1638 0]), (1647, o7), (1658, o0), (1693, .cells 9 [.str b0, .str b1]), (1695, .cells 9 [.str b0, .str b1]), (1696, .map [] 0)]
def o8 : O := .cells 134 [.sl 1991 0 3 (.un 144 0 1), .sl 2003 0 3 (.un 146 0 1), .map 2004]
def o9 : O := .cells 67 [.bool false, .ptr 1630 0, .ptr 1658 0, .ptr 1632 0, .sl 1640 0 1 (.un 116 0 1), i 17]
def o10 : O := .cells 149 [i 1, .bool false, .sl 1926 0 4 (.un 137 0 14), .bool false, i 5, .bool true, i 300, .pnil, .pnil, .pnil, .pnil]
def o11 : O := .cells 77 [i 1, i 1, i 1, .str [], .str [], .str [], i 0, i 300, i 2, i 4, i 0, .str [], .str [], u 0, i 1, i 2, i 4, .str [], .str [], .str [], i 0, i 0, i 5, i 9, i 0, .str [], .str [], u 1, i 1, i 3, i 9, .str [], .str [107], .str [118, 48], i 0, i 0, i 10, i 11, i 0, .str [], .str [], u 0, i 1, i 4, i 6, .str [], .str [], .str [], i 0, i 0, i 12, i 17, i 0, .str [], .str [], u 2]
def lR1 : List (Nat × O) := [(0, .raw), (1, .kept), (1630, o8), (1632, .cells 141 [.sl 1637 0 1 (.un 115 0 1), i 1]), (1633, o9), (1637, .cells 3 [i 1]), (1638, o10), (1640, .cells 70 [.ptr 1638 0]), (1658, o0), (1926, o11), (1991, .cells 9 [.str b2, .str b1, .str b3]), (2003, .cells 9 [.str b0, .str b1, .str b3]), (2004, .map [(i 0, .bool true, 0)] 1)]
def o12 : O := .cells 134 [.sl 2557 0 5 (.un 191 0 1), .sl 2569 0 5 (.un 193 0 1), .map 2570]
def o13 : O := .cells 67 [.bool false, .ptr 1630 0, .ptr 1658 0, .ptr 1632 0, .sl 1640 0 1 (.un 116 0 1), i 31]
def o14 : O := .cells 149 [i 1, .bool false, .sl 2414 0 7 (.un 169 0 14), .bool false, i 6, .bool true, i 300, .pnil, .pnil, .pnil, .pnil]
def o15 : O := .cells 77 [i 1, i 1, i 1, .str [], .str [], .str [], i 0, i 300, i 2, i 4, i 0, .str [], .str [], u 0, i 1, i 2, i 4, .str [], .str [], .str [], i 0, i 0, i 5, i 9, i 0, .str [], .str [], u 1, i 1, i 3, i 9, .str [], .str [107], .str [118, 48], i 0, i 0, i 10, i 11, i 0, .str [], .str [], u 0, i 1, i 4, i 6, .str [], .str [], .str [], i 0, i 0, i 12, i 17, i 0, .str [], .str [], u 2, i 1, i 5, i 4, .str [], .str [], .str [], i 0, i 0, i 18, i 22, i 0, .str [], .str [], u 2, i 1, i 6, i 9, .str [], .str [107], .str [118, 49], i 0, i 0, i 23, i 24, i 0, .str [], .str [], u 0, i 1, i 7, i 6, .str [], .str [], .str [], i 0, i 0, i 25, i 31, i 0, .str [], .str [], u 3]
def lR2 : List (Nat × O) := [(0, .raw), (1, .kept), (1630, o12), (1632, .cells 141 [.sl 1637 0 1 (.un 115 0 1), i 1]), (1633, o13), (1637, .cells 3 [i 1]), (1638, o14), (1640, .cells 70 [.ptr 1638 0]), (1658, o0), (2414, o15), (2557, .cells 9 [.str b2, .str b4, .str b3, .str b5, .str b6]), (2569, .cells 9 [.str b2, .str b1, .str b3, .str b5, .str b6]), (2570, .map [(i 1, .bool true, 0)] 1)]
def o16 : O := .cells 134 [.sl 3199 0 7 (.un 258 0 1), .sl 3211 0 7 (.un 260 0 1), .map 3212]
def o17 : O := .cells 67 [.bool false, .ptr 1630 0, .ptr 1658 0, .ptr 1632 0, .sl 1640 0 1 (.un 116 0 1), i 45]
def o18 : O := .cells 149 [i 1, .bool false, .sl 3027 0 10 (.un 224 0 14), .bool false, i 6, .bool true, i 300, .pnil, .pnil, .pnil, .pnil]
def o19 : O := .cells 77 [i 1, i 1, i 1, .str [], .str [], .str [], i 0, i 300, i 2, i 4, i 0, .str [], .str [], u 0, i 1, i 2, i 4, .str [], .str [], .str [], i 0, i 0, i 5, i 9, i 0, .str [], .str [], u 1, i 1, i 3, i 9, .str [], .str [107], .str [118, 48], i 0, i 0, i 10, i 11, i 0, .str [], .str [], u 0, i 1, i 4, i 6, .str [], .str [], .str [], i 0, i 0, i 12, i 17, i 0, .str [], .str [], u 2, i 1, i 5, i 4, .str [], .str [], .str [], i 0, i 0, i 18, i 22, i 0, .str [], .str [], u 2, i 1, i 6, i 9, .str [], .str [107], .str [118, 49], i 0, i 0, i 23, i 24, i 0, .str [], .str [], u 0, i 1, i 7, i 6, .str [], .str [], .str [], i 0, i 0, i 25, i 31, i 0, .str [], .str [], u 3, i 1, i 8, i 4, .str [], .str [], .str [], i 0, i 0, i 32, i 36, i 0, .str [], .str [], u 3, i 1, i 9, i 9, .str [], .str [107], .str [118, 50], i 0, i 0, i 37, i 38, i 0, .str [], .str [], u 0, i 1, i 10, i 6, .str [], .str [], .str [], i 0, i 0, i 39, i 45, i 0, .str [], .str [], u 4]
def o20 : O := .cells 9 [.str b7, .str b4, .str b3, .str b5, .str b6, .str b8, .str b9]
def o21 : O := .cells 9 [.str b2, .str b4, .str b3, .str b5, .str b6, .str b8, .str b9]
def lR3 : List (Nat × O) := [(0, .raw), (1, .kept), (1630, o16), (1632, .cells 141 [.sl 1637 0 1 (.un 115 0 1), i 1]), (1633, o17), (1637, .cells 3 [i 1]), (1638, o18), (1640, .cells 70 [.ptr 1638 0]), (1658, o0), (3027, o19), (3199, o20), (3211, o21), (3212, .map [(i 0, .bool true, 0)] 1)]
def o22 : O := .cells 134 [.sl 3881 0 8 (.un 336 0 1), .sl 3893 0 8 (.un 338 0 1), .map 3894]
def o23 : O := .cells 67 [.bool false, .ptr 1630 0, .ptr 1658 0, .ptr 1632 0, .sl 1640 0 1 (.un 116 0 1), i 59]
def o24 : O := .cells 149 [i 1, .bool false, .sl 3706 0 13 (.un 302 0 14), .bool false, i 6, .bool true, i 300, .pnil, .pnil, .pnil, .pnil]
def o25 : O := .cells 77 [i 1, i 1, i 1, .str [], .str [], .str [], i 0, i 300, i 2, i 4, i 0, .str [], .str [], u 0, i 1, i 2, i 4, .str [], .str [], .str [], i 0, i 0, i 5, i 9, i 0, .str [], .str [], u 1, i 1, i 3, i 9, .str [], .str [107], .str [118, 48], i 0, i 0, i 10, i 11, i 0, .str [], .str [], u 0, i 1, i 4, i 6, .str [], .str [], .str [], i 0, i 0, i 12, i 17, i 0, .str [], .str [], u 2, i 1, i 5, i 4, .str [], .str [], .str [], i 0, i 0, i 18, i 22, i 0, .str [], .str [], u 2, i 1, i 6, i 9, .str [], .str [107], .str [118, 49], i 0, i 0, i 23, i 24, i 0, .str [], .str [], u 0, i 1, i 7, i 6, .str [], .str [], .str [], i 0, i 0, i 25, i 31, i 0, .str [], .str [], u 3, i 1, i 8, i 4, .str [], .str [], .str [], i 0, i 0, i 32, i 36, i 0, .str [], .str [], u 3, i 1, i 9, i 9, .str [], .str [107], .str [118, 50], i 0, i 0, i 37, i 38, i 0, .str [], .str [], u 0, i 1, i 10, i 6, .str [], .str [], .str [], i 0, i 0, i 39, i 45, i 0, .str [], .str [], u 4, i 1, i 11, i 4, .str [], .str [], .str [], i 0, i 0, i 46, i 50, i 0, .str [], .str [], u 4, i 1, i 12, i 9, .str [], .str [107], .str [118, 51], i 0, i 0, i 51, i 52, i 0, .str [], .str [], u 0, i 1, i 13, i 6, .str [], .str [], .str [], i 0, i 0, i 53, i 59, i 0, .str [], .str [], u 5]
def o26 : O := .cells 9 [.str b7, .str b10, .str b11, .str b5, .str b6, .str b8, .str b9, .str b12]
def o27 : O := .cells 9 [.str b7, .str b4, .str b11, .str b5, .str b6, .str b8, .str b9, .str b12]
def lR4 : List (Nat × O) := [(0, .raw), (1, .kept), (1630, o22), (1632, .cells 141 [.sl 1637 0 1 (.un 115 0 1), i 1]), (1633, o23), (1637, .cells 3 [i 1]), (1638, o24), (1640, .cells 70 [.ptr 1638 0]), (1658, o0), (3706, o25), (3881, o26), (3893, o27), (3894, .map [(i 1, .bool true, 0)] 1)]
def o28 : O := .cells 134 [.sl 3881 0 8 (.un 336 0 1), .sl 4588 0 8 (.un 421 0 1), .map 4589]
def o29 : O := .cells 67 [.bool false, .ptr 1630 0, .ptr 1658 0, .ptr 1632 0, .sl 1640 0 1 (.un 116 0 1), i 73]
def o30 : O := .cells 149 [i 1, .bool false, .sl 4395 0 16 (.un 383 0 14), .bool false, i 6, .bool true, i 300, .pnil, .pnil, .pnil, .pnil]
def o31 : O := .cells 9 [.str b13, .str b10, .str b11, .str b14, .str b15, .str b8, .str b9, .str b12]
def o32 : O := .cells 77 [i 1, i 1, i 1, .str [], .str [], .str [], i 0, i 300, i 2, i 4, i 0, .str [], .str [], u 0, i 1, i 2, i 4, .str [], .str [], .str [], i 0, i 0, i 5, i 9, i 0, .str [], .str [], u 1, i 1, i 3, i 9, .str [], .str [107], .str [118, 48], i 0, i 0, i 10, i 11, i 0, .str [], .str [], u 0, i 1, i 4, i 6, .str [], .str [], .str [], i 0, i 0, i 12, i 17, i 0, .str [], .str [], u 2, i 1, i 5, i 4, .str [], .str [], .str [], i 0, i 0, i 18, i 22, i 0, .str [], .str [], u 2, i 1, i 6, i 9, .str [], .str [107], .str [118, 49], i 0, i 0, i 23, i 24, i 0, .str [], .str [], u 0, i 1, i 7, i 6, .str [], .str [], .str [], i 0, i 0, i 25, i 31, i 0, .str [], .str [], u 3, i 1, i 8, i 4, .str [], .str [], .str [], i 0, i 0, i 32, i 36, i 0, .str [], .str [], u 3, i 1, i 9, i 9, .str [], .str [107], .str [118, 50], i 0, i 0, i 37, i 38, i 0, .str [], .str [], u 0, i 1, i 10, i 6, .str [], .str [], .str [], i 0, i 0, i 39, i 45, i 0, .str [], .str [], u 4, i 1, i 11, i 4, .str [], .str [], .str [], i 0, i 0, i 46, i 50, i 0, .str [], .str [], u 4, i 1, i 12, i 9, .str [], .str [107], .str [118, 51], i 0, i 0, i 51, i 52, i 0, .str [], .str [], u 0, i 1, i 13, i 6, .str [], .str [], .str [], i 0, i 0, i 53, i 59, i 0, .str [], .str [], u 5, i 1, i 14, i 4, .str [], .str [], .str [], i 0, i 0, i 60, i 64, i 0, .str [], .str [], u 5, i 1, i 15, i 9, .str [], .str [107], .str [118, 52], i 0, i 0, i 65, i 66, i 0, .str [], .str [], u 0, i 1, i 16, i 6, .str [], .str [], .str [], i 0, i 0, i 67, i 73, i 0, .str [], .str [], u 6]
def o33 : O := .cells 9 [.str b7, .str b10, .str b11, .str b14, .str b15, .str b8, .str b9, .str b12]
def lR5 : List (Nat × O) := [(0, .raw), (1, .kept), (1630, o28), (1632, .cells 141 [.sl 1637 0 1 (.un 115 0 1), i 1]), (1633, o29), (1637, .cells 3 [i 1]), (1638, o30), (1640, .cells 70 [.ptr 1638 0]), (1658, o0), (3881, o31), (4395, o32), (4588, o33), (4589, .map [(i 0, .bool true, 0)] 1)]
def LR : Nat → List (Nat × O)
  | 0 => lA7
  | 1 => lR1
  | 2 => lR2
  | 3 => lR3
  | 4 => lR4
  | _ => lR5
def NR : Nat → Nat
  | 0 => 1702
  | 1 => 2039
  | 2 => 2605
  | 3 => 3247
  | 4 => 3929
  | _ => 4624
def CR : Nat → Nat
  | 0 => 125
  | 1 => 151
  | 2 => 198
  | 3 => 265
  | 4 => 343
  | _ => 426
def sS : Sta := ⟨.nil, lA, 2, 0⟩
def sA : Sta := ⟨vsA, lA, 1629, 115⟩
noncomputable def ckV (s : Sta) (r : RV) : Bool := match r with | .ok (.bool true) h => sel (Nat.beq h.next s.n && Nat.beq h.nc s.c) (subH s.l h) false | _ => false
end Go.Ev
