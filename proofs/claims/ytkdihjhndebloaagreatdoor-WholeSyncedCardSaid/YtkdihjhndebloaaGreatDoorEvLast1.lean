/- The last commit behind 1 others, step by step, the loss of power, what counts then. Conditions: none. -/
import Derived.Test.YtkdihjhndebloaaGreatDoorEvStart
set_option linter.unusedSectionVars false
set_option linter.unusedVariables false
set_option linter.unusedSimpArgs false
namespace Go.Ev
open Go Go.Proofs.Tryz
def o1_34 : O := .cells 67 [.bool false, .ptr 1630 0, .ptr 1658 0, .ptr 1632 0, .sl 1640 0 1 (.un 116 0 1), i 22]
def o1_35 : O := .cells 149 [i 1, .bool false, .sl 2045 0 5 (.un 151 0 14), .bool false, i 4, .bool true, i 300, .pnil, .pnil, .ptr 2056 0, .ptr 2162 0]
def o1_36 : O := .cells 139 [i 1, i 0, u 0, i 0, u 0, i 0, u 0, i 0, u 0, i 0, u 0, i 0, u 0, i 0, u 0, i 0, u 0]
def o1_37 : O := .cells 77 [i 1, i 1, i 1, .str [], .str [], .str [], i 0, i 300, i 2, i 4, i 0, .str [], .str [], u 0, i 1, i 2, i 4, .str [], .str [], .str [], i 0, i 0, i 5, i 9, i 0, .str [], .str [], u 1, i 1, i 3, i 9, .str [], .str [107], .str [118, 48], i 0, i 0, i 10, i 11, i 0, .str [], .str [], u 0, i 1, i 4, i 6, .str [], .str [], .str [], i 0, i 0, i 12, i 17, i 0, .str [], .str [], u 2, i 1, i 5, i 4, .str [], .str [], .str [], i 0, i 0, i 18, i 22, i 0, .str [], .str [], u 2]
def o1_38 : O := .cells 432 [i 1, i 300, i 0, u 2, i 2, i 1, i 0, i 0, i 3, u 2, .ptr 2160 0, .snil, .cnil, u 0, i 0, i 0, i 0, i 0, i 0, .bool false, .inil]
def o1_39 : O := .cells 287 [.ptr 1630 0, .map 2158, .snil, .snil, i 3, i 300]
def o1_40 : O := .cells 341 [u 2, i 2, i 1, i 0, i 0, i 3, .snil, .ptr 2159 0, i 2, i 1, i 0, .bool true, .str [], .str [], .str [], .bool false]
def lW1 : List (Nat × O) := [(0, .raw), (1, .kept), (1630, o8), (1632, .cells 141 [.sl 1637 0 1 (.un 115 0 1), i 1]), (1633, o1_34), (1637, .cells 3 [i 1]), (1638, o1_35), (1640, .cells 70 [.ptr 1638 0]), (1658, o1_36), (1991, .cells 9 [.str b2, .str b1, .str b3]), (2003, .cells 9 [.str b0, .str b1, .str b3]), (2004, .map [(i 0, .bool true, 0)] 1), (2045, o1_37), (2056, o1_38), (2158, .map [] 0), (2159, o1_39), (2160, o1_40), (2161, .cells 145 [.ptr 2160 0]), (2162, .cells 384 [.sl 2161 0 1 (.ex 1)])]
def o1_41 : O := .cells 67 [.bool false, .ptr 1630 0, .ptr 1658 0, .ptr 1632 0, .sl 1640 0 1 (.un 116 0 1), i 24]
def o1_42 : O := .cells 149 [i 1, .bool false, .sl 2175 0 6 (.un 158 0 14), .bool false, i 1, .bool true, i 300, .pnil, .pnil, .ptr 2056 0, .ptr 2162 0]
def o1_43 : O := .map [(i 3, .agg [i 1, .sl 2397 0 1 (.un 166 0 10), .snil, .snil, .str [], .snil, .snil, i 0, u 0, i 0, i 0, i 0, i 0, i 0], 0)] 1
def o1_44 : O := .cells 287 [.ptr 1630 0, .map 2158, .sl 2370 0 1 (.un 164 0 1), .snil, i 4, i 300]
def o1_45 : O := .cells 341 [u 2, i 2, i 1, i 0, i 0, i 3, .snil, .ptr 2159 0, i 3, i 1, i 0, .bool true, .str [], .str [], .str [], .bool false]
def o1_46 : O := .cells 77 [i 1, i 1, i 1, .str [], .str [], .str [], i 0, i 300, i 2, i 4, i 0, .str [], .str [], u 0, i 1, i 2, i 4, .str [], .str [], .str [], i 0, i 0, i 5, i 9, i 0, .str [], .str [], u 1, i 1, i 3, i 9, .str [], .str [107], .str [118, 48], i 0, i 0, i 10, i 11, i 0, .str [], .str [], u 0, i 1, i 4, i 6, .str [], .str [], .str [], i 0, i 0, i 12, i 17, i 0, .str [], .str [], u 2, i 1, i 5, i 4, .str [], .str [], .str [], i 0, i 0, i 18, i 22, i 0, .str [], .str [], u 2, i 1, i 6, i 9, .str [], .str [107], .str [108, 97, 115, 116], i 0, i 0, i 23, i 24, i 0, .str [], .str [], u 0]
def o1_47 : O := .cells 173 [.str [107], i 1, .str [108, 97, 115, 116], i 0, i 0, .snil, i 0, i 0, i 0, i 0]
def lQ1 : List (Nat × O) := [(0, .raw), (1, .kept), (1630, o8), (1632, .cells 141 [.sl 1637 0 1 (.un 115 0 1), i 1]), (1633, o1_41), (1637, .cells 3 [i 1]), (1638, o1_42), (1640, .cells 70 [.ptr 1638 0]), (1658, o1_36), (1991, .cells 9 [.str b2, .str b1, .str b3]), (2003, .cells 9 [.str b0, .str b1, .str b3]), (2004, .map [(i 0, .bool true, 0)] 1), (2056, o1_38), (2158, o1_43), (2159, o1_44), (2160, o1_45), (2161, .cells 145 [.ptr 2160 0]), (2162, .cells 384 [.sl 2161 0 1 (.ex 1)]), (2175, o1_46), (2370, .cells 3 [i 2]), (2397, o1_47)]
def o1_48 : O := .cells 67 [.bool false, .ptr 1630 0, .ptr 1658 0, .ptr 1632 0, .sl 1640 0 1 (.un 116 0 1), i 25]
def o1_49 : O := .cells 149 [i 1, .bool false, .sl 2411 0 7 (.un 169 0 14), .bool true, i 0, .bool true, i 300, .pnil, .pnil, .ptr 2056 0, .ptr 2162 0]
def o1_50 : O := .cells 77 [i 1, i 1, i 1, .str [], .str [], .str [], i 0, i 300, i 2, i 4, i 0, .str [], .str [], u 0, i 1, i 2, i 4, .str [], .str [], .str [], i 0, i 0, i 5, i 9, i 0, .str [], .str [], u 1, i 1, i 3, i 9, .str [], .str [107], .str [118, 48], i 0, i 0, i 10, i 11, i 0, .str [], .str [], u 0, i 1, i 4, i 6, .str [], .str [], .str [], i 0, i 0, i 12, i 17, i 0, .str [], .str [], u 2, i 1, i 5, i 4, .str [], .str [], .str [], i 0, i 0, i 18, i 22, i 0, .str [], .str [], u 2, i 1, i 6, i 9, .str [], .str [107], .str [108, 97, 115, 116], i 0, i 0, i 23, i 24, i 0, .str [], .str [], u 0, i 1, i 7, i 6, .str [], .str [], .str [], i 0, i 0, i 25, i 0, i 0, .str [], .str [], u 0]
def lP1 : List (Nat × O) := [(0, .raw), (1, .kept), (1630, o8), (1632, .cells 141 [.sl 1637 0 1 (.un 115 0 1), i 1]), (1633, o1_48), (1637, .cells 3 [i 1]), (1638, o1_49), (1640, .cells 70 [.ptr 1638 0]), (1658, o1_36), (1991, .cells 9 [.str b2, .str b1, .str b3]), (2003, .cells 9 [.str b0, .str b1, .str b3]), (2004, .map [(i 0, .bool true, 0)] 1), (2056, o1_38), (2158, o1_43), (2159, o1_44), (2160, o1_45), (2161, .cells 145 [.ptr 2160 0]), (2162, .cells 384 [.sl 2161 0 1 (.ex 1)]), (2370, .cells 3 [i 2]), (2397, o1_47), (2411, o1_50)]
def o1_51 : O := .cells 67 [.bool false, .ptr 1630 0, .ptr 1658 0, .ptr 1632 0, .sl 1640 0 1 (.un 116 0 1), i 26]
def o1_52 : O := .cells 149 [i 1, .bool false, .sl 2411 0 7 (.un 169 0 14), .bool true, i 1, .bool true, i 300, .pnil, .pnil, .ptr 2056 0, .ptr 2162 0]
def o1_53 : O := .cells 432 [i 1, i 300, i 7, u 2, i 2, i 1, i 0, i 0, i 3, u 2, .ptr 2160 0, .snil, .chan 2526, u 3, i 3, i 1, i 0, i 4, i 5, .bool true, .inil]
def o1_54 : O := .cells 77 [i 1, i 1, i 1, .str [], .str [], .str [], i 0, i 300, i 2, i 4, i 0, .str [], .str [], u 0, i 1, i 2, i 4, .str [], .str [], .str [], i 0, i 0, i 5, i 9, i 0, .str [], .str [], u 1, i 1, i 3, i 9, .str [], .str [107], .str [118, 48], i 0, i 0, i 10, i 11, i 0, .str [], .str [], u 0, i 1, i 4, i 6, .str [], .str [], .str [], i 0, i 0, i 12, i 17, i 0, .str [], .str [], u 2, i 1, i 5, i 4, .str [], .str [], .str [], i 0, i 0, i 18, i 22, i 0, .str [], .str [], u 2, i 1, i 6, i 9, .str [], .str [107], .str [108, 97, 115, 116], i 0, i 0, i 23, i 24, i 0, .str [], .str [], u 0, i 1, i 7, i 6, .str [], .str [], .str [], i 0, i 0, i 25, i 0, i 0, .str [], .str [], u 3]
def lU1_1 : List (Nat × O) := [(0, .raw), (1, .kept), (1630, o8), (1632, .cells 141 [.sl 1637 0 1 (.un 115 0 1), i 1]), (1633, o1_51), (1637, .cells 3 [i 1]), (1638, o1_52), (1640, .cells 70 [.ptr 1638 0]), (1658, o1_36), (1991, .cells 9 [.str b2, .str b1, .str b3]), (2003, .cells 9 [.str b0, .str b1, .str b3]), (2004, .map [(i 0, .bool true, 0)] 1), (2056, o1_53), (2158, o1_43), (2159, o1_44), (2160, o1_45), (2161, .cells 145 [.ptr 2160 0]), (2162, .cells 384 [.sl 2161 0 1 (.ex 1)]), (2370, .cells 3 [i 2]), (2397, o1_47), (2411, o1_54), (2526, .chan 2 [.agg [i 3, .str b16], .agg [i 4, .str b6]])]
def o1_55 : O := .cells 134 [.sl 2541 0 4 (.un 189 0 1), .sl 2003 0 3 (.un 146 0 1), .map 2004]
def o1_56 : O := .cells 67 [.bool false, .ptr 1630 0, .ptr 1658 0, .ptr 1632 0, .sl 1640 0 1 (.un 116 0 1), i 27]
def o1_57 : O := .cells 149 [i 1, .bool false, .sl 2411 0 7 (.un 169 0 14), .bool true, i 2, .bool true, i 300, .pnil, .pnil, .ptr 2056 0, .ptr 2162 0]
def lU1_2 : List (Nat × O) := [(0, .raw), (1, .kept), (1630, o1_55), (1632, .cells 141 [.sl 1637 0 1 (.un 115 0 1), i 1]), (1633, o1_56), (1637, .cells 3 [i 1]), (1638, o1_57), (1640, .cells 70 [.ptr 1638 0]), (1658, o1_36), (2003, .cells 9 [.str b0, .str b1, .str b3]), (2004, .map [(i 0, .bool true, 0), (i 3, .bool true, 1)] 2), (2056, o1_53), (2158, o1_43), (2159, o1_44), (2160, o1_45), (2161, .cells 145 [.ptr 2160 0]), (2162, .cells 384 [.sl 2161 0 1 (.ex 1)]), (2370, .cells 3 [i 2]), (2397, o1_47), (2411, o1_54), (2526, .chan 2 [.agg [i 4, .str b6]]), (2541, .cells 9 [.str b2, .str b1, .str b3, .str b16])]
def o1_58 : O := .cells 134 [.sl 2554 0 5 (.un 191 0 1), .sl 2003 0 3 (.un 146 0 1), .map 2004]
def o1_59 : O := .cells 67 [.bool false, .ptr 1630 0, .ptr 1658 0, .ptr 1632 0, .sl 1640 0 1 (.un 116 0 1), i 28]
def o1_60 : O := .cells 149 [i 1, .bool false, .sl 2411 0 7 (.un 169 0 14), .bool true, i 3, .bool true, i 300, .pnil, .pnil, .ptr 2056 0, .ptr 2162 0]
def o1_61 : O := .map [(i 0, .bool true, 0), (i 3, .bool true, 1), (i 4, .bool true, 2)] 3
def o1_62 : O := .cells 432 [i 1, i 300, i 8, u 2, i 2, i 1, i 0, i 0, i 3, u 2, .ptr 2160 0, .snil, .chan 2526, u 3, i 3, i 1, i 0, i 4, i 5, .bool true, .inil]
def lU1_3 : List (Nat × O) := [(0, .raw), (1, .kept), (1630, o1_58), (1632, .cells 141 [.sl 1637 0 1 (.un 115 0 1), i 1]), (1633, o1_59), (1637, .cells 3 [i 1]), (1638, o1_60), (1640, .cells 70 [.ptr 1638 0]), (1658, o1_36), (2003, .cells 9 [.str b0, .str b1, .str b3]), (2004, o1_61), (2056, o1_62), (2158, o1_43), (2159, o1_44), (2160, o1_45), (2161, .cells 145 [.ptr 2160 0]), (2162, .cells 384 [.sl 2161 0 1 (.ex 1)]), (2370, .cells 3 [i 2]), (2397, o1_47), (2411, o1_54), (2526, .chan 2 []), (2554, .cells 9 [.str b2, .str b1, .str b3, .str b16, .str b6])]
def o1_63 : O := .cells 134 [.sl 2554 0 5 (.un 191 0 1), .sl 2566 0 5 (.un 193 0 1), .map 2567]
def o1_64 : O := .cells 67 [.bool false, .ptr 1630 0, .ptr 1658 0, .ptr 1632 0, .sl 1640 0 1 (.un 116 0 1), i 29]
def o1_65 : O := .cells 149 [i 1, .bool false, .sl 2411 0 7 (.un 169 0 14), .bool true, i 4, .bool true, i 300, .pnil, .pnil, .ptr 2056 0, .ptr 2162 0]
def o1_66 : O := .cells 432 [i 1, i 300, i 9, u 2, i 2, i 1, i 0, i 0, i 3, u 2, .ptr 2160 0, .snil, .chan 2526, u 3, i 3, i 1, i 0, i 4, i 5, .bool true, .inil]
def lU1_4 : List (Nat × O) := [(0, .raw), (1, .kept), (1630, o1_63), (1632, .cells 141 [.sl 1637 0 1 (.un 115 0 1), i 1]), (1633, o1_64), (1637, .cells 3 [i 1]), (1638, o1_65), (1640, .cells 70 [.ptr 1638 0]), (1658, o1_36), (2056, o1_66), (2158, o1_43), (2159, o1_44), (2160, o1_45), (2161, .cells 145 [.ptr 2160 0]), (2162, .cells 384 [.sl 2161 0 1 (.ex 1)]), (2370, .cells 3 [i 2]), (2397, o1_47), (2411, o1_54), (2526, .chan 2 []), (2554, .cells 9 [.str b2, .str b1, .str b3, .str b16, .str b6]), (2566, .cells 9 [.str b2, .str b1, .str b3, .str b16, .str b6]), (2567, .map [] 0)]
def o1_67 : O := .cells 67 [.bool false, .ptr 1630 0, .ptr 1658 0, .ptr 1632 0, .sl 1640 0 1 (.un 116 0 1), i 30]
def o1_68 : O := .cells 149 [i 1, .bool false, .sl 2411 0 7 (.un 169 0 14), .bool true, i 5, .bool true, i 300, .pnil, .pnil, .ptr 2056 0, .ptr 2162 0]
def o1_69 : O := .cells 432 [i 1, i 300, i 10, u 2, i 2, i 1, i 0, i 0, i 3, u 2, .ptr 2160 0, .snil, .chan 2526, u 3, i 3, i 1, i 0, i 4, i 5, .bool true, .inil]
def lU1_5 : List (Nat × O) := [(0, .raw), (1, .kept), (1630, o1_63), (1632, .cells 141 [.sl 1637 0 1 (.un 115 0 1), i 1]), (1633, o1_67), (1637, .cells 3 [i 1]), (1638, o1_68), (1640, .cells 70 [.ptr 1638 0]), (1658, o1_36), (2056, o1_69), (2158, o1_43), (2159, o1_44), (2160, o1_45), (2161, .cells 145 [.ptr 2160 0]), (2162, .cells 384 [.sl 2161 0 1 (.ex 1)]), (2370, .cells 3 [i 2]), (2397, o1_47), (2411, o1_54), (2526, .chan 2 []), (2554, .cells 9 [.str b2, .str b4, .str b3, .str b16, .str b6]), (2566, .cells 9 [.str b2, .str b1, .str b3, .str b16, .str b6]), (2567, .map [(i 1, .bool true, 0)] 1)]
def o1_70 : O := .cells 149 [i 1, .bool false, .sl 2411 0 7 (.un 169 0 14), .bool false, i 6, .bool true, i 300, .pnil, .pnil, .pnil, .pnil]
def o1_71 : O := .cells 77 [i 1, i 1, i 1, .str [], .str [], .str [], i 0, i 300, i 2, i 4, i 0, .str [], .str [], u 0, i 1, i 2, i 4, .str [], .str [], .str [], i 0, i 0, i 5, i 9, i 0, .str [], .str [], u 1, i 1, i 3, i 9, .str [], .str [107], .str [118, 48], i 0, i 0, i 10, i 11, i 0, .str [], .str [], u 0, i 1, i 4, i 6, .str [], .str [], .str [], i 0, i 0, i 12, i 17, i 0, .str [], .str [], u 2, i 1, i 5, i 4, .str [], .str [], .str [], i 0, i 0, i 18, i 22, i 0, .str [], .str [], u 2, i 1, i 6, i 9, .str [], .str [107], .str [108, 97, 115, 116], i 0, i 0, i 23, i 24, i 0, .str [], .str [], u 0, i 1, i 7, i 6, .str [], .str [], .str [], i 0, i 0, i 25, i 31, i 0, .str [], .str [], u 3]
def lU1_6 : List (Nat × O) := [(0, .raw), (1, .kept), (1630, o1_63), (1632, .cells 141 [.sl 1637 0 1 (.un 115 0 1), i 1]), (1633, o13), (1637, .cells 3 [i 1]), (1638, o1_70), (1640, .cells 70 [.ptr 1638 0]), (1658, o0), (2411, o1_71), (2554, .cells 9 [.str b2, .str b4, .str b3, .str b16, .str b6]), (2566, .cells 9 [.str b2, .str b1, .str b3, .str b16, .str b6]), (2567, .map [(i 1, .bool true, 0)] 1)]
def o1_72 : O := .cells 67 [.bool false, .ptr 1630 0, .ptr 1658 0, .ptr 1632 0, .sl 1640 0 1 (.un 116 0 1), i 32]
def lU1_7 : List (Nat × O) := [(0, .raw), (1, .kept), (1630, o1_63), (1632, .cells 141 [.sl 1637 0 1 (.un 115 0 1), i 1]), (1633, o1_72), (1637, .cells 3 [i 1]), (1638, o1_70), (1640, .cells 70 [.ptr 1638 0]), (1658, o0), (2411, o1_71), (2554, .cells 9 [.str b2, .str b4, .str b3, .str b16, .str b6]), (2566, .cells 9 [.str b2, .str b1, .str b3, .str b16, .str b6]), (2567, .map [(i 1, .bool true, 0)] 1)]
def o1_73 : O := .cells 67 [.bool false, .ptr 1630 0, .ptr 1658 0, .ptr 1632 0, .sl 1640 0 1 (.un 116 0 1), i 33]
def lU1_8 : List (Nat × O) := [(0, .raw), (1, .kept), (1630, o1_63), (1632, .cells 141 [.sl 1637 0 1 (.un 115 0 1), i 1]), (1633, o1_73), (1637, .cells 3 [i 1]), (1638, o1_70), (1640, .cells 70 [.ptr 1638 0]), (1658, o0), (2411, o1_71), (2554, .cells 9 [.str b2, .str b4, .str b3, .str b16, .str b6]), (2566, .cells 9 [.str b2, .str b1, .str b3, .str b16, .str b6]), (2567, .map [(i 1, .bool true, 0)] 1)]
def o1_74 : O := .cells 67 [.bool false, .ptr 1630 0, .ptr 1658 0, .ptr 1632 0, .sl 1640 0 1 (.un 116 0 1), i 34]
def lU1_9 : List (Nat × O) := [(0, .raw), (1, .kept), (1630, o1_63), (1632, .cells 141 [.sl 1637 0 1 (.un 115 0 1), i 1]), (1633, o1_74), (1637, .cells 3 [i 1]), (1638, o1_70), (1640, .cells 70 [.ptr 1638 0]), (1658, o0), (2411, o1_71), (2554, .cells 9 [.str b2, .str b4, .str b3, .str b16, .str b6]), (2566, .cells 9 [.str b2, .str b1, .str b3, .str b16, .str b6]), (2567, .map [(i 1, .bool true, 0)] 1)]
def o1_75 : O := .cells 67 [.bool false, .ptr 1630 0, .ptr 1658 0, .ptr 1632 0, .sl 1640 0 1 (.un 116 0 1), i 35]
def lU1_10 : List (Nat × O) := [(0, .raw), (1, .kept), (1630, o1_63), (1632, .cells 141 [.sl 1637 0 1 (.un 115 0 1), i 1]), (1633, o1_75), (1637, .cells 3 [i 1]), (1638, o1_70), (1640, .cells 70 [.ptr 1638 0]), (1658, o0), (2411, o1_71), (2554, .cells 9 [.str b2, .str b4, .str b3, .str b16, .str b6]), (2566, .cells 9 [.str b2, .str b1, .str b3, .str b16, .str b6]), (2567, .map [(i 1, .bool true, 0)] 1)]
def o1_76 : O := .cells 67 [.bool false, .ptr 1630 0, .ptr 1658 0, .ptr 1632 0, .sl 1640 0 1 (.un 116 0 1), i 36]
def lU1_11 : List (Nat × O) := [(0, .raw), (1, .kept), (1630, o1_63), (1632, .cells 141 [.sl 1637 0 1 (.un 115 0 1), i 1]), (1633, o1_76), (1637, .cells 3 [i 1]), (1638, o1_70), (1640, .cells 70 [.ptr 1638 0]), (1658, o0), (2411, o1_71), (2554, .cells 9 [.str b2, .str b4, .str b3, .str b16, .str b6]), (2566, .cells 9 [.str b2, .str b1, .str b3, .str b16, .str b6]), (2567, .map [(i 1, .bool true, 0)] 1)]
def LU1 : Nat → List (Nat × O)
  | 0 => lP1
  | 1 => lU1_1
  | 2 => lU1_2
  | 3 => lU1_3
  | 4 => lU1_4
  | 5 => lU1_5
  | 6 => lU1_6
  | 7 => lU1_7
  | 8 => lU1_8
  | 9 => lU1_9
  | 10 => lU1_10
  | _ => lU1_11
def NU1 : Nat → Nat
  | 0 => 2412
  | 1 => 2529
  | 2 => 2542
  | 3 => 2555
  | 4 => 2568
  | 5 => 2587
  | 6 => 2598
  | 7 => 2603
  | 8 => 2608
  | 9 => 2613
  | 10 => 2618
  | _ => 2623
def CU1 : Nat → Nat
  | 0 => 170
  | 1 => 188
  | 2 => 190
  | 3 => 192
  | 4 => 194
  | 5 => 195
  | 6 => 196
  | 7 => 197
  | 8 => 198
  | 9 => 199
  | 10 => 200
  | _ => 201
theorem k_W1 : ckR 115 ⟨vsB, lW1, 2169, 158⟩ .normal ((ev prog X0 4000).code 3 (at3 8) (Sta.tm mk3 115 ⟨vsB, LR 1, NR 1, CR 1⟩) (Sta.h ⟨vsB, LR 1, NR 1, CR 1⟩)) = true := by kernel_rfl
theorem k_Q1 : ckR 115 ⟨vsB, lQ1, 2407, 169⟩ .normal ((ev prog X0 4000).code 3 (at3 9) (Sta.tm mk3 115 ⟨vsB, lW1, 2169, 158⟩) (Sta.h ⟨vsB, lW1, 2169, 158⟩)) = true := by kernel_rfl
theorem k_P1 : ckR 115 ⟨vsB, LU1 0, NU1 0, CU1 0⟩ .normal ((ev prog X0 4000).code 3 (at3 10) (Sta.tm mk3 115 ⟨vsB, lQ1, 2407, 169⟩) (Sta.h ⟨vsB, lQ1, 2407, 169⟩)) = true := by kernel_rfl
theorem k_U1_0 : ckR 115 ⟨vsT 1, LU1 1, NU1 1, CU1 1⟩ .normal ((ev prog X0 4000).code 3 (sq2 LB2) (Sta.tm mk3 115 ⟨vsT 0, LU1 0, NU1 0, CU1 0⟩) (Sta.h ⟨vsT 0, LU1 0, NU1 0, CU1 0⟩)) = true := by kernel_rfl
theorem k_U1_1 : ckR 115 ⟨vsT 2, LU1 2, NU1 2, CU1 2⟩ .normal ((ev prog X0 4000).code 3 (sq2 LB2) (Sta.tm mk3 115 ⟨vsT 1, LU1 1, NU1 1, CU1 1⟩) (Sta.h ⟨vsT 1, LU1 1, NU1 1, CU1 1⟩)) = true := by kernel_rfl
theorem k_U1_2 : ckR 115 ⟨vsT 3, LU1 3, NU1 3, CU1 3⟩ .normal ((ev prog X0 4000).code 3 (sq2 LB2) (Sta.tm mk3 115 ⟨vsT 2, LU1 2, NU1 2, CU1 2⟩) (Sta.h ⟨vsT 2, LU1 2, NU1 2, CU1 2⟩)) = true := by kernel_rfl
theorem k_U1_3 : ckR 115 ⟨vsT 4, LU1 4, NU1 4, CU1 4⟩ .normal ((ev prog X0 4000).code 3 (sq2 LB2) (Sta.tm mk3 115 ⟨vsT 3, LU1 3, NU1 3, CU1 3⟩) (Sta.h ⟨vsT 3, LU1 3, NU1 3, CU1 3⟩)) = true := by kernel_rfl
theorem k_U1_4 : ckR 115 ⟨vsT 5, LU1 5, NU1 5, CU1 5⟩ .normal ((ev prog X0 4000).code 3 (sq2 LB2) (Sta.tm mk3 115 ⟨vsT 4, LU1 4, NU1 4, CU1 4⟩) (Sta.h ⟨vsT 4, LU1 4, NU1 4, CU1 4⟩)) = true := by kernel_rfl
theorem k_U1_5 : ckR 115 ⟨vsT 6, LU1 6, NU1 6, CU1 6⟩ .normal ((ev prog X0 4000).code 3 (sq2 LB2) (Sta.tm mk3 115 ⟨vsT 5, LU1 5, NU1 5, CU1 5⟩) (Sta.h ⟨vsT 5, LU1 5, NU1 5, CU1 5⟩)) = true := by kernel_rfl
theorem k_U1_6 : ckR 115 ⟨vsT 7, LU1 7, NU1 7, CU1 7⟩ .normal ((ev prog X0 4000).code 3 (sq2 LB2) (Sta.tm mk3 115 ⟨vsT 6, LU1 6, NU1 6, CU1 6⟩) (Sta.h ⟨vsT 6, LU1 6, NU1 6, CU1 6⟩)) = true := by kernel_rfl
theorem k_U1_7 : ckR 115 ⟨vsT 8, LU1 8, NU1 8, CU1 8⟩ .normal ((ev prog X0 4000).code 3 (sq2 LB2) (Sta.tm mk3 115 ⟨vsT 7, LU1 7, NU1 7, CU1 7⟩) (Sta.h ⟨vsT 7, LU1 7, NU1 7, CU1 7⟩)) = true := by kernel_rfl
theorem k_U1_8 : ckR 115 ⟨vsT 9, LU1 9, NU1 9, CU1 9⟩ .normal ((ev prog X0 4000).code 3 (sq2 LB2) (Sta.tm mk3 115 ⟨vsT 8, LU1 8, NU1 8, CU1 8⟩) (Sta.h ⟨vsT 8, LU1 8, NU1 8, CU1 8⟩)) = true := by kernel_rfl
theorem k_U1_9 : ckR 115 ⟨vsT 10, LU1 10, NU1 10, CU1 10⟩ .normal ((ev prog X0 4000).code 3 (sq2 LB2) (Sta.tm mk3 115 ⟨vsT 9, LU1 9, NU1 9, CU1 9⟩) (Sta.h ⟨vsT 9, LU1 9, NU1 9, CU1 9⟩)) = true := by kernel_rfl
theorem k_U1_10 : ckR 115 ⟨vsT 11, LU1 11, NU1 11, CU1 11⟩ .normal ((ev prog X0 4000).code 3 (sq2 LB2) (Sta.tm mk3 115 ⟨vsT 10, LU1 10, NU1 10, CU1 10⟩) (Sta.h ⟨vsT 10, LU1 10, NU1 10, CU1 10⟩)) = true := by kernel_rfl
end Go.Ev
namespace Go.Ev
open Go Go.Proofs.Tryz
def sC1_0 : Sta := ⟨.cons 7 (.ptr 2 0) (.cons 8 (i 1) (.cons 11 (.ptr 4 0) (.cons 12 .inil .nil))), [(0, .raw), (1, .kept), (2, .cells 67 [.bool false, .ptr 3 0]), (3, .cells 134 [.sl 5 0 3 (.un 0 0 1)]), (4, .cells 41 [u 2]), (5, .cells 9 [.str b0, .str b1, .str b3])], 6, 1⟩
theorem k_C1_0 : ckR 115 ⟨.cons 6 (.bool true) .nil, lA, 93, 9⟩ .ret ((ev prog X0 4000).code 3 (sqn 14 B3) (Sta.tm mk3 115 sC1_0) (Sta.h sC1_0)) = true := by kernel_rfl
def sC1_1 : Sta := ⟨.cons 7 (.ptr 2 0) (.cons 8 (i 1) (.cons 11 (.ptr 4 0) (.cons 12 .inil .nil))), [(0, .raw), (1, .kept), (2, .cells 67 [.bool false, .ptr 3 0]), (3, .cells 134 [.sl 5 0 3 (.un 0 0 1)]), (4, .cells 41 [u 2]), (5, .cells 9 [.str b2, .str b1, .str b3])], 6, 1⟩
theorem k_C1_1 : ckR 115 ⟨.cons 6 (.bool true) .nil, lA, 245, 35⟩ .ret ((ev prog X0 4000).code 3 (sqn 14 B3) (Sta.tm mk3 115 sC1_1) (Sta.h sC1_1)) = true := by kernel_rfl
def sC1_2 : Sta := ⟨.cons 7 (.ptr 2 0) (.cons 8 (i 1) (.cons 11 (.ptr 4 0) (.cons 12 .inil .nil))), [(0, .raw), (1, .kept), (2, .cells 67 [.bool false, .ptr 3 0]), (3, .cells 134 [.sl 5 0 4 (.un 0 0 1)]), (4, .cells 41 [u 2]), (5, .cells 9 [.str b0, .str b1, .str b3, .str b16])], 6, 1⟩
theorem k_C1_2 : ckR 115 ⟨.cons 6 (.bool true) .nil, lA, 95, 10⟩ .ret ((ev prog X0 4000).code 3 (sqn 14 B3) (Sta.tm mk3 115 sC1_2) (Sta.h sC1_2)) = true := by kernel_rfl
def sC1_3 : Sta := ⟨.cons 7 (.ptr 2 0) (.cons 8 (i 1) (.cons 11 (.ptr 4 0) (.cons 12 .inil .nil))), [(0, .raw), (1, .kept), (2, .cells 67 [.bool false, .ptr 3 0]), (3, .cells 134 [.sl 5 0 4 (.un 0 0 1)]), (4, .cells 41 [u 2]), (5, .cells 9 [.str b2, .str b1, .str b3, .str b16])], 6, 1⟩
theorem k_C1_3 : ckR 115 ⟨.cons 6 (.bool true) .nil, lA, 247, 36⟩ .ret ((ev prog X0 4000).code 3 (sqn 14 B3) (Sta.tm mk3 115 sC1_3) (Sta.h sC1_3)) = true := by kernel_rfl
def sC1_4 : Sta := ⟨.cons 7 (.ptr 2 0) (.cons 8 (i 1) (.cons 11 (.ptr 4 0) (.cons 12 .inil .nil))), [(0, .raw), (1, .kept), (2, .cells 67 [.bool false, .ptr 3 0]), (3, .cells 134 [.sl 5 0 5 (.un 0 0 1)]), (4, .cells 41 [u 2]), (5, .cells 9 [.str b0, .str b1, .str b3, .str [], .str b6])], 6, 1⟩
theorem k_C1_4 : ckR 115 ⟨.cons 6 (.bool true) .nil, lA, 97, 11⟩ .ret ((ev prog X0 4000).code 3 (sqn 14 B3) (Sta.tm mk3 115 sC1_4) (Sta.h sC1_4)) = true := by kernel_rfl
def sC1_5 : Sta := ⟨.cons 7 (.ptr 2 0) (.cons 8 (i 1) (.cons 11 (.ptr 4 0) (.cons 12 .inil .nil))), [(0, .raw), (1, .kept), (2, .cells 67 [.bool false, .ptr 3 0]), (3, .cells 134 [.sl 5 0 5 (.un 0 0 1)]), (4, .cells 41 [u 2]), (5, .cells 9 [.str b0, .str b1, .str b3, .str b16, .str b6])], 6, 1⟩
theorem k_C1_5 : ckR 115 ⟨.cons 6 (.bool true) .nil, lA, 97, 11⟩ .ret ((ev prog X0 4000).code 3 (sqn 14 B3) (Sta.tm mk3 115 sC1_5) (Sta.h sC1_5)) = true := by kernel_rfl
def sC1_6 : Sta := ⟨.cons 7 (.ptr 2 0) (.cons 8 (i 1) (.cons 11 (.ptr 4 0) (.cons 12 .inil .nil))), [(0, .raw), (1, .kept), (2, .cells 67 [.bool false, .ptr 3 0]), (3, .cells 134 [.sl 5 0 5 (.un 0 0 1)]), (4, .cells 41 [u 2]), (5, .cells 9 [.str b2, .str b1, .str b3, .str [], .str b6])], 6, 1⟩
theorem k_C1_6 : ckR 115 ⟨.cons 6 (.bool true) .nil, lA, 249, 37⟩ .ret ((ev prog X0 4000).code 3 (sqn 14 B3) (Sta.tm mk3 115 sC1_6) (Sta.h sC1_6)) = true := by kernel_rfl
def sC1_7 : Sta := ⟨.cons 7 (.ptr 2 0) (.cons 8 (i 1) (.cons 11 (.ptr 4 0) (.cons 12 .inil .nil))), [(0, .raw), (1, .kept), (2, .cells 67 [.bool false, .ptr 3 0]), (3, .cells 134 [.sl 5 0 5 (.un 0 0 1)]), (4, .cells 41 [u 2]), (5, .cells 9 [.str b2, .str b1, .str b3, .str b16, .str b6])], 6, 1⟩
theorem k_C1_7 : ckR 115 ⟨.cons 6 (.bool true) .nil, lA, 249, 37⟩ .ret ((ev prog X0 4000).code 3 (sqn 14 B3) (Sta.tm mk3 115 sC1_7) (Sta.h sC1_7)) = true := by kernel_rfl
def sC1_8 : Sta := ⟨.cons 7 (.ptr 2 0) (.cons 8 (i 1) (.cons 11 (.ptr 4 0) (.cons 12 .inil .nil))), [(0, .raw), (1, .kept), (2, .cells 67 [.bool false, .ptr 3 0]), (3, .cells 134 [.sl 5 0 5 (.un 0 0 1)]), (4, .cells 41 [u 3]), (5, .cells 9 [.str b2, .str b1, .str b3, .str b16, .str b6])], 6, 1⟩
theorem k_C1_8 : ckR 115 ⟨.cons 6 (.bool true) .nil, lA, 249, 37⟩ .ret ((ev prog X0 4000).code 3 (sqn 14 B3) (Sta.tm mk3 115 sC1_8) (Sta.h sC1_8)) = true := by kernel_rfl
def sC1_9 : Sta := ⟨.cons 7 (.ptr 2 0) (.cons 8 (i 1) (.cons 11 (.ptr 4 0) (.cons 12 .inil .nil))), [(0, .raw), (1, .kept), (2, .cells 67 [.bool false, .ptr 3 0]), (3, .cells 134 [.sl 5 0 5 (.un 0 0 1)]), (4, .cells 41 [u 3]), (5, .cells 9 [.str b2, .str b4, .str b3, .str b16, .str b6])], 6, 1⟩
theorem k_C1_9 : ckR 115 ⟨.cons 6 (.bool true) .nil, lA, 279, 48⟩ .ret ((ev prog X0 4000).code 3 (sqn 14 B3) (Sta.tm mk3 115 sC1_9) (Sta.h sC1_9)) = true := by kernel_rfl
end Go.Ev
namespace Go.Ev
open Go Go.Proofs.Tryz
def lY1_0 : List (Nat × O) := [(0, .raw), (1, .kept), (1630, o8), (1632, .cells 141 [.sl 1637 0 1 (.un 115 0 1), i 1]), (1633, o1_48), (1637, .cells 3 [i 1]), (1638, o1_49), (1640, .cells 70 [.ptr 1638 0]), (1658, o1_36), (1991, .cells 9 [.str b2, .str b1, .str b3]), (2003, .cells 9 [.str b0, .str b1, .str b3]), (2004, .map [(i 0, .bool true, 0)] 1), (2056, o1_38), (2158, o1_43), (2159, o1_44), (2160, o1_45), (2161, .cells 145 [.ptr 2160 0]), (2162, .cells 384 [.sl 2161 0 1 (.ex 1)]), (2370, .cells 3 [i 2]), (2397, o1_47), (2411, o1_50), (2466, .cells 41 [u 2, i 2, i 1, i 0, i 0, i 3])]
def sY1_0 : Sta := ⟨(.cons 2 (.raw 2) (.cons 7 pm (.cons 8 (i 1) (.cons 11 (.ptr 2466 0) (.cons 12 .inil .nil))))), lY1_0, 2467, 170⟩
theorem k_Y1_0 : ckR 115 sY1_0 .normal ((ev prog X0 4000).code 3 (at3 12) (Sta.tm mk3 115 ⟨vsE 1, LU1 0, NU1 0, CU1 0⟩) (Sta.h ⟨vsE 1, LU1 0, NU1 0, CU1 0⟩)) = true := by kernel_rfl
theorem k_Z1_0_n : ckN 115 sC1_0 [0, 1, 1633, 1630, 2466, 1991] [144] ((ev prog (X1 []) 4000).code 3 (at3 13) (Sta.tm mk3 115 sY1_0) (Sta.h sY1_0)) = true := by kernel_rfl
theorem k_Z1_0_nf (t : List Bool) : ckN 115 sC1_0 [0, 1, 1633, 1630, 2466, 1991] [144] ((ev prog (X1 (false :: t)) 4000).code 3 (at3 13) (Sta.tm mk3 115 sY1_0) (Sta.h sY1_0)) = true := by kernel_rfl
theorem k_Z1_0_nt (t : List Bool) : ckN 115 sC1_1 [0, 1, 1633, 1630, 2466, 1991] [144] ((ev prog (X1 (true :: t)) 4000).code 3 (at3 13) (Sta.tm mk3 115 sY1_0) (Sta.h sY1_0)) = true := by kernel_rfl
def lY1_1 : List (Nat × O) := [(0, .raw), (1, .kept), (1630, o8), (1632, .cells 141 [.sl 1637 0 1 (.un 115 0 1), i 1]), (1633, o1_51), (1637, .cells 3 [i 1]), (1638, o1_52), (1640, .cells 70 [.ptr 1638 0]), (1658, o1_36), (1991, .cells 9 [.str b2, .str b1, .str b3]), (2003, .cells 9 [.str b0, .str b1, .str b3]), (2004, .map [(i 0, .bool true, 0)] 1), (2056, o1_53), (2158, o1_43), (2159, o1_44), (2160, o1_45), (2161, .cells 145 [.ptr 2160 0]), (2162, .cells 384 [.sl 2161 0 1 (.ex 1)]), (2370, .cells 3 [i 2]), (2397, o1_47), (2411, o1_54), (2526, .chan 2 [.agg [i 3, .str b16], .agg [i 4, .str b6]]), (2583, .cells 41 [u 2, i 2, i 1, i 0, i 0, i 3])]
def sY1_1 : Sta := ⟨(.cons 2 (.raw 2) (.cons 7 pm (.cons 8 (i 1) (.cons 11 (.ptr 2583 0) (.cons 12 .inil .nil))))), lY1_1, 2584, 188⟩
theorem k_Y1_1 : ckR 115 sY1_1 .normal ((ev prog X0 4000).code 3 (at3 12) (Sta.tm mk3 115 ⟨vsE 1, LU1 1, NU1 1, CU1 1⟩) (Sta.h ⟨vsE 1, LU1 1, NU1 1, CU1 1⟩)) = true := by kernel_rfl
theorem k_Z1_1_n : ckN 115 sC1_0 [0, 1, 1633, 1630, 2583, 1991] [144] ((ev prog (X1 []) 4000).code 3 (at3 13) (Sta.tm mk3 115 sY1_1) (Sta.h sY1_1)) = true := by kernel_rfl
theorem k_Z1_1_nf (t : List Bool) : ckN 115 sC1_0 [0, 1, 1633, 1630, 2583, 1991] [144] ((ev prog (X1 (false :: t)) 4000).code 3 (at3 13) (Sta.tm mk3 115 sY1_1) (Sta.h sY1_1)) = true := by kernel_rfl
theorem k_Z1_1_nt (t : List Bool) : ckN 115 sC1_1 [0, 1, 1633, 1630, 2583, 1991] [144] ((ev prog (X1 (true :: t)) 4000).code 3 (at3 13) (Sta.tm mk3 115 sY1_1) (Sta.h sY1_1)) = true := by kernel_rfl
def lY1_2 : List (Nat × O) := [(0, .raw), (1, .kept), (1630, o1_55), (1632, .cells 141 [.sl 1637 0 1 (.un 115 0 1), i 1]), (1633, o1_56), (1637, .cells 3 [i 1]), (1638, o1_57), (1640, .cells 70 [.ptr 1638 0]), (1658, o1_36), (2003, .cells 9 [.str b0, .str b1, .str b3]), (2004, .map [(i 0, .bool true, 0), (i 3, .bool true, 1)] 2), (2056, o1_53), (2158, o1_43), (2159, o1_44), (2160, o1_45), (2161, .cells 145 [.ptr 2160 0]), (2162, .cells 384 [.sl 2161 0 1 (.ex 1)]), (2370, .cells 3 [i 2]), (2397, o1_47), (2411, o1_54), (2526, .chan 2 [.agg [i 4, .str b6]]), (2541, .cells 9 [.str b2, .str b1, .str b3, .str b16]), (2596, .cells 41 [u 2, i 2, i 1, i 0, i 0, i 3])]
def sY1_2 : Sta := ⟨(.cons 2 (.raw 2) (.cons 7 pm (.cons 8 (i 1) (.cons 11 (.ptr 2596 0) (.cons 12 .inil .nil))))), lY1_2, 2597, 190⟩
theorem k_Y1_2 : ckR 115 sY1_2 .normal ((ev prog X0 4000).code 3 (at3 12) (Sta.tm mk3 115 ⟨vsE 1, LU1 2, NU1 2, CU1 2⟩) (Sta.h ⟨vsE 1, LU1 2, NU1 2, CU1 2⟩)) = true := by kernel_rfl
theorem k_Z1_2_n : ckN 115 sC1_0 [0, 1, 1633, 1630, 2596, 2541] [189] ((ev prog (X1 []) 4000).code 3 (at3 13) (Sta.tm mk3 115 sY1_2) (Sta.h sY1_2)) = true := by kernel_rfl
theorem k_Z1_2_nf : ckN 115 sC1_0 [0, 1, 1633, 1630, 2596, 2541] [189] ((ev prog (X1 [false]) 4000).code 3 (at3 13) (Sta.tm mk3 115 sY1_2) (Sta.h sY1_2)) = true := by kernel_rfl
theorem k_Z1_2_nt : ckN 115 sC1_1 [0, 1, 1633, 1630, 2596, 2541] [189] ((ev prog (X1 [true]) 4000).code 3 (at3 13) (Sta.tm mk3 115 sY1_2) (Sta.h sY1_2)) = true := by kernel_rfl
theorem k_Z1_2_nff (t : List Bool) : ckN 115 sC1_0 [0, 1, 1633, 1630, 2596, 2541] [189] ((ev prog (X1 (false :: false :: t)) 4000).code 3 (at3 13) (Sta.tm mk3 115 sY1_2) (Sta.h sY1_2)) = true := by kernel_rfl
theorem k_Z1_2_nft (t : List Bool) : ckN 115 sC1_2 [0, 1, 1633, 1630, 2596, 2541] [189] ((ev prog (X1 (false :: true :: t)) 4000).code 3 (at3 13) (Sta.tm mk3 115 sY1_2) (Sta.h sY1_2)) = true := by kernel_rfl
theorem k_Z1_2_ntf (t : List Bool) : ckN 115 sC1_1 [0, 1, 1633, 1630, 2596, 2541] [189] ((ev prog (X1 (true :: false :: t)) 4000).code 3 (at3 13) (Sta.tm mk3 115 sY1_2) (Sta.h sY1_2)) = true := by kernel_rfl
theorem k_Z1_2_ntt (t : List Bool) : ckN 115 sC1_3 [0, 1, 1633, 1630, 2596, 2541] [189] ((ev prog (X1 (true :: true :: t)) 4000).code 3 (at3 13) (Sta.tm mk3 115 sY1_2) (Sta.h sY1_2)) = true := by kernel_rfl
def lY1_3 : List (Nat × O) := [(0, .raw), (1, .kept), (1630, o1_58), (1632, .cells 141 [.sl 1637 0 1 (.un 115 0 1), i 1]), (1633, o1_59), (1637, .cells 3 [i 1]), (1638, o1_60), (1640, .cells 70 [.ptr 1638 0]), (1658, o1_36), (2003, .cells 9 [.str b0, .str b1, .str b3]), (2004, o1_61), (2056, o1_62), (2158, o1_43), (2159, o1_44), (2160, o1_45), (2161, .cells 145 [.ptr 2160 0]), (2162, .cells 384 [.sl 2161 0 1 (.ex 1)]), (2370, .cells 3 [i 2]), (2397, o1_47), (2411, o1_54), (2526, .chan 2 []), (2554, .cells 9 [.str b2, .str b1, .str b3, .str b16, .str b6]), (2609, .cells 41 [u 2, i 2, i 1, i 0, i 0, i 3])]
def sY1_3 : Sta := ⟨(.cons 2 (.raw 2) (.cons 7 pm (.cons 8 (i 1) (.cons 11 (.ptr 2609 0) (.cons 12 .inil .nil))))), lY1_3, 2610, 192⟩
theorem k_Y1_3 : ckR 115 sY1_3 .normal ((ev prog X0 4000).code 3 (at3 12) (Sta.tm mk3 115 ⟨vsE 1, LU1 3, NU1 3, CU1 3⟩) (Sta.h ⟨vsE 1, LU1 3, NU1 3, CU1 3⟩)) = true := by kernel_rfl
theorem k_Z1_3_n : ckN 115 sC1_0 [0, 1, 1633, 1630, 2609, 2554] [191] ((ev prog (X1 []) 4000).code 3 (at3 13) (Sta.tm mk3 115 sY1_3) (Sta.h sY1_3)) = true := by kernel_rfl
theorem k_Z1_3_nf : ckN 115 sC1_0 [0, 1, 1633, 1630, 2609, 2554] [191] ((ev prog (X1 [false]) 4000).code 3 (at3 13) (Sta.tm mk3 115 sY1_3) (Sta.h sY1_3)) = true := by kernel_rfl
theorem k_Z1_3_nt : ckN 115 sC1_1 [0, 1, 1633, 1630, 2609, 2554] [191] ((ev prog (X1 [true]) 4000).code 3 (at3 13) (Sta.tm mk3 115 sY1_3) (Sta.h sY1_3)) = true := by kernel_rfl
theorem k_Z1_3_nff : ckN 115 sC1_0 [0, 1, 1633, 1630, 2609, 2554] [191] ((ev prog (X1 [false, false]) 4000).code 3 (at3 13) (Sta.tm mk3 115 sY1_3) (Sta.h sY1_3)) = true := by kernel_rfl
theorem k_Z1_3_nft : ckN 115 sC1_2 [0, 1, 1633, 1630, 2609, 2554] [191] ((ev prog (X1 [false, true]) 4000).code 3 (at3 13) (Sta.tm mk3 115 sY1_3) (Sta.h sY1_3)) = true := by kernel_rfl
theorem k_Z1_3_ntf : ckN 115 sC1_1 [0, 1, 1633, 1630, 2609, 2554] [191] ((ev prog (X1 [true, false]) 4000).code 3 (at3 13) (Sta.tm mk3 115 sY1_3) (Sta.h sY1_3)) = true := by kernel_rfl
theorem k_Z1_3_ntt : ckN 115 sC1_3 [0, 1, 1633, 1630, 2609, 2554] [191] ((ev prog (X1 [true, true]) 4000).code 3 (at3 13) (Sta.tm mk3 115 sY1_3) (Sta.h sY1_3)) = true := by kernel_rfl
theorem k_Z1_3_nfff (t : List Bool) : ckN 115 sC1_0 [0, 1, 1633, 1630, 2609, 2554] [191] ((ev prog (X1 (false :: false :: false :: t)) 4000).code 3 (at3 13) (Sta.tm mk3 115 sY1_3) (Sta.h sY1_3)) = true := by kernel_rfl
theorem k_Z1_3_nfft (t : List Bool) : ckN 115 sC1_4 [0, 1, 1633, 1630, 2609, 2554] [191] ((ev prog (X1 (false :: false :: true :: t)) 4000).code 3 (at3 13) (Sta.tm mk3 115 sY1_3) (Sta.h sY1_3)) = true := by kernel_rfl
theorem k_Z1_3_nftf (t : List Bool) : ckN 115 sC1_2 [0, 1, 1633, 1630, 2609, 2554] [191] ((ev prog (X1 (false :: true :: false :: t)) 4000).code 3 (at3 13) (Sta.tm mk3 115 sY1_3) (Sta.h sY1_3)) = true := by kernel_rfl
theorem k_Z1_3_nftt (t : List Bool) : ckN 115 sC1_5 [0, 1, 1633, 1630, 2609, 2554] [191] ((ev prog (X1 (false :: true :: true :: t)) 4000).code 3 (at3 13) (Sta.tm mk3 115 sY1_3) (Sta.h sY1_3)) = true := by kernel_rfl
theorem k_Z1_3_ntff (t : List Bool) : ckN 115 sC1_1 [0, 1, 1633, 1630, 2609, 2554] [191] ((ev prog (X1 (true :: false :: false :: t)) 4000).code 3 (at3 13) (Sta.tm mk3 115 sY1_3) (Sta.h sY1_3)) = true := by kernel_rfl
theorem k_Z1_3_ntft (t : List Bool) : ckN 115 sC1_6 [0, 1, 1633, 1630, 2609, 2554] [191] ((ev prog (X1 (true :: false :: true :: t)) 4000).code 3 (at3 13) (Sta.tm mk3 115 sY1_3) (Sta.h sY1_3)) = true := by kernel_rfl
theorem k_Z1_3_nttf (t : List Bool) : ckN 115 sC1_3 [0, 1, 1633, 1630, 2609, 2554] [191] ((ev prog (X1 (true :: true :: false :: t)) 4000).code 3 (at3 13) (Sta.tm mk3 115 sY1_3) (Sta.h sY1_3)) = true := by kernel_rfl
theorem k_Z1_3_nttt (t : List Bool) : ckN 115 sC1_7 [0, 1, 1633, 1630, 2609, 2554] [191] ((ev prog (X1 (true :: true :: true :: t)) 4000).code 3 (at3 13) (Sta.tm mk3 115 sY1_3) (Sta.h sY1_3)) = true := by kernel_rfl
def lY1_4 : List (Nat × O) := [(0, .raw), (1, .kept), (1630, o1_63), (1632, .cells 141 [.sl 1637 0 1 (.un 115 0 1), i 1]), (1633, o1_64), (1637, .cells 3 [i 1]), (1638, o1_65), (1640, .cells 70 [.ptr 1638 0]), (1658, o1_36), (2056, o1_66), (2158, o1_43), (2159, o1_44), (2160, o1_45), (2161, .cells 145 [.ptr 2160 0]), (2162, .cells 384 [.sl 2161 0 1 (.ex 1)]), (2370, .cells 3 [i 2]), (2397, o1_47), (2411, o1_54), (2526, .chan 2 []), (2554, .cells 9 [.str b2, .str b1, .str b3, .str b16, .str b6]), (2566, .cells 9 [.str b2, .str b1, .str b3, .str b16, .str b6]), (2567, .map [] 0), (2622, .cells 41 [u 2, i 2, i 1, i 0, i 0, i 3])]
def sY1_4 : Sta := ⟨(.cons 2 (.raw 2) (.cons 7 pm (.cons 8 (i 1) (.cons 11 (.ptr 2622 0) (.cons 12 .inil .nil))))), lY1_4, 2623, 194⟩
theorem k_Y1_4 : ckR 115 sY1_4 .normal ((ev prog X0 4000).code 3 (at3 12) (Sta.tm mk3 115 ⟨vsE 1, LU1 4, NU1 4, CU1 4⟩) (Sta.h ⟨vsE 1, LU1 4, NU1 4, CU1 4⟩)) = true := by kernel_rfl
theorem k_Z1_4_n (t : List Bool) : ckN 115 sC1_7 [0, 1, 1633, 1630, 2622, 2554] [191] ((ev prog (X1 t) 4000).code 3 (at3 13) (Sta.tm mk3 115 sY1_4) (Sta.h sY1_4)) = true := by kernel_rfl
def lY1_5 : List (Nat × O) := [(0, .raw), (1, .kept), (1630, o1_63), (1632, .cells 141 [.sl 1637 0 1 (.un 115 0 1), i 1]), (1633, o1_67), (1637, .cells 3 [i 1]), (1638, o1_68), (1640, .cells 70 [.ptr 1638 0]), (1658, o1_36), (2056, o1_69), (2158, o1_43), (2159, o1_44), (2160, o1_45), (2161, .cells 145 [.ptr 2160 0]), (2162, .cells 384 [.sl 2161 0 1 (.ex 1)]), (2370, .cells 3 [i 2]), (2397, o1_47), (2411, o1_54), (2526, .chan 2 []), (2554, .cells 9 [.str b2, .str b4, .str b3, .str b16, .str b6]), (2566, .cells 9 [.str b2, .str b1, .str b3, .str b16, .str b6]), (2567, .map [(i 1, .bool true, 0)] 1), (2641, .cells 41 [u 3, i 3, i 1, i 0, i 4, i 5])]
def sY1_5 : Sta := ⟨(.cons 2 (.raw 2) (.cons 7 pm (.cons 8 (i 1) (.cons 11 (.ptr 2641 0) (.cons 12 .inil .nil))))), lY1_5, 2642, 195⟩
theorem k_Y1_5 : ckR 115 sY1_5 .normal ((ev prog X0 4000).code 3 (at3 12) (Sta.tm mk3 115 ⟨vsE 1, LU1 5, NU1 5, CU1 5⟩) (Sta.h ⟨vsE 1, LU1 5, NU1 5, CU1 5⟩)) = true := by kernel_rfl
theorem k_Z1_5_n : ckN 115 sC1_8 [0, 1, 1633, 1630, 2641, 2554] [191] ((ev prog (X1 []) 4000).code 3 (at3 13) (Sta.tm mk3 115 sY1_5) (Sta.h sY1_5)) = true := by kernel_rfl
theorem k_Z1_5_nf (t : List Bool) : ckN 115 sC1_8 [0, 1, 1633, 1630, 2641, 2554] [191] ((ev prog (X1 (false :: t)) 4000).code 3 (at3 13) (Sta.tm mk3 115 sY1_5) (Sta.h sY1_5)) = true := by kernel_rfl
theorem k_Z1_5_nt (t : List Bool) : ckN 115 sC1_9 [0, 1, 1633, 1630, 2641, 2554] [191] ((ev prog (X1 (true :: t)) 4000).code 3 (at3 13) (Sta.tm mk3 115 sY1_5) (Sta.h sY1_5)) = true := by kernel_rfl
def lY1_6 : List (Nat × O) := [(0, .raw), (1, .kept), (1630, o1_63), (1632, .cells 141 [.sl 1637 0 1 (.un 115 0 1), i 1]), (1633, o13), (1637, .cells 3 [i 1]), (1638, o1_70), (1640, .cells 70 [.ptr 1638 0]), (1658, o0), (2411, o1_71), (2554, .cells 9 [.str b2, .str b4, .str b3, .str b16, .str b6]), (2566, .cells 9 [.str b2, .str b1, .str b3, .str b16, .str b6]), (2567, .map [(i 1, .bool true, 0)] 1), (2652, .cells 41 [u 3, i 3, i 1, i 0, i 4, i 5])]
def sY1_6 : Sta := ⟨(.cons 2 (.raw 2) (.cons 7 pm (.cons 8 (i 1) (.cons 11 (.ptr 2652 0) (.cons 12 .inil .nil))))), lY1_6, 2653, 196⟩
theorem k_Y1_6 : ckR 115 sY1_6 .normal ((ev prog X0 4000).code 3 (at3 12) (Sta.tm mk3 115 ⟨vsE 1, LU1 6, NU1 6, CU1 6⟩) (Sta.h ⟨vsE 1, LU1 6, NU1 6, CU1 6⟩)) = true := by kernel_rfl
theorem k_Z1_6_n : ckN 115 sC1_8 [0, 1, 1633, 1630, 2652, 2554] [191] ((ev prog (X1 []) 4000).code 3 (at3 13) (Sta.tm mk3 115 sY1_6) (Sta.h sY1_6)) = true := by kernel_rfl
theorem k_Z1_6_nf (t : List Bool) : ckN 115 sC1_8 [0, 1, 1633, 1630, 2652, 2554] [191] ((ev prog (X1 (false :: t)) 4000).code 3 (at3 13) (Sta.tm mk3 115 sY1_6) (Sta.h sY1_6)) = true := by kernel_rfl
theorem k_Z1_6_nt (t : List Bool) : ckN 115 sC1_9 [0, 1, 1633, 1630, 2652, 2554] [191] ((ev prog (X1 (true :: t)) 4000).code 3 (at3 13) (Sta.tm mk3 115 sY1_6) (Sta.h sY1_6)) = true := by kernel_rfl
def lY1_7 : List (Nat × O) := [(0, .raw), (1, .kept), (1630, o1_63), (1632, .cells 141 [.sl 1637 0 1 (.un 115 0 1), i 1]), (1633, o1_72), (1637, .cells 3 [i 1]), (1638, o1_70), (1640, .cells 70 [.ptr 1638 0]), (1658, o0), (2411, o1_71), (2554, .cells 9 [.str b2, .str b4, .str b3, .str b16, .str b6]), (2566, .cells 9 [.str b2, .str b1, .str b3, .str b16, .str b6]), (2567, .map [(i 1, .bool true, 0)] 1), (2657, .cells 41 [u 3, i 3, i 1, i 0, i 4, i 5])]
def sY1_7 : Sta := ⟨(.cons 2 (.raw 2) (.cons 7 pm (.cons 8 (i 1) (.cons 11 (.ptr 2657 0) (.cons 12 .inil .nil))))), lY1_7, 2658, 197⟩
theorem k_Y1_7 : ckR 115 sY1_7 .normal ((ev prog X0 4000).code 3 (at3 12) (Sta.tm mk3 115 ⟨vsE 1, LU1 7, NU1 7, CU1 7⟩) (Sta.h ⟨vsE 1, LU1 7, NU1 7, CU1 7⟩)) = true := by kernel_rfl
theorem k_Z1_7_n : ckN 115 sC1_8 [0, 1, 1633, 1630, 2657, 2554] [191] ((ev prog (X1 []) 4000).code 3 (at3 13) (Sta.tm mk3 115 sY1_7) (Sta.h sY1_7)) = true := by kernel_rfl
theorem k_Z1_7_nf (t : List Bool) : ckN 115 sC1_8 [0, 1, 1633, 1630, 2657, 2554] [191] ((ev prog (X1 (false :: t)) 4000).code 3 (at3 13) (Sta.tm mk3 115 sY1_7) (Sta.h sY1_7)) = true := by kernel_rfl
theorem k_Z1_7_nt (t : List Bool) : ckN 115 sC1_9 [0, 1, 1633, 1630, 2657, 2554] [191] ((ev prog (X1 (true :: t)) 4000).code 3 (at3 13) (Sta.tm mk3 115 sY1_7) (Sta.h sY1_7)) = true := by kernel_rfl
def lY1_8 : List (Nat × O) := [(0, .raw), (1, .kept), (1630, o1_63), (1632, .cells 141 [.sl 1637 0 1 (.un 115 0 1), i 1]), (1633, o1_73), (1637, .cells 3 [i 1]), (1638, o1_70), (1640, .cells 70 [.ptr 1638 0]), (1658, o0), (2411, o1_71), (2554, .cells 9 [.str b2, .str b4, .str b3, .str b16, .str b6]), (2566, .cells 9 [.str b2, .str b1, .str b3, .str b16, .str b6]), (2567, .map [(i 1, .bool true, 0)] 1), (2662, .cells 41 [u 3, i 3, i 1, i 0, i 4, i 5])]
def sY1_8 : Sta := ⟨(.cons 2 (.raw 2) (.cons 7 pm (.cons 8 (i 1) (.cons 11 (.ptr 2662 0) (.cons 12 .inil .nil))))), lY1_8, 2663, 198⟩
theorem k_Y1_8 : ckR 115 sY1_8 .normal ((ev prog X0 4000).code 3 (at3 12) (Sta.tm mk3 115 ⟨vsE 1, LU1 8, NU1 8, CU1 8⟩) (Sta.h ⟨vsE 1, LU1 8, NU1 8, CU1 8⟩)) = true := by kernel_rfl
theorem k_Z1_8_n : ckN 115 sC1_8 [0, 1, 1633, 1630, 2662, 2554] [191] ((ev prog (X1 []) 4000).code 3 (at3 13) (Sta.tm mk3 115 sY1_8) (Sta.h sY1_8)) = true := by kernel_rfl
theorem k_Z1_8_nf (t : List Bool) : ckN 115 sC1_8 [0, 1, 1633, 1630, 2662, 2554] [191] ((ev prog (X1 (false :: t)) 4000).code 3 (at3 13) (Sta.tm mk3 115 sY1_8) (Sta.h sY1_8)) = true := by kernel_rfl
theorem k_Z1_8_nt (t : List Bool) : ckN 115 sC1_9 [0, 1, 1633, 1630, 2662, 2554] [191] ((ev prog (X1 (true :: t)) 4000).code 3 (at3 13) (Sta.tm mk3 115 sY1_8) (Sta.h sY1_8)) = true := by kernel_rfl
def lY1_9 : List (Nat × O) := [(0, .raw), (1, .kept), (1630, o1_63), (1632, .cells 141 [.sl 1637 0 1 (.un 115 0 1), i 1]), (1633, o1_74), (1637, .cells 3 [i 1]), (1638, o1_70), (1640, .cells 70 [.ptr 1638 0]), (1658, o0), (2411, o1_71), (2554, .cells 9 [.str b2, .str b4, .str b3, .str b16, .str b6]), (2566, .cells 9 [.str b2, .str b1, .str b3, .str b16, .str b6]), (2567, .map [(i 1, .bool true, 0)] 1), (2667, .cells 41 [u 3, i 3, i 1, i 0, i 4, i 5])]
def sY1_9 : Sta := ⟨(.cons 2 (.raw 2) (.cons 7 pm (.cons 8 (i 1) (.cons 11 (.ptr 2667 0) (.cons 12 .inil .nil))))), lY1_9, 2668, 199⟩
theorem k_Y1_9 : ckR 115 sY1_9 .normal ((ev prog X0 4000).code 3 (at3 12) (Sta.tm mk3 115 ⟨vsE 1, LU1 9, NU1 9, CU1 9⟩) (Sta.h ⟨vsE 1, LU1 9, NU1 9, CU1 9⟩)) = true := by kernel_rfl
theorem k_Z1_9_n : ckN 115 sC1_8 [0, 1, 1633, 1630, 2667, 2554] [191] ((ev prog (X1 []) 4000).code 3 (at3 13) (Sta.tm mk3 115 sY1_9) (Sta.h sY1_9)) = true := by kernel_rfl
theorem k_Z1_9_nf (t : List Bool) : ckN 115 sC1_8 [0, 1, 1633, 1630, 2667, 2554] [191] ((ev prog (X1 (false :: t)) 4000).code 3 (at3 13) (Sta.tm mk3 115 sY1_9) (Sta.h sY1_9)) = true := by kernel_rfl
theorem k_Z1_9_nt (t : List Bool) : ckN 115 sC1_9 [0, 1, 1633, 1630, 2667, 2554] [191] ((ev prog (X1 (true :: t)) 4000).code 3 (at3 13) (Sta.tm mk3 115 sY1_9) (Sta.h sY1_9)) = true := by kernel_rfl
def lY1_10 : List (Nat × O) := [(0, .raw), (1, .kept), (1630, o1_63), (1632, .cells 141 [.sl 1637 0 1 (.un 115 0 1), i 1]), (1633, o1_75), (1637, .cells 3 [i 1]), (1638, o1_70), (1640, .cells 70 [.ptr 1638 0]), (1658, o0), (2411, o1_71), (2554, .cells 9 [.str b2, .str b4, .str b3, .str b16, .str b6]), (2566, .cells 9 [.str b2, .str b1, .str b3, .str b16, .str b6]), (2567, .map [(i 1, .bool true, 0)] 1), (2672, .cells 41 [u 3, i 3, i 1, i 0, i 4, i 5])]
def sY1_10 : Sta := ⟨(.cons 2 (.raw 2) (.cons 7 pm (.cons 8 (i 1) (.cons 11 (.ptr 2672 0) (.cons 12 .inil .nil))))), lY1_10, 2673, 200⟩
theorem k_Y1_10 : ckR 115 sY1_10 .normal ((ev prog X0 4000).code 3 (at3 12) (Sta.tm mk3 115 ⟨vsE 1, LU1 10, NU1 10, CU1 10⟩) (Sta.h ⟨vsE 1, LU1 10, NU1 10, CU1 10⟩)) = true := by kernel_rfl
theorem k_Z1_10_n : ckN 115 sC1_8 [0, 1, 1633, 1630, 2672, 2554] [191] ((ev prog (X1 []) 4000).code 3 (at3 13) (Sta.tm mk3 115 sY1_10) (Sta.h sY1_10)) = true := by kernel_rfl
theorem k_Z1_10_nf (t : List Bool) : ckN 115 sC1_8 [0, 1, 1633, 1630, 2672, 2554] [191] ((ev prog (X1 (false :: t)) 4000).code 3 (at3 13) (Sta.tm mk3 115 sY1_10) (Sta.h sY1_10)) = true := by kernel_rfl
theorem k_Z1_10_nt (t : List Bool) : ckN 115 sC1_9 [0, 1, 1633, 1630, 2672, 2554] [191] ((ev prog (X1 (true :: t)) 4000).code 3 (at3 13) (Sta.tm mk3 115 sY1_10) (Sta.h sY1_10)) = true := by kernel_rfl
def lY1_11 : List (Nat × O) := [(0, .raw), (1, .kept), (1630, o1_63), (1632, .cells 141 [.sl 1637 0 1 (.un 115 0 1), i 1]), (1633, o1_76), (1637, .cells 3 [i 1]), (1638, o1_70), (1640, .cells 70 [.ptr 1638 0]), (1658, o0), (2411, o1_71), (2554, .cells 9 [.str b2, .str b4, .str b3, .str b16, .str b6]), (2566, .cells 9 [.str b2, .str b1, .str b3, .str b16, .str b6]), (2567, .map [(i 1, .bool true, 0)] 1), (2677, .cells 41 [u 3, i 3, i 1, i 0, i 4, i 5])]
def sY1_11 : Sta := ⟨(.cons 2 (.raw 2) (.cons 7 pm (.cons 8 (i 1) (.cons 11 (.ptr 2677 0) (.cons 12 .inil .nil))))), lY1_11, 2678, 201⟩
theorem k_Y1_11 : ckR 115 sY1_11 .normal ((ev prog X0 4000).code 3 (at3 12) (Sta.tm mk3 115 ⟨vsE 1, LU1 11, NU1 11, CU1 11⟩) (Sta.h ⟨vsE 1, LU1 11, NU1 11, CU1 11⟩)) = true := by kernel_rfl
theorem k_Z1_11_n : ckN 115 sC1_8 [0, 1, 1633, 1630, 2677, 2554] [191] ((ev prog (X1 []) 4000).code 3 (at3 13) (Sta.tm mk3 115 sY1_11) (Sta.h sY1_11)) = true := by kernel_rfl
theorem k_Z1_11_nf (t : List Bool) : ckN 115 sC1_8 [0, 1, 1633, 1630, 2677, 2554] [191] ((ev prog (X1 (false :: t)) 4000).code 3 (at3 13) (Sta.tm mk3 115 sY1_11) (Sta.h sY1_11)) = true := by kernel_rfl
theorem k_Z1_11_nt (t : List Bool) : ckN 115 sC1_9 [0, 1, 1633, 1630, 2677, 2554] [191] ((ev prog (X1 (true :: t)) 4000).code 3 (at3 13) (Sta.tm mk3 115 sY1_11) (Sta.h sY1_11)) = true := by kernel_rfl
end Go.Ev
