/- The last commit behind 2 others, step by step, the loss of power, what counts then. Conditions: none. -/
import Derived.Test.YtkdihjhndebloaaGreatDoorEvStart
set_option linter.unusedSectionVars false
set_option linter.unusedVariables false
set_option linter.unusedSimpArgs false
namespace Go.Ev
open Go Go.Proofs.Tryz
def o2_34 : O := .cells 67 [.bool false, .ptr 1630 0, .ptr 1658 0, .ptr 1632 0, .sl 1640 0 1 (.un 116 0 1), i 36]
def o2_35 : O := .cells 149 [i 1, .bool false, .sl 2611 0 8 (.un 198 0 14), .bool false, i 4, .bool true, i 300, .pnil, .pnil, .ptr 2622 0, .ptr 2775 0]
def o2_36 : O := .cells 139 [i 1, i 0, u 0, i 0, u 0, i 0, u 0, i 0, u 0, i 0, u 0, i 0, u 0, i 0, u 0, i 0, u 0]
def o2_37 : O := .cells 77 [i 1, i 1, i 1, .str [], .str [], .str [], i 0, i 300, i 2, i 4, i 0, .str [], .str [], u 0, i 1, i 2, i 4, .str [], .str [], .str [], i 0, i 0, i 5, i 9, i 0, .str [], .str [], u 1, i 1, i 3, i 9, .str [], .str [107], .str [118, 48], i 0, i 0, i 10, i 11, i 0, .str [], .str [], u 0, i 1, i 4, i 6, .str [], .str [], .str [], i 0, i 0, i 12, i 17, i 0, .str [], .str [], u 2, i 1, i 5, i 4, .str [], .str [], .str [], i 0, i 0, i 18, i 22, i 0, .str [], .str [], u 2, i 1, i 6, i 9, .str [], .str [107], .str [118, 49], i 0, i 0, i 23, i 24, i 0, .str [], .str [], u 0, i 1, i 7, i 6, .str [], .str [], .str [], i 0, i 0, i 25, i 31, i 0, .str [], .str [], u 3, i 1, i 8, i 4, .str [], .str [], .str [], i 0, i 0, i 32, i 36, i 0, .str [], .str [], u 3]
def o2_38 : O := .cells 432 [i 1, i 300, i 0, u 3, i 3, i 1, i 0, i 4, i 5, u 3, .ptr 2773 0, .sl 2757 0 1 (.un 206 0 1), .cnil, u 0, i 0, i 0, i 0, i 0, i 0, .bool false, .inil]
def o2_39 : O := .cells 287 [.ptr 1630 0, .map 2771, .snil, .snil, i 5, i 300]
def o2_40 : O := .cells 341 [u 3, i 3, i 1, i 0, i 4, i 5, .sl 2770 0 1 (.un 210 0 2), .ptr 2772 0, i 3, i 1, i 0, .bool true, .str [], .str [], .str [], .bool false]
def lW2 : List (Nat × O) := [(0, .raw), (1, .kept), (1630, o12), (1632, .cells 141 [.sl 1637 0 1 (.un 115 0 1), i 1]), (1633, o2_34), (1637, .cells 3 [i 1]), (1638, o2_35), (1640, .cells 70 [.ptr 1638 0]), (1658, o2_36), (2557, .cells 9 [.str b2, .str b4, .str b3, .str b5, .str b6]), (2569, .cells 9 [.str b2, .str b1, .str b3, .str b5, .str b6]), (2570, .map [(i 1, .bool true, 0)] 1), (2611, o2_37), (2622, o2_38), (2757, .cells 3 [i 4]), (2767, .cells 3 [i 2]), (2770, .cells 96 [u 3, .sl 2767 0 1 (.un 209 0 1)]), (2771, .map [] 0), (2772, o2_39), (2773, o2_40), (2774, .cells 145 [.ptr 2773 0]), (2775, .cells 384 [.sl 2774 0 1 (.ex 1)])]
def o2_41 : O := .cells 67 [.bool false, .ptr 1630 0, .ptr 1658 0, .ptr 1632 0, .sl 1640 0 1 (.un 116 0 1), i 38]
def o2_42 : O := .cells 149 [i 1, .bool false, .sl 2788 0 9 (.un 213 0 14), .bool false, i 1, .bool true, i 300, .pnil, .pnil, .ptr 2622 0, .ptr 2775 0]
def o2_43 : O := .map [(i 5, .agg [i 1, .sl 3010 0 1 (.un 221 0 10), .snil, .snil, .str [], .snil, .snil, i 0, u 0, i 0, i 0, i 0, i 0, i 0], 0)] 1
def o2_44 : O := .cells 287 [.ptr 1630 0, .map 2771, .sl 2983 0 1 (.un 219 0 1), .snil, i 6, i 300]
def o2_45 : O := .cells 341 [u 3, i 3, i 1, i 0, i 4, i 5, .sl 2770 0 1 (.un 210 0 2), .ptr 2772 0, i 5, i 1, i 0, .bool true, .str [], .str [], .str [], .bool false]
def o2_46 : O := .cells 77 [i 1, i 1, i 1, .str [], .str [], .str [], i 0, i 300, i 2, i 4, i 0, .str [], .str [], u 0, i 1, i 2, i 4, .str [], .str [], .str [], i 0, i 0, i 5, i 9, i 0, .str [], .str [], u 1, i 1, i 3, i 9, .str [], .str [107], .str [118, 48], i 0, i 0, i 10, i 11, i 0, .str [], .str [], u 0, i 1, i 4, i 6, .str [], .str [], .str [], i 0, i 0, i 12, i 17, i 0, .str [], .str [], u 2, i 1, i 5, i 4, .str [], .str [], .str [], i 0, i 0, i 18, i 22, i 0, .str [], .str [], u 2, i 1, i 6, i 9, .str [], .str [107], .str [118, 49], i 0, i 0, i 23, i 24, i 0, .str [], .str [], u 0, i 1, i 7, i 6, .str [], .str [], .str [], i 0, i 0, i 25, i 31, i 0, .str [], .str [], u 3, i 1, i 8, i 4, .str [], .str [], .str [], i 0, i 0, i 32, i 36, i 0, .str [], .str [], u 3, i 1, i 9, i 9, .str [], .str [107], .str [108, 97, 115, 116], i 0, i 0, i 37, i 38, i 0, .str [], .str [], u 0]
def o2_47 : O := .cells 173 [.str [107], i 1, .str [108, 97, 115, 116], i 0, i 0, .snil, i 0, i 0, i 0, i 0]
def lQ2 : List (Nat × O) := [(0, .raw), (1, .kept), (1630, o12), (1632, .cells 141 [.sl 1637 0 1 (.un 115 0 1), i 1]), (1633, o2_41), (1637, .cells 3 [i 1]), (1638, o2_42), (1640, .cells 70 [.ptr 1638 0]), (1658, o2_36), (2557, .cells 9 [.str b2, .str b4, .str b3, .str b5, .str b6]), (2569, .cells 9 [.str b2, .str b1, .str b3, .str b5, .str b6]), (2570, .map [(i 1, .bool true, 0)] 1), (2622, o2_38), (2757, .cells 3 [i 4]), (2767, .cells 3 [i 2]), (2770, .cells 96 [u 3, .sl 2767 0 1 (.un 209 0 1)]), (2771, o2_43), (2772, o2_44), (2773, o2_45), (2774, .cells 145 [.ptr 2773 0]), (2775, .cells 384 [.sl 2774 0 1 (.ex 1)]), (2788, o2_46), (2983, .cells 3 [i 3]), (3010, o2_47)]
def o2_48 : O := .cells 67 [.bool false, .ptr 1630 0, .ptr 1658 0, .ptr 1632 0, .sl 1640 0 1 (.un 116 0 1), i 39]
def o2_49 : O := .cells 149 [i 1, .bool false, .sl 3024 0 10 (.un 224 0 14), .bool true, i 0, .bool true, i 300, .pnil, .pnil, .ptr 2622 0, .ptr 2775 0]
def o2_50 : O := .cells 77 [i 1, i 1, i 1, .str [], .str [], .str [], i 0, i 300, i 2, i 4, i 0, .str [], .str [], u 0, i 1, i 2, i 4, .str [], .str [], .str [], i 0, i 0, i 5, i 9, i 0, .str [], .str [], u 1, i 1, i 3, i 9, .str [], .str [107], .str [118, 48], i 0, i 0, i 10, i 11, i 0, .str [], .str [], u 0, i 1, i 4, i 6, .str [], .str [], .str [], i 0, i 0, i 12, i 17, i 0, .str [], .str [], u 2, i 1, i 5, i 4, .str [], .str [], .str [], i 0, i 0, i 18, i 22, i 0, .str [], .str [], u 2, i 1, i 6, i 9, .str [], .str [107], .str [118, 49], i 0, i 0, i 23, i 24, i 0, .str [], .str [], u 0, i 1, i 7, i 6, .str [], .str [], .str [], i 0, i 0, i 25, i 31, i 0, .str [], .str [], u 3, i 1, i 8, i 4, .str [], .str [], .str [], i 0, i 0, i 32, i 36, i 0, .str [], .str [], u 3, i 1, i 9, i 9, .str [], .str [107], .str [108, 97, 115, 116], i 0, i 0, i 37, i 38, i 0, .str [], .str [], u 0, i 1, i 10, i 6, .str [], .str [], .str [], i 0, i 0, i 39, i 0, i 0, .str [], .str [], u 0]
def lP2 : List (Nat × O) := [(0, .raw), (1, .kept), (1630, o12), (1632, .cells 141 [.sl 1637 0 1 (.un 115 0 1), i 1]), (1633, o2_48), (1637, .cells 3 [i 1]), (1638, o2_49), (1640, .cells 70 [.ptr 1638 0]), (1658, o2_36), (2557, .cells 9 [.str b2, .str b4, .str b3, .str b5, .str b6]), (2569, .cells 9 [.str b2, .str b1, .str b3, .str b5, .str b6]), (2570, .map [(i 1, .bool true, 0)] 1), (2622, o2_38), (2757, .cells 3 [i 4]), (2767, .cells 3 [i 2]), (2770, .cells 96 [u 3, .sl 2767 0 1 (.un 209 0 1)]), (2771, o2_43), (2772, o2_44), (2773, o2_45), (2774, .cells 145 [.ptr 2773 0]), (2775, .cells 384 [.sl 2774 0 1 (.ex 1)]), (2983, .cells 3 [i 3]), (3010, o2_47), (3024, o2_50)]
def o2_51 : O := .cells 67 [.bool false, .ptr 1630 0, .ptr 1658 0, .ptr 1632 0, .sl 1640 0 1 (.un 116 0 1), i 40]
def o2_52 : O := .cells 149 [i 1, .bool false, .sl 3024 0 10 (.un 224 0 14), .bool true, i 1, .bool true, i 300, .pnil, .pnil, .ptr 2622 0, .ptr 2775 0]
def o2_53 : O := .cells 432 [i 1, i 300, i 7, u 3, i 3, i 1, i 0, i 4, i 5, u 3, .ptr 2773 0, .sl 2757 0 1 (.un 206 0 1), .chan 3168, u 4, i 5, i 1, i 0, i 6, i 7, .bool true, .inil]
def o2_54 : O := .cells 77 [i 1, i 1, i 1, .str [], .str [], .str [], i 0, i 300, i 2, i 4, i 0, .str [], .str [], u 0, i 1, i 2, i 4, .str [], .str [], .str [], i 0, i 0, i 5, i 9, i 0, .str [], .str [], u 1, i 1, i 3, i 9, .str [], .str [107], .str [118, 48], i 0, i 0, i 10, i 11, i 0, .str [], .str [], u 0, i 1, i 4, i 6, .str [], .str [], .str [], i 0, i 0, i 12, i 17, i 0, .str [], .str [], u 2, i 1, i 5, i 4, .str [], .str [], .str [], i 0, i 0, i 18, i 22, i 0, .str [], .str [], u 2, i 1, i 6, i 9, .str [], .str [107], .str [118, 49], i 0, i 0, i 23, i 24, i 0, .str [], .str [], u 0, i 1, i 7, i 6, .str [], .str [], .str [], i 0, i 0, i 25, i 31, i 0, .str [], .str [], u 3, i 1, i 8, i 4, .str [], .str [], .str [], i 0, i 0, i 32, i 36, i 0, .str [], .str [], u 3, i 1, i 9, i 9, .str [], .str [107], .str [108, 97, 115, 116], i 0, i 0, i 37, i 38, i 0, .str [], .str [], u 0, i 1, i 10, i 6, .str [], .str [], .str [], i 0, i 0, i 39, i 0, i 0, .str [], .str [], u 4]
def lU2_1 : List (Nat × O) := [(0, .raw), (1, .kept), (1630, o12), (1632, .cells 141 [.sl 1637 0 1 (.un 115 0 1), i 1]), (1633, o2_51), (1637, .cells 3 [i 1]), (1638, o2_52), (1640, .cells 70 [.ptr 1638 0]), (1658, o2_36), (2557, .cells 9 [.str b2, .str b4, .str b3, .str b5, .str b6]), (2569, .cells 9 [.str b2, .str b1, .str b3, .str b5, .str b6]), (2570, .map [(i 1, .bool true, 0)] 1), (2622, o2_53), (2757, .cells 3 [i 4]), (2767, .cells 3 [i 2]), (2770, .cells 96 [u 3, .sl 2767 0 1 (.un 209 0 1)]), (2771, o2_43), (2772, o2_44), (2773, o2_45), (2774, .cells 145 [.ptr 2773 0]), (2775, .cells 384 [.sl 2774 0 1 (.ex 1)]), (2983, .cells 3 [i 3]), (3010, o2_47), (3024, o2_54), (3168, .chan 2 [.agg [i 5, .str b16], .agg [i 6, .str b9]])]
def o2_55 : O := .cells 134 [.sl 3183 0 6 (.un 256 0 1), .sl 2569 0 5 (.un 193 0 1), .map 2570]
def o2_56 : O := .cells 67 [.bool false, .ptr 1630 0, .ptr 1658 0, .ptr 1632 0, .sl 1640 0 1 (.un 116 0 1), i 41]
def o2_57 : O := .cells 149 [i 1, .bool false, .sl 3024 0 10 (.un 224 0 14), .bool true, i 2, .bool true, i 300, .pnil, .pnil, .ptr 2622 0, .ptr 2775 0]
def o2_58 : O := .cells 9 [.str b2, .str b4, .str b3, .str b5, .str b6, .str b16]
def lU2_2 : List (Nat × O) := [(0, .raw), (1, .kept), (1630, o2_55), (1632, .cells 141 [.sl 1637 0 1 (.un 115 0 1), i 1]), (1633, o2_56), (1637, .cells 3 [i 1]), (1638, o2_57), (1640, .cells 70 [.ptr 1638 0]), (1658, o2_36), (2569, .cells 9 [.str b2, .str b1, .str b3, .str b5, .str b6]), (2570, .map [(i 1, .bool true, 0), (i 5, .bool true, 1)] 2), (2622, o2_53), (2757, .cells 3 [i 4]), (2767, .cells 3 [i 2]), (2770, .cells 96 [u 3, .sl 2767 0 1 (.un 209 0 1)]), (2771, o2_43), (2772, o2_44), (2773, o2_45), (2774, .cells 145 [.ptr 2773 0]), (2775, .cells 384 [.sl 2774 0 1 (.ex 1)]), (2983, .cells 3 [i 3]), (3010, o2_47), (3024, o2_54), (3168, .chan 2 [.agg [i 6, .str b9]]), (3183, o2_58)]
def o2_59 : O := .cells 134 [.sl 3196 0 7 (.un 258 0 1), .sl 2569 0 5 (.un 193 0 1), .map 2570]
def o2_60 : O := .cells 67 [.bool false, .ptr 1630 0, .ptr 1658 0, .ptr 1632 0, .sl 1640 0 1 (.un 116 0 1), i 42]
def o2_61 : O := .cells 149 [i 1, .bool false, .sl 3024 0 10 (.un 224 0 14), .bool true, i 3, .bool true, i 300, .pnil, .pnil, .ptr 2622 0, .ptr 2775 0]
def o2_62 : O := .map [(i 1, .bool true, 0), (i 5, .bool true, 1), (i 6, .bool true, 2)] 3
def o2_63 : O := .cells 432 [i 1, i 300, i 8, u 3, i 3, i 1, i 0, i 4, i 5, u 3, .ptr 2773 0, .sl 2757 0 1 (.un 206 0 1), .chan 3168, u 4, i 5, i 1, i 0, i 6, i 7, .bool true, .inil]
def o2_64 : O := .cells 9 [.str b2, .str b4, .str b3, .str b5, .str b6, .str b16, .str b9]
def lU2_3 : List (Nat × O) := [(0, .raw), (1, .kept), (1630, o2_59), (1632, .cells 141 [.sl 1637 0 1 (.un 115 0 1), i 1]), (1633, o2_60), (1637, .cells 3 [i 1]), (1638, o2_61), (1640, .cells 70 [.ptr 1638 0]), (1658, o2_36), (2569, .cells 9 [.str b2, .str b1, .str b3, .str b5, .str b6]), (2570, o2_62), (2622, o2_63), (2757, .cells 3 [i 4]), (2767, .cells 3 [i 2]), (2770, .cells 96 [u 3, .sl 2767 0 1 (.un 209 0 1)]), (2771, o2_43), (2772, o2_44), (2773, o2_45), (2774, .cells 145 [.ptr 2773 0]), (2775, .cells 384 [.sl 2774 0 1 (.ex 1)]), (2983, .cells 3 [i 3]), (3010, o2_47), (3024, o2_54), (3168, .chan 2 []), (3196, o2_64)]
def o2_65 : O := .cells 134 [.sl 3196 0 7 (.un 258 0 1), .sl 3208 0 7 (.un 260 0 1), .map 3209]
def o2_66 : O := .cells 67 [.bool false, .ptr 1630 0, .ptr 1658 0, .ptr 1632 0, .sl 1640 0 1 (.un 116 0 1), i 43]
def o2_67 : O := .cells 149 [i 1, .bool false, .sl 3024 0 10 (.un 224 0 14), .bool true, i 4, .bool true, i 300, .pnil, .pnil, .ptr 2622 0, .ptr 2775 0]
def o2_68 : O := .cells 432 [i 1, i 300, i 9, u 3, i 3, i 1, i 0, i 4, i 5, u 3, .ptr 2773 0, .sl 2757 0 1 (.un 206 0 1), .chan 3168, u 4, i 5, i 1, i 0, i 6, i 7, .bool true, .inil]
def lU2_4 : List (Nat × O) := [(0, .raw), (1, .kept), (1630, o2_65), (1632, .cells 141 [.sl 1637 0 1 (.un 115 0 1), i 1]), (1633, o2_66), (1637, .cells 3 [i 1]), (1638, o2_67), (1640, .cells 70 [.ptr 1638 0]), (1658, o2_36), (2622, o2_68), (2757, .cells 3 [i 4]), (2767, .cells 3 [i 2]), (2770, .cells 96 [u 3, .sl 2767 0 1 (.un 209 0 1)]), (2771, o2_43), (2772, o2_44), (2773, o2_45), (2774, .cells 145 [.ptr 2773 0]), (2775, .cells 384 [.sl 2774 0 1 (.ex 1)]), (2983, .cells 3 [i 3]), (3010, o2_47), (3024, o2_54), (3168, .chan 2 []), (3196, o2_64), (3208, o2_64), (3209, .map [] 0)]
def o2_69 : O := .cells 67 [.bool false, .ptr 1630 0, .ptr 1658 0, .ptr 1632 0, .sl 1640 0 1 (.un 116 0 1), i 44]
def o2_70 : O := .cells 149 [i 1, .bool false, .sl 3024 0 10 (.un 224 0 14), .bool true, i 5, .bool true, i 300, .pnil, .pnil, .ptr 2622 0, .ptr 2775 0]
def o2_71 : O := .cells 432 [i 1, i 300, i 10, u 3, i 3, i 1, i 0, i 4, i 5, u 3, .ptr 2773 0, .sl 2757 0 1 (.un 206 0 1), .chan 3168, u 4, i 5, i 1, i 0, i 6, i 7, .bool true, .inil]
def o2_72 : O := .cells 9 [.str b7, .str b4, .str b3, .str b5, .str b6, .str b16, .str b9]
def lU2_5 : List (Nat × O) := [(0, .raw), (1, .kept), (1630, o2_65), (1632, .cells 141 [.sl 1637 0 1 (.un 115 0 1), i 1]), (1633, o2_69), (1637, .cells 3 [i 1]), (1638, o2_70), (1640, .cells 70 [.ptr 1638 0]), (1658, o2_36), (2622, o2_71), (2757, .cells 3 [i 4]), (2767, .cells 3 [i 2]), (2770, .cells 96 [u 3, .sl 2767 0 1 (.un 209 0 1)]), (2771, o2_43), (2772, o2_44), (2773, o2_45), (2774, .cells 145 [.ptr 2773 0]), (2775, .cells 384 [.sl 2774 0 1 (.ex 1)]), (2983, .cells 3 [i 3]), (3010, o2_47), (3024, o2_54), (3168, .chan 2 []), (3196, o2_72), (3208, o2_64), (3209, .map [(i 0, .bool true, 0)] 1)]
def o2_73 : O := .cells 149 [i 1, .bool false, .sl 3024 0 10 (.un 224 0 14), .bool false, i 6, .bool true, i 300, .pnil, .pnil, .pnil, .pnil]
def o2_74 : O := .cells 77 [i 1, i 1, i 1, .str [], .str [], .str [], i 0, i 300, i 2, i 4, i 0, .str [], .str [], u 0, i 1, i 2, i 4, .str [], .str [], .str [], i 0, i 0, i 5, i 9, i 0, .str [], .str [], u 1, i 1, i 3, i 9, .str [], .str [107], .str [118, 48], i 0, i 0, i 10, i 11, i 0, .str [], .str [], u 0, i 1, i 4, i 6, .str [], .str [], .str [], i 0, i 0, i 12, i 17, i 0, .str [], .str [], u 2, i 1, i 5, i 4, .str [], .str [], .str [], i 0, i 0, i 18, i 22, i 0, .str [], .str [], u 2, i 1, i 6, i 9, .str [], .str [107], .str [118, 49], i 0, i 0, i 23, i 24, i 0, .str [], .str [], u 0, i 1, i 7, i 6, .str [], .str [], .str [], i 0, i 0, i 25, i 31, i 0, .str [], .str [], u 3, i 1, i 8, i 4, .str [], .str [], .str [], i 0, i 0, i 32, i 36, i 0, .str [], .str [], u 3, i 1, i 9, i 9, .str [], .str [107], .str [108, 97, 115, 116], i 0, i 0, i 37, i 38, i 0, .str [], .str [], u 0, i 1, i 10, i 6, .str [], .str [], .str [], i 0, i 0, i 39, i 45, i 0, .str [], .str [], u 4]
def lU2_6 : List (Nat × O) := [(0, .raw), (1, .kept), (1630, o2_65), (1632, .cells 141 [.sl 1637 0 1 (.un 115 0 1), i 1]), (1633, o17), (1637, .cells 3 [i 1]), (1638, o2_73), (1640, .cells 70 [.ptr 1638 0]), (1658, o0), (3024, o2_74), (3196, o2_72), (3208, o2_64), (3209, .map [(i 0, .bool true, 0)] 1)]
def o2_75 : O := .cells 67 [.bool false, .ptr 1630 0, .ptr 1658 0, .ptr 1632 0, .sl 1640 0 1 (.un 116 0 1), i 46]
def lU2_7 : List (Nat × O) := [(0, .raw), (1, .kept), (1630, o2_65), (1632, .cells 141 [.sl 1637 0 1 (.un 115 0 1), i 1]), (1633, o2_75), (1637, .cells 3 [i 1]), (1638, o2_73), (1640, .cells 70 [.ptr 1638 0]), (1658, o0), (3024, o2_74), (3196, o2_72), (3208, o2_64), (3209, .map [(i 0, .bool true, 0)] 1)]
def o2_76 : O := .cells 67 [.bool false, .ptr 1630 0, .ptr 1658 0, .ptr 1632 0, .sl 1640 0 1 (.un 116 0 1), i 47]
def lU2_8 : List (Nat × O) := [(0, .raw), (1, .kept), (1630, o2_65), (1632, .cells 141 [.sl 1637 0 1 (.un 115 0 1), i 1]), (1633, o2_76), (1637, .cells 3 [i 1]), (1638, o2_73), (1640, .cells 70 [.ptr 1638 0]), (1658, o0), (3024, o2_74), (3196, o2_72), (3208, o2_64), (3209, .map [(i 0, .bool true, 0)] 1)]
def o2_77 : O := .cells 67 [.bool false, .ptr 1630 0, .ptr 1658 0, .ptr 1632 0, .sl 1640 0 1 (.un 116 0 1), i 48]
def lU2_9 : List (Nat × O) := [(0, .raw), (1, .kept), (1630, o2_65), (1632, .cells 141 [.sl 1637 0 1 (.un 115 0 1), i 1]), (1633, o2_77), (1637, .cells 3 [i 1]), (1638, o2_73), (1640, .cells 70 [.ptr 1638 0]), (1658, o0), (3024, o2_74), (3196, o2_72), (3208, o2_64), (3209, .map [(i 0, .bool true, 0)] 1)]
def o2_78 : O := .cells 67 [.bool false, .ptr 1630 0, .ptr 1658 0, .ptr 1632 0, .sl 1640 0 1 (.un 116 0 1), i 49]
def lU2_10 : List (Nat × O) := [(0, .raw), (1, .kept), (1630, o2_65), (1632, .cells 141 [.sl 1637 0 1 (.un 115 0 1), i 1]), (1633, o2_78), (1637, .cells 3 [i 1]), (1638, o2_73), (1640, .cells 70 [.ptr 1638 0]), (1658, o0), (3024, o2_74), (3196, o2_72), (3208, o2_64), (3209, .map [(i 0, .bool true, 0)] 1)]
def o2_79 : O := .cells 67 [.bool false, .ptr 1630 0, .ptr 1658 0, .ptr 1632 0, .sl 1640 0 1 (.un 116 0 1), i 50]
def lU2_11 : List (Nat × O) := [(0, .raw), (1, .kept), (1630, o2_65), (1632, .cells 141 [.sl 1637 0 1 (.un 115 0 1), i 1]), (1633, o2_79), (1637, .cells 3 [i 1]), (1638, o2_73), (1640, .cells 70 [.ptr 1638 0]), (1658, o0), (3024, o2_74), (3196, o2_72), (3208, o2_64), (3209, .map [(i 0, .bool true, 0)] 1)]
def LU2 : Nat → List (Nat × O)
  | 0 => lP2
  | 1 => lU2_1
  | 2 => lU2_2
  | 3 => lU2_3
  | 4 => lU2_4
  | 5 => lU2_5
  | 6 => lU2_6
  | 7 => lU2_7
  | 8 => lU2_8
  | 9 => lU2_9
  | 10 => lU2_10
  | _ => lU2_11
def NU2 : Nat → Nat
  | 0 => 3025
  | 1 => 3171
  | 2 => 3184
  | 3 => 3197
  | 4 => 3210
  | 5 => 3229
  | 6 => 3240
  | 7 => 3245
  | 8 => 3250
  | 9 => 3255
  | 10 => 3260
  | _ => 3265
def CU2 : Nat → Nat
  | 0 => 225
  | 1 => 255
  | 2 => 257
  | 3 => 259
  | 4 => 261
  | 5 => 262
  | 6 => 263
  | 7 => 264
  | 8 => 265
  | 9 => 266
  | 10 => 267
  | _ => 268
theorem k_W2 : ckR 115 ⟨vsB, lW2, 2782, 213⟩ .normal ((ev prog X0 4000).code 3 (at3 8) (Sta.tm mk3 115 ⟨vsB, LR 2, NR 2, CR 2⟩) (Sta.h ⟨vsB, LR 2, NR 2, CR 2⟩)) = true := by kernel_rfl
theorem k_Q2 : ckR 115 ⟨vsB, lQ2, 3020, 224⟩ .normal ((ev prog X0 4000).code 3 (at3 9) (Sta.tm mk3 115 ⟨vsB, lW2, 2782, 213⟩) (Sta.h ⟨vsB, lW2, 2782, 213⟩)) = true := by kernel_rfl
theorem k_P2 : ckR 115 ⟨vsB, LU2 0, NU2 0, CU2 0⟩ .normal ((ev prog X0 4000).code 3 (at3 10) (Sta.tm mk3 115 ⟨vsB, lQ2, 3020, 224⟩) (Sta.h ⟨vsB, lQ2, 3020, 224⟩)) = true := by kernel_rfl
theorem k_U2_0 : ckR 115 ⟨vsT 1, LU2 1, NU2 1, CU2 1⟩ .normal ((ev prog X0 4000).code 3 (sq2 LB2) (Sta.tm mk3 115 ⟨vsT 0, LU2 0, NU2 0, CU2 0⟩) (Sta.h ⟨vsT 0, LU2 0, NU2 0, CU2 0⟩)) = true := by kernel_rfl
theorem k_U2_1 : ckR 115 ⟨vsT 2, LU2 2, NU2 2, CU2 2⟩ .normal ((ev prog X0 4000).code 3 (sq2 LB2) (Sta.tm mk3 115 ⟨vsT 1, LU2 1, NU2 1, CU2 1⟩) (Sta.h ⟨vsT 1, LU2 1, NU2 1, CU2 1⟩)) = true := by kernel_rfl
theorem k_U2_2 : ckR 115 ⟨vsT 3, LU2 3, NU2 3, CU2 3⟩ .normal ((ev prog X0 4000).code 3 (sq2 LB2) (Sta.tm mk3 115 ⟨vsT 2, LU2 2, NU2 2, CU2 2⟩) (Sta.h ⟨vsT 2, LU2 2, NU2 2, CU2 2⟩)) = true := by kernel_rfl
theorem k_U2_3 : ckR 115 ⟨vsT 4, LU2 4, NU2 4, CU2 4⟩ .normal ((ev prog X0 4000).code 3 (sq2 LB2) (Sta.tm mk3 115 ⟨vsT 3, LU2 3, NU2 3, CU2 3⟩) (Sta.h ⟨vsT 3, LU2 3, NU2 3, CU2 3⟩)) = true := by kernel_rfl
theorem k_U2_4 : ckR 115 ⟨vsT 5, LU2 5, NU2 5, CU2 5⟩ .normal ((ev prog X0 4000).code 3 (sq2 LB2) (Sta.tm mk3 115 ⟨vsT 4, LU2 4, NU2 4, CU2 4⟩) (Sta.h ⟨vsT 4, LU2 4, NU2 4, CU2 4⟩)) = true := by kernel_rfl
theorem k_U2_5 : ckR 115 ⟨vsT 6, LU2 6, NU2 6, CU2 6⟩ .normal ((ev prog X0 4000).code 3 (sq2 LB2) (Sta.tm mk3 115 ⟨vsT 5, LU2 5, NU2 5, CU2 5⟩) (Sta.h ⟨vsT 5, LU2 5, NU2 5, CU2 5⟩)) = true := by kernel_rfl
theorem k_U2_6 : ckR 115 ⟨vsT 7, LU2 7, NU2 7, CU2 7⟩ .normal ((ev prog X0 4000).code 3 (sq2 LB2) (Sta.tm mk3 115 ⟨vsT 6, LU2 6, NU2 6, CU2 6⟩) (Sta.h ⟨vsT 6, LU2 6, NU2 6, CU2 6⟩)) = true := by kernel_rfl
theorem k_U2_7 : ckR 115 ⟨vsT 8, LU2 8, NU2 8, CU2 8⟩ .normal ((ev prog X0 4000).code 3 (sq2 LB2) (Sta.tm mk3 115 ⟨vsT 7, LU2 7, NU2 7, CU2 7⟩) (Sta.h ⟨vsT 7, LU2 7, NU2 7, CU2 7⟩)) = true := by kernel_rfl
theorem k_U2_8 : ckR 115 ⟨vsT 9, LU2 9, NU2 9, CU2 9⟩ .normal ((ev prog X0 4000).code 3 (sq2 LB2) (Sta.tm mk3 115 ⟨vsT 8, LU2 8, NU2 8, CU2 8⟩) (Sta.h ⟨vsT 8, LU2 8, NU2 8, CU2 8⟩)) = true := by kernel_rfl
theorem k_U2_9 : ckR 115 ⟨vsT 10, LU2 10, NU2 10, CU2 10⟩ .normal ((ev prog X0 4000).code 3 (sq2 LB2) (Sta.tm mk3 115 ⟨vsT 9, LU2 9, NU2 9, CU2 9⟩) (Sta.h ⟨vsT 9, LU2 9, NU2 9, CU2 9⟩)) = true := by kernel_rfl
theorem k_U2_10 : ckR 115 ⟨vsT 11, LU2 11, NU2 11, CU2 11⟩ .normal ((ev prog X0 4000).code 3 (sq2 LB2) (Sta.tm mk3 115 ⟨vsT 10, LU2 10, NU2 10, CU2 10⟩) (Sta.h ⟨vsT 10, LU2 10, NU2 10, CU2 10⟩)) = true := by kernel_rfl
end Go.Ev
namespace Go.Ev
open Go Go.Proofs.Tryz
def sC2_0 : Sta := ⟨.cons 7 (.ptr 2 0) (.cons 8 (i 2) (.cons 11 (.ptr 4 0) (.cons 12 .inil .nil))), [(0, .raw), (1, .kept), (2, .cells 67 [.bool false, .ptr 3 0]), (3, .cells 134 [.sl 5 0 5 (.un 0 0 1)]), (4, .cells 41 [u 3]), (5, .cells 9 [.str b2, .str b1, .str b3, .str b5, .str b6])], 6, 1⟩
theorem k_C2_0 : ckR 115 ⟨.cons 6 (.bool true) .nil, lA, 249, 37⟩ .ret ((ev prog X0 4000).code 3 (sqn 14 B3) (Sta.tm mk3 115 sC2_0) (Sta.h sC2_0)) = true := by kernel_rfl
def sC2_1 : Sta := ⟨.cons 7 (.ptr 2 0) (.cons 8 (i 2) (.cons 11 (.ptr 4 0) (.cons 12 .inil .nil))), [(0, .raw), (1, .kept), (2, .cells 67 [.bool false, .ptr 3 0]), (3, .cells 134 [.sl 5 0 5 (.un 0 0 1)]), (4, .cells 41 [u 3]), (5, .cells 9 [.str b2, .str b4, .str b3, .str b5, .str b6])], 6, 1⟩
theorem k_C2_1 : ckR 115 ⟨.cons 6 (.bool true) .nil, lA, 279, 48⟩ .ret ((ev prog X0 4000).code 3 (sqn 14 B3) (Sta.tm mk3 115 sC2_1) (Sta.h sC2_1)) = true := by kernel_rfl
def sC2_2 : Sta := ⟨.cons 7 (.ptr 2 0) (.cons 8 (i 2) (.cons 11 (.ptr 4 0) (.cons 12 .inil .nil))), [(0, .raw), (1, .kept), (2, .cells 67 [.bool false, .ptr 3 0]), (3, .cells 134 [.sl 5 0 6 (.un 0 0 1)]), (4, .cells 41 [u 3]), (5, .cells 9 [.str b2, .str b1, .str b3, .str b5, .str b6, .str b16])], 6, 1⟩
theorem k_C2_2 : ckR 115 ⟨.cons 6 (.bool true) .nil, lA, 251, 38⟩ .ret ((ev prog X0 4000).code 3 (sqn 14 B3) (Sta.tm mk3 115 sC2_2) (Sta.h sC2_2)) = true := by kernel_rfl
def sC2_3 : Sta := ⟨.cons 7 (.ptr 2 0) (.cons 8 (i 2) (.cons 11 (.ptr 4 0) (.cons 12 .inil .nil))), [(0, .raw), (1, .kept), (2, .cells 67 [.bool false, .ptr 3 0]), (3, .cells 134 [.sl 5 0 6 (.un 0 0 1)]), (4, .cells 41 [u 3]), (5, .cells 9 [.str b2, .str b4, .str b3, .str b5, .str b6, .str b16])], 6, 1⟩
theorem k_C2_3 : ckR 115 ⟨.cons 6 (.bool true) .nil, lA, 281, 49⟩ .ret ((ev prog X0 4000).code 3 (sqn 14 B3) (Sta.tm mk3 115 sC2_3) (Sta.h sC2_3)) = true := by kernel_rfl
def sC2_4 : Sta := ⟨.cons 7 (.ptr 2 0) (.cons 8 (i 2) (.cons 11 (.ptr 4 0) (.cons 12 .inil .nil))), [(0, .raw), (1, .kept), (2, .cells 67 [.bool false, .ptr 3 0]), (3, .cells 134 [.sl 5 0 7 (.un 0 0 1)]), (4, .cells 41 [u 3]), (5, .cells 9 [.str b2, .str b1, .str b3, .str b5, .str b6, .str [], .str b9])], 6, 1⟩
theorem k_C2_4 : ckR 115 ⟨.cons 6 (.bool true) .nil, lA, 253, 39⟩ .ret ((ev prog X0 4000).code 3 (sqn 14 B3) (Sta.tm mk3 115 sC2_4) (Sta.h sC2_4)) = true := by kernel_rfl
def sC2_5 : Sta := ⟨.cons 7 (.ptr 2 0) (.cons 8 (i 2) (.cons 11 (.ptr 4 0) (.cons 12 .inil .nil))), [(0, .raw), (1, .kept), (2, .cells 67 [.bool false, .ptr 3 0]), (3, .cells 134 [.sl 5 0 7 (.un 0 0 1)]), (4, .cells 41 [u 3]), (5, .cells 9 [.str b2, .str b1, .str b3, .str b5, .str b6, .str b16, .str b9])], 6, 1⟩
theorem k_C2_5 : ckR 115 ⟨.cons 6 (.bool true) .nil, lA, 253, 39⟩ .ret ((ev prog X0 4000).code 3 (sqn 14 B3) (Sta.tm mk3 115 sC2_5) (Sta.h sC2_5)) = true := by kernel_rfl
def sC2_6 : Sta := ⟨.cons 7 (.ptr 2 0) (.cons 8 (i 2) (.cons 11 (.ptr 4 0) (.cons 12 .inil .nil))), [(0, .raw), (1, .kept), (2, .cells 67 [.bool false, .ptr 3 0]), (3, .cells 134 [.sl 5 0 7 (.un 0 0 1)]), (4, .cells 41 [u 3]), (5, .cells 9 [.str b2, .str b4, .str b3, .str b5, .str b6, .str [], .str b9])], 6, 1⟩
theorem k_C2_6 : ckR 115 ⟨.cons 6 (.bool true) .nil, lA, 283, 50⟩ .ret ((ev prog X0 4000).code 3 (sqn 14 B3) (Sta.tm mk3 115 sC2_6) (Sta.h sC2_6)) = true := by kernel_rfl
def sC2_7 : Sta := ⟨.cons 7 (.ptr 2 0) (.cons 8 (i 2) (.cons 11 (.ptr 4 0) (.cons 12 .inil .nil))), [(0, .raw), (1, .kept), (2, .cells 67 [.bool false, .ptr 3 0]), (3, .cells 134 [.sl 5 0 7 (.un 0 0 1)]), (4, .cells 41 [u 3]), (5, .cells 9 [.str b2, .str b4, .str b3, .str b5, .str b6, .str b16, .str b9])], 6, 1⟩
theorem k_C2_7 : ckR 115 ⟨.cons 6 (.bool true) .nil, lA, 283, 50⟩ .ret ((ev prog X0 4000).code 3 (sqn 14 B3) (Sta.tm mk3 115 sC2_7) (Sta.h sC2_7)) = true := by kernel_rfl
def sC2_8 : Sta := ⟨.cons 7 (.ptr 2 0) (.cons 8 (i 2) (.cons 11 (.ptr 4 0) (.cons 12 .inil .nil))), [(0, .raw), (1, .kept), (2, .cells 67 [.bool false, .ptr 3 0]), (3, .cells 134 [.sl 5 0 7 (.un 0 0 1)]), (4, .cells 41 [u 4]), (5, .cells 9 [.str b2, .str b4, .str b3, .str b5, .str b6, .str b16, .str b9])], 6, 1⟩
theorem k_C2_8 : ckR 115 ⟨.cons 6 (.bool true) .nil, lA, 283, 50⟩ .ret ((ev prog X0 4000).code 3 (sqn 14 B3) (Sta.tm mk3 115 sC2_8) (Sta.h sC2_8)) = true := by kernel_rfl
def sC2_9 : Sta := ⟨.cons 7 (.ptr 2 0) (.cons 8 (i 2) (.cons 11 (.ptr 4 0) (.cons 12 .inil .nil))), [(0, .raw), (1, .kept), (2, .cells 67 [.bool false, .ptr 3 0]), (3, .cells 134 [.sl 5 0 7 (.un 0 0 1)]), (4, .cells 41 [u 4]), (5, .cells 9 [.str b7, .str b4, .str b3, .str b5, .str b6, .str b16, .str b9])], 6, 1⟩
theorem k_C2_9 : ckR 115 ⟨.cons 6 (.bool true) .nil, lA, 301, 60⟩ .ret ((ev prog X0 4000).code 3 (sqn 14 B3) (Sta.tm mk3 115 sC2_9) (Sta.h sC2_9)) = true := by kernel_rfl
end Go.Ev
namespace Go.Ev
open Go Go.Proofs.Tryz
def lY2_0 : List (Nat × O) := [(0, .raw), (1, .kept), (1630, o12), (1632, .cells 141 [.sl 1637 0 1 (.un 115 0 1), i 1]), (1633, o2_48), (1637, .cells 3 [i 1]), (1638, o2_49), (1640, .cells 70 [.ptr 1638 0]), (1658, o2_36), (2557, .cells 9 [.str b2, .str b4, .str b3, .str b5, .str b6]), (2569, .cells 9 [.str b2, .str b1, .str b3, .str b5, .str b6]), (2570, .map [(i 1, .bool true, 0)] 1), (2622, o2_38), (2757, .cells 3 [i 4]), (2767, .cells 3 [i 2]), (2770, .cells 96 [u 3, .sl 2767 0 1 (.un 209 0 1)]), (2771, o2_43), (2772, o2_44), (2773, o2_45), (2774, .cells 145 [.ptr 2773 0]), (2775, .cells 384 [.sl 2774 0 1 (.ex 1)]), (2983, .cells 3 [i 3]), (3010, o2_47), (3024, o2_50), (3079, .cells 41 [u 3, i 3, i 1, i 0, i 4, i 5])]
def sY2_0 : Sta := ⟨(.cons 2 (.raw 2) (.cons 7 pm (.cons 8 (i 2) (.cons 11 (.ptr 3079 0) (.cons 12 .inil .nil))))), lY2_0, 3080, 225⟩
theorem k_Y2_0 : ckR 115 sY2_0 .normal ((ev prog X0 4000).code 3 (at3 12) (Sta.tm mk3 115 ⟨vsE 2, LU2 0, NU2 0, CU2 0⟩) (Sta.h ⟨vsE 2, LU2 0, NU2 0, CU2 0⟩)) = true := by kernel_rfl
theorem k_Z2_0_n : ckN 115 sC2_0 [0, 1, 1633, 1630, 3079, 2557] [191] ((ev prog (X1 []) 4000).code 3 (at3 13) (Sta.tm mk3 115 sY2_0) (Sta.h sY2_0)) = true := by kernel_rfl
theorem k_Z2_0_nf (t : List Bool) : ckN 115 sC2_0 [0, 1, 1633, 1630, 3079, 2557] [191] ((ev prog (X1 (false :: t)) 4000).code 3 (at3 13) (Sta.tm mk3 115 sY2_0) (Sta.h sY2_0)) = true := by kernel_rfl
theorem k_Z2_0_nt (t : List Bool) : ckN 115 sC2_1 [0, 1, 1633, 1630, 3079, 2557] [191] ((ev prog (X1 (true :: t)) 4000).code 3 (at3 13) (Sta.tm mk3 115 sY2_0) (Sta.h sY2_0)) = true := by kernel_rfl
def lY2_1 : List (Nat × O) := [(0, .raw), (1, .kept), (1630, o12), (1632, .cells 141 [.sl 1637 0 1 (.un 115 0 1), i 1]), (1633, o2_51), (1637, .cells 3 [i 1]), (1638, o2_52), (1640, .cells 70 [.ptr 1638 0]), (1658, o2_36), (2557, .cells 9 [.str b2, .str b4, .str b3, .str b5, .str b6]), (2569, .cells 9 [.str b2, .str b1, .str b3, .str b5, .str b6]), (2570, .map [(i 1, .bool true, 0)] 1), (2622, o2_53), (2757, .cells 3 [i 4]), (2767, .cells 3 [i 2]), (2770, .cells 96 [u 3, .sl 2767 0 1 (.un 209 0 1)]), (2771, o2_43), (2772, o2_44), (2773, o2_45), (2774, .cells 145 [.ptr 2773 0]), (2775, .cells 384 [.sl 2774 0 1 (.ex 1)]), (2983, .cells 3 [i 3]), (3010, o2_47), (3024, o2_54), (3168, .chan 2 [.agg [i 5, .str b16], .agg [i 6, .str b9]]), (3225, .cells 41 [u 3, i 3, i 1, i 0, i 4, i 5])]
def sY2_1 : Sta := ⟨(.cons 2 (.raw 2) (.cons 7 pm (.cons 8 (i 2) (.cons 11 (.ptr 3225 0) (.cons 12 .inil .nil))))), lY2_1, 3226, 255⟩
theorem k_Y2_1 : ckR 115 sY2_1 .normal ((ev prog X0 4000).code 3 (at3 12) (Sta.tm mk3 115 ⟨vsE 2, LU2 1, NU2 1, CU2 1⟩) (Sta.h ⟨vsE 2, LU2 1, NU2 1, CU2 1⟩)) = true := by kernel_rfl
theorem k_Z2_1_n : ckN 115 sC2_0 [0, 1, 1633, 1630, 3225, 2557] [191] ((ev prog (X1 []) 4000).code 3 (at3 13) (Sta.tm mk3 115 sY2_1) (Sta.h sY2_1)) = true := by kernel_rfl
theorem k_Z2_1_nf (t : List Bool) : ckN 115 sC2_0 [0, 1, 1633, 1630, 3225, 2557] [191] ((ev prog (X1 (false :: t)) 4000).code 3 (at3 13) (Sta.tm mk3 115 sY2_1) (Sta.h sY2_1)) = true := by kernel_rfl
theorem k_Z2_1_nt (t : List Bool) : ckN 115 sC2_1 [0, 1, 1633, 1630, 3225, 2557] [191] ((ev prog (X1 (true :: t)) 4000).code 3 (at3 13) (Sta.tm mk3 115 sY2_1) (Sta.h sY2_1)) = true := by kernel_rfl
def lY2_2 : List (Nat × O) := [(0, .raw), (1, .kept), (1630, o2_55), (1632, .cells 141 [.sl 1637 0 1 (.un 115 0 1), i 1]), (1633, o2_56), (1637, .cells 3 [i 1]), (1638, o2_57), (1640, .cells 70 [.ptr 1638 0]), (1658, o2_36), (2569, .cells 9 [.str b2, .str b1, .str b3, .str b5, .str b6]), (2570, .map [(i 1, .bool true, 0), (i 5, .bool true, 1)] 2), (2622, o2_53), (2757, .cells 3 [i 4]), (2767, .cells 3 [i 2]), (2770, .cells 96 [u 3, .sl 2767 0 1 (.un 209 0 1)]), (2771, o2_43), (2772, o2_44), (2773, o2_45), (2774, .cells 145 [.ptr 2773 0]), (2775, .cells 384 [.sl 2774 0 1 (.ex 1)]), (2983, .cells 3 [i 3]), (3010, o2_47), (3024, o2_54), (3168, .chan 2 [.agg [i 6, .str b9]]), (3183, o2_58), (3238, .cells 41 [u 3, i 3, i 1, i 0, i 4, i 5])]
def sY2_2 : Sta := ⟨(.cons 2 (.raw 2) (.cons 7 pm (.cons 8 (i 2) (.cons 11 (.ptr 3238 0) (.cons 12 .inil .nil))))), lY2_2, 3239, 257⟩
theorem k_Y2_2 : ckR 115 sY2_2 .normal ((ev prog X0 4000).code 3 (at3 12) (Sta.tm mk3 115 ⟨vsE 2, LU2 2, NU2 2, CU2 2⟩) (Sta.h ⟨vsE 2, LU2 2, NU2 2, CU2 2⟩)) = true := by kernel_rfl
theorem k_Z2_2_n : ckN 115 sC2_0 [0, 1, 1633, 1630, 3238, 3183] [256] ((ev prog (X1 []) 4000).code 3 (at3 13) (Sta.tm mk3 115 sY2_2) (Sta.h sY2_2)) = true := by kernel_rfl
theorem k_Z2_2_nf : ckN 115 sC2_0 [0, 1, 1633, 1630, 3238, 3183] [256] ((ev prog (X1 [false]) 4000).code 3 (at3 13) (Sta.tm mk3 115 sY2_2) (Sta.h sY2_2)) = true := by kernel_rfl
theorem k_Z2_2_nt : ckN 115 sC2_1 [0, 1, 1633, 1630, 3238, 3183] [256] ((ev prog (X1 [true]) 4000).code 3 (at3 13) (Sta.tm mk3 115 sY2_2) (Sta.h sY2_2)) = true := by kernel_rfl
theorem k_Z2_2_nff (t : List Bool) : ckN 115 sC2_0 [0, 1, 1633, 1630, 3238, 3183] [256] ((ev prog (X1 (false :: false :: t)) 4000).code 3 (at3 13) (Sta.tm mk3 115 sY2_2) (Sta.h sY2_2)) = true := by kernel_rfl
theorem k_Z2_2_nft (t : List Bool) : ckN 115 sC2_2 [0, 1, 1633, 1630, 3238, 3183] [256] ((ev prog (X1 (false :: true :: t)) 4000).code 3 (at3 13) (Sta.tm mk3 115 sY2_2) (Sta.h sY2_2)) = true := by kernel_rfl
theorem k_Z2_2_ntf (t : List Bool) : ckN 115 sC2_1 [0, 1, 1633, 1630, 3238, 3183] [256] ((ev prog (X1 (true :: false :: t)) 4000).code 3 (at3 13) (Sta.tm mk3 115 sY2_2) (Sta.h sY2_2)) = true := by kernel_rfl
theorem k_Z2_2_ntt (t : List Bool) : ckN 115 sC2_3 [0, 1, 1633, 1630, 3238, 3183] [256] ((ev prog (X1 (true :: true :: t)) 4000).code 3 (at3 13) (Sta.tm mk3 115 sY2_2) (Sta.h sY2_2)) = true := by kernel_rfl
def lY2_3 : List (Nat × O) := [(0, .raw), (1, .kept), (1630, o2_59), (1632, .cells 141 [.sl 1637 0 1 (.un 115 0 1), i 1]), (1633, o2_60), (1637, .cells 3 [i 1]), (1638, o2_61), (1640, .cells 70 [.ptr 1638 0]), (1658, o2_36), (2569, .cells 9 [.str b2, .str b1, .str b3, .str b5, .str b6]), (2570, o2_62), (2622, o2_63), (2757, .cells 3 [i 4]), (2767, .cells 3 [i 2]), (2770, .cells 96 [u 3, .sl 2767 0 1 (.un 209 0 1)]), (2771, o2_43), (2772, o2_44), (2773, o2_45), (2774, .cells 145 [.ptr 2773 0]), (2775, .cells 384 [.sl 2774 0 1 (.ex 1)]), (2983, .cells 3 [i 3]), (3010, o2_47), (3024, o2_54), (3168, .chan 2 []), (3196, o2_64), (3251, .cells 41 [u 3, i 3, i 1, i 0, i 4, i 5])]
def sY2_3 : Sta := ⟨(.cons 2 (.raw 2) (.cons 7 pm (.cons 8 (i 2) (.cons 11 (.ptr 3251 0) (.cons 12 .inil .nil))))), lY2_3, 3252, 259⟩
theorem k_Y2_3 : ckR 115 sY2_3 .normal ((ev prog X0 4000).code 3 (at3 12) (Sta.tm mk3 115 ⟨vsE 2, LU2 3, NU2 3, CU2 3⟩) (Sta.h ⟨vsE 2, LU2 3, NU2 3, CU2 3⟩)) = true := by kernel_rfl
theorem k_Z2_3_n : ckN 115 sC2_0 [0, 1, 1633, 1630, 3251, 3196] [258] ((ev prog (X1 []) 4000).code 3 (at3 13) (Sta.tm mk3 115 sY2_3) (Sta.h sY2_3)) = true := by kernel_rfl
theorem k_Z2_3_nf : ckN 115 sC2_0 [0, 1, 1633, 1630, 3251, 3196] [258] ((ev prog (X1 [false]) 4000).code 3 (at3 13) (Sta.tm mk3 115 sY2_3) (Sta.h sY2_3)) = true := by kernel_rfl
theorem k_Z2_3_nt : ckN 115 sC2_1 [0, 1, 1633, 1630, 3251, 3196] [258] ((ev prog (X1 [true]) 4000).code 3 (at3 13) (Sta.tm mk3 115 sY2_3) (Sta.h sY2_3)) = true := by kernel_rfl
theorem k_Z2_3_nff : ckN 115 sC2_0 [0, 1, 1633, 1630, 3251, 3196] [258] ((ev prog (X1 [false, false]) 4000).code 3 (at3 13) (Sta.tm mk3 115 sY2_3) (Sta.h sY2_3)) = true := by kernel_rfl
theorem k_Z2_3_nft : ckN 115 sC2_2 [0, 1, 1633, 1630, 3251, 3196] [258] ((ev prog (X1 [false, true]) 4000).code 3 (at3 13) (Sta.tm mk3 115 sY2_3) (Sta.h sY2_3)) = true := by kernel_rfl
theorem k_Z2_3_ntf : ckN 115 sC2_1 [0, 1, 1633, 1630, 3251, 3196] [258] ((ev prog (X1 [true, false]) 4000).code 3 (at3 13) (Sta.tm mk3 115 sY2_3) (Sta.h sY2_3)) = true := by kernel_rfl
theorem k_Z2_3_ntt : ckN 115 sC2_3 [0, 1, 1633, 1630, 3251, 3196] [258] ((ev prog (X1 [true, true]) 4000).code 3 (at3 13) (Sta.tm mk3 115 sY2_3) (Sta.h sY2_3)) = true := by kernel_rfl
theorem k_Z2_3_nfff (t : List Bool) : ckN 115 sC2_0 [0, 1, 1633, 1630, 3251, 3196] [258] ((ev prog (X1 (false :: false :: false :: t)) 4000).code 3 (at3 13) (Sta.tm mk3 115 sY2_3) (Sta.h sY2_3)) = true := by kernel_rfl
theorem k_Z2_3_nfft (t : List Bool) : ckN 115 sC2_4 [0, 1, 1633, 1630, 3251, 3196] [258] ((ev prog (X1 (false :: false :: true :: t)) 4000).code 3 (at3 13) (Sta.tm mk3 115 sY2_3) (Sta.h sY2_3)) = true := by kernel_rfl
theorem k_Z2_3_nftf (t : List Bool) : ckN 115 sC2_2 [0, 1, 1633, 1630, 3251, 3196] [258] ((ev prog (X1 (false :: true :: false :: t)) 4000).code 3 (at3 13) (Sta.tm mk3 115 sY2_3) (Sta.h sY2_3)) = true := by kernel_rfl
theorem k_Z2_3_nftt (t : List Bool) : ckN 115 sC2_5 [0, 1, 1633, 1630, 3251, 3196] [258] ((ev prog (X1 (false :: true :: true :: t)) 4000).code 3 (at3 13) (Sta.tm mk3 115 sY2_3) (Sta.h sY2_3)) = true := by kernel_rfl
theorem k_Z2_3_ntff (t : List Bool) : ckN 115 sC2_1 [0, 1, 1633, 1630, 3251, 3196] [258] ((ev prog (X1 (true :: false :: false :: t)) 4000).code 3 (at3 13) (Sta.tm mk3 115 sY2_3) (Sta.h sY2_3)) = true := by kernel_rfl
theorem k_Z2_3_ntft (t : List Bool) : ckN 115 sC2_6 [0, 1, 1633, 1630, 3251, 3196] [258] ((ev prog (X1 (true :: false :: true :: t)) 4000).code 3 (at3 13) (Sta.tm mk3 115 sY2_3) (Sta.h sY2_3)) = true := by kernel_rfl
theorem k_Z2_3_nttf (t : List Bool) : ckN 115 sC2_3 [0, 1, 1633, 1630, 3251, 3196] [258] ((ev prog (X1 (true :: true :: false :: t)) 4000).code 3 (at3 13) (Sta.tm mk3 115 sY2_3) (Sta.h sY2_3)) = true := by kernel_rfl
theorem k_Z2_3_nttt (t : List Bool) : ckN 115 sC2_7 [0, 1, 1633, 1630, 3251, 3196] [258] ((ev prog (X1 (true :: true :: true :: t)) 4000).code 3 (at3 13) (Sta.tm mk3 115 sY2_3) (Sta.h sY2_3)) = true := by kernel_rfl
def lY2_4 : List (Nat × O) := [(0, .raw), (1, .kept), (1630, o2_65), (1632, .cells 141 [.sl 1637 0 1 (.un 115 0 1), i 1]), (1633, o2_66), (1637, .cells 3 [i 1]), (1638, o2_67), (1640, .cells 70 [.ptr 1638 0]), (1658, o2_36), (2622, o2_68), (2757, .cells 3 [i 4]), (2767, .cells 3 [i 2]), (2770, .cells 96 [u 3, .sl 2767 0 1 (.un 209 0 1)]), (2771, o2_43), (2772, o2_44), (2773, o2_45), (2774, .cells 145 [.ptr 2773 0]), (2775, .cells 384 [.sl 2774 0 1 (.ex 1)]), (2983, .cells 3 [i 3]), (3010, o2_47), (3024, o2_54), (3168, .chan 2 []), (3196, o2_64), (3208, o2_64), (3209, .map [] 0), (3264, .cells 41 [u 3, i 3, i 1, i 0, i 4, i 5])]
def sY2_4 : Sta := ⟨(.cons 2 (.raw 2) (.cons 7 pm (.cons 8 (i 2) (.cons 11 (.ptr 3264 0) (.cons 12 .inil .nil))))), lY2_4, 3265, 261⟩
theorem k_Y2_4 : ckR 115 sY2_4 .normal ((ev prog X0 4000).code 3 (at3 12) (Sta.tm mk3 115 ⟨vsE 2, LU2 4, NU2 4, CU2 4⟩) (Sta.h ⟨vsE 2, LU2 4, NU2 4, CU2 4⟩)) = true := by kernel_rfl
theorem k_Z2_4_n (t : List Bool) : ckN 115 sC2_7 [0, 1, 1633, 1630, 3264, 3196] [258] ((ev prog (X1 t) 4000).code 3 (at3 13) (Sta.tm mk3 115 sY2_4) (Sta.h sY2_4)) = true := by kernel_rfl
def lY2_5 : List (Nat × O) := [(0, .raw), (1, .kept), (1630, o2_65), (1632, .cells 141 [.sl 1637 0 1 (.un 115 0 1), i 1]), (1633, o2_69), (1637, .cells 3 [i 1]), (1638, o2_70), (1640, .cells 70 [.ptr 1638 0]), (1658, o2_36), (2622, o2_71), (2757, .cells 3 [i 4]), (2767, .cells 3 [i 2]), (2770, .cells 96 [u 3, .sl 2767 0 1 (.un 209 0 1)]), (2771, o2_43), (2772, o2_44), (2773, o2_45), (2774, .cells 145 [.ptr 2773 0]), (2775, .cells 384 [.sl 2774 0 1 (.ex 1)]), (2983, .cells 3 [i 3]), (3010, o2_47), (3024, o2_54), (3168, .chan 2 []), (3196, o2_72), (3208, o2_64), (3209, .map [(i 0, .bool true, 0)] 1), (3283, .cells 41 [u 4, i 5, i 1, i 0, i 6, i 7])]
def sY2_5 : Sta := ⟨(.cons 2 (.raw 2) (.cons 7 pm (.cons 8 (i 2) (.cons 11 (.ptr 3283 0) (.cons 12 .inil .nil))))), lY2_5, 3284, 262⟩
theorem k_Y2_5 : ckR 115 sY2_5 .normal ((ev prog X0 4000).code 3 (at3 12) (Sta.tm mk3 115 ⟨vsE 2, LU2 5, NU2 5, CU2 5⟩) (Sta.h ⟨vsE 2, LU2 5, NU2 5, CU2 5⟩)) = true := by kernel_rfl
theorem k_Z2_5_n : ckN 115 sC2_8 [0, 1, 1633, 1630, 3283, 3196] [258] ((ev prog (X1 []) 4000).code 3 (at3 13) (Sta.tm mk3 115 sY2_5) (Sta.h sY2_5)) = true := by kernel_rfl
theorem k_Z2_5_nf (t : List Bool) : ckN 115 sC2_8 [0, 1, 1633, 1630, 3283, 3196] [258] ((ev prog (X1 (false :: t)) 4000).code 3 (at3 13) (Sta.tm mk3 115 sY2_5) (Sta.h sY2_5)) = true := by kernel_rfl
theorem k_Z2_5_nt (t : List Bool) : ckN 115 sC2_9 [0, 1, 1633, 1630, 3283, 3196] [258] ((ev prog (X1 (true :: t)) 4000).code 3 (at3 13) (Sta.tm mk3 115 sY2_5) (Sta.h sY2_5)) = true := by kernel_rfl
def lY2_6 : List (Nat × O) := [(0, .raw), (1, .kept), (1630, o2_65), (1632, .cells 141 [.sl 1637 0 1 (.un 115 0 1), i 1]), (1633, o17), (1637, .cells 3 [i 1]), (1638, o2_73), (1640, .cells 70 [.ptr 1638 0]), (1658, o0), (3024, o2_74), (3196, o2_72), (3208, o2_64), (3209, .map [(i 0, .bool true, 0)] 1), (3294, .cells 41 [u 4, i 5, i 1, i 0, i 6, i 7])]
def sY2_6 : Sta := ⟨(.cons 2 (.raw 2) (.cons 7 pm (.cons 8 (i 2) (.cons 11 (.ptr 3294 0) (.cons 12 .inil .nil))))), lY2_6, 3295, 263⟩
theorem k_Y2_6 : ckR 115 sY2_6 .normal ((ev prog X0 4000).code 3 (at3 12) (Sta.tm mk3 115 ⟨vsE 2, LU2 6, NU2 6, CU2 6⟩) (Sta.h ⟨vsE 2, LU2 6, NU2 6, CU2 6⟩)) = true := by kernel_rfl
theorem k_Z2_6_n : ckN 115 sC2_8 [0, 1, 1633, 1630, 3294, 3196] [258] ((ev prog (X1 []) 4000).code 3 (at3 13) (Sta.tm mk3 115 sY2_6) (Sta.h sY2_6)) = true := by kernel_rfl
theorem k_Z2_6_nf (t : List Bool) : ckN 115 sC2_8 [0, 1, 1633, 1630, 3294, 3196] [258] ((ev prog (X1 (false :: t)) 4000).code 3 (at3 13) (Sta.tm mk3 115 sY2_6) (Sta.h sY2_6)) = true := by kernel_rfl
theorem k_Z2_6_nt (t : List Bool) : ckN 115 sC2_9 [0, 1, 1633, 1630, 3294, 3196] [258] ((ev prog (X1 (true :: t)) 4000).code 3 (at3 13) (Sta.tm mk3 115 sY2_6) (Sta.h sY2_6)) = true := by kernel_rfl
def lY2_7 : List (Nat × O) := [(0, .raw), (1, .kept), (1630, o2_65), (1632, .cells 141 [.sl 1637 0 1 (.un 115 0 1), i 1]), (1633, o2_75), (1637, .cells 3 [i 1]), (1638, o2_73), (1640, .cells 70 [.ptr 1638 0]), (1658, o0), (3024, o2_74), (3196, o2_72), (3208, o2_64), (3209, .map [(i 0, .bool true, 0)] 1), (3299, .cells 41 [u 4, i 5, i 1, i 0, i 6, i 7])]
def sY2_7 : Sta := ⟨(.cons 2 (.raw 2) (.cons 7 pm (.cons 8 (i 2) (.cons 11 (.ptr 3299 0) (.cons 12 .inil .nil))))), lY2_7, 3300, 264⟩
theorem k_Y2_7 : ckR 115 sY2_7 .normal ((ev prog X0 4000).code 3 (at3 12) (Sta.tm mk3 115 ⟨vsE 2, LU2 7, NU2 7, CU2 7⟩) (Sta.h ⟨vsE 2, LU2 7, NU2 7, CU2 7⟩)) = true := by kernel_rfl
theorem k_Z2_7_n : ckN 115 sC2_8 [0, 1, 1633, 1630, 3299, 3196] [258] ((ev prog (X1 []) 4000).code 3 (at3 13) (Sta.tm mk3 115 sY2_7) (Sta.h sY2_7)) = true := by kernel_rfl
theorem k_Z2_7_nf (t : List Bool) : ckN 115 sC2_8 [0, 1, 1633, 1630, 3299, 3196] [258] ((ev prog (X1 (false :: t)) 4000).code 3 (at3 13) (Sta.tm mk3 115 sY2_7) (Sta.h sY2_7)) = true := by kernel_rfl
theorem k_Z2_7_nt (t : List Bool) : ckN 115 sC2_9 [0, 1, 1633, 1630, 3299, 3196] [258] ((ev prog (X1 (true :: t)) 4000).code 3 (at3 13) (Sta.tm mk3 115 sY2_7) (Sta.h sY2_7)) = true := by kernel_rfl
def lY2_8 : List (Nat × O) := [(0, .raw), (1, .kept), (1630, o2_65), (1632, .cells 141 [.sl 1637 0 1 (.un 115 0 1), i 1]), (1633, o2_76), (1637, .cells 3 [i 1]), (1638, o2_73), (1640, .cells 70 [.ptr 1638 0]), (1658, o0), (3024, o2_74), (3196, o2_72), (3208, o2_64), (3209, .map [(i 0, .bool true, 0)] 1), (3304, .cells 41 [u 4, i 5, i 1, i 0, i 6, i 7])]
def sY2_8 : Sta := ⟨(.cons 2 (.raw 2) (.cons 7 pm (.cons 8 (i 2) (.cons 11 (.ptr 3304 0) (.cons 12 .inil .nil))))), lY2_8, 3305, 265⟩
theorem k_Y2_8 : ckR 115 sY2_8 .normal ((ev prog X0 4000).code 3 (at3 12) (Sta.tm mk3 115 ⟨vsE 2, LU2 8, NU2 8, CU2 8⟩) (Sta.h ⟨vsE 2, LU2 8, NU2 8, CU2 8⟩)) = true := by kernel_rfl
theorem k_Z2_8_n : ckN 115 sC2_8 [0, 1, 1633, 1630, 3304, 3196] [258] ((ev prog (X1 []) 4000).code 3 (at3 13) (Sta.tm mk3 115 sY2_8) (Sta.h sY2_8)) = true := by kernel_rfl
theorem k_Z2_8_nf (t : List Bool) : ckN 115 sC2_8 [0, 1, 1633, 1630, 3304, 3196] [258] ((ev prog (X1 (false :: t)) 4000).code 3 (at3 13) (Sta.tm mk3 115 sY2_8) (Sta.h sY2_8)) = true := by kernel_rfl
theorem k_Z2_8_nt (t : List Bool) : ckN 115 sC2_9 [0, 1, 1633, 1630, 3304, 3196] [258] ((ev prog (X1 (true :: t)) 4000).code 3 (at3 13) (Sta.tm mk3 115 sY2_8) (Sta.h sY2_8)) = true := by kernel_rfl
def lY2_9 : List (Nat × O) := [(0, .raw), (1, .kept), (1630, o2_65), (1632, .cells 141 [.sl 1637 0 1 (.un 115 0 1), i 1]), (1633, o2_77), (1637, .cells 3 [i 1]), (1638, o2_73), (1640, .cells 70 [.ptr 1638 0]), (1658, o0), (3024, o2_74), (3196, o2_72), (3208, o2_64), (3209, .map [(i 0, .bool true, 0)] 1), (3309, .cells 41 [u 4, i 5, i 1, i 0, i 6, i 7])]
def sY2_9 : Sta := ⟨(.cons 2 (.raw 2) (.cons 7 pm (.cons 8 (i 2) (.cons 11 (.ptr 3309 0) (.cons 12 .inil .nil))))), lY2_9, 3310, 266⟩
theorem k_Y2_9 : ckR 115 sY2_9 .normal ((ev prog X0 4000).code 3 (at3 12) (Sta.tm mk3 115 ⟨vsE 2, LU2 9, NU2 9, CU2 9⟩) (Sta.h ⟨vsE 2, LU2 9, NU2 9, CU2 9⟩)) = true := by kernel_rfl
theorem k_Z2_9_n : ckN 115 sC2_8 [0, 1, 1633, 1630, 3309, 3196] [258] ((ev prog (X1 []) 4000).code 3 (at3 13) (Sta.tm mk3 115 sY2_9) (Sta.h sY2_9)) = true := by kernel_rfl
theorem k_Z2_9_nf (t : List Bool) : ckN 115 sC2_8 [0, 1, 1633, 1630, 3309, 3196] [258] ((ev prog (X1 (false :: t)) 4000).code 3 (at3 13) (Sta.tm mk3 115 sY2_9) (Sta.h sY2_9)) = true := by kernel_rfl
theorem k_Z2_9_nt (t : List Bool) : ckN 115 sC2_9 [0, 1, 1633, 1630, 3309, 3196] [258] ((ev prog (X1 (true :: t)) 4000).code 3 (at3 13) (Sta.tm mk3 115 sY2_9) (Sta.h sY2_9)) = true := by kernel_rfl
def lY2_10 : List (Nat × O) := [(0, .raw), (1, .kept), (1630, o2_65), (1632, .cells 141 [.sl 1637 0 1 (.un 115 0 1), i 1]), (1633, o2_78), (1637, .cells 3 [i 1]), (1638, o2_73), (1640, .cells 70 [.ptr 1638 0]), (1658, o0), (3024, o2_74), (3196, o2_72), (3208, o2_64), (3209, .map [(i 0, .bool true, 0)] 1), (3314, .cells 41 [u 4, i 5, i 1, i 0, i 6, i 7])]
def sY2_10 : Sta := ⟨(.cons 2 (.raw 2) (.cons 7 pm (.cons 8 (i 2) (.cons 11 (.ptr 3314 0) (.cons 12 .inil .nil))))), lY2_10, 3315, 267⟩
theorem k_Y2_10 : ckR 115 sY2_10 .normal ((ev prog X0 4000).code 3 (at3 12) (Sta.tm mk3 115 ⟨vsE 2, LU2 10, NU2 10, CU2 10⟩) (Sta.h ⟨vsE 2, LU2 10, NU2 10, CU2 10⟩)) = true := by kernel_rfl
theorem k_Z2_10_n : ckN 115 sC2_8 [0, 1, 1633, 1630, 3314, 3196] [258] ((ev prog (X1 []) 4000).code 3 (at3 13) (Sta.tm mk3 115 sY2_10) (Sta.h sY2_10)) = true := by kernel_rfl
theorem k_Z2_10_nf (t : List Bool) : ckN 115 sC2_8 [0, 1, 1633, 1630, 3314, 3196] [258] ((ev prog (X1 (false :: t)) 4000).code 3 (at3 13) (Sta.tm mk3 115 sY2_10) (Sta.h sY2_10)) = true := by kernel_rfl
theorem k_Z2_10_nt (t : List Bool) : ckN 115 sC2_9 [0, 1, 1633, 1630, 3314, 3196] [258] ((ev prog (X1 (true :: t)) 4000).code 3 (at3 13) (Sta.tm mk3 115 sY2_10) (Sta.h sY2_10)) = true := by kernel_rfl
def lY2_11 : List (Nat × O) := [(0, .raw), (1, .kept), (1630, o2_65), (1632, .cells 141 [.sl 1637 0 1 (.un 115 0 1), i 1]), (1633, o2_79), (1637, .cells 3 [i 1]), (1638, o2_73), (1640, .cells 70 [.ptr 1638 0]), (1658, o0), (3024, o2_74), (3196, o2_72), (3208, o2_64), (3209, .map [(i 0, .bool true, 0)] 1), (3319, .cells 41 [u 4, i 5, i 1, i 0, i 6, i 7])]
def sY2_11 : Sta := ⟨(.cons 2 (.raw 2) (.cons 7 pm (.cons 8 (i 2) (.cons 11 (.ptr 3319 0) (.cons 12 .inil .nil))))), lY2_11, 3320, 268⟩
theorem k_Y2_11 : ckR 115 sY2_11 .normal ((ev prog X0 4000).code 3 (at3 12) (Sta.tm mk3 115 ⟨vsE 2, LU2 11, NU2 11, CU2 11⟩) (Sta.h ⟨vsE 2, LU2 11, NU2 11, CU2 11⟩)) = true := by kernel_rfl
theorem k_Z2_11_n : ckN 115 sC2_8 [0, 1, 1633, 1630, 3319, 3196] [258] ((ev prog (X1 []) 4000).code 3 (at3 13) (Sta.tm mk3 115 sY2_11) (Sta.h sY2_11)) = true := by kernel_rfl
theorem k_Z2_11_nf (t : List Bool) : ckN 115 sC2_8 [0, 1, 1633, 1630, 3319, 3196] [258] ((ev prog (X1 (false :: t)) 4000).code 3 (at3 13) (Sta.tm mk3 115 sY2_11) (Sta.h sY2_11)) = true := by kernel_rfl
theorem k_Z2_11_nt (t : List Bool) : ckN 115 sC2_9 [0, 1, 1633, 1630, 3319, 3196] [258] ((ev prog (X1 (true :: t)) 4000).code 3 (at3 13) (Sta.tm mk3 115 sY2_11) (Sta.h sY2_11)) = true := by kernel_rfl
end Go.Ev
