/- The last commit behind 0 others, step by step, the loss of power, what counts then. Conditions: none. -/
import Derived.Test.YtkdihjhndebloaaGreatDoorEvStart
set_option linter.unusedSectionVars false
set_option linter.unusedVariables false
set_option linter.unusedSimpArgs false
namespace Go.Ev
open Go Go.Proofs.Tryz
def o0_34 : O := .cells 67 [.bool false, .ptr 1630 0, .ptr 1658 0, .ptr 1632 0, .sl 1640 0 1 (.un 116 0 1), i 9]
def o0_35 : O := .cells 149 [i 1, .bool false, .sl 1708 0 2 (.un 125 0 14), .bool false, i 4, .bool true, i 300, .pnil, .pnil, .ptr 1719 0, .ptr 1825 0]
def o0_36 : O := .cells 139 [i 1, i 0, u 0, i 0, u 0, i 0, u 0, i 0, u 0, i 0, u 0, i 0, u 0, i 0, u 0, i 0, u 0]
def o0_37 : O := .cells 77 [i 1, i 1, i 1, .str [], .str [], .str [], i 0, i 300, i 2, i 4, i 0, .str [], .str [], u 0, i 1, i 2, i 4, .str [], .str [], .str [], i 0, i 0, i 5, i 9, i 0, .str [], .str [], u 1]
def o0_38 : O := .cells 432 [i 1, i 300, i 0, u 1, i 0, i 0, i 0, i 0, i 2, u 1, .ptr 1823 0, .snil, .cnil, u 0, i 0, i 0, i 0, i 0, i 0, .bool false, .inil]
def o0_39 : O := .cells 287 [.ptr 1630 0, .map 1821, .snil, .snil, i 2, i 300]
def o0_40 : O := .cells 341 [u 1, i 0, i 0, i 0, i 0, i 2, .snil, .ptr 1822 0, i 0, i 0, i 0, .bool true, .str [], .str [], .str [], .bool false]
def lW0 : List (Nat × O) := [(0, .raw), (1, .kept), (1630, o4), (1632, .cells 141 [.sl 1637 0 1 (.un 115 0 1), i 1]), (1633, o0_34), (1637, .cells 3 [i 1]), (1638, o0_35), (1640, .cells 70 [.ptr 1638 0]), (1658, o0_36), (1693, .cells 9 [.str b0, .str b1]), (1695, .cells 9 [.str b0, .str b1]), (1696, .map [] 0), (1708, o0_37), (1719, o0_38), (1821, .map [] 0), (1822, o0_39), (1823, o0_40), (1824, .cells 145 [.ptr 1823 0]), (1825, .cells 384 [.sl 1824 0 1 (.ex 1)])]
def o0_41 : O := .cells 67 [.bool false, .ptr 1630 0, .ptr 1658 0, .ptr 1632 0, .sl 1640 0 1 (.un 116 0 1), i 11]
def o0_42 : O := .cells 149 [i 1, .bool false, .sl 1838 0 3 (.un 132 0 14), .bool false, i 1, .bool true, i 300, .pnil, .pnil, .ptr 1719 0, .ptr 1825 0]
def o0_43 : O := .map [(i 2, .agg [i 1, .sl 1911 0 1 (.un 134 0 10), .snil, .snil, .str [], .snil, .snil, i 0, u 0, i 0, i 0, i 0, i 0, i 0], 0)] 1
def o0_44 : O := .cells 287 [.ptr 1630 0, .map 1821, .snil, .snil, i 3, i 300]
def o0_45 : O := .cells 341 [u 1, i 0, i 0, i 0, i 0, i 2, .snil, .ptr 1822 0, i 2, i 1, i 0, .bool true, .str [], .str [], .str [], .bool false]
def o0_46 : O := .cells 77 [i 1, i 1, i 1, .str [], .str [], .str [], i 0, i 300, i 2, i 4, i 0, .str [], .str [], u 0, i 1, i 2, i 4, .str [], .str [], .str [], i 0, i 0, i 5, i 9, i 0, .str [], .str [], u 1, i 1, i 3, i 9, .str [], .str [107], .str [108, 97, 115, 116], i 0, i 0, i 10, i 11, i 0, .str [], .str [], u 0]
def o0_47 : O := .cells 173 [.str [107], i 1, .str [108, 97, 115, 116], i 0, i 0, .snil, i 0, i 0, i 0, i 0]
def lQ0 : List (Nat × O) := [(0, .raw), (1, .kept), (1630, o4), (1632, .cells 141 [.sl 1637 0 1 (.un 115 0 1), i 1]), (1633, o0_41), (1637, .cells 3 [i 1]), (1638, o0_42), (1640, .cells 70 [.ptr 1638 0]), (1658, o0_36), (1693, .cells 9 [.str b0, .str b1]), (1695, .cells 9 [.str b0, .str b1]), (1696, .map [] 0), (1719, o0_38), (1821, o0_43), (1822, o0_44), (1823, o0_45), (1824, .cells 145 [.ptr 1823 0]), (1825, .cells 384 [.sl 1824 0 1 (.ex 1)]), (1838, o0_46), (1911, o0_47)]
def o0_48 : O := .cells 67 [.bool false, .ptr 1630 0, .ptr 1658 0, .ptr 1632 0, .sl 1640 0 1 (.un 116 0 1), i 12]
def o0_49 : O := .cells 149 [i 1, .bool false, .sl 1923 0 4 (.un 137 0 14), .bool true, i 0, .bool true, i 300, .pnil, .pnil, .ptr 1719 0, .ptr 1825 0]
def o0_50 : O := .cells 77 [i 1, i 1, i 1, .str [], .str [], .str [], i 0, i 300, i 2, i 4, i 0, .str [], .str [], u 0, i 1, i 2, i 4, .str [], .str [], .str [], i 0, i 0, i 5, i 9, i 0, .str [], .str [], u 1, i 1, i 3, i 9, .str [], .str [107], .str [108, 97, 115, 116], i 0, i 0, i 10, i 11, i 0, .str [], .str [], u 0, i 1, i 4, i 6, .str [], .str [], .str [], i 0, i 0, i 12, i 0, i 0, .str [], .str [], u 0]
def lP0 : List (Nat × O) := [(0, .raw), (1, .kept), (1630, o4), (1632, .cells 141 [.sl 1637 0 1 (.un 115 0 1), i 1]), (1633, o0_48), (1637, .cells 3 [i 1]), (1638, o0_49), (1640, .cells 70 [.ptr 1638 0]), (1658, o0_36), (1693, .cells 9 [.str b0, .str b1]), (1695, .cells 9 [.str b0, .str b1]), (1696, .map [] 0), (1719, o0_38), (1821, o0_43), (1822, o0_44), (1823, o0_45), (1824, .cells 145 [.ptr 1823 0]), (1825, .cells 384 [.sl 1824 0 1 (.ex 1)]), (1911, o0_47), (1923, o0_50)]
def o0_51 : O := .cells 67 [.bool false, .ptr 1630 0, .ptr 1658 0, .ptr 1632 0, .sl 1640 0 1 (.un 116 0 1), i 13]
def o0_52 : O := .cells 149 [i 1, .bool false, .sl 1923 0 4 (.un 137 0 14), .bool true, i 1, .bool true, i 300, .pnil, .pnil, .ptr 1719 0, .ptr 1825 0]
def o0_53 : O := .cells 432 [i 1, i 300, i 7, u 1, i 0, i 0, i 0, i 0, i 2, u 1, .ptr 1823 0, .snil, .chan 1974, u 2, i 2, i 1, i 0, i 0, i 3, .bool true, .inil]
def o0_54 : O := .cells 77 [i 1, i 1, i 1, .str [], .str [], .str [], i 0, i 300, i 2, i 4, i 0, .str [], .str [], u 0, i 1, i 2, i 4, .str [], .str [], .str [], i 0, i 0, i 5, i 9, i 0, .str [], .str [], u 1, i 1, i 3, i 9, .str [], .str [107], .str [108, 97, 115, 116], i 0, i 0, i 10, i 11, i 0, .str [], .str [], u 0, i 1, i 4, i 6, .str [], .str [], .str [], i 0, i 0, i 12, i 0, i 0, .str [], .str [], u 2]
def lU0_1 : List (Nat × O) := [(0, .raw), (1, .kept), (1630, o4), (1632, .cells 141 [.sl 1637 0 1 (.un 115 0 1), i 1]), (1633, o0_51), (1637, .cells 3 [i 1]), (1638, o0_52), (1640, .cells 70 [.ptr 1638 0]), (1658, o0_36), (1693, .cells 9 [.str b0, .str b1]), (1695, .cells 9 [.str b0, .str b1]), (1696, .map [] 0), (1719, o0_53), (1821, o0_43), (1822, o0_44), (1823, o0_45), (1824, .cells 145 [.ptr 1823 0]), (1825, .cells 384 [.sl 1824 0 1 (.ex 1)]), (1911, o0_47), (1923, o0_54), (1974, .chan 1 [.agg [i 2, .str b16]])]
def o0_55 : O := .cells 134 [.sl 1988 0 3 (.un 144 0 1), .sl 1695 0 2 (.un 122 0 1), .map 1696]
def o0_56 : O := .cells 67 [.bool false, .ptr 1630 0, .ptr 1658 0, .ptr 1632 0, .sl 1640 0 1 (.un 116 0 1), i 14]
def o0_57 : O := .cells 149 [i 1, .bool false, .sl 1923 0 4 (.un 137 0 14), .bool true, i 2, .bool true, i 300, .pnil, .pnil, .ptr 1719 0, .ptr 1825 0]
def o0_58 : O := .cells 432 [i 1, i 300, i 8, u 1, i 0, i 0, i 0, i 0, i 2, u 1, .ptr 1823 0, .snil, .chan 1974, u 2, i 2, i 1, i 0, i 0, i 3, .bool true, .inil]
def lU0_2 : List (Nat × O) := [(0, .raw), (1, .kept), (1630, o0_55), (1632, .cells 141 [.sl 1637 0 1 (.un 115 0 1), i 1]), (1633, o0_56), (1637, .cells 3 [i 1]), (1638, o0_57), (1640, .cells 70 [.ptr 1638 0]), (1658, o0_36), (1695, .cells 9 [.str b0, .str b1]), (1696, .map [(i 2, .bool true, 0)] 1), (1719, o0_58), (1821, o0_43), (1822, o0_44), (1823, o0_45), (1824, .cells 145 [.ptr 1823 0]), (1825, .cells 384 [.sl 1824 0 1 (.ex 1)]), (1911, o0_47), (1923, o0_54), (1974, .chan 1 []), (1988, .cells 9 [.str b0, .str b1, .str b16])]
def o0_59 : O := .cells 134 [.sl 1988 0 3 (.un 144 0 1), .sl 2000 0 3 (.un 146 0 1), .map 2001]
def o0_60 : O := .cells 67 [.bool false, .ptr 1630 0, .ptr 1658 0, .ptr 1632 0, .sl 1640 0 1 (.un 116 0 1), i 15]
def o0_61 : O := .cells 149 [i 1, .bool false, .sl 1923 0 4 (.un 137 0 14), .bool true, i 3, .bool true, i 300, .pnil, .pnil, .ptr 1719 0, .ptr 1825 0]
def o0_62 : O := .cells 432 [i 1, i 300, i 9, u 1, i 0, i 0, i 0, i 0, i 2, u 1, .ptr 1823 0, .snil, .chan 1974, u 2, i 2, i 1, i 0, i 0, i 3, .bool true, .inil]
def lU0_3 : List (Nat × O) := [(0, .raw), (1, .kept), (1630, o0_59), (1632, .cells 141 [.sl 1637 0 1 (.un 115 0 1), i 1]), (1633, o0_60), (1637, .cells 3 [i 1]), (1638, o0_61), (1640, .cells 70 [.ptr 1638 0]), (1658, o0_36), (1719, o0_62), (1821, o0_43), (1822, o0_44), (1823, o0_45), (1824, .cells 145 [.ptr 1823 0]), (1825, .cells 384 [.sl 1824 0 1 (.ex 1)]), (1911, o0_47), (1923, o0_54), (1974, .chan 1 []), (1988, .cells 9 [.str b0, .str b1, .str b16]), (2000, .cells 9 [.str b0, .str b1, .str b16]), (2001, .map [] 0)]
def o0_63 : O := .cells 67 [.bool false, .ptr 1630 0, .ptr 1658 0, .ptr 1632 0, .sl 1640 0 1 (.un 116 0 1), i 16]
def o0_64 : O := .cells 149 [i 1, .bool false, .sl 1923 0 4 (.un 137 0 14), .bool true, i 4, .bool true, i 300, .pnil, .pnil, .ptr 1719 0, .ptr 1825 0]
def o0_65 : O := .cells 432 [i 1, i 300, i 10, u 1, i 0, i 0, i 0, i 0, i 2, u 1, .ptr 1823 0, .snil, .chan 1974, u 2, i 2, i 1, i 0, i 0, i 3, .bool true, .inil]
def lU0_4 : List (Nat × O) := [(0, .raw), (1, .kept), (1630, o0_59), (1632, .cells 141 [.sl 1637 0 1 (.un 115 0 1), i 1]), (1633, o0_63), (1637, .cells 3 [i 1]), (1638, o0_64), (1640, .cells 70 [.ptr 1638 0]), (1658, o0_36), (1719, o0_65), (1821, o0_43), (1822, o0_44), (1823, o0_45), (1824, .cells 145 [.ptr 1823 0]), (1825, .cells 384 [.sl 1824 0 1 (.ex 1)]), (1911, o0_47), (1923, o0_54), (1974, .chan 1 []), (1988, .cells 9 [.str b2, .str b1, .str b16]), (2000, .cells 9 [.str b0, .str b1, .str b16]), (2001, .map [(i 0, .bool true, 0)] 1)]
def o0_66 : O := .cells 149 [i 1, .bool false, .sl 1923 0 4 (.un 137 0 14), .bool false, i 5, .bool true, i 300, .pnil, .pnil, .pnil, .pnil]
def o0_67 : O := .cells 77 [i 1, i 1, i 1, .str [], .str [], .str [], i 0, i 300, i 2, i 4, i 0, .str [], .str [], u 0, i 1, i 2, i 4, .str [], .str [], .str [], i 0, i 0, i 5, i 9, i 0, .str [], .str [], u 1, i 1, i 3, i 9, .str [], .str [107], .str [108, 97, 115, 116], i 0, i 0, i 10, i 11, i 0, .str [], .str [], u 0, i 1, i 4, i 6, .str [], .str [], .str [], i 0, i 0, i 12, i 17, i 0, .str [], .str [], u 2]
def lU0_5 : List (Nat × O) := [(0, .raw), (1, .kept), (1630, o0_59), (1632, .cells 141 [.sl 1637 0 1 (.un 115 0 1), i 1]), (1633, o9), (1637, .cells 3 [i 1]), (1638, o0_66), (1640, .cells 70 [.ptr 1638 0]), (1658, o0), (1923, o0_67), (1988, .cells 9 [.str b2, .str b1, .str b16]), (2000, .cells 9 [.str b0, .str b1, .str b16]), (2001, .map [(i 0, .bool true, 0)] 1)]
def o0_68 : O := .cells 67 [.bool false, .ptr 1630 0, .ptr 1658 0, .ptr 1632 0, .sl 1640 0 1 (.un 116 0 1), i 18]
def lU0_6 : List (Nat × O) := [(0, .raw), (1, .kept), (1630, o0_59), (1632, .cells 141 [.sl 1637 0 1 (.un 115 0 1), i 1]), (1633, o0_68), (1637, .cells 3 [i 1]), (1638, o0_66), (1640, .cells 70 [.ptr 1638 0]), (1658, o0), (1923, o0_67), (1988, .cells 9 [.str b2, .str b1, .str b16]), (2000, .cells 9 [.str b0, .str b1, .str b16]), (2001, .map [(i 0, .bool true, 0)] 1)]
def o0_69 : O := .cells 67 [.bool false, .ptr 1630 0, .ptr 1658 0, .ptr 1632 0, .sl 1640 0 1 (.un 116 0 1), i 19]
def lU0_7 : List (Nat × O) := [(0, .raw), (1, .kept), (1630, o0_59), (1632, .cells 141 [.sl 1637 0 1 (.un 115 0 1), i 1]), (1633, o0_69), (1637, .cells 3 [i 1]), (1638, o0_66), (1640, .cells 70 [.ptr 1638 0]), (1658, o0), (1923, o0_67), (1988, .cells 9 [.str b2, .str b1, .str b16]), (2000, .cells 9 [.str b0, .str b1, .str b16]), (2001, .map [(i 0, .bool true, 0)] 1)]
def o0_70 : O := .cells 67 [.bool false, .ptr 1630 0, .ptr 1658 0, .ptr 1632 0, .sl 1640 0 1 (.un 116 0 1), i 20]
def lU0_8 : List (Nat × O) := [(0, .raw), (1, .kept), (1630, o0_59), (1632, .cells 141 [.sl 1637 0 1 (.un 115 0 1), i 1]), (1633, o0_70), (1637, .cells 3 [i 1]), (1638, o0_66), (1640, .cells 70 [.ptr 1638 0]), (1658, o0), (1923, o0_67), (1988, .cells 9 [.str b2, .str b1, .str b16]), (2000, .cells 9 [.str b0, .str b1, .str b16]), (2001, .map [(i 0, .bool true, 0)] 1)]
def o0_71 : O := .cells 67 [.bool false, .ptr 1630 0, .ptr 1658 0, .ptr 1632 0, .sl 1640 0 1 (.un 116 0 1), i 21]
def lU0_9 : List (Nat × O) := [(0, .raw), (1, .kept), (1630, o0_59), (1632, .cells 141 [.sl 1637 0 1 (.un 115 0 1), i 1]), (1633, o0_71), (1637, .cells 3 [i 1]), (1638, o0_66), (1640, .cells 70 [.ptr 1638 0]), (1658, o0), (1923, o0_67), (1988, .cells 9 [.str b2, .str b1, .str b16]), (2000, .cells 9 [.str b0, .str b1, .str b16]), (2001, .map [(i 0, .bool true, 0)] 1)]
def o0_72 : O := .cells 67 [.bool false, .ptr 1630 0, .ptr 1658 0, .ptr 1632 0, .sl 1640 0 1 (.un 116 0 1), i 22]
def lU0_10 : List (Nat × O) := [(0, .raw), (1, .kept), (1630, o0_59), (1632, .cells 141 [.sl 1637 0 1 (.un 115 0 1), i 1]), (1633, o0_72), (1637, .cells 3 [i 1]), (1638, o0_66), (1640, .cells 70 [.ptr 1638 0]), (1658, o0), (1923, o0_67), (1988, .cells 9 [.str b2, .str b1, .str b16]), (2000, .cells 9 [.str b0, .str b1, .str b16]), (2001, .map [(i 0, .bool true, 0)] 1)]
def o0_73 : O := .cells 67 [.bool false, .ptr 1630 0, .ptr 1658 0, .ptr 1632 0, .sl 1640 0 1 (.un 116 0 1), i 23]
def lU0_11 : List (Nat × O) := [(0, .raw), (1, .kept), (1630, o0_59), (1632, .cells 141 [.sl 1637 0 1 (.un 115 0 1), i 1]), (1633, o0_73), (1637, .cells 3 [i 1]), (1638, o0_66), (1640, .cells 70 [.ptr 1638 0]), (1658, o0), (1923, o0_67), (1988, .cells 9 [.str b2, .str b1, .str b16]), (2000, .cells 9 [.str b0, .str b1, .str b16]), (2001, .map [(i 0, .bool true, 0)] 1)]
def LU0 : Nat → List (Nat × O)
  | 0 => lP0
  | 1 => lU0_1
  | 2 => lU0_2
  | 3 => lU0_3
  | 4 => lU0_4
  | 5 => lU0_5
  | 6 => lU0_6
  | 7 => lU0_7
  | 8 => lU0_8
  | 9 => lU0_9
  | 10 => lU0_10
  | _ => lU0_11
def NU0 : Nat → Nat
  | 0 => 1924
  | 1 => 1976
  | 2 => 1989
  | 3 => 2002
  | 4 => 2021
  | 5 => 2032
  | 6 => 2037
  | 7 => 2042
  | 8 => 2047
  | 9 => 2052
  | 10 => 2057
  | _ => 2062
def CU0 : Nat → Nat
  | 0 => 138
  | 1 => 143
  | 2 => 145
  | 3 => 147
  | 4 => 148
  | 5 => 149
  | 6 => 150
  | 7 => 151
  | 8 => 152
  | 9 => 153
  | 10 => 154
  | _ => 155
theorem k_W0 : ckR 115 ⟨vsB, lW0, 1832, 132⟩ .normal ((ev prog X0 4000).code 3 (at3 8) (Sta.tm mk3 115 ⟨vsB, LR 0, NR 0, CR 0⟩) (Sta.h ⟨vsB, LR 0, NR 0, CR 0⟩)) = true := by kernel_rfl
theorem k_Q0 : ckR 115 ⟨vsB, lQ0, 1919, 137⟩ .normal ((ev prog X0 4000).code 3 (at3 9) (Sta.tm mk3 115 ⟨vsB, lW0, 1832, 132⟩) (Sta.h ⟨vsB, lW0, 1832, 132⟩)) = true := by kernel_rfl
theorem k_P0 : ckR 115 ⟨vsB, LU0 0, NU0 0, CU0 0⟩ .normal ((ev prog X0 4000).code 3 (at3 10) (Sta.tm mk3 115 ⟨vsB, lQ0, 1919, 137⟩) (Sta.h ⟨vsB, lQ0, 1919, 137⟩)) = true := by kernel_rfl
theorem k_U0_0 : ckR 115 ⟨vsT 1, LU0 1, NU0 1, CU0 1⟩ .normal ((ev prog X0 4000).code 3 (sq2 LB2) (Sta.tm mk3 115 ⟨vsT 0, LU0 0, NU0 0, CU0 0⟩) (Sta.h ⟨vsT 0, LU0 0, NU0 0, CU0 0⟩)) = true := by kernel_rfl
theorem k_U0_1 : ckR 115 ⟨vsT 2, LU0 2, NU0 2, CU0 2⟩ .normal ((ev prog X0 4000).code 3 (sq2 LB2) (Sta.tm mk3 115 ⟨vsT 1, LU0 1, NU0 1, CU0 1⟩) (Sta.h ⟨vsT 1, LU0 1, NU0 1, CU0 1⟩)) = true := by kernel_rfl
theorem k_U0_2 : ckR 115 ⟨vsT 3, LU0 3, NU0 3, CU0 3⟩ .normal ((ev prog X0 4000).code 3 (sq2 LB2) (Sta.tm mk3 115 ⟨vsT 2, LU0 2, NU0 2, CU0 2⟩) (Sta.h ⟨vsT 2, LU0 2, NU0 2, CU0 2⟩)) = true := by kernel_rfl
theorem k_U0_3 : ckR 115 ⟨vsT 4, LU0 4, NU0 4, CU0 4⟩ .normal ((ev prog X0 4000).code 3 (sq2 LB2) (Sta.tm mk3 115 ⟨vsT 3, LU0 3, NU0 3, CU0 3⟩) (Sta.h ⟨vsT 3, LU0 3, NU0 3, CU0 3⟩)) = true := by kernel_rfl
theorem k_U0_4 : ckR 115 ⟨vsT 5, LU0 5, NU0 5, CU0 5⟩ .normal ((ev prog X0 4000).code 3 (sq2 LB2) (Sta.tm mk3 115 ⟨vsT 4, LU0 4, NU0 4, CU0 4⟩) (Sta.h ⟨vsT 4, LU0 4, NU0 4, CU0 4⟩)) = true := by kernel_rfl
theorem k_U0_5 : ckR 115 ⟨vsT 6, LU0 6, NU0 6, CU0 6⟩ .normal ((ev prog X0 4000).code 3 (sq2 LB2) (Sta.tm mk3 115 ⟨vsT 5, LU0 5, NU0 5, CU0 5⟩) (Sta.h ⟨vsT 5, LU0 5, NU0 5, CU0 5⟩)) = true := by kernel_rfl
theorem k_U0_6 : ckR 115 ⟨vsT 7, LU0 7, NU0 7, CU0 7⟩ .normal ((ev prog X0 4000).code 3 (sq2 LB2) (Sta.tm mk3 115 ⟨vsT 6, LU0 6, NU0 6, CU0 6⟩) (Sta.h ⟨vsT 6, LU0 6, NU0 6, CU0 6⟩)) = true := by kernel_rfl
theorem k_U0_7 : ckR 115 ⟨vsT 8, LU0 8, NU0 8, CU0 8⟩ .normal ((ev prog X0 4000).code 3 (sq2 LB2) (Sta.tm mk3 115 ⟨vsT 7, LU0 7, NU0 7, CU0 7⟩) (Sta.h ⟨vsT 7, LU0 7, NU0 7, CU0 7⟩)) = true := by kernel_rfl
theorem k_U0_8 : ckR 115 ⟨vsT 9, LU0 9, NU0 9, CU0 9⟩ .normal ((ev prog X0 4000).code 3 (sq2 LB2) (Sta.tm mk3 115 ⟨vsT 8, LU0 8, NU0 8, CU0 8⟩) (Sta.h ⟨vsT 8, LU0 8, NU0 8, CU0 8⟩)) = true := by kernel_rfl
theorem k_U0_9 : ckR 115 ⟨vsT 10, LU0 10, NU0 10, CU0 10⟩ .normal ((ev prog X0 4000).code 3 (sq2 LB2) (Sta.tm mk3 115 ⟨vsT 9, LU0 9, NU0 9, CU0 9⟩) (Sta.h ⟨vsT 9, LU0 9, NU0 9, CU0 9⟩)) = true := by kernel_rfl
theorem k_U0_10 : ckR 115 ⟨vsT 11, LU0 11, NU0 11, CU0 11⟩ .normal ((ev prog X0 4000).code 3 (sq2 LB2) (Sta.tm mk3 115 ⟨vsT 10, LU0 10, NU0 10, CU0 10⟩) (Sta.h ⟨vsT 10, LU0 10, NU0 10, CU0 10⟩)) = true := by kernel_rfl
end Go.Ev
namespace Go.Ev
open Go Go.Proofs.Tryz
def sC0_0 : Sta := ⟨.cons 7 (.ptr 2 0) (.cons 8 (i 0) (.cons 11 (.ptr 4 0) (.cons 12 .inil .nil))), [(0, .raw), (1, .kept), (2, .cells 67 [.bool false, .ptr 3 0]), (3, .cells 134 [.sl 5 0 2 (.un 0 0 1)]), (4, .cells 41 [u 1]), (5, .cells 9 [.str b0, .str b1])], 6, 1⟩
theorem k_C0_0 : ckR 115 ⟨.cons 6 (.bool true) .nil, lA, 91, 8⟩ .ret ((ev prog X0 4000).code 3 (sqn 14 B3) (Sta.tm mk3 115 sC0_0) (Sta.h sC0_0)) = true := by kernel_rfl
def sC0_1 : Sta := ⟨.cons 7 (.ptr 2 0) (.cons 8 (i 0) (.cons 11 (.ptr 4 0) (.cons 12 .inil .nil))), [(0, .raw), (1, .kept), (2, .cells 67 [.bool false, .ptr 3 0]), (3, .cells 134 [.sl 5 0 3 (.un 0 0 1)]), (4, .cells 41 [u 1]), (5, .cells 9 [.str b0, .str b1, .str b16])], 6, 1⟩
theorem k_C0_1 : ckR 115 ⟨.cons 6 (.bool true) .nil, lA, 93, 9⟩ .ret ((ev prog X0 4000).code 3 (sqn 14 B3) (Sta.tm mk3 115 sC0_1) (Sta.h sC0_1)) = true := by kernel_rfl
def sC0_2 : Sta := ⟨.cons 7 (.ptr 2 0) (.cons 8 (i 0) (.cons 11 (.ptr 4 0) (.cons 12 .inil .nil))), [(0, .raw), (1, .kept), (2, .cells 67 [.bool false, .ptr 3 0]), (3, .cells 134 [.sl 5 0 3 (.un 0 0 1)]), (4, .cells 41 [u 2]), (5, .cells 9 [.str b0, .str b1, .str b16])], 6, 1⟩
theorem k_C0_2 : ckR 115 ⟨.cons 6 (.bool true) .nil, lA, 93, 9⟩ .ret ((ev prog X0 4000).code 3 (sqn 14 B3) (Sta.tm mk3 115 sC0_2) (Sta.h sC0_2)) = true := by kernel_rfl
def sC0_3 : Sta := ⟨.cons 7 (.ptr 2 0) (.cons 8 (i 0) (.cons 11 (.ptr 4 0) (.cons 12 .inil .nil))), [(0, .raw), (1, .kept), (2, .cells 67 [.bool false, .ptr 3 0]), (3, .cells 134 [.sl 5 0 3 (.un 0 0 1)]), (4, .cells 41 [u 2]), (5, .cells 9 [.str b2, .str b1, .str b16])], 6, 1⟩
theorem k_C0_3 : ckR 115 ⟨.cons 6 (.bool true) .nil, lA, 245, 35⟩ .ret ((ev prog X0 4000).code 3 (sqn 14 B3) (Sta.tm mk3 115 sC0_3) (Sta.h sC0_3)) = true := by kernel_rfl
end Go.Ev
namespace Go.Ev
open Go Go.Proofs.Tryz
def lY0_0 : List (Nat × O) := [(0, .raw), (1, .kept), (1630, o4), (1632, .cells 141 [.sl 1637 0 1 (.un 115 0 1), i 1]), (1633, o0_48), (1637, .cells 3 [i 1]), (1638, o0_49), (1640, .cells 70 [.ptr 1638 0]), (1658, o0_36), (1693, .cells 9 [.str b0, .str b1]), (1695, .cells 9 [.str b0, .str b1]), (1696, .map [] 0), (1719, o0_38), (1821, o0_43), (1822, o0_44), (1823, o0_45), (1824, .cells 145 [.ptr 1823 0]), (1825, .cells 384 [.sl 1824 0 1 (.ex 1)]), (1911, o0_47), (1923, o0_50), (1978, .cells 41 [u 1, i 0, i 0, i 0, i 0, i 2])]
def sY0_0 : Sta := ⟨(.cons 2 (.raw 2) (.cons 7 pm (.cons 8 (i 0) (.cons 11 (.ptr 1978 0) (.cons 12 .inil .nil))))), lY0_0, 1979, 138⟩
theorem k_Y0_0 : ckR 115 sY0_0 .normal ((ev prog X0 4000).code 3 (at3 12) (Sta.tm mk3 115 ⟨vsE 0, LU0 0, NU0 0, CU0 0⟩) (Sta.h ⟨vsE 0, LU0 0, NU0 0, CU0 0⟩)) = true := by kernel_rfl
theorem k_Z0_0_n (t : List Bool) : ckN 115 sC0_0 [0, 1, 1633, 1630, 1978, 1693] [121] ((ev prog (X1 t) 4000).code 3 (at3 13) (Sta.tm mk3 115 sY0_0) (Sta.h sY0_0)) = true := by kernel_rfl
def lY0_1 : List (Nat × O) := [(0, .raw), (1, .kept), (1630, o4), (1632, .cells 141 [.sl 1637 0 1 (.un 115 0 1), i 1]), (1633, o0_51), (1637, .cells 3 [i 1]), (1638, o0_52), (1640, .cells 70 [.ptr 1638 0]), (1658, o0_36), (1693, .cells 9 [.str b0, .str b1]), (1695, .cells 9 [.str b0, .str b1]), (1696, .map [] 0), (1719, o0_53), (1821, o0_43), (1822, o0_44), (1823, o0_45), (1824, .cells 145 [.ptr 1823 0]), (1825, .cells 384 [.sl 1824 0 1 (.ex 1)]), (1911, o0_47), (1923, o0_54), (1974, .chan 1 [.agg [i 2, .str b16]]), (2030, .cells 41 [u 1, i 0, i 0, i 0, i 0, i 2])]
def sY0_1 : Sta := ⟨(.cons 2 (.raw 2) (.cons 7 pm (.cons 8 (i 0) (.cons 11 (.ptr 2030 0) (.cons 12 .inil .nil))))), lY0_1, 2031, 143⟩
theorem k_Y0_1 : ckR 115 sY0_1 .normal ((ev prog X0 4000).code 3 (at3 12) (Sta.tm mk3 115 ⟨vsE 0, LU0 1, NU0 1, CU0 1⟩) (Sta.h ⟨vsE 0, LU0 1, NU0 1, CU0 1⟩)) = true := by kernel_rfl
theorem k_Z0_1_n (t : List Bool) : ckN 115 sC0_0 [0, 1, 1633, 1630, 2030, 1693] [121] ((ev prog (X1 t) 4000).code 3 (at3 13) (Sta.tm mk3 115 sY0_1) (Sta.h sY0_1)) = true := by kernel_rfl
def lY0_2 : List (Nat × O) := [(0, .raw), (1, .kept), (1630, o0_55), (1632, .cells 141 [.sl 1637 0 1 (.un 115 0 1), i 1]), (1633, o0_56), (1637, .cells 3 [i 1]), (1638, o0_57), (1640, .cells 70 [.ptr 1638 0]), (1658, o0_36), (1695, .cells 9 [.str b0, .str b1]), (1696, .map [(i 2, .bool true, 0)] 1), (1719, o0_58), (1821, o0_43), (1822, o0_44), (1823, o0_45), (1824, .cells 145 [.ptr 1823 0]), (1825, .cells 384 [.sl 1824 0 1 (.ex 1)]), (1911, o0_47), (1923, o0_54), (1974, .chan 1 []), (1988, .cells 9 [.str b0, .str b1, .str b16]), (2043, .cells 41 [u 1, i 0, i 0, i 0, i 0, i 2])]
def sY0_2 : Sta := ⟨(.cons 2 (.raw 2) (.cons 7 pm (.cons 8 (i 0) (.cons 11 (.ptr 2043 0) (.cons 12 .inil .nil))))), lY0_2, 2044, 145⟩
theorem k_Y0_2 : ckR 115 sY0_2 .normal ((ev prog X0 4000).code 3 (at3 12) (Sta.tm mk3 115 ⟨vsE 0, LU0 2, NU0 2, CU0 2⟩) (Sta.h ⟨vsE 0, LU0 2, NU0 2, CU0 2⟩)) = true := by kernel_rfl
theorem k_Z0_2_n : ckN 115 sC0_0 [0, 1, 1633, 1630, 2043, 1988] [144] ((ev prog (X1 []) 4000).code 3 (at3 13) (Sta.tm mk3 115 sY0_2) (Sta.h sY0_2)) = true := by kernel_rfl
theorem k_Z0_2_nf (t : List Bool) : ckN 115 sC0_0 [0, 1, 1633, 1630, 2043, 1988] [144] ((ev prog (X1 (false :: t)) 4000).code 3 (at3 13) (Sta.tm mk3 115 sY0_2) (Sta.h sY0_2)) = true := by kernel_rfl
theorem k_Z0_2_nt (t : List Bool) : ckN 115 sC0_1 [0, 1, 1633, 1630, 2043, 1988] [144] ((ev prog (X1 (true :: t)) 4000).code 3 (at3 13) (Sta.tm mk3 115 sY0_2) (Sta.h sY0_2)) = true := by kernel_rfl
def lY0_3 : List (Nat × O) := [(0, .raw), (1, .kept), (1630, o0_59), (1632, .cells 141 [.sl 1637 0 1 (.un 115 0 1), i 1]), (1633, o0_60), (1637, .cells 3 [i 1]), (1638, o0_61), (1640, .cells 70 [.ptr 1638 0]), (1658, o0_36), (1719, o0_62), (1821, o0_43), (1822, o0_44), (1823, o0_45), (1824, .cells 145 [.ptr 1823 0]), (1825, .cells 384 [.sl 1824 0 1 (.ex 1)]), (1911, o0_47), (1923, o0_54), (1974, .chan 1 []), (1988, .cells 9 [.str b0, .str b1, .str b16]), (2000, .cells 9 [.str b0, .str b1, .str b16]), (2001, .map [] 0), (2056, .cells 41 [u 1, i 0, i 0, i 0, i 0, i 2])]
def sY0_3 : Sta := ⟨(.cons 2 (.raw 2) (.cons 7 pm (.cons 8 (i 0) (.cons 11 (.ptr 2056 0) (.cons 12 .inil .nil))))), lY0_3, 2057, 147⟩
theorem k_Y0_3 : ckR 115 sY0_3 .normal ((ev prog X0 4000).code 3 (at3 12) (Sta.tm mk3 115 ⟨vsE 0, LU0 3, NU0 3, CU0 3⟩) (Sta.h ⟨vsE 0, LU0 3, NU0 3, CU0 3⟩)) = true := by kernel_rfl
theorem k_Z0_3_n (t : List Bool) : ckN 115 sC0_1 [0, 1, 1633, 1630, 2056, 1988] [144] ((ev prog (X1 t) 4000).code 3 (at3 13) (Sta.tm mk3 115 sY0_3) (Sta.h sY0_3)) = true := by kernel_rfl
def lY0_4 : List (Nat × O) := [(0, .raw), (1, .kept), (1630, o0_59), (1632, .cells 141 [.sl 1637 0 1 (.un 115 0 1), i 1]), (1633, o0_63), (1637, .cells 3 [i 1]), (1638, o0_64), (1640, .cells 70 [.ptr 1638 0]), (1658, o0_36), (1719, o0_65), (1821, o0_43), (1822, o0_44), (1823, o0_45), (1824, .cells 145 [.ptr 1823 0]), (1825, .cells 384 [.sl 1824 0 1 (.ex 1)]), (1911, o0_47), (1923, o0_54), (1974, .chan 1 []), (1988, .cells 9 [.str b2, .str b1, .str b16]), (2000, .cells 9 [.str b0, .str b1, .str b16]), (2001, .map [(i 0, .bool true, 0)] 1), (2075, .cells 41 [u 2, i 2, i 1, i 0, i 0, i 3])]
def sY0_4 : Sta := ⟨(.cons 2 (.raw 2) (.cons 7 pm (.cons 8 (i 0) (.cons 11 (.ptr 2075 0) (.cons 12 .inil .nil))))), lY0_4, 2076, 148⟩
theorem k_Y0_4 : ckR 115 sY0_4 .normal ((ev prog X0 4000).code 3 (at3 12) (Sta.tm mk3 115 ⟨vsE 0, LU0 4, NU0 4, CU0 4⟩) (Sta.h ⟨vsE 0, LU0 4, NU0 4, CU0 4⟩)) = true := by kernel_rfl
theorem k_Z0_4_n : ckN 115 sC0_2 [0, 1, 1633, 1630, 2075, 1988] [144] ((ev prog (X1 []) 4000).code 3 (at3 13) (Sta.tm mk3 115 sY0_4) (Sta.h sY0_4)) = true := by kernel_rfl
theorem k_Z0_4_nf (t : List Bool) : ckN 115 sC0_2 [0, 1, 1633, 1630, 2075, 1988] [144] ((ev prog (X1 (false :: t)) 4000).code 3 (at3 13) (Sta.tm mk3 115 sY0_4) (Sta.h sY0_4)) = true := by kernel_rfl
theorem k_Z0_4_nt (t : List Bool) : ckN 115 sC0_3 [0, 1, 1633, 1630, 2075, 1988] [144] ((ev prog (X1 (true :: t)) 4000).code 3 (at3 13) (Sta.tm mk3 115 sY0_4) (Sta.h sY0_4)) = true := by kernel_rfl
def lY0_5 : List (Nat × O) := [(0, .raw), (1, .kept), (1630, o0_59), (1632, .cells 141 [.sl 1637 0 1 (.un 115 0 1), i 1]), (1633, o9), (1637, .cells 3 [i 1]), (1638, o0_66), (1640, .cells 70 [.ptr 1638 0]), (1658, o0), (1923, o0_67), (1988, .cells 9 [.str b2, .str b1, .str b16]), (2000, .cells 9 [.str b0, .str b1, .str b16]), (2001, .map [(i 0, .bool true, 0)] 1), (2086, .cells 41 [u 2, i 2, i 1, i 0, i 0, i 3])]
def sY0_5 : Sta := ⟨(.cons 2 (.raw 2) (.cons 7 pm (.cons 8 (i 0) (.cons 11 (.ptr 2086 0) (.cons 12 .inil .nil))))), lY0_5, 2087, 149⟩
theorem k_Y0_5 : ckR 115 sY0_5 .normal ((ev prog X0 4000).code 3 (at3 12) (Sta.tm mk3 115 ⟨vsE 0, LU0 5, NU0 5, CU0 5⟩) (Sta.h ⟨vsE 0, LU0 5, NU0 5, CU0 5⟩)) = true := by kernel_rfl
theorem k_Z0_5_n : ckN 115 sC0_2 [0, 1, 1633, 1630, 2086, 1988] [144] ((ev prog (X1 []) 4000).code 3 (at3 13) (Sta.tm mk3 115 sY0_5) (Sta.h sY0_5)) = true := by kernel_rfl
theorem k_Z0_5_nf (t : List Bool) : ckN 115 sC0_2 [0, 1, 1633, 1630, 2086, 1988] [144] ((ev prog (X1 (false :: t)) 4000).code 3 (at3 13) (Sta.tm mk3 115 sY0_5) (Sta.h sY0_5)) = true := by kernel_rfl
theorem k_Z0_5_nt (t : List Bool) : ckN 115 sC0_3 [0, 1, 1633, 1630, 2086, 1988] [144] ((ev prog (X1 (true :: t)) 4000).code 3 (at3 13) (Sta.tm mk3 115 sY0_5) (Sta.h sY0_5)) = true := by kernel_rfl
def lY0_6 : List (Nat × O) := [(0, .raw), (1, .kept), (1630, o0_59), (1632, .cells 141 [.sl 1637 0 1 (.un 115 0 1), i 1]), (1633, o0_68), (1637, .cells 3 [i 1]), (1638, o0_66), (1640, .cells 70 [.ptr 1638 0]), (1658, o0), (1923, o0_67), (1988, .cells 9 [.str b2, .str b1, .str b16]), (2000, .cells 9 [.str b0, .str b1, .str b16]), (2001, .map [(i 0, .bool true, 0)] 1), (2091, .cells 41 [u 2, i 2, i 1, i 0, i 0, i 3])]
def sY0_6 : Sta := ⟨(.cons 2 (.raw 2) (.cons 7 pm (.cons 8 (i 0) (.cons 11 (.ptr 2091 0) (.cons 12 .inil .nil))))), lY0_6, 2092, 150⟩
theorem k_Y0_6 : ckR 115 sY0_6 .normal ((ev prog X0 4000).code 3 (at3 12) (Sta.tm mk3 115 ⟨vsE 0, LU0 6, NU0 6, CU0 6⟩) (Sta.h ⟨vsE 0, LU0 6, NU0 6, CU0 6⟩)) = true := by kernel_rfl
theorem k_Z0_6_n : ckN 115 sC0_2 [0, 1, 1633, 1630, 2091, 1988] [144] ((ev prog (X1 []) 4000).code 3 (at3 13) (Sta.tm mk3 115 sY0_6) (Sta.h sY0_6)) = true := by kernel_rfl
theorem k_Z0_6_nf (t : List Bool) : ckN 115 sC0_2 [0, 1, 1633, 1630, 2091, 1988] [144] ((ev prog (X1 (false :: t)) 4000).code 3 (at3 13) (Sta.tm mk3 115 sY0_6) (Sta.h sY0_6)) = true := by kernel_rfl
theorem k_Z0_6_nt (t : List Bool) : ckN 115 sC0_3 [0, 1, 1633, 1630, 2091, 1988] [144] ((ev prog (X1 (true :: t)) 4000).code 3 (at3 13) (Sta.tm mk3 115 sY0_6) (Sta.h sY0_6)) = true := by kernel_rfl
def lY0_7 : List (Nat × O) := [(0, .raw), (1, .kept), (1630, o0_59), (1632, .cells 141 [.sl 1637 0 1 (.un 115 0 1), i 1]), (1633, o0_69), (1637, .cells 3 [i 1]), (1638, o0_66), (1640, .cells 70 [.ptr 1638 0]), (1658, o0), (1923, o0_67), (1988, .cells 9 [.str b2, .str b1, .str b16]), (2000, .cells 9 [.str b0, .str b1, .str b16]), (2001, .map [(i 0, .bool true, 0)] 1), (2096, .cells 41 [u 2, i 2, i 1, i 0, i 0, i 3])]
def sY0_7 : Sta := ⟨(.cons 2 (.raw 2) (.cons 7 pm (.cons 8 (i 0) (.cons 11 (.ptr 2096 0) (.cons 12 .inil .nil))))), lY0_7, 2097, 151⟩
theorem k_Y0_7 : ckR 115 sY0_7 .normal ((ev prog X0 4000).code 3 (at3 12) (Sta.tm mk3 115 ⟨vsE 0, LU0 7, NU0 7, CU0 7⟩) (Sta.h ⟨vsE 0, LU0 7, NU0 7, CU0 7⟩)) = true := by kernel_rfl
theorem k_Z0_7_n : ckN 115 sC0_2 [0, 1, 1633, 1630, 2096, 1988] [144] ((ev prog (X1 []) 4000).code 3 (at3 13) (Sta.tm mk3 115 sY0_7) (Sta.h sY0_7)) = true := by kernel_rfl
theorem k_Z0_7_nf (t : List Bool) : ckN 115 sC0_2 [0, 1, 1633, 1630, 2096, 1988] [144] ((ev prog (X1 (false :: t)) 4000).code 3 (at3 13) (Sta.tm mk3 115 sY0_7) (Sta.h sY0_7)) = true := by kernel_rfl
theorem k_Z0_7_nt (t : List Bool) : ckN 115 sC0_3 [0, 1, 1633, 1630, 2096, 1988] [144] ((ev prog (X1 (true :: t)) 4000).code 3 (at3 13) (Sta.tm mk3 115 sY0_7) (Sta.h sY0_7)) = true := by kernel_rfl
def lY0_8 : List (Nat × O) := [(0, .raw), (1, .kept), (1630, o0_59), (1632, .cells 141 [.sl 1637 0 1 (.un 115 0 1), i 1]), (1633, o0_70), (1637, .cells 3 [i 1]), (1638, o0_66), (1640, .cells 70 [.ptr 1638 0]), (1658, o0), (1923, o0_67), (1988, .cells 9 [.str b2, .str b1, .str b16]), (2000, .cells 9 [.str b0, .str b1, .str b16]), (2001, .map [(i 0, .bool true, 0)] 1), (2101, .cells 41 [u 2, i 2, i 1, i 0, i 0, i 3])]
def sY0_8 : Sta := ⟨(.cons 2 (.raw 2) (.cons 7 pm (.cons 8 (i 0) (.cons 11 (.ptr 2101 0) (.cons 12 .inil .nil))))), lY0_8, 2102, 152⟩
theorem k_Y0_8 : ckR 115 sY0_8 .normal ((ev prog X0 4000).code 3 (at3 12) (Sta.tm mk3 115 ⟨vsE 0, LU0 8, NU0 8, CU0 8⟩) (Sta.h ⟨vsE 0, LU0 8, NU0 8, CU0 8⟩)) = true := by kernel_rfl
theorem k_Z0_8_n : ckN 115 sC0_2 [0, 1, 1633, 1630, 2101, 1988] [144] ((ev prog (X1 []) 4000).code 3 (at3 13) (Sta.tm mk3 115 sY0_8) (Sta.h sY0_8)) = true := by kernel_rfl
theorem k_Z0_8_nf (t : List Bool) : ckN 115 sC0_2 [0, 1, 1633, 1630, 2101, 1988] [144] ((ev prog (X1 (false :: t)) 4000).code 3 (at3 13) (Sta.tm mk3 115 sY0_8) (Sta.h sY0_8)) = true := by kernel_rfl
theorem k_Z0_8_nt (t : List Bool) : ckN 115 sC0_3 [0, 1, 1633, 1630, 2101, 1988] [144] ((ev prog (X1 (true :: t)) 4000).code 3 (at3 13) (Sta.tm mk3 115 sY0_8) (Sta.h sY0_8)) = true := by kernel_rfl
def lY0_9 : List (Nat × O) := [(0, .raw), (1, .kept), (1630, o0_59), (1632, .cells 141 [.sl 1637 0 1 (.un 115 0 1), i 1]), (1633, o0_71), (1637, .cells 3 [i 1]), (1638, o0_66), (1640, .cells 70 [.ptr 1638 0]), (1658, o0), (1923, o0_67), (1988, .cells 9 [.str b2, .str b1, .str b16]), (2000, .cells 9 [.str b0, .str b1, .str b16]), (2001, .map [(i 0, .bool true, 0)] 1), (2106, .cells 41 [u 2, i 2, i 1, i 0, i 0, i 3])]
def sY0_9 : Sta := ⟨(.cons 2 (.raw 2) (.cons 7 pm (.cons 8 (i 0) (.cons 11 (.ptr 2106 0) (.cons 12 .inil .nil))))), lY0_9, 2107, 153⟩
theorem k_Y0_9 : ckR 115 sY0_9 .normal ((ev prog X0 4000).code 3 (at3 12) (Sta.tm mk3 115 ⟨vsE 0, LU0 9, NU0 9, CU0 9⟩) (Sta.h ⟨vsE 0, LU0 9, NU0 9, CU0 9⟩)) = true := by kernel_rfl
theorem k_Z0_9_n : ckN 115 sC0_2 [0, 1, 1633, 1630, 2106, 1988] [144] ((ev prog (X1 []) 4000).code 3 (at3 13) (Sta.tm mk3 115 sY0_9) (Sta.h sY0_9)) = true := by kernel_rfl
theorem k_Z0_9_nf (t : List Bool) : ckN 115 sC0_2 [0, 1, 1633, 1630, 2106, 1988] [144] ((ev prog (X1 (false :: t)) 4000).code 3 (at3 13) (Sta.tm mk3 115 sY0_9) (Sta.h sY0_9)) = true := by kernel_rfl
theorem k_Z0_9_nt (t : List Bool) : ckN 115 sC0_3 [0, 1, 1633, 1630, 2106, 1988] [144] ((ev prog (X1 (true :: t)) 4000).code 3 (at3 13) (Sta.tm mk3 115 sY0_9) (Sta.h sY0_9)) = true := by kernel_rfl
def lY0_10 : List (Nat × O) := [(0, .raw), (1, .kept), (1630, o0_59), (1632, .cells 141 [.sl 1637 0 1 (.un 115 0 1), i 1]), (1633, o0_72), (1637, .cells 3 [i 1]), (1638, o0_66), (1640, .cells 70 [.ptr 1638 0]), (1658, o0), (1923, o0_67), (1988, .cells 9 [.str b2, .str b1, .str b16]), (2000, .cells 9 [.str b0, .str b1, .str b16]), (2001, .map [(i 0, .bool true, 0)] 1), (2111, .cells 41 [u 2, i 2, i 1, i 0, i 0, i 3])]
def sY0_10 : Sta := ⟨(.cons 2 (.raw 2) (.cons 7 pm (.cons 8 (i 0) (.cons 11 (.ptr 2111 0) (.cons 12 .inil .nil))))), lY0_10, 2112, 154⟩
theorem k_Y0_10 : ckR 115 sY0_10 .normal ((ev prog X0 4000).code 3 (at3 12) (Sta.tm mk3 115 ⟨vsE 0, LU0 10, NU0 10, CU0 10⟩) (Sta.h ⟨vsE 0, LU0 10, NU0 10, CU0 10⟩)) = true := by kernel_rfl
theorem k_Z0_10_n : ckN 115 sC0_2 [0, 1, 1633, 1630, 2111, 1988] [144] ((ev prog (X1 []) 4000).code 3 (at3 13) (Sta.tm mk3 115 sY0_10) (Sta.h sY0_10)) = true := by kernel_rfl
theorem k_Z0_10_nf (t : List Bool) : ckN 115 sC0_2 [0, 1, 1633, 1630, 2111, 1988] [144] ((ev prog (X1 (false :: t)) 4000).code 3 (at3 13) (Sta.tm mk3 115 sY0_10) (Sta.h sY0_10)) = true := by kernel_rfl
theorem k_Z0_10_nt (t : List Bool) : ckN 115 sC0_3 [0, 1, 1633, 1630, 2111, 1988] [144] ((ev prog (X1 (true :: t)) 4000).code 3 (at3 13) (Sta.tm mk3 115 sY0_10) (Sta.h sY0_10)) = true := by kernel_rfl
def lY0_11 : List (Nat × O) := [(0, .raw), (1, .kept), (1630, o0_59), (1632, .cells 141 [.sl 1637 0 1 (.un 115 0 1), i 1]), (1633, o0_73), (1637, .cells 3 [i 1]), (1638, o0_66), (1640, .cells 70 [.ptr 1638 0]), (1658, o0), (1923, o0_67), (1988, .cells 9 [.str b2, .str b1, .str b16]), (2000, .cells 9 [.str b0, .str b1, .str b16]), (2001, .map [(i 0, .bool true, 0)] 1), (2116, .cells 41 [u 2, i 2, i 1, i 0, i 0, i 3])]
def sY0_11 : Sta := ⟨(.cons 2 (.raw 2) (.cons 7 pm (.cons 8 (i 0) (.cons 11 (.ptr 2116 0) (.cons 12 .inil .nil))))), lY0_11, 2117, 155⟩
theorem k_Y0_11 : ckR 115 sY0_11 .normal ((ev prog X0 4000).code 3 (at3 12) (Sta.tm mk3 115 ⟨vsE 0, LU0 11, NU0 11, CU0 11⟩) (Sta.h ⟨vsE 0, LU0 11, NU0 11, CU0 11⟩)) = true := by kernel_rfl
theorem k_Z0_11_n : ckN 115 sC0_2 [0, 1, 1633, 1630, 2116, 1988] [144] ((ev prog (X1 []) 4000).code 3 (at3 13) (Sta.tm mk3 115 sY0_11) (Sta.h sY0_11)) = true := by kernel_rfl
theorem k_Z0_11_nf (t : List Bool) : ckN 115 sC0_2 [0, 1, 1633, 1630, 2116, 1988] [144] ((ev prog (X1 (false :: t)) 4000).code 3 (at3 13) (Sta.tm mk3 115 sY0_11) (Sta.h sY0_11)) = true := by kernel_rfl
theorem k_Z0_11_nt (t : List Bool) : ckN 115 sC0_3 [0, 1, 1633, 1630, 2116, 1988] [144] ((ev prog (X1 (true :: t)) 4000).code 3 (at3 13) (Sta.tm mk3 115 sY0_11) (Sta.h sY0_11)) = true := by kernel_rfl
end Go.Ev
