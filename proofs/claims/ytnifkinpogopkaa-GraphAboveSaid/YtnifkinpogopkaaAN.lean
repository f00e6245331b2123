/- What the engine is told of each function: written by genann.py. -/
import Derived.Test.YtnifkinpogopkaaA1
namespace Go.Abs
def an2 : Ann := { keep := [] }
def an3 : Ann := { keep := [(5, [0, 3, 13, 14, 15]), (8, [0, 3, 5, 13, 14, 15, 22, 23, 24])], frz := [5, 7] }
def an4 : Ann := { keep := [(6, [0, 5, 6, 43, 44]), (9, [0, 5, 6, 7, 43, 44, 52, 53])], cst := [3], own := [26] }
def an5 : Ann := { keep := [(8, [0, 6, 50, 51, 52]), (13, [0, 6, 8, 9, 50, 51, 52, 68, 69, 70])], frz := [8, 11, 12], own := [35] }
def an6 : Ann := { keep := [], frz := [7, 9] }
def an7 : Ann := { keep := [(6, [1, 3, 5, 7, 8, 9, 43, 44])], cst := [3, 5], nilr := [(6, [(7, 26), (8, 26)])], frz2 := [(101, 16), (108, 17)], frz := [13], own := [102] }
def an8 : Ann := { keep := [(9, [0, 3, 4, 5, 7, 40, 41]), (14, [0, 3, 4, 5, 7, 8, 40, 41, 57, 58, 59]), (20, [0, 4, 7, 69, 70, 71]), (23, [0, 4, 7, 12, 69, 70, 71, 76, 77, 78])], frz := [12] }
def an9 : Ann := { keep := [], cst := [3] }
def an10 : Ann := { keep := [] }
def an11 : Ann := { keep := [(6, [0, 4, 5, 22, 23, 24]), (14, [0, 4, 5, 8, 45, 46, 47]), (17, [0, 4, 5, 8, 10, 45, 46, 47, 54, 55, 56])], frz := [10] }
def an12 : Ann := { keep := [(12, [0, 5, 7, 9, 11, 12, 91, 92]), (20, [0, 5, 7, 9, 11, 12, 13, 14, 91, 92, 152, 153, 154])], cst := [5], frz := [16], own := [44] }
def an13 : Ann := { keep := [(2, [0, 5, 6, 7])], frz := [4] }
def an14 : Ann := { keep := [] }
def an15 : Ann := { keep := [] }
def an16 : Ann := { keep := [(4, [0, 1, 5])] }
def an17 : Ann := { keep := [(3, [0, 3, 4])] }
def an18 : Ann := { keep := [] }
def an19 : Ann := { keep := [] }
def an20 : Ann := { keep := [(2, [1, 6, 7, 8])], cst := [1], frz := [4] }
def an21 : Ann := { keep := [] }
def an22 : Ann := { keep := [(3, [3, 7, 8, 9])], frz := [5] }
def an23 : Ann := { keep := [], cst := [3] }
def an24 : Ann := { keep := [(2, [0, 5, 6, 7])], frz := [4] }
def an25 : Ann := { keep := [(2, [0, 3])] }
def an26 : Ann := { keep := [(2, [3, 4, 5])], cst := [3], frz := [7] }
def an27 : Ann := { keep := [(4, [2, 3, 5])], cst := [2, 3] }
def an28 : Ann := { keep := [(2, [0, 1, 4, 6])] }
def an29 : Ann := { keep := [] }
def an30 : Ann := { keep := [(2, [1, 6, 7, 8])], cst := [1] }
def an31 : Ann := { keep := [], frz2 := [(12, 4)], frz := [1, 2] }
def an32 : Ann := { keep := [(5, [4, 8, 10, 32, 33, 34])], cst := [4] }
def an33 : Ann := { keep := [(5, [2, 3, 7, 8, 20, 21])], cst := [3], frz := [7] }
def an34 : Ann := { keep := [(2, [0, 7, 8, 9]), (7, [0, 7, 8, 9, 24, 25, 26])], frz := [4] }
def an35 : Ann := { keep := [] }
def an36 : Ann := { keep := [(7, [0, 6, 7, 24, 25, 26]), (11, [0, 6, 7, 9, 10, 24, 25, 26, 34, 35, 36]), (21, [7, 76, 77, 78])], nilr := [(7, [(7, 42)]), (11, [(7, 42)]), (21, [(7, 42)])], vec := [14, 81, 82] }
def an37 : Ann := { keep := [(7, [0, 4, 6, 7]), (12, [0, 4, 6, 8, 9]), (15, [0, 4, 6, 8, 9, 10]), (22, [0, 4, 6, 12]), (24, [0, 4, 6, 12, 13, 14]), (28, [0, 4, 6, 12, 13, 14, 15])], own := [17, 24, 122] }
def an38 : Ann := { keep := [(4, [0, 1, 5])] }
def an39 : Ann := { keep := [(5, [0, 1, 8, 17, 18, 19])], nilr := [(5, [(8, 29)])], frz := [10, 11] }
def an40 : Ann := { keep := [] }
def an41 : Ann := { keep := [(3, [0, 3, 5, 6]), (6, [0, 3, 5, 6, 12, 13, 14])], cst := [3], frz := [8] }
def an42 : Ann := { keep := [(3, [0, 1, 5, 6]), (6, [0, 1, 5, 6, 7]), (9, [0, 1, 5, 6, 7, 8]), (16, [5, 10, 11]), (19, [5, 10, 11, 12])], frv := [(10, 61), (102, 10)], own := [86, 61] }
def an43 : Ann := { keep := [] }
def an44 : Ann := { keep := [(2, [0, 5, 6, 7])], frz := [4] }
def an45 : Ann := { keep := [] }
def an46 : Ann := { keep := [(7, [0, 1, 8, 9, 23, 24, 25])], nilr := [(7, [(9, 73)])], objc := [49], frz := [12] }
def an47 : Ann := { keep := [(2, [0, 1, 5])] }
def an48 : Ann := { keep := [(6, [0, 3, 5, 6, 7])], cst := [3], own := [17] }
def an49 : Ann := { keep := [], cst := [3] }
def an50 : Ann := { keep := [(3, [0, 3, 9]), (9, [0, 5, 20, 21, 22])], nilr := [(3, [(3, 9)]), (9, [(5, 29)])], vec := [3, 17, 18] }
def an51 : Ann := { keep := [], keepRes := true, own := [5] }
def an52 : Ann := { keep := [(2, [0, 1, 5])] }
def an53 : Ann := { keep := [], cst := [1] }
def an54 : Ann := { keep := [] }
def an55 : Ann := { keep := [(4, [1, 2, 15, 16, 17])], frz := [8, 9] }
def an56 : Ann := { keep := [], cst := [2, 3] }
def an57 : Ann := { keep := [] }
def an58 : Ann := { keep := [] }
def an59 : Ann := { keep := [] }
def an60 : Ann := { keep := [(4, [0, 3]), (12, [0, 5]), (15, [0, 5, 6])] }
def an61 : Ann := { keep := [(2, [0, 3]), (4, [0, 3, 4, 5]), (8, [0, 3, 4, 5, 6, 7])], own := [8] }
def an62 : Ann := { keep := [(2, [0, 1, 5])] }
def an63 : Ann := { keep := [] }
def an64 : Ann := { keep := [(7, [0, 1, 5, 6, 8, 23, 24])], cst := [5] }
def an65 : Ann := { keep := [(4, [0, 1, 5])] }
def an66 : Ann := { keep := [] }
def an67 : Ann := { keep := [] }
def an68 : Ann := { keep := [], vec := [3, 5, 6] }
def an69 : Ann := { keep := [] }
def an70 : Ann := { keep := [], own := [10] }
def an71 : Ann := { keep := [(5, [0, 3, 20, 21, 22]), (16, [0, 9, 43, 44, 45]), (19, [0, 9, 43, 44, 45, 50, 51, 52])], frz := [5, 11] }
def an72 : Ann := { keep := [(4, [0, 3, 4, 11, 12]), (7, [0, 3, 4, 5, 11, 12, 14, 15, 16])], nilr := [(4, [(4, 3)]), (7, [(4, 3)])], frz := [7] }
def an73 : Ann := { keep := [(4, [0, 1, 5])] }
def an74 : Ann := { keep := [(3, [1, 5, 6])] }
def an75 : Ann := { keep := [(2, [3, 4])], cst := [3], frz := [6] }
def an76 : Ann := { keep := [], cst := [2] }
def an77 : Ann := { keep := [(3, [1, 5, 8, 9, 10])], nilr := [(3, [(5, 26)])] }
def an78 : Ann := { keep := [] }
def an79 : Ann := { keep := [(1, [0, 1, 3])] }
def an80 : Ann := { keep := [], own := [5] }
def an81 : Ann := { keep := [], cst := [1] }
def an82 : Ann := { keep := [(4, [0, 1, 12, 13])] }
def an83 : Ann := { keep := [(2, [0, 7, 8, 9])] }
def an84 : Ann := { keep := [], cst := [1] }
def an85 : Ann := { keep := [], cst := [1] }
def an86 : Ann := { keep := [], cst := [1] }
def an87 : Ann := { keep := [], cst := [1] }
def an88 : Ann := { keep := [], cst := [1] }
def an89 : Ann := { keep := [(2, [1, 7, 8, 9])], cst := [1], frz := [4] }
def an90 : Ann := { keep := [(2, [0, 1, 2, 3, 8, 9])] }
def an91 : Ann := { keep := [] }
def an92 : Ann := { keep := [(4, [1, 3])], cst := [1] }
def an93 : Ann := { keep := [(2, [0, 1, 5])] }
def an94 : Ann := { keep := [], cst := [3] }
def an95 : Ann := { keep := [] }
def an96 : Ann := { keep := [(2, [0, 1, 7, 8])] }
def an97 : Ann := { keep := [] }
def an98 : Ann := { keep := [(1, [0, 5])] }
def an99 : Ann := { keep := [(3, [3, 8, 9, 10])] }
def an100 : Ann := { keep := [] }
def an101 : Ann := { keep := [], cst := [1], objc := [32], own := [25] }
def an102 : Ann := { keep := [(3, [3, 7, 8, 9])], frz := [5] }
def an103 : Ann := { keep := [] }
def an104 : Ann := { keep := [] }
def an105 : Ann := { keep := [], cst := [1] }
def an106 : Ann := { keep := [(3, [5, 10, 11, 12])] }
def an107 : Ann := { keep := [] }
def an108 : Ann := { keep := [] }
def an109 : Ann := { keep := [], cst := [2] }
def an110 : Ann := { keep := [(4, [1, 2, 15, 16, 17])], frz := [8] }
def an111 : Ann := { keep := [(1, [0, 1, 2, 6]), (4, [0, 1, 2, 6, 7])] }
def an112 : Ann := { keep := [(4, [0, 6, 7, 8, 9]), (8, [0, 6, 7, 10])] }
def an113 : Ann := { keep := [(5, [0, 1, 6, 7, 8, 9])] }
def an114 : Ann := { keep := [] }
def an115 : Ann := { keep := [(2, [0, 6, 7])] }
def an116 : Ann := { keep := [(3, [0, 1, 2, 7, 8]), (5, [0, 1, 2, 7, 8]), (14, [0, 1, 2, 7, 8, 9]), (20, [0, 1, 2, 7, 8, 10])] }
def an117 : Ann := { keep := [] }
def an118 : Ann := { keep := [(3, [0, 1, 9, 10]), (5, [0, 1, 9, 10])] }
def an119 : Ann := { keep := [(3, [0, 1, 10, 11]), (5, [0, 1, 10, 11]), (13, [0, 1, 10, 11]), (15, [0, 1, 10, 11])] }
def an120 : Ann := { keep := [] }
def an121 : Ann := { keep := [] }
def an122 : Ann := { keep := [] }
def an123 : Ann := { keep := [] }
def an124 : Ann := { keep := [(3, [0, 3, 5, 15, 16, 17])], cst := [3], frz := [7] }
def an125 : Ann := { keep := [] }
def an126 : Ann := { keep := [] }
def an127 : Ann := { keep := [(2, [2])] }
def an128 : Ann := { keep := [] }
def an129 : Ann := { keep := [] }
def an130 : Ann := { keep := [(1, [0, 1, 3])] }
def an131 : Ann := { keep := [(1, [0, 2, 3, 8])] }
def an132 : Ann := { keep := [] }
def an133 : Ann := { keep := [] }
def an134 : Ann := { keep := [] }
def an135 : Ann := { keep := [] }
def an136 : Ann := { keep := [] }
def an137 : Ann := { keep := [] }
end Go.Abs
