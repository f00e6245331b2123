/- What the engine is told of each function: written by genann.py. -/
import Derived.Test.YtlagdcbgkfaheaaA1
namespace Go.Abs
def an2 : Ann := { keep := [] }
def an3 : Ann := { keep := [] }
def an4 : Ann := { keep := [] }
def an5 : Ann := { keep := [] }
def an6 : Ann := { keep := [] }
def an7 : Ann := { keep := [] }
def an8 : Ann := { keep := [] }
def an9 : Ann := { keep := [], cst := [3] }
def an10 : Ann := { keep := [], cst := [3, 5], frz := [7, 9] }
def an11 : Ann := { keep := [] }
def an12 : Ann := { keep := [(5, [0, 5, 30, 31, 32]), (19, [0, 5, 12, 14, 106, 107, 108]), (24, [0, 5, 12, 14, 16, 106, 107, 108, 166, 167, 168])], frv := [(29, 27), (70, 5)], own := [27] }
def an13 : Ann := { keep := [] }
def an14 : Ann := { keep := [], cst := [3] }
def an15 : Ann := { keep := [] }
def an16 : Ann := { keep := [] }
def an17 : Ann := { keep := [(3, [5, 10, 11, 12])] }
def an18 : Ann := { keep := [] }
def an19 : Ann := { keep := [] }
def an20 : Ann := { keep := [(3, [1, 5, 6])] }
def an21 : Ann := { keep := [(3, [0, 4, 8, 9])] }
def an22 : Ann := { keep := [(5, [0, 4, 5])] }
def an23 : Ann := { keep := [(3, [0, 3, 5])] }
def an24 : Ann := { keep := [(3, [0, 3, 4])] }
def an25 : Ann := { keep := [] }
def an26 : Ann := { keep := [] }
def an27 : Ann := { keep := [(3, [0, 4, 5])], nilr := [(3, [(4, 5)])] }
def an28 : Ann := { keep := [(5, [0, 3, 4])] }
def an29 : Ann := { keep := [] }
def an30 : Ann := { keep := [(5, [0, 4, 5]), (8, [0, 4, 5, 6, 7])] }
def an31 : Ann := { keep := [(2, [1, 6, 7, 8])], cst := [1] }
def an32 : Ann := { keep := [(2, [0, 5, 6, 7])], frz := [4] }
def an33 : Ann := { keep := [], frz2 := [(12, 4)], frz := [1, 2] }
def an34 : Ann := { keep := [(5, [2, 3, 7, 8, 20, 21])], cst := [3], frz := [7] }
def an35 : Ann := { keep := [(11, [2, 3, 7, 9]), (16, [2, 3, 7, 10])], cst := [3], frz := [7] }
def an36 : Ann := { keep := [(5, [4, 8, 10, 32, 33, 34])], cst := [4] }
def an37 : Ann := { keep := [(5, [1, 4, 8, 10, 11])], cst := [4] }
def an38 : Ann := { keep := [(4, [2, 3, 5])], cst := [2, 3] }
def an39 : Ann := { keep := [(4, [0, 1, 5])] }
def an40 : Ann := { keep := [(3, [3, 6, 7, 8])], nilr := [(3, [(3, 22)])] }
def an41 : Ann := { keep := [(3, [0, 3, 4])], own := [5] }
def an42 : Ann := { keep := [(2, [0, 7, 8, 9]), (7, [0, 7, 8, 9, 24, 25, 26])], frz := [4] }
def an43 : Ann := { keep := [] }
def an44 : Ann := { keep := [] }
def an45 : Ann := { keep := [(4, [0, 3]), (12, [0, 5]), (15, [0, 5, 6])] }
def an46 : Ann := { keep := [(5, [0, 3, 20, 21, 22]), (16, [0, 9, 43, 44, 45]), (19, [0, 9, 43, 44, 45, 50, 51, 52])], frz := [5, 11] }
def an47 : Ann := { keep := [(4, [0, 1, 5])] }
def an48 : Ann := { keep := [(2, [0, 3]), (4, [0, 3, 4, 5]), (8, [0, 3, 4, 5, 6, 7])], own := [8] }
def an49 : Ann := { keep := [(2, [0, 5, 6, 7])], frz := [4] }
def an50 : Ann := { keep := [] }
def an51 : Ann := { keep := [(7, [0, 1, 8, 9, 23, 24, 25])], nilr := [(7, [(9, 116)])], objc := [49], frz := [12] }
def an52 : Ann := { keep := [(7, [0, 1, 6, 8, 9]), (15, [0, 1, 6, 8, 9, 10, 12, 13])], frz := [10], own := [14, 42] }
def an53 : Ann := { keep := [(4, [0, 1, 5])] }
def an54 : Ann := { keep := [], cst := [2] }
def an55 : Ann := { keep := [(2, [3, 4])], cst := [3], frz := [6] }
def an56 : Ann := { keep := [(3, [0, 1, 5, 6])] }
def an57 : Ann := { keep := [(2, [0, 7, 8, 9])] }
def an58 : Ann := { keep := [], cst := [1] }
def an59 : Ann := { keep := [], cst := [1] }
def an60 : Ann := { keep := [], cst := [1] }
def an61 : Ann := { keep := [(3, [0, 3, 5])] }
def an62 : Ann := { keep := [(3, [1, 5, 9, 10, 11])], objc := [27] }
def an63 : Ann := { keep := [] }
def an64 : Ann := { keep := [] }
def an65 : Ann := { keep := [] }
def an66 : Ann := { keep := [] }
def an67 : Ann := { keep := [(2, [1, 6, 7, 8])], cst := [1], frz := [4] }
def an68 : Ann := { keep := [(2, [3, 4, 5])], cst := [3], frz := [7] }
def an69 : Ann := { keep := [] }
def an70 : Ann := { keep := [(2, [0, 1, 4, 6])] }
def an71 : Ann := { keep := [(4, [0, 3, 4, 11, 12]), (7, [0, 3, 4, 5, 11, 12, 14, 15, 16])], nilr := [(4, [(4, 3)]), (7, [(4, 3)])], frz := [7] }
def an72 : Ann := { keep := [(2, [0, 1, 5])] }
def an73 : Ann := { keep := [(4, [1, 3])], cst := [1] }
def an74 : Ann := { keep := [(3, [3, 8, 9, 10])] }
def an75 : Ann := { keep := [] }
def an76 : Ann := { keep := [], cst := [1], objc := [32], own := [25] }
def an77 : Ann := { keep := [(3, [3, 7, 8, 9])], frz := [5] }
def an78 : Ann := { keep := [(2, [0, 1, 5])] }
def an79 : Ann := { keep := [(2, [0, 1, 5])] }
def an80 : Ann := { keep := [(3, [1, 5, 8, 9, 10])], nilr := [(3, [(5, 22)])] }
def an81 : Ann := { keep := [] }
def an82 : Ann := { keep := [], cst := [1] }
def an83 : Ann := { keep := [] }
def an84 : Ann := { keep := [] }
def an85 : Ann := { keep := [(3, [0, 1, 4, 7, 8])] }
def an86 : Ann := { keep := [] }
def an87 : Ann := { keep := [] }
def an88 : Ann := { keep := [] }
def an90 : Ann := { keep := [], cst := [1] }
def an91 : Ann := { keep := [] }
def an92 : Ann := { keep := [], cst := [1] }
def an93 : Ann := { keep := [], cst := [1] }
def an94 : Ann := { keep := [], cst := [1] }
def an95 : Ann := { keep := [(2, [1, 7, 8, 9])], cst := [1], frz := [4] }
def an96 : Ann := { keep := [] }
def an97 : Ann := { keep := [] }
def an98 : Ann := { keep := [] }
def an99 : Ann := { keep := [(2, [0, 1, 5])] }
def an100 : Ann := { keep := [] }
def an101 : Ann := { keep := [] }
def an102 : Ann := { keep := [] }
def an103 : Ann := { keep := [(1, [0, 1, 3])] }
def an104 : Ann := { keep := [] }
def an105 : Ann := { keep := [(1, [0, 1, 3])] }
def an106 : Ann := { keep := [], own := [5] }
def an107 : Ann := { keep := [], cst := [2] }
def an108 : Ann := { keep := [(4, [1, 2, 15, 16, 17])], frz := [8] }
def an109 : Ann := { keep := [(2, [0, 1, 7, 8])] }
end Go.Abs
