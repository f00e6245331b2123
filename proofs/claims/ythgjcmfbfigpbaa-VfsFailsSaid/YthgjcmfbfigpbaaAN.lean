/- What the engine is told of each function: written by genann.py. -/
import Derived.Test.YthgjcmfbfigpbaaA1
namespace Go.Abs
def an2 : Ann := { keep := [] }
def an3 : Ann := { keep := [(7, [1, 5, 28, 29, 30]), (19, [5, 8, 56, 57, 58])], objc := [115], frz := [7] }
def an4 : Ann := { keep := [(11, [1, 2, 7, 8, 31, 32, 33])], frz := [10] }
def an5 : Ann := { keep := [(4, [8, 9, 10])], frz := [4] }
def an6 : Ann := { keep := [], own := [8, 14] }
def an7 : Ann := { keep := [] }
def an8 : Ann := { keep := [], cst := [3] }
def an9 : Ann := { keep := [] }
def an10 : Ann := { keep := [(1, [0, 1, 10, 11, 12])], frz := [6] }
def an11 : Ann := { keep := [] }
def an12 : Ann := { keep := [(4, [0, 1, 5])] }
def an13 : Ann := { keep := [] }
def an14 : Ann := { keep := [], frz := [6] }
def an15 : Ann := { keep := [] }
def an16 : Ann := { keep := [] }
def an17 : Ann := { keep := [] }
def an18 : Ann := { keep := [(4, [0, 1, 18, 19, 20])] }
def an19 : Ann := { keep := [], cst := [4] }
def an20 : Ann := { keep := [], cst := [3] }
def an21 : Ann := { keep := [], cst := [4, 5] }
def an22 : Ann := { keep := [], cst := [4, 5] }
def an23 : Ann := { keep := [], cst := [3] }
def an24 : Ann := { keep := [] }
def an25 : Ann := { keep := [], vec := [3, 5, 6] }
def an26 : Ann := { keep := [] }
def an27 : Ann := { keep := [], own := [5] }
def an28 : Ann := { keep := [] }
def an29 : Ann := { keep := [], frz2 := [(15, 3)] }
def an30 : Ann := { keep := [(3, [0, 3, 9, 10, 11]), (11, [6, 25, 26, 27])] }
def an31 : Ann := { keep := [], frz := [5] }
def an32 : Ann := { keep := [] }
def an33 : Ann := { keep := [] }
def an34 : Ann := { keep := [] }
def an35 : Ann := { keep := [] }
def an37 : Ann := { keep := [] }
def an38 : Ann := { keep := [] }
def an39 : Ann := { keep := [(1, [0, 5])] }
def an40 : Ann := { keep := [] }
def an41 : Ann := { keep := [] }
def an42 : Ann := { keep := [(2, [2])] }
def an43 : Ann := { keep := [(2, [0, 1, 2, 3, 8, 9])] }
def an44 : Ann := { keep := [] }
def an45 : Ann := { keep := [(1, [0, 1, 2, 6]), (4, [0, 1, 2, 6, 7])] }
def an46 : Ann := { keep := [(4, [0, 6, 7, 8, 9]), (8, [0, 6, 7, 10])] }
def an47 : Ann := { keep := [(5, [0, 1, 6, 7, 8, 9])] }
def an48 : Ann := { keep := [] }
def an49 : Ann := { keep := [(2, [0, 6, 7])] }
def an50 : Ann := { keep := [(3, [0, 1, 2, 7, 8]), (5, [0, 1, 2, 7, 8]), (14, [0, 1, 2, 7, 8, 9]), (20, [0, 1, 2, 7, 8, 10])] }
def an51 : Ann := { keep := [] }
def an52 : Ann := { keep := [(3, [0, 1, 9, 10]), (5, [0, 1, 9, 10])] }
def an53 : Ann := { keep := [(3, [0, 1, 10, 11]), (5, [0, 1, 10, 11]), (13, [0, 1, 10, 11]), (15, [0, 1, 10, 11])] }
def an54 : Ann := { keep := [] }
def an55 : Ann := { keep := [] }
def an56 : Ann := { keep := [(1, [0, 2, 3, 8])] }
def an57 : Ann := { keep := [] }
def an58 : Ann := { keep := [] }
def an59 : Ann := { keep := [] }
def an60 : Ann := { keep := [] }
def an61 : Ann := { keep := [] }
def an62 : Ann := { keep := [] }
end Go.Abs
