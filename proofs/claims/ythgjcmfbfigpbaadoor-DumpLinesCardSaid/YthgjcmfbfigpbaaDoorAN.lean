/- What the engine is told of each function: written by genann.py. -/
import Derived.Test.YthgjcmfbfigpbaaDoorA1
namespace Go.Abs
def an2 : Ann := { keep := [] }
def an3 : Ann := { keep := [], cst := [1] }
def an4 : Ann := { keep := [(2, [1, 6, 7, 8])], cst := [1], frz := [4] }
def an5 : Ann := { keep := [] }
def an6 : Ann := { keep := [(6, [4, 34, 35, 36])], cst := [1], objc := [32], frz := [6] }
def an7 : Ann := { keep := [(5, [1, 4, 5])], cst := [1] }
def an8 : Ann := { keep := [] }
def an9 : Ann := { keep := [(6, [4, 19, 20, 21])], frz := [6] }
def an10 : Ann := { keep := [] }
def an11 : Ann := { keep := [], cst := [3] }
def an12 : Ann := { keep := [] }
def an13 : Ann := { keep := [] }
def an14 : Ann := { keep := [(3, [0, 3, 5])] }
def an15 : Ann := { keep := [] }
def an16 : Ann := { keep := [] }
def an17 : Ann := { keep := [(10, [0, 3, 5]), (16, [0, 3, 5, 6, 7])], cst := [3], frz := [6] }
def an18 : Ann := { keep := [(5, [0, 3, 4])] }
def an19 : Ann := { keep := [(3, [0, 3, 4])] }
def an20 : Ann := { keep := [] }
def an21 : Ann := { keep := [] }
def an22 : Ann := { keep := [(2, [0, 5, 6, 7])], frz := [4] }
def an23 : Ann := { keep := [] }
def an24 : Ann := { keep := [] }
def an25 : Ann := { keep := [] }
def an26 : Ann := { keep := [] }
def an27 : Ann := { keep := [] }
def an28 : Ann := { keep := [] }
def an29 : Ann := { keep := [(3, [0, 3, 5, 15, 16, 17])], cst := [3], frz := [7] }
def an30 : Ann := { keep := [], cst := [2, 3] }
def an31 : Ann := { keep := [(3, [1, 5, 9, 10, 11])], objc := [27] }
def an32 : Ann := { keep := [] }
def an33 : Ann := { keep := [] }
def an34 : Ann := { keep := [] }
def an35 : Ann := { keep := [(12, [0, 1, 5, 39, 40, 41]), (22, [1, 8, 63, 64, 65])] }
def an36 : Ann := { keep := [] }
def an37 : Ann := { keep := [] }
def an38 : Ann := { keep := [(15, [0, 1, 5, 6, 7, 8, 9, 10])] }
def an39 : Ann := { keep := [] }
def an40 : Ann := { keep := [] }
def an41 : Ann := { keep := [(4, [3, 4, 10, 11, 12]), (7, [3, 4, 10, 11, 12, 16, 17, 18])] }
def an42 : Ann := { keep := [(3, [3, 8, 9, 10])] }
def an43 : Ann := { keep := [] }
def an44 : Ann := { keep := [], cst := [1] }
def an45 : Ann := { keep := [(4, [0, 1, 12, 13])] }
def an46 : Ann := { keep := [] }
def an47 : Ann := { keep := [] }
def an48 : Ann := { keep := [] }
def an49 : Ann := { keep := [] }
def an50 : Ann := { keep := [(1, [0, 1, 4])] }
def an51 : Ann := { keep := [(11, [0, 1, 3, 4, 10, 11, 12, 13, 14, 15, 16]), (18, [0, 1, 3, 4, 10, 11, 12, 13, 17])], nilr := [(11, [(10, 5)]), (18, [(10, 5)])] }
def an52 : Ann := { keep := [] }
def an53 : Ann := { keep := [] }
def an55 : Ann := { keep := [] }
def an56 : Ann := { keep := [(5, [0, 1, 5, 6, 7, 8, 9]), (11, [0, 1, 5, 6, 7, 8, 10])] }
def an58 : Ann := { keep := [] }
def an59 : Ann := { keep := [(3, [0, 1, 3])] }
def an60 : Ann := { keep := [] }
def an61 : Ann := { keep := [] }
def an62 : Ann := { keep := [] }
def an63 : Ann := { keep := [] }
def an64 : Ann := { keep := [] }
def an65 : Ann := { keep := [] }
def an66 : Ann := { keep := [] }
def an68 : Ann := { keep := [(3, [0, 4, 5]), (8, [4, 6, 7, 8])] }
def an69 : Ann := { keep := [(2, [0, 4])] }
def an70 : Ann := { keep := [] }
def an71 : Ann := { keep := [] }
def an97 : Ann := { keep := [] }
end Go.Abs
