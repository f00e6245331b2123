/- What the engine is told of each function: written by genann.py. -/
import Derived.Test.YtpkocgpcdddleaaGreatA1
namespace Go.Abs
def an2 : Ann := {  }
def an3 : Ann := { cst := [2], frz := [7] }
def an4 : Ann := {  }
def an5 : Ann := {  }
def an6 : Ann := { keep := [(7, [6, 7, 8, 10, 35, 36, 37])], frz := [13] }
def an7 : Ann := { cst := [6, 7] }
def an8 : Ann := { keep := [(3, [3, 10, 11, 12])], nilr := [(3, [(3, 64)])], frz := [5] }
def an9 : Ann := { keep := [(2, [0, 7, 8, 9]), (7, [0, 7, 8, 9, 24, 25, 26])], frz := [4] }
def an10 : Ann := { keep := [(2, [0, 5, 6, 7])], frz := [4] }
def an11 : Ann := { keep := [(7, [0, 6, 7, 24, 25, 26]), (11, [0, 6, 7, 9, 10, 24, 25, 26, 34, 35, 36]), (21, [7, 76, 77, 78])], nilr := [(7, [(7, 52)]), (11, [(7, 52)]), (21, [(7, 52)])], vec := [14, 81, 82] }
def an12 : Ann := { keep := [(4, [0, 1, 5])] }
def an13 : Ann := {  }
def an14 : Ann := { cst := [53], frz := [9] }
def an15 : Ann := { cst := [2], frz := [8] }
def an16 : Ann := {  }
def an17 : Ann := { cst := [3] }
def an18 : Ann := { cst := [2, 3] }
def an19 : Ann := {  }
def an20 : Ann := {  }
def an21 : Ann := {  }
def an22 : Ann := {  }
def an23 : Ann := { keep := [(4, [0, 5, 6, 7, 8, 15, 16]), (9, [0, 6, 7, 8, 9, 10])], cst := [5], frz := [12] }
def an24 : Ann := { cst := [5] }
def an25 : Ann := { cst := [5, 9], frz2 := [(69, 11)], frz := [13] }
def an26 : Ann := { keep := [(4, [0, 1, 8, 9, 15, 16, 17])], nilr := [(4, [(8, 84)])] }
def an27 : Ann := {  }
def an28 : Ann := {  }
def an29 : Ann := {  }
def an30 : Ann := {  }
def an31 : Ann := {  }
def an32 : Ann := { cst := [3] }
def an33 : Ann := { chg := [34, 40], cst := [6, 7], objc := [29] }
def an34 : Ann := { frz := [8] }
def an35 : Ann := { keep := [(2, [1, 2, 4, 6])], cst := [2] }
def an36 : Ann := { cst := [2], frz := [6] }
def an37 : Ann := { frz := [15] }
def an38 : Ann := { frz := [7, 9] }
def an39 : Ann := { cst := [3] }
def an40 : Ann := { cst := [3], objc := [17] }
def an41 : Ann := { keep := [(10, [0, 3, 5]), (16, [0, 3, 5, 6, 7])], cst := [3], frz := [6] }
def an42 : Ann := { cst := [3], frz := [6, 7] }
def an43 : Ann := { keep := [(5, [0, 3, 20, 21, 22]), (16, [0, 9, 43, 44, 45]), (19, [0, 9, 43, 44, 45, 50, 51, 52])], frz := [5, 11] }
def an44 : Ann := { keep := [(4, [0, 3, 4, 11, 12]), (7, [0, 3, 4, 5, 11, 12, 14, 15, 16])], nilr := [(4, [(4, 3)]), (7, [(4, 3)])], frz := [7] }
def an45 : Ann := { keep := [(3, [3, 7, 8, 9])], frz := [5] }
def an46 : Ann := { keep := [(32, [0, 8])] }
def an47 : Ann := { keep := [(2, [2, 3, 5])], objc := [12], frz := [4] }
def an48 : Ann := {  }
def an49 : Ann := { keep := [(3, [1, 2, 4, 15, 16, 17]), (8, [1, 2, 4, 5, 7, 8, 15, 16, 17, 31, 32, 33])], cst := [1] }
def an50 : Ann := { keep := [(1, [0])] }
def an51 : Ann := { keep := [(2, [3, 4])], cst := [3], frz := [6] }
def an52 : Ann := { keep := [(3, [3, 6, 7, 8])], nilr := [(3, [(3, 24)])] }
def an53 : Ann := { keep := [(5, [2, 3, 7, 8, 20, 21])], cst := [3], frz := [7] }
def an54 : Ann := { keep := [(2, [3, 4, 5])], cst := [3], frz := [7] }
def an55 : Ann := { chg := [9] }
def an56 : Ann := { cst := [2] }
def an57 : Ann := { keep := [(5, [4, 8, 10, 32, 33, 34])], cst := [4] }
def an58 : Ann := { objc := [15, 16] }
def an59 : Ann := { own := [5] }
def an60 : Ann := { keep := [(2, [0, 1, 2, 3, 8, 9])] }
def an61 : Ann := {  }
def an62 : Ann := { vec := [3, 5, 6] }
def an63 : Ann := {  }
def an64 : Ann := { keep := [(2, [0, 1, 7, 8])] }
def an65 : Ann := { frz := [5] }
def an66 : Ann := {  }
def an67 : Ann := {  }
def an68 : Ann := { keep := [(6, [0, 6, 8, 24, 25, 26]), (12, [0, 6, 8, 24, 25, 26, 40, 41, 42])], frz := [10] }
def an69 : Ann := {  }
def an70 : Ann := {  }
def an71 : Ann := { cst := [4] }
def an72 : Ann := {  }
def an73 : Ann := { cst := [3] }
def an74 : Ann := {  }
def an75 : Ann := { cst := [4, 5] }
def an76 : Ann := { keep := [(2, [6, 7, 8])] }
def an77 : Ann := { frz := [6] }
def an78 : Ann := { keep := [(7, [2, 6, 8])], anyo := [10], frz := [8, 9] }
def an79 : Ann := { cst := [4, 5] }
def an80 : Ann := { cst := [3, 4], frz2 := [(52, 10)] }
def an81 : Ann := { keep := [(3, [1, 2, 4, 5, 6])], own := [7] }
def an82 : Ann := { keep := [(7, [0, 1, 7, 9, 10, 11]), (14, [0, 1, 7, 9, 10, 11, 12, 15])], own := [23] }
def an83 : Ann := { cst := [3], frz2 := [(23, 8)] }
def an84 : Ann := { cst := [2], frz2 := [(23, 6)] }
def an85 : Ann := { cst := [3], frz2 := [(23, 8)] }
def an86 : Ann := { keep := [(8, [2, 4, 6, 7, 8, 9, 10])], frz := [11] }
def an87 : Ann := { cst := [3], frz2 := [(42, 8)] }
def an88 : Ann := {  }
def an89 : Ann := { keep := [(3, [0, 3, 5, 15, 16, 17])], cst := [3], frz := [7] }
def an90 : Ann := { cst := [2, 3] }
def an91 : Ann := { cst := [7] }
def an92 : Ann := {  }
def an93 : Ann := {  }
def an94 : Ann := { keep := [(6, [1, 4, 6, 7, 8, 9, 11, 13]), (16, [1, 4, 6, 7, 8, 9, 14, 16, 17])], cst := [7], own := [105, 113] }
def an95 : Ann := { keep := [(3, [3, 8, 9, 10])] }
def an96 : Ann := {  }
def an97 : Ann := { cst := [1], objc := [32], own := [25] }
def an98 : Ann := { keep := [(3, [3, 7, 8, 9])], frz := [5] }
def an99 : Ann := {  }
def an100 : Ann := {  }
def an101 : Ann := { cst := [3] }
def an102 : Ann := { keep := [(3, [0, 3, 9]), (9, [0, 5, 20, 21, 22])], nilr := [(3, [(3, 9)]), (9, [(5, 64)])], vec := [3, 17, 18] }
def an109 : Ann := {  }
def an110 : Ann := {  }
def an112 : Ann := {  }
def an113 : Ann := {  }
def an116 : Ann := { frz := [4] }
def an117 : Ann := {  }
def an118 : Ann := { own := [5] }
def an121 : Ann := {  }
def an124 : Ann := { cst := [1] }
def an125 : Ann := { chg := [10] }
def an126 : Ann := {  }
def an127 : Ann := { cst := [1] }
def an128 : Ann := { keep := [(2, [0, 7, 8, 9])] }
def an129 : Ann := { cst := [1] }
def an130 : Ann := { keep := [(3, [0, 3, 5])] }
def an131 : Ann := { keep := [(3, [5, 10, 11, 12])] }
def an132 : Ann := { keep := [(1, [0, 1, 2, 6]), (4, [0, 1, 2, 6, 7])] }
def an133 : Ann := { keep := [(4, [0, 6, 7, 8, 9]), (8, [0, 6, 7, 10])] }
def an134 : Ann := { keep := [(5, [0, 1, 6, 7, 8, 9])] }
def an135 : Ann := {  }
def an136 : Ann := { keep := [(2, [0, 6, 7])] }
def an137 : Ann := { keep := [(3, [0, 1, 2, 7, 8]), (5, [0, 1, 2, 7, 8]), (14, [0, 1, 2, 7, 8, 9]), (20, [0, 1, 2, 7, 8, 10])] }
def an138 : Ann := {  }
def an139 : Ann := { keep := [(3, [0, 1, 9, 10]), (5, [0, 1, 9, 10])] }
def an140 : Ann := { keep := [(3, [0, 1, 10, 11]), (5, [0, 1, 10, 11]), (13, [0, 1, 10, 11]), (15, [0, 1, 10, 11])] }
def an141 : Ann := {  }
def an142 : Ann := {  }
def an143 : Ann := {  }
def an144 : Ann := { keep := [(1, [0, 5])] }
def an145 : Ann := {  }
def an146 : Ann := {  }
def an147 : Ann := { keep := [(8, [0, 1, 5, 8, 28, 29, 30])], cst := [5], nilr := [(8, [(8, 151)])], own := [42] }
def an148 : Ann := {  }
def an149 : Ann := { own := [5] }
def an150 : Ann := { frz2 := [(15, 3)] }
def an151 : Ann := { keep := [(3, [0, 3, 9, 10, 11]), (11, [6, 25, 26, 27])] }
def an152 : Ann := {  }
def an153 : Ann := {  }
def an154 : Ann := {  }
def an155 : Ann := { keep := [(2, [4, 5])], anyo := [4, 5] }
def an156 : Ann := { cst := [2, 3] }
def an157 : Ann := {  }
def an158 : Ann := {  }
def an159 : Ann := { keep := [(9, [0, 1, 5, 9, 10, 11]), (18, [0, 1, 5, 9, 12, 13])], cst := [5], frz := [14], own := [16] }
def an160 : Ann := {  }
def an161 : Ann := { keep := [(3, [2, 3, 4, 5])], cst := [3], own := [30] }
def an162 : Ann := {  }
def an163 : Ann := { keep := [(2, [0, 1, 6, 7])], own := [11, 12] }
def an164 : Ann := { keep := [(8, [0, 1, 2, 3, 8, 12, 13, 14]), (19, [1, 2, 3, 8, 12, 13, 15, 17, 18, 20])], frz := [12, 15] }
def an165 : Ann := { cst := [1] }
def an166 : Ann := { keep := [(4, [0, 1, 12, 13])] }
def an167 : Ann := { keep := [(3, [1, 4, 11, 12, 13])], cst := [1], frz := [6] }
def an168 : Ann := { keep := [(4, [9, 10, 20, 21, 22])], cst := [5] }
def an169 : Ann := { keepRes := true, own := [5] }
def an170 : Ann := {  }
def an171 : Ann := {  }
def an172 : Ann := { keep := [(2, [0, 1, 7, 8])] }
def an178 : Ann := { keep := [(1, [0, 1, 3])] }
def an179 : Ann := { cst := [1] }
def an180 : Ann := { cst := [1] }
def an181 : Ann := { cst := [1] }
def an182 : Ann := { cst := [1] }
def an183 : Ann := { cst := [1] }
def an184 : Ann := { keep := [(2, [1, 7, 8, 9])], cst := [1], frz := [4] }
def an185 : Ann := { keep := [(1, [0, 1, 3])] }
def an186 : Ann := { keep := [(3, [0, 1, 4, 7, 8])] }
def an187 : Ann := { keep := [(1, [0, 2, 3, 8])] }
def an188 : Ann := {  }
def an189 : Ann := {  }
def an190 : Ann := {  }
def an191 : Ann := {  }
def an192 : Ann := {  }
def an193 : Ann := { keep := [(2, [2])] }
def an194 : Ann := {  }
def an195 : Ann := {  }
def an196 : Ann := {  }
def an197 : Ann := { keep := [(3, [1, 3, 15, 16, 17]), (12, [6, 7, 38, 39])], cst := [1], nilr := [(12, [(7, 9)])], frz := [5], own := [13] }
def an198 : Ann := { keep := [(11, [0, 1, 5, 7, 45, 46, 47])], cst := [5], frz := [9] }
def an199 : Ann := {  }
def an200 : Ann := {  }
def an201 : Ann := {  }
def an202 : Ann := { cst := [2] }
def an203 : Ann := { keep := [(1, [0, 1, 2, 4, 5])], frz := [6] }
def an204 : Ann := { keep := [(7, [0, 1, 2, 3, 8, 9, 11])] }
def an205 : Ann := {  }
def an206 : Ann := { keep := [(3, [0, 3, 4]), (6, [0, 3, 4, 5])] }
def an207 : Ann := { keep := [(3, [1, 3, 4])], cst := [1], own := [7] }
def an208 : Ann := { keep := [(2, [0, 1, 5])] }
def an209 : Ann := { own := [10] }
def an210 : Ann := {  }
def an211 : Ann := {  }
def an212 : Ann := {  }
def an213 : Ann := { keep := [(2, [0, 1, 5])] }
def an214 : Ann := {  }
def an215 : Ann := { frz2 := [(8, 8), (94, 9)] }
def an216 : Ann := {  }
def an217 : Ann := {  }
def an218 : Ann := { cst := [2] }
def an219 : Ann := { keep := [(4, [1, 2, 15, 16, 17])], frz := [8] }
def an220 : Ann := {  }
def an221 : Ann := {  }
def an222 : Ann := { keep := [(4, [3, 4, 10, 11, 12]), (7, [3, 4, 10, 11, 12, 16, 17, 18])] }
def an223 : Ann := {  }
def an224 : Ann := {  }
def an225 : Ann := {  }
def an226 : Ann := {  }
def an227 : Ann := { cst := [6], objc := [23] }
def an228 : Ann := {  }
def an229 : Ann := { keep := [(3, [5, 10, 11, 12])] }
def an230 : Ann := { keep := [(5, [0, 1, 6, 7])] }
def an231 : Ann := { keep := [(0, [0, 1, 2])] }
def an232 : Ann := {  }
def an233 : Ann := {  }
def an234 : Ann := {  }
def an235 : Ann := { keep := [(10, [1, 2, 4, 5, 6])], frz2 := [(51, 7)] }
def an236 : Ann := { keep := [(4, [1, 2, 15, 16, 17])] }
def an237 : Ann := {  }
def an238 : Ann := { keep := [(3, [0, 3, 4])] }
def an239 : Ann := {  }
def an240 : Ann := {  }
def an241 : Ann := {  }
def an242 : Ann := { keep := [(3, [1, 2, 3, 7, 8, 9])], frz2 := [(55, 10)], own := [12] }
def an243 : Ann := {  }
def an244 : Ann := { keep := [(3, [0, 1, 3])] }
def an245 : Ann := {  }
def an246 : Ann := { keep := [(3, [5])] }
def an247 : Ann := {  }
def an248 : Ann := { objc := [6, 7], anyo := [1] }
def an249 : Ann := {  }
def an250 : Ann := {  }
def an251 : Ann := {  }
def an252 : Ann := {  }
def an253 : Ann := {  }
def an254 : Ann := {  }
def an255 : Ann := { keep := [(5, [0, 1, 7, 8, 9])] }
def an256 : Ann := { keep := [(2, [0, 4])] }
def an257 : Ann := {  }
def an258 : Ann := { keep := [(4, [0, 1, 4, 17])] }
def an259 : Ann := { cst := [3] }
def an260 : Ann := { objc := [25] }
def an261 : Ann := {  }
def an262 : Ann := { objc := [25] }
def an263 : Ann := {  }
def an264 : Ann := { keep := [(0, [0, 1])] }
def an265 : Ann := { objc := [25] }
def an266 : Ann := {  }
end Go.Abs
