/- What the engine is told of each function: written by genann.py. -/
import Derived.Test.YteholccmcgbelaaGreatA1
namespace Go.Abs
def an2 : Ann := {  }
def an3 : Ann := { cst := [5], objc := [32, 74, 78, 88, 94, 98], frz := [11] }
def an4 : Ann := { keep := [(11, [2, 7, 8, 10, 53, 54, 55])], cst := [4], frz := [12, 13] }
def an5 : Ann := { cst := [4], frz := [9] }
def an6 : Ann := { frz := [11, 14] }
def an7 : Ann := { cst := [4], frz := [11] }
def an8 : Ann := { keep := [(2, [0, 5, 6, 7])], frz := [4] }
def an9 : Ann := {  }
def an10 : Ann := { keep := [(7, [6, 7, 8, 10, 35, 36, 37])], frz := [13] }
def an11 : Ann := {  }
def an12 : Ann := { cst := [2] }
def an13 : Ann := {  }
def an14 : Ann := {  }
def an15 : Ann := {  }
def an16 : Ann := { cst := [1] }
def an17 : Ann := { keep := [(4, [0, 3, 30, 31, 32]), (11, [0, 3, 7, 30, 31, 32, 66, 67])], cst := [3], objc := [17, 23, 60], frz := [9, 14] }
def an18 : Ann := { keep := [(4, [0, 1, 5])] }
def an19 : Ann := { keep := [(3, [3, 10, 11, 12])], nilr := [(3, [(3, 67)])], frz := [5] }
def an20 : Ann := {  }
def an21 : Ann := { keep := [(2, [0, 5, 6, 7])], frz := [4] }
def an22 : Ann := { frz := [3] }
def an23 : Ann := {  }
def an24 : Ann := { cst := [53], frz := [9] }
def an25 : Ann := { cst := [5], objc := [89, 95], frz2 := [(8, 8)], frz := [11], own := [32] }
def an26 : Ann := { keep := [(1, [0, 1, 10, 11, 12])], frz := [6] }
def an27 : Ann := { keep := [(5, [1, 40, 41, 42])], cst := [2], objc := [11], frz := [7] }
def an28 : Ann := { objc := [15, 16] }
def an29 : Ann := {  }
def an30 : Ann := {  }
def an31 : Ann := {  }
def an32 : Ann := { frz := [4] }
def an33 : Ann := { keep := [(7, [6, 7, 8, 10, 35, 36, 37])], frz := [13] }
def an34 : Ann := {  }
def an35 : Ann := { keep := [(9, [0, 1, 5])] }
def an36 : Ann := { keep := [(5, [0, 1, 2, 8, 9])], frz := [10], own := [12] }
def an37 : Ann := { frz := [6] }
def an38 : Ann := { keep := [(2, [1, 6, 7, 8])], cst := [1], frz := [4] }
def an39 : Ann := {  }
def an40 : Ann := { cst := [2], frz := [8] }
def an41 : Ann := {  }
def an42 : Ann := { frz := [5] }
def an43 : Ann := { cst := [2], frz := [6] }
def an44 : Ann := { cst := [3] }
def an45 : Ann := { cst := [2, 3] }
def an46 : Ann := {  }
def an47 : Ann := {  }
def an48 : Ann := {  }
def an49 : Ann := {  }
def an50 : Ann := { frz := [8] }
def an51 : Ann := { keep := [(3, [0, 3, 4])] }
def an52 : Ann := {  }
def an53 : Ann := { keep := [(4, [0, 1, 5])] }
def an54 : Ann := {  }
def an55 : Ann := { keep := [(3, [1, 3, 4])], cst := [1], own := [5] }
def an56 : Ann := { keep := [(2, [1, 2, 4, 6])], cst := [2] }
def an57 : Ann := {  }
def an58 : Ann := { keep := [(4, [2, 3, 5])], cst := [2, 3] }
def an59 : Ann := {  }
def an60 : Ann := {  }
def an61 : Ann := {  }
def an62 : Ann := { cst := [3] }
def an63 : Ann := { chg := [34, 40], cst := [6, 7], objc := [29] }
def an64 : Ann := { frz := [8] }
def an65 : Ann := {  }
def an66 : Ann := { cst := [3] }
def an67 : Ann := { keep := [(3, [3, 7, 8, 9])], frz := [5] }
def an68 : Ann := { keep := [(5, [0, 1, 8, 17, 18, 19])], nilr := [(5, [(8, 67)])], frz := [10, 11] }
def an69 : Ann := { keep := [(6, [1, 5, 6, 8])] }
def an70 : Ann := { own := [5] }
def an71 : Ann := { cst := [2], frz := [6] }
def an72 : Ann := { frz := [15] }
def an73 : Ann := { frz := [7, 9] }
def an74 : Ann := {  }
def an75 : Ann := { cst := [3], objc := [17] }
def an76 : Ann := {  }
def an77 : Ann := { keep := [(2, [0, 1, 4, 6])] }
def an78 : Ann := { cst := [1] }
def an79 : Ann := { cst := [3], frz := [6, 7] }
def an80 : Ann := { cst := [3] }
def an81 : Ann := { keep := [(10, [0, 3, 5]), (16, [0, 3, 5, 6, 7])], cst := [3], frz := [6] }
def an82 : Ann := { keep := [(6, [0, 6, 8, 24, 25, 26]), (12, [0, 6, 8, 24, 25, 26, 40, 41, 42])], frz := [10] }
def an83 : Ann := { keep := [(7, [2, 6, 8])], anyo := [10], frz := [8, 9] }
def an84 : Ann := { keep := [(7, [0, 1, 7, 9, 10, 11]), (14, [0, 1, 7, 9, 10, 11, 12, 15])], own := [23] }
def an85 : Ann := { keep := [(8, [2, 4, 6, 7, 8, 9, 10])], frz := [11] }
def an86 : Ann := { keep := [(6, [0, 3, 5, 6, 7])], cst := [3], own := [17] }
def an87 : Ann := { vec := [3, 5, 6] }
def an88 : Ann := {  }
def an89 : Ann := { own := [5] }
def an90 : Ann := { keep := [(2, [3, 4, 5])], cst := [3], frz := [7] }
def an91 : Ann := { keep := [(2, [0, 1, 7, 8])] }
def an92 : Ann := { frz := [5] }
def an93 : Ann := {  }
def an94 : Ann := {  }
def an95 : Ann := {  }
def an96 : Ann := {  }
def an97 : Ann := { cst := [4] }
def an98 : Ann := {  }
def an99 : Ann := {  }
def an100 : Ann := { cst := [4, 5] }
def an101 : Ann := { keep := [(2, [6, 7, 8])] }
def an102 : Ann := { cst := [4, 5] }
def an103 : Ann := {  }
def an104 : Ann := { cst := [3] }
def an105 : Ann := { keep := [(3, [0, 3, 9]), (9, [0, 5, 20, 21, 22])], nilr := [(3, [(3, 9)]), (9, [(5, 67)])], vec := [3, 17, 18] }
def an106 : Ann := {  }
def an107 : Ann := { keep := [(7, [0, 1, 5, 6, 8, 23, 24])], cst := [5] }
def an108 : Ann := {  }
def an109 : Ann := { cst := [3, 4], frz2 := [(52, 10)] }
def an110 : Ann := { keep := [(3, [1, 2, 4, 5, 6])], own := [7] }
def an111 : Ann := { cst := [3], frz2 := [(23, 8)] }
def an112 : Ann := { cst := [2], frz2 := [(23, 6)] }
def an113 : Ann := { cst := [3], frz2 := [(23, 8)] }
def an114 : Ann := { cst := [3], frz2 := [(42, 8)] }
def an115 : Ann := { cst := [7] }
def an116 : Ann := { keep := [(6, [1, 4, 6, 7, 8, 9, 11, 13]), (16, [1, 4, 6, 7, 8, 9, 14, 16, 17])], cst := [7], own := [105, 113] }
def an117 : Ann := { keep := [(3, [0, 3, 5, 15, 16, 17])], cst := [3], frz := [7] }
def an118 : Ann := { cst := [2, 3] }
def an119 : Ann := {  }
def an120 : Ann := { keep := [(3, [3, 8, 9, 10])] }
def an121 : Ann := { keep := [(8, [0, 1, 5, 8, 28, 29, 30])], cst := [5], nilr := [(8, [(8, 82)])], own := [42] }
def an122 : Ann := {  }
def an123 : Ann := {  }
def an124 : Ann := { keep := [(2, [4, 5])], anyo := [4, 5] }
def an125 : Ann := { cst := [2, 3] }
def an126 : Ann := {  }
def an127 : Ann := { keep := [(9, [0, 1, 5, 9, 10, 11]), (18, [0, 1, 5, 9, 12, 13])], cst := [5], frz := [14], own := [16] }
def an128 : Ann := {  }
def an129 : Ann := {  }
def an130 : Ann := { keep := [(2, [0, 1, 6, 7])], own := [11, 12] }
def an131 : Ann := { keep := [(8, [0, 1, 2, 3, 8, 12, 13, 14]), (19, [1, 2, 3, 8, 12, 13, 15, 17, 18, 20])], frz := [12, 15] }
def an132 : Ann := { keep := [(2, [0, 1, 5])] }
def an133 : Ann := {  }
def an134 : Ann := {  }
def an135 : Ann := { keep := [(1, [0, 5])] }
def an136 : Ann := { cst := [1] }
def an137 : Ann := {  }
def an138 : Ann := { frz2 := [(15, 3)] }
def an139 : Ann := { keep := [(3, [0, 3, 9, 10, 11]), (11, [6, 25, 26, 27])] }
def an140 : Ann := {  }
def an141 : Ann := {  }
def an142 : Ann := {  }
def an143 : Ann := { keep := [(3, [2, 3, 4, 5])], cst := [3], own := [30] }
def an144 : Ann := { keep := [(3, [1, 4, 11, 12, 13])], cst := [1], frz := [6] }
def an145 : Ann := { keep := [(4, [9, 10, 20, 21, 22])], cst := [5] }
def an146 : Ann := { keepRes := true, own := [5] }
def an147 : Ann := { own := [5] }
def an148 : Ann := {  }
def an149 : Ann := { cst := [1] }
def an150 : Ann := { keep := [(4, [0, 1, 12, 13])] }
def an151 : Ann := {  }
def an152 : Ann := {  }
def an153 : Ann := {  }
def an154 : Ann := {  }
def an155 : Ann := { keep := [(3, [1, 3, 15, 16, 17]), (12, [6, 7, 38, 39])], cst := [1], nilr := [(12, [(7, 9)])], frz := [5], own := [13] }
def an156 : Ann := { keep := [(11, [0, 1, 5, 7, 45, 46, 47])], cst := [5], frz := [9] }
def an157 : Ann := {  }
def an158 : Ann := {  }
def an159 : Ann := { cst := [2] }
def an160 : Ann := { keep := [(1, [0, 1, 2, 4, 5])], frz := [6] }
def an161 : Ann := { keep := [(7, [0, 1, 2, 3, 8, 9, 11])] }
def an162 : Ann := {  }
def an163 : Ann := { keep := [(3, [0, 3, 4]), (6, [0, 3, 4, 5])] }
def an164 : Ann := { keep := [(3, [1, 3, 4])], cst := [1], own := [7] }
def an165 : Ann := { keep := [(2, [0, 1, 5])] }
def an166 : Ann := { own := [10] }
def an167 : Ann := {  }
def an168 : Ann := {  }
def an169 : Ann := {  }
def an170 : Ann := {  }
def an171 : Ann := { frz2 := [(8, 8), (94, 9)] }
def an172 : Ann := { keep := [(2, [2])] }
def an173 : Ann := { keep := [(2, [0, 1, 2, 3, 8, 9])] }
def an174 : Ann := {  }
def an175 : Ann := { keep := [(1, [0, 1, 3])] }
def an176 : Ann := {  }
def an177 : Ann := {  }
def an178 : Ann := {  }
def an179 : Ann := {  }
def an180 : Ann := { keep := [(4, [3, 4, 10, 11, 12]), (7, [3, 4, 10, 11, 12, 16, 17, 18])] }
def an181 : Ann := {  }
def an182 : Ann := {  }
def an183 : Ann := {  }
def an184 : Ann := {  }
def an185 : Ann := {  }
def an186 : Ann := { cst := [6], objc := [23] }
def an187 : Ann := {  }
def an188 : Ann := { keep := [(3, [5, 10, 11, 12])] }
def an189 : Ann := { keep := [(5, [0, 1, 6, 7])] }
def an190 : Ann := { keep := [(0, [0, 1, 2])] }
def an191 : Ann := {  }
def an192 : Ann := {  }
def an193 : Ann := {  }
def an194 : Ann := { keep := [(10, [1, 2, 4, 5, 6])], frz2 := [(51, 7)] }
def an195 : Ann := { keep := [(4, [1, 2, 15, 16, 17])] }
def an196 : Ann := {  }
def an197 : Ann := { keep := [(3, [0, 3, 4])] }
def an198 : Ann := {  }
def an199 : Ann := {  }
def an200 : Ann := {  }
def an201 : Ann := { keep := [(3, [1, 2, 3, 7, 8, 9])], frz2 := [(55, 10)], own := [12] }
def an202 : Ann := {  }
def an203 : Ann := { keep := [(1, [0, 1, 2, 6]), (4, [0, 1, 2, 6, 7])] }
def an204 : Ann := { keep := [(4, [0, 6, 7, 8, 9]), (8, [0, 6, 7, 10])] }
def an205 : Ann := { keep := [(5, [0, 1, 6, 7, 8, 9])] }
def an206 : Ann := {  }
def an207 : Ann := { keep := [(2, [0, 6, 7])] }
def an208 : Ann := { keep := [(3, [0, 1, 2, 7, 8]), (5, [0, 1, 2, 7, 8]), (14, [0, 1, 2, 7, 8, 9]), (20, [0, 1, 2, 7, 8, 10])] }
def an209 : Ann := {  }
def an210 : Ann := { keep := [(3, [0, 1, 9, 10]), (5, [0, 1, 9, 10])] }
def an211 : Ann := { keep := [(3, [0, 1, 10, 11]), (5, [0, 1, 10, 11]), (13, [0, 1, 10, 11]), (15, [0, 1, 10, 11])] }
def an212 : Ann := {  }
def an213 : Ann := {  }
def an214 : Ann := { keep := [(3, [0, 1, 3])] }
def an215 : Ann := {  }
def an216 : Ann := { keep := [(3, [5])] }
def an217 : Ann := {  }
def an218 : Ann := { objc := [6, 7], anyo := [1] }
def an219 : Ann := {  }
def an220 : Ann := {  }
def an221 : Ann := {  }
def an222 : Ann := {  }
def an223 : Ann := {  }
def an224 : Ann := {  }
def an225 : Ann := { keep := [(5, [0, 1, 7, 8, 9])] }
def an226 : Ann := { keep := [(1, [0, 2, 3, 8])] }
def an227 : Ann := {  }
def an228 : Ann := {  }
def an229 : Ann := {  }
def an230 : Ann := {  }
def an231 : Ann := {  }
def an232 : Ann := { keep := [(2, [0, 4])] }
def an233 : Ann := {  }
def an234 : Ann := { keep := [(4, [0, 1, 4, 17])] }
def an235 : Ann := { cst := [3] }
def an236 : Ann := { objc := [25] }
def an237 : Ann := {  }
def an238 : Ann := { objc := [25] }
def an239 : Ann := {  }
def an240 : Ann := {  }
def an241 : Ann := { keep := [(0, [0, 1])] }
def an242 : Ann := { objc := [25] }
def an243 : Ann := {  }
end Go.Abs
