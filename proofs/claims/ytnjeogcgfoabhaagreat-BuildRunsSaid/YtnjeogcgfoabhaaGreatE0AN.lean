/- The engine, AN. -/
import Derived.Test.YtnjeogcgfoabhaaGreatE0A1
namespace Go.Abs
def an6 : Ann := { keep := [(12, [4, 5, 8, 9, 10, 13, 79, 80, 81])], cst := [4, 5], objc := [176, 180, 191], frz := [13, 15, 20] }
def an7 : Ann := {  }
def an8 : Ann := {  }
def an9 : Ann := { cst := [53], frz := [9] }
def S8 : Ann := {  }
def Vm : Ann := {  }
def Pi : Ann := { cst := [4] }
def Vj : Ann := { keep := [(3, [3, 10, 11, 12])], nilr := [(3, [(3, 67)])], frz := [5] }
def Vi : Ann := { keep := [(4, [0, 1, 5])] }
def Vh : Ann := { keep := [(2, [0, 5, 6, 7])], frz := [4] }
def R5 : Ann := { keep := [(7, [6, 7, 8, 10, 35, 36, 37])], frz := [13] }
def R1 : Ann := {  }
def RZ : Ann := { cst := [7] }
def Vg : Ann := { keep := [(4, [0, 1, 5])] }
def Ve : Ann := {  }
def Vd : Ann := { keep := [(2, [0, 1, 5])] }
def Vc : Ann := { keep := [(4, [0, 3]), (12, [0, 5]), (15, [0, 5, 6])] }
def Ri : Ann := { frz := [6] }
def Q8 : Ann := { objc := [15, 16] }
def Vb : Ann := { keep := [(12, [1, 2, 3, 4, 10, 12, 13, 14, 15]), (20, [1, 2, 3, 4, 10, 12, 13, 14, 15, 16, 17, 19, 20])], cst := [5], frz2 := [(115, 17)], frz := [16, 24], own := [68] }
def Va : Ann := {  }
def U9 : Ann := { keep := [(4, [0, 3, 30, 31, 32]), (11, [0, 3, 7, 30, 31, 32, 66, 67])], cst := [3], objc := [17, 23, 60], frz := [9, 14] }
def U8 : Ann := {  }
def U7 : Ann := {  }
def U6 : Ann := {  }
def U5 : Ann := {  }
def U4 : Ann := {  }
def U3 : Ann := { cst := [3] }
def Ph : Ann := { chg := [34, 40], cst := [6, 7], objc := [29] }
def MM : Ann := { frz := [8] }
def U2 : Ann := { keep := [(2, [0, 7, 8, 9]), (7, [0, 7, 8, 9, 24, 25, 26])], frz := [4] }
def Pg : Ann := { keep := [(2, [0, 5, 6, 7])], frz := [4] }
def Pe : Ann := {  }
def U1 : Ann := {  }
def Pd : Ann := { keep := [(3, [0, 2, 3, 4, 5, 13, 18, 19, 20])], nilr := [(3, [(13, 45)])], frz := [16] }
def U0 : Ann := {  }
def UZ : Ann := { cst := [3] }
def ML : Ann := { cst := [3] }
def UY : Ann := {  }
def UX : Ann := { cst := [1] }
def UW : Ann := { keep := [(2, [0, 3]), (4, [0, 3, 4, 5]), (8, [0, 3, 4, 5, 6, 7])], own := [8] }
def UV : Ann := { keep := [(3, [0, 1, 5, 6])] }
def UU : Ann := { keep := [(3, [1, 5, 6])] }
def UT : Ann := {  }
def US : Ann := { keep := [(4, [2, 3, 5])], cst := [2, 3] }
def UR : Ann := { keep := [(2, [1, 6, 7, 8])], cst := [1], frz := [4] }
def UQ : Ann := { cst := [2], frz := [8] }
def UP : Ann := {  }
def UO : Ann := { cst := [2, 3] }
def UN : Ann := { cst := [2] }
def UM : Ann := { cst := [4] }
def UL : Ann := { keep := [(2, [3, 4, 5])], cst := [3], frz := [7] }
def UK : Ann := { keep := [(4, [1, 3])], cst := [1] }
def Pc : Ann := { own := [5] }
def UJ : Ann := {  }
def UI : Ann := { cst := [3] }
def UH : Ann := { keep := [(3, [0, 3, 4])], own := [5] }
def UG : Ann := { keep := [(11, [2, 3, 7, 9]), (16, [2, 3, 7, 10])], cst := [3], frz := [7] }
def UF : Ann := { cst := [1] }
def UE : Ann := { keep := [(2, [0, 1, 4, 6])] }
def UD : Ann := { keep := [(5, [1, 4, 8, 10, 11])], cst := [4] }
def UC : Ann := { frz := [4] }
def Pb : Ann := { keep := [(4, [0, 1, 5])] }
def UB : Ann := { keep := [(3, [1, 3, 4])], cst := [1], own := [5] }
def UA : Ann := { keep := [(2, [1, 2, 4, 6])], cst := [2] }
def Uz : Ann := {  }
def Uy : Ann := {  }
def Ux : Ann := { keep := [(2, [0, 1, 7, 8])] }
def Uw : Ann := { frz := [5] }
def KY : Ann := {  }
def Uv : Ann := {  }
def Pa : Ann := { keep := [(6, [0, 6, 8, 24, 25, 26]), (12, [0, 6, 8, 24, 25, 26, 40, 41, 42])], frz := [10] }
def Uu : Ann := {  }
def Ut : Ann := {  }
def Us : Ann := { cst := [4] }
def Ur : Ann := {  }
def Uq : Ann := {  }
def Uo : Ann := { cst := [4, 5] }
def Q2 : Ann := { keep := [(2, [6, 7, 8])] }
def Un : Ann := { keep := [(7, [2, 6, 8])], anyo := [10], frz := [8, 9] }
def Ul : Ann := {  }
def Uk : Ann := { keep := [(5, [1, 2, 4, 5, 10, 11, 32, 33, 34])], cst := [5], nilr := [(5, [(11, 33)])], frz := [16, 19] }
def Uj : Ann := { keep := [(3, [3, 7, 8, 9])], frz := [5] }
def Ui : Ann := { cst := [3] }
def O9 : Ann := { cst := [3], objc := [17] }
def Uh : Ann := { keep := [(2, [0, 1, 7, 8])] }
def Ug : Ann := { keep := [(2, [0, 1, 5])] }
def Uf : Ann := { keep := [(2, [0, 1, 5])] }
def Ue : Ann := { own := [5] }
def S7 : Ann := { cst := [2], frz := [6] }
def S6 : Ann := { frz := [15] }
def S5 : Ann := { frz := [7, 9] }
def S4 : Ann := { keep := [(10, [0, 3, 5]), (16, [0, 3, 5, 6, 7])], cst := [3], frz := [6] }
def S3 : Ann := { cst := [3], frz := [6, 7] }
def S2 : Ann := { cst := [1] }
def S1 : Ann := {  }
def S0 : Ann := { keep := [(2, [0, 1, 5])] }
def SZ : Ann := {  }
def SY : Ann := { keep := [(3, [0, 3, 4])] }
def SX : Ann := { cst := [2], frz2 := [(23, 6)] }
def SV : Ann := {  }
def NK : Ann := { keep := [(3, [3, 8, 9, 10])] }
def ql : Ann := { keep := [(8, [0, 1, 5, 8, 28, 29, 30])], cst := [5], nilr := [(8, [(8, 77)])], own := [42] }
def ST : Ann := {  }
def SS : Ann := { frz2 := [(15, 3)] }
def SR : Ann := { keep := [(3, [0, 3, 9, 10, 11]), (11, [6, 25, 26, 27])] }
def SQ : Ann := {  }
def La : Ann := {  }
def SP : Ann := { keep := [(2, [4, 5])], anyo := [4, 5] }
def SO : Ann := { cst := [2, 3] }
def SM : Ann := { keep := [(5, [0, 3, 20, 21, 22]), (16, [0, 9, 43, 44, 45]), (19, [0, 9, 43, 44, 45, 50, 51, 52])], frz := [5, 11] }
def SL : Ann := { keep := [(4, [0, 3, 4, 11, 12]), (7, [0, 3, 4, 5, 11, 12, 14, 15, 16])], nilr := [(4, [(4, 3)]), (7, [(4, 3)])], frz := [7] }
def SK : Ann := { keep := [(2, [3, 4])], cst := [3], frz := [6] }
def SJ : Ann := { keep := [(3, [3, 6, 7, 8])], nilr := [(3, [(3, 33)])] }
def SI : Ann := { keep := [(5, [2, 3, 7, 8, 20, 21])], cst := [3], frz := [7] }
def SH : Ann := { chg := [9] }
def SG : Ann := { cst := [2] }
def SF : Ann := { keep := [(5, [4, 8, 10, 32, 33, 34])], cst := [4] }
def SE : Ann := { cst := [3] }
def SD : Ann := { keep := [(3, [0, 3, 9]), (9, [0, 5, 20, 21, 22])], nilr := [(3, [(3, 9)]), (9, [(5, 67)])], vec := [3, 17, 18] }
def SC : Ann := {  }
def SB : Ann := { keep := [(3, [0, 3, 5, 15, 16, 17])], cst := [3], frz := [7] }
def SA : Ann := { cst := [2, 3] }
def K9 : Ann := { cst := [7] }
def Sz : Ann := { cst := [3, 4], frz2 := [(52, 10)] }
def NJ : Ann := { keep := [(3, [1, 2, 4, 5, 6])], own := [7] }
def Sy : Ann := { keep := [(7, [0, 1, 7, 9, 10, 11]), (14, [0, 1, 7, 9, 10, 11, 12, 15])], own := [23] }
def Sx : Ann := { cst := [3], frz2 := [(23, 8)] }
def Sw : Ann := { cst := [3], frz2 := [(23, 8)] }
def NI : Ann := { keep := [(8, [2, 4, 6, 7, 8, 9, 10])], frz := [11] }
def Sv : Ann := { keep := [(6, [1, 4, 6, 7, 8, 9, 11, 13]), (16, [1, 4, 6, 7, 8, 9, 14, 16, 17])], cst := [7], own := [105, 113] }
def Su : Ann := { keep := [(6, [0, 3, 5, 6, 7])], cst := [3], own := [17] }
def Ss : Ann := { keep := [(3, [2, 3, 4, 5])], cst := [3], own := [30] }
def So : Ann := {  }
def Sn : Ann := {  }
def K8 : Ann := {  }
def K7 : Ann := {  }
def Sm : Ann := { keep := [(3, [1, 3, 15, 16, 17]), (12, [6, 7, 38, 39])], cst := [1], nilr := [(12, [(7, 9)])], frz := [5], own := [13] }
def K6 : Ann := {  }
def K5 : Ann := { keep := [(11, [0, 1, 5, 7, 45, 46, 47])], cst := [5], frz := [9] }
def Sl : Ann := {  }
def Sk : Ann := {  }
def Sj : Ann := { cst := [2] }
def qk : Ann := { keep := [(7, [0, 1, 2, 3, 8, 9, 11])] }
def Si : Ann := { cst := [1], objc := [32], own := [25] }
def Sh : Ann := { keep := [(3, [3, 7, 8, 9])], frz := [5] }
def Sg : Ann := {  }
def Sf : Ann := {  }
def Se : Ann := { cst := [1] }
def Sd : Ann := { chg := [10] }
def Sc : Ann := {  }
def Sb : Ann := { keep := [(2, [0, 7, 8, 9])] }
def Sa : Ann := { cst := [1] }
def R9 : Ann := { keep := [(3, [0, 3, 5])] }
def R8 : Ann := { keep := [(3, [5, 10, 11, 12])] }
def R7 : Ann := { cst := [1] }
def R6 : Ann := { keep := [(4, [0, 1, 12, 13])] }
def NH : Ann := { keep := [(3, [1, 4, 11, 12, 13])], cst := [1], frz := [6] }
def NG : Ann := { keep := [(4, [9, 10, 20, 21, 22])], cst := [5] }
def NF : Ann := { keepRes := true, own := [5] }
def R4 : Ann := { own := [5] }
def NE : Ann := {  }
def K4 : Ann := { keep := [(9, [0, 1, 5, 9, 10, 11]), (18, [0, 1, 5, 9, 12, 13])], cst := [5], frz := [14], own := [16] }
def R3 : Ann := {  }
def R2 : Ann := {  }
def ND : Ann := { keep := [(2, [0, 1, 6, 7])], own := [11, 12] }
def K3 : Ann := { keep := [(8, [0, 1, 2, 3, 8, 12, 13, 14]), (19, [1, 2, 3, 8, 12, 13, 15, 17, 18, 20])], frz := [12, 15] }
def RX : Ann := {  }
def RW : Ann := { keep := [(4, [3, 4, 10, 11, 12]), (7, [3, 4, 10, 11, 12, 16, 17, 18])] }
def RV : Ann := {  }
def RU : Ann := {  }
def RT : Ann := {  }
def RS : Ann := {  }
def NC : Ann := {  }
def K2 : Ann := { cst := [6], objc := [23] }
def RR : Ann := {  }
def RQ : Ann := { keep := [(3, [5, 10, 11, 12])] }
def RP : Ann := { keep := [(5, [0, 1, 6, 7])] }
def K1 : Ann := {  }
def NB : Ann := {  }
def RO : Ann := {  }
def K0 : Ann := { keep := [(10, [1, 2, 4, 5, 6])], frz2 := [(51, 7)] }
def RN : Ann := { keep := [(4, [1, 2, 15, 16, 17])] }
def RM : Ann := {  }
def RL : Ann := { keep := [(2, [0, 1, 7, 8])] }
def RK : Ann := { cst := [1] }
def RJ : Ann := { cst := [1] }
def RI : Ann := { cst := [1] }
def RH : Ann := { cst := [1] }
def RG : Ann := { cst := [1] }
def RF : Ann := { keep := [(2, [1, 7, 8, 9])], cst := [1], frz := [4] }
def RE : Ann := { keep := [(3, [0, 1, 4, 7, 8])] }
def RD : Ann := {  }
def RC : Ann := { keep := [(3, [0, 3, 4]), (6, [0, 3, 4, 5])] }
def RB : Ann := { keep := [(3, [1, 3, 4])], cst := [1], own := [7] }
def NA : Ann := { own := [10] }
def RA : Ann := {  }
def Rz : Ann := {  }
def Ry : Ann := {  }
def Nz : Ann := {  }
def Rw : Ann := { keep := [(3, [0, 1, 3])] }
def Rv : Ann := {  }
def Ny : Ann := { keep := [(3, [5])] }
def Nx : Ann := {  }
def Ru : Ann := { objc := [6, 7], anyo := [1] }
def Rt : Ann := {  }
def Rs : Ann := {  }
def Rr : Ann := {  }
def Rq : Ann := {  }
def KZ : Ann := {  }
def Rp : Ann := {  }
def Ro : Ann := {  }
def Rn : Ann := {  }
def Rm : Ann := { cst := [2] }
def Rl : Ann := { keep := [(4, [1, 2, 15, 16, 17])], frz := [8] }
def Rk : Ann := { keep := [(3, [0, 3, 4])] }
def Rd : Ann := { keep := [(2, [0, 4])] }
def Rb : Ann := {  }
def Nw : Ann := { keep := [(4, [0, 1, 4, 17])] }
def Ra : Ann := { cst := [3] }
def Q9 : Ann := { objc := [25] }
def Q7 : Ann := {  }
def Q6 : Ann := { objc := [25] }
def Q4 : Ann := { objc := [25] }
def Q3 : Ann := {  }
end Go.Abs
