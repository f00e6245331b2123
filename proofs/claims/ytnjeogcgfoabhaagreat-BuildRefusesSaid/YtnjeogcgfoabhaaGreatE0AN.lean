/- The engine, AN. -/
import Derived.Test.YtnjeogcgfoabhaaGreatE0A1
namespace Go.Abs
def an2 : Ann := {  }
def an3 : Ann := { keep := [(8, [2, 7, 8, 46, 47, 48]), (24, [2, 7, 8, 11, 12, 13, 14, 46, 47, 48, 136, 137]), (34, [2, 7, 8, 12, 18, 46, 47, 48, 197, 198])], frz := [11] }
def an4 : Ann := { keep := [(11, [3, 6, 8, 9, 10, 56, 57, 58]), (22, [3, 6, 8, 17, 103, 104, 105])], cst := [3], frz := [7, 12, 19, 20] }
def an5 : Ann := { cst := [2], frz := [7] }
def an6 : Ann := { keep := [(12, [4, 5, 8, 9, 10, 13, 79, 80, 81])], cst := [4, 5], objc := [176, 180, 191], frz := [13, 15, 20] }
def an7 : Ann := {  }
def an8 : Ann := {  }
def an9 : Ann := { cst := [53], frz := [9] }
def SQ : Ann := {  }
def U2 : Ann := {  }
def OX : Ann := { cst := [4] }
def U1 : Ann := { keep := [(1, [0, 1, 10, 11, 12])], frz := [6] }
def U0 : Ann := { keep := [(7, [0, 1, 6, 8, 9]), (15, [0, 1, 6, 8, 9, 10, 12, 13])], frz := [10], own := [14, 42] }
def UZ : Ann := { keep := [(3, [3, 10, 11, 12])], nilr := [(3, [(3, 67)])], frz := [5] }
def UY : Ann := { keep := [(4, [0, 1, 5])] }
def UX : Ann := { keep := [(2, [0, 5, 6, 7])], frz := [4] }
def RN : Ann := { keep := [(7, [6, 7, 8, 10, 35, 36, 37])], frz := [13] }
def RJ : Ann := {  }
def RH : Ann := { cst := [7] }
def UW : Ann := { keep := [(4, [0, 1, 5])] }
def UV : Ann := {  }
def UU : Ann := {  }
def UT : Ann := { keep := [(2, [0, 1, 5])] }
def US : Ann := { keep := [(4, [0, 3]), (12, [0, 5]), (15, [0, 5, 6])] }
def QZ : Ann := { frz := [6] }
def QQ : Ann := { objc := [15, 16] }
def UR : Ann := { keep := [(12, [1, 2, 3, 4, 10, 12, 13, 14, 15]), (20, [1, 2, 3, 4, 10, 12, 13, 14, 15, 16, 17, 19, 20])], cst := [5], frz2 := [(115, 17)], frz := [16, 24], own := [68] }
def UQ : Ann := {  }
def UP : Ann := { keep := [(4, [0, 3, 30, 31, 32]), (11, [0, 3, 7, 30, 31, 32, 66, 67])], cst := [3], objc := [17, 23, 60], frz := [9, 14] }
def UO : Ann := {  }
def UN : Ann := {  }
def UM : Ann := {  }
def UL : Ann := {  }
def UK : Ann := {  }
def UJ : Ann := { cst := [3] }
def OW : Ann := { chg := [34, 40], cst := [6, 7], objc := [29] }
def Ms : Ann := { frz := [8] }
def UI : Ann := { keep := [(2, [0, 7, 8, 9]), (7, [0, 7, 8, 9, 24, 25, 26])], frz := [4] }
def OV : Ann := { keep := [(2, [0, 5, 6, 7])], frz := [4] }
def OU : Ann := {  }
def UH : Ann := {  }
def OT : Ann := { keep := [(3, [0, 2, 3, 4, 5, 13, 18, 19, 20])], nilr := [(3, [(13, 45)])], frz := [16] }
def UG : Ann := {  }
def UF : Ann := { cst := [3] }
def Mr : Ann := { cst := [3] }
def UE : Ann := {  }
def UD : Ann := { cst := [1] }
def UC : Ann := { keep := [(2, [0, 3]), (4, [0, 3, 4, 5]), (8, [0, 3, 4, 5, 6, 7])], own := [8] }
def UB : Ann := { keep := [(3, [0, 1, 5, 6])] }
def UA : Ann := { keep := [(3, [1, 5, 6])] }
def Uz : Ann := {  }
def Uy : Ann := { keep := [(4, [2, 3, 5])], cst := [2, 3] }
def Ux : Ann := { keep := [(2, [1, 6, 7, 8])], cst := [1], frz := [4] }
def Uw : Ann := { cst := [2], frz := [8] }
def Uv : Ann := {  }
def Uu : Ann := { cst := [2, 3] }
def Ut : Ann := { cst := [2] }
def Us : Ann := { cst := [4] }
def Ur : Ann := { keep := [(2, [3, 4, 5])], cst := [3], frz := [7] }
def Uq : Ann := { keep := [(4, [1, 3])], cst := [1] }
def OS : Ann := { own := [5] }
def Uo : Ann := {  }
def Un : Ann := { cst := [3] }
def Um : Ann := { keep := [(3, [0, 3, 4])], own := [5] }
def Ul : Ann := { keep := [(11, [2, 3, 7, 9]), (16, [2, 3, 7, 10])], cst := [3], frz := [7] }
def Uk : Ann := { cst := [1] }
def Uj : Ann := { keep := [(2, [0, 1, 4, 6])] }
def Ui : Ann := { keep := [(5, [1, 4, 8, 10, 11])], cst := [4] }
def Uh : Ann := { frz := [4] }
def OR : Ann := { keep := [(4, [0, 1, 5])] }
def Ug : Ann := { keep := [(3, [1, 3, 4])], cst := [1], own := [5] }
def Uf : Ann := { keep := [(2, [1, 2, 4, 6])], cst := [2] }
def Ue : Ann := {  }
def V4 : Ann := { vec := [3, 5, 6] }
def Ud : Ann := {  }
def Uc : Ann := { keep := [(2, [0, 1, 7, 8])] }
def Ub : Ann := { frz := [5] }
def Ky : Ann := {  }
def Ua : Ann := {  }
def OQ : Ann := { keep := [(6, [0, 6, 8, 24, 25, 26]), (12, [0, 6, 8, 24, 25, 26, 40, 41, 42])], frz := [10] }
def T9 : Ann := {  }
def T8 : Ann := {  }
def T7 : Ann := { cst := [4] }
def T6 : Ann := {  }
def T5 : Ann := {  }
def T4 : Ann := { cst := [4, 5] }
def QK : Ann := { keep := [(2, [6, 7, 8])] }
def T3 : Ann := { keep := [(7, [2, 6, 8])], anyo := [10], frz := [8, 9] }
def T2 : Ann := { cst := [4, 5] }
def T1 : Ann := {  }
def T0 : Ann := { keep := [(5, [1, 2, 4, 5, 10, 11, 32, 33, 34])], cst := [5], nilr := [(5, [(11, 33)])], frz := [16, 19] }
def TZ : Ann := { keep := [(3, [3, 7, 8, 9])], frz := [5] }
def TY : Ann := { cst := [3] }
def OP : Ann := { cst := [3], objc := [17] }
def TX : Ann := { keep := [(2, [0, 1, 7, 8])] }
def TW : Ann := { keep := [(2, [0, 1, 5])] }
def TV : Ann := { keep := [(2, [0, 1, 5])] }
def TU : Ann := { own := [5] }
def SP : Ann := { cst := [2], frz := [6] }
def SO : Ann := { frz := [15] }
def SN : Ann := { frz := [7, 9] }
def SM : Ann := { keep := [(10, [0, 3, 5]), (16, [0, 3, 5, 6, 7])], cst := [3], frz := [6] }
def SL : Ann := { cst := [3], frz := [6, 7] }
def SK : Ann := { cst := [1] }
def SJ : Ann := {  }
def SI : Ann := { keep := [(2, [0, 1, 5])] }
def SH : Ann := {  }
def SG : Ann := { keep := [(3, [0, 3, 4])] }
def SF : Ann := { cst := [2], frz2 := [(23, 6)] }
def VL : Ann := {  }
def SE : Ann := {  }
def VK : Ann := { keep := [(1, [0, 5])] }
def SD : Ann := {  }
def SC : Ann := {  }
def Nq : Ann := { keep := [(3, [3, 8, 9, 10])] }
def qc : Ann := { keep := [(8, [0, 1, 5, 8, 28, 29, 30])], cst := [5], nilr := [(8, [(8, 77)])], own := [42] }
def SB : Ann := {  }
def SA : Ann := { frz2 := [(15, 3)] }
def Sz : Ann := { keep := [(3, [0, 3, 9, 10, 11]), (11, [6, 25, 26, 27])] }
def Sy : Ann := {  }
def KM : Ann := {  }
def Sx : Ann := { keep := [(2, [4, 5])], anyo := [4, 5] }
def Sw : Ann := { cst := [2, 3] }
def Sv : Ann := {  }
def Su : Ann := { keep := [(5, [0, 3, 20, 21, 22]), (16, [0, 9, 43, 44, 45]), (19, [0, 9, 43, 44, 45, 50, 51, 52])], frz := [5, 11] }
def Ss : Ann := { keep := [(4, [0, 3, 4, 11, 12]), (7, [0, 3, 4, 5, 11, 12, 14, 15, 16])], nilr := [(4, [(4, 3)]), (7, [(4, 3)])], frz := [7] }
def Sr : Ann := { keep := [(2, [3, 4])], cst := [3], frz := [6] }
def Sq : Ann := { keep := [(3, [3, 6, 7, 8])], nilr := [(3, [(3, 33)])] }
def So : Ann := { keep := [(5, [2, 3, 7, 8, 20, 21])], cst := [3], frz := [7] }
def Sn : Ann := { chg := [9] }
def Sm : Ann := { cst := [2] }
def Sl : Ann := { keep := [(5, [4, 8, 10, 32, 33, 34])], cst := [4] }
def Sk : Ann := { cst := [3] }
def Sj : Ann := { keep := [(3, [0, 3, 9]), (9, [0, 5, 20, 21, 22])], nilr := [(3, [(3, 9)]), (9, [(5, 67)])], vec := [3, 17, 18] }
def Si : Ann := {  }
def Sh : Ann := { keep := [(3, [0, 3, 5, 15, 16, 17])], cst := [3], frz := [7] }
def Sg : Ann := { cst := [2, 3] }
def KL : Ann := { cst := [7] }
def Sf : Ann := { cst := [3, 4], frz2 := [(52, 10)] }
def Np : Ann := { keep := [(3, [1, 2, 4, 5, 6])], own := [7] }
def Se : Ann := { keep := [(7, [0, 1, 7, 9, 10, 11]), (14, [0, 1, 7, 9, 10, 11, 12, 15])], own := [23] }
def Sd : Ann := { cst := [3], frz2 := [(23, 8)] }
def Sc : Ann := { cst := [3], frz2 := [(23, 8)] }
def No : Ann := { keep := [(8, [2, 4, 6, 7, 8, 9, 10])], frz := [11] }
def VJ : Ann := { cst := [3], frz2 := [(42, 8)] }
def Sb : Ann := { keep := [(6, [1, 4, 6, 7, 8, 9, 11, 13]), (16, [1, 4, 6, 7, 8, 9, 14, 16, 17])], cst := [7], own := [105, 113] }
def VI : Ann := { keep := [(1, [0, 1, 3])] }
def Sa : Ann := { keep := [(6, [0, 3, 5, 6, 7])], cst := [3], own := [17] }
def R9 : Ann := { keep := [(3, [2, 3, 4, 5])], cst := [3], own := [30] }
def VH : Ann := { keep := [(2, [2])] }
def R8 : Ann := { keep := [(2, [0, 1, 2, 3, 8, 9])] }
def R7 : Ann := {  }
def R6 : Ann := {  }
def R5 : Ann := {  }
def KK : Ann := {  }
def KJ : Ann := {  }
def R4 : Ann := { keep := [(3, [1, 3, 15, 16, 17]), (12, [6, 7, 38, 39])], cst := [1], nilr := [(12, [(7, 9)])], frz := [5], own := [13] }
def KH : Ann := {  }
def KG : Ann := { keep := [(11, [0, 1, 5, 7, 45, 46, 47])], cst := [5], frz := [9] }
def R3 : Ann := {  }
def VG : Ann := {  }
def R2 : Ann := {  }
def R1 : Ann := { cst := [2] }
def VF : Ann := { keep := [(1, [0, 1, 2, 4, 5])], frz := [6] }
def qb : Ann := { keep := [(7, [0, 1, 2, 3, 8, 9, 11])] }
def R0 : Ann := { cst := [1], objc := [32], own := [25] }
def RZ : Ann := { keep := [(3, [3, 7, 8, 9])], frz := [5] }
def RY : Ann := {  }
def RX : Ann := {  }
def RW : Ann := { cst := [1] }
def RV : Ann := { chg := [10] }
def RU : Ann := {  }
def RT : Ann := { keep := [(2, [0, 7, 8, 9])] }
def RS : Ann := { cst := [1] }
def RR : Ann := { keep := [(3, [0, 3, 5])] }
def RQ : Ann := { keep := [(3, [5, 10, 11, 12])] }
def RP : Ann := { cst := [1] }
def RO : Ann := { keep := [(4, [0, 1, 12, 13])] }
def Nn : Ann := { keep := [(3, [1, 4, 11, 12, 13])], cst := [1], frz := [6] }
def Nl : Ann := { keep := [(4, [9, 10, 20, 21, 22])], cst := [5] }
def Nk : Ann := { keepRes := true, own := [5] }
def RM : Ann := { own := [5] }
def Nj : Ann := {  }
def KF : Ann := { keep := [(9, [0, 1, 5, 9, 10, 11]), (18, [0, 1, 5, 9, 12, 13])], cst := [5], frz := [14], own := [16] }
def RL : Ann := {  }
def RK : Ann := {  }
def Ni : Ann := { keep := [(2, [0, 1, 6, 7])], own := [11, 12] }
def KD : Ann := { keep := [(8, [0, 1, 2, 3, 8, 12, 13, 14]), (19, [1, 2, 3, 8, 12, 13, 15, 17, 18, 20])], frz := [12, 15] }
def RI : Ann := { keep := [(1, [0, 1, 2, 6]), (4, [0, 1, 2, 6, 7])] }
def VE : Ann := { keep := [(4, [0, 6, 7, 8, 9]), (8, [0, 6, 7, 10])] }
def VD : Ann := { keep := [(5, [0, 1, 6, 7, 8, 9])] }
def VC : Ann := {  }
def VB : Ann := { keep := [(2, [0, 6, 7])] }
def VA : Ann := { keep := [(3, [0, 1, 2, 7, 8]), (5, [0, 1, 2, 7, 8]), (14, [0, 1, 2, 7, 8, 9]), (20, [0, 1, 2, 7, 8, 10])] }
def Vz : Ann := {  }
def Vy : Ann := { keep := [(3, [0, 1, 9, 10]), (5, [0, 1, 9, 10])] }
def Vx : Ann := { keep := [(3, [0, 1, 10, 11]), (5, [0, 1, 10, 11]), (13, [0, 1, 10, 11]), (15, [0, 1, 10, 11])] }
def Vw : Ann := {  }
def RG : Ann := {  }
def RF : Ann := {  }
def RE : Ann := { keep := [(4, [3, 4, 10, 11, 12]), (7, [3, 4, 10, 11, 12, 16, 17, 18])] }
def RD : Ann := {  }
def RC : Ann := {  }
def RB : Ann := {  }
def RA : Ann := {  }
def Nh : Ann := {  }
def KC : Ann := { cst := [6], objc := [23] }
def Rz : Ann := {  }
def Ry : Ann := { keep := [(3, [5, 10, 11, 12])] }
def Rx : Ann := { keep := [(5, [0, 1, 6, 7])] }
def Vv : Ann := { keep := [(0, [0, 1, 2])] }
def KB : Ann := {  }
def Ng : Ann := {  }
def Rw : Ann := {  }
def KA : Ann := { keep := [(10, [1, 2, 4, 5, 6])], frz2 := [(51, 7)] }
def Rv : Ann := { keep := [(4, [1, 2, 15, 16, 17])] }
def Ru : Ann := {  }
def Rt : Ann := { keep := [(2, [0, 1, 7, 8])] }
def Vu : Ann := { keep := [(1, [0, 1, 3])] }
def Rs : Ann := { cst := [1] }
def Rr : Ann := { cst := [1] }
def Rq : Ann := { cst := [1] }
def Rp : Ann := { cst := [1] }
def Ro : Ann := { cst := [1] }
def Rn : Ann := { keep := [(2, [1, 7, 8, 9])], cst := [1], frz := [4] }
def Rm : Ann := { keep := [(3, [0, 1, 4, 7, 8])] }
def Rl : Ann := {  }
def Rk : Ann := { keep := [(3, [0, 3, 4]), (6, [0, 3, 4, 5])] }
def Rj : Ann := { keep := [(3, [1, 3, 4])], cst := [1], own := [7] }
def Nf : Ann := { own := [10] }
def Ri : Ann := {  }
def Rh : Ann := {  }
def Rg : Ann := {  }
def Nc : Ann := {  }
def Rf : Ann := { frz2 := [(8, 8), (94, 9)] }
def Vt : Ann := { keep := [(1, [0, 2, 3, 8])] }
def Vs : Ann := {  }
def Vr : Ann := {  }
def Vq : Ann := {  }
def Vp : Ann := {  }
def Vo : Ann := {  }
def Re : Ann := { keep := [(3, [0, 1, 3])] }
def Rd : Ann := {  }
def Nb : Ann := { keep := [(3, [5])] }
def Na : Ann := {  }
def Rb : Ann := { objc := [6, 7], anyo := [1] }
def Ra : Ann := {  }
def Q9 : Ann := {  }
def Q8 : Ann := {  }
def Q7 : Ann := {  }
def Kz : Ann := {  }
def Q6 : Ann := {  }
def Q5 : Ann := {  }
def Q4 : Ann := {  }
def Q3 : Ann := { cst := [2] }
def Q2 : Ann := { keep := [(4, [1, 2, 15, 16, 17])], frz := [8] }
def Q1 : Ann := { keep := [(3, [0, 3, 4])] }
def Q0 : Ann := {  }
def QY : Ann := {  }
def QX : Ann := {  }
def QW : Ann := { keep := [(3, [1, 2, 3, 7, 8, 9])], frz2 := [(55, 10)], own := [12] }
def QV : Ann := {  }
def Vn : Ann := {  }
def QU : Ann := { keep := [(2, [0, 4])] }
def QT : Ann := {  }
def M9 : Ann := { keep := [(4, [0, 1, 4, 17])] }
def QS : Ann := { cst := [3] }
def QR : Ann := { objc := [25] }
def QP : Ann := {  }
def QO : Ann := { objc := [25] }
def Vm : Ann := {  }
def QN : Ann := { keep := [(5, [0, 1, 7, 8, 9])] }
def Vl : Ann := { keep := [(0, [0, 1])] }
def QM : Ann := { objc := [25] }
def QL : Ann := {  }
end Go.Abs
