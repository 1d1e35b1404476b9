/- A part of the claim: the evaluator and the contracts. Conditions: none here. -/
import Derived.Test.YtofbhlhamfkljaaGreatDoorPb
import Derived.Test.YtofbhlhamfkljaaGreatDoorProg
import Derived.KernelRfl
import Derived.Test.YtofbhlhamfkljaaGreatDoorCards
import Derived.Test.YtofbhlhamfkljaaGreatDoorTie
import Derived.WalkKit
import Derived.ProofKit
import Derived.OpenShut
import Derived.JoinedCond
import Derived.ChangeOld
import Derived.Below
import Derived.Deep.DeepHandedRow
import Derived.Lib.LaidTab
set_option linter.unusedVariables false
set_option linter.unusedSimpArgs false
set_option maxHeartbeats 0
set_option maxRecDepth 1000000
namespace Go.Proofs.YtofbhlhamfkljaaGreatDoor.Ve
open Go Ab
abbrev Iw:=cX [N 11 (.buildSlice 30 0 #[]),F 12 32 5 3,L 13 30 12,N 14 (ap 11 13 30 30),M 15 1,M 16 2,M 17 3,M 18 4,N 19 (.build 89 #[(0,T 15),(1,T 16),(2,T 17),(3,T 18)]),N 20 (.buildSlice 30 1 #[(0,T 19)]),N 21 (ap 14 20 30 30),F 22 32 5 3,V (st' 30 22 21)] (cR [L 23 32 5,V (st' 32 10 23)])
abbrev Yp:=cX [N 5 (bx 32 0),N 10 (.alloc 32)] Iw
theorem WE:fE 114 Yp 24 [.cell 10 32]:=fR
abbrev Ix:=cO [M 49 5,N 50 (iN 49),A 5 50]
abbrev Iy:=cS (cB 1 (cS (.draw [yF (F 51 86 2 3),yF (L 52 23 51),yF (M 53 5),yF (N 54 (ia 23 52 53)),yF (L 55 86 54),yF (F 56 86 3 3),yF (L 57 23 56),yF (M 58 5),yF (N 59 (ia 23 57 58)),yF (L 60 86 59),yT (N 61 (c2 115 55 60 86 86)),yT (N 62 (nt' 4 61))]) (cC (T 62) (cR [N 4 (.assign B0)]) .skip))) Ix
abbrev Am:=cS (cX [M 44 5,F 45 86 2 3,L 46 23 45,N 47 (ln 46 23),N 48 (bo .lss 3 44 47 3)] (cC (T 48) .skip (.exit 0))) Iy
abbrev Iz:=cO [M 68 6,N 69 (iN 68),A 6 69]
abbrev IA:=cS (cB 3 (cS (.draw [yF (F 70 86 2 4),yF (L 71 22 70),yF (M 72 6),yF (N 73 (ia 22 71 72)),yF (L 74 25 73),yF (F 75 86 3 4),yF (L 76 22 75),yF (M 77 6),yF (N 78 (ia 22 76 77)),yF (L 79 25 78),yT (N 80 (c2 92 74 79 25 25)),yT (N 81 (nt' 4 80))]) (cC (T 81) (cR [N 4 (.assign B0)]) .skip))) Iz
abbrev An:=cS (cX [M 63 6,F 64 86 2 4,L 65 22 64,N 66 (ln 65 22),N 67 (bo .lss 3 63 66 3)] (cC (T 67) .skip (.exit 2))) IA
abbrev IB:=cS (cX [N 6 (ak 0)] (cW 2 An)) (cR [N 4 (.assign B1)])
abbrev IC:=cS (cX [F 7 86 2 0,L 8 3 7,F 9 86 3 0,L 10 3 9,N 11 (bo .neq 3 8 10 3),M 12 11,Z 12 13 (fa 86 2 1),Z 12 14 (ld' 48 13),Z 12 15 (fa 86 3 1),Z 12 16 (ld' 48 15),Z 12 17 (bo .neq 48 14 16 48),N 18 (po 12 17),M 19 18,Z 19 20 (fa 86 2 2),Z 19 21 (ld' 9 20),Z 19 22 (fa 86 3 2),Z 19 23 (ld' 9 22),Z 19 24 (bo .neq 9 21 23 9),N 25 (po 19 24),M 26 25,Z 26 27 (fa 86 2 3),Z 26 28 (ld' 23 27),Z 26 29 (ln 28 23),Z 26 30 (fa 86 3 3),Z 26 31 (ld' 23 30),Z 26 32 (ln 31 23),Z 26 33 (bo .neq 3 29 32 3),N 34 (po 26 33),M 35 34,Z 35 36 (fa 86 2 4),Z 35 37 (ld' 22 36),Z 35 38 (ln 37 22),Z 35 39 (fa 86 3 4),Z 35 40 (ld' 22 39),Z 35 41 (ln 40 22),Z 35 42 (bo .neq 3 38 41 3),N 43 (po 35 42)] (cC (T 43) (cR [N 4 (.assign B0)]) .skip)) (cS (cX [N 5 (ak 0)] (cW 0 Am)) IB)
abbrev Yq:=cX [N 2 (bx 86 0),N 3 (bx 86 1),N 4 (.assign B0)] IC
theorem WF:fE 115 Yq 82 [.tmp 4]:=fR
abbrev IE:=cR [M 59 9,M 60 59,Y 60 61 (mv 8),Y 60 62 (fa 86 3 2),Y 60 63 (ld' 9 62),Y 60 64 (bo .eql 9 61 63 9),N 65 (pa 60 64),A 4 65]
abbrev IG:=cC (T 80) .skip (cO [N 82 (bk .eql 3 17 9 3),A 80 82])
abbrev IH:=cC (T 92) (cR [F 94 86 3 3,L 95 23 94,M 96 0,N 97 (.makeFunc (Fn.func 116) #[T 96] #[]),N 98 (c2 136 95 97 23 170),A 4 98]) .skip
abbrev II:=cC (T 80) (cS (.draw [yF (F 83 86 3 3),yF (L 84 23 83),yF (M 85 0),yF (N 86 (.makeFunc (Fn.func 137) #[T 85] #[])),yF (N 87 (c2 136 84 86 23 170)),yF (F 88 86 3 0),yF (L 89 3 88),yF (N 90 (bk .eql 3 89 8 3)),yT (N 91 (bo .eql 4 87 90 4)),yT (A 4 91)]) .ret) (cX [N 93 (bk .eql 3 17 10 3),A 92 93] IH)
abbrev IJ:=cC (T 66) (cS (.draw [yF (M 68 5),yF (N 69 (nt' 4 68)),yF (M 70 69),yF (Y 70 71 (mv 0)),yF (Y 70 72 (nc 71)),yF (Y 70 73 (fa 169 72 1)),yF (Y 70 74 (fa 51 73 3)),yF (Y 70 75 (ld' 9 74)),yF (Y 70 76 (fa 86 3 2)),yF (Y 70 77 (ld' 9 76)),yT (Y 70 78 (bo .eql 9 75 77 9)),yT (N 79 (pa 70 78)),yT (A 4 79)]) .ret) (cS (cX [N 81 (bk .eql 3 17 8 3),A 80 81] IG) II)
abbrev IK:=cC (T 50) (cX [M 53 0,F 54 86 3 1,L 55 48 54,N 56 (c2 135 53 55 167 48),M 52 56,N 57 (ex 52 0),N 58 (ex 52 1),A 8 57,A 9 58] IE) (cX [N 67 (bk .eql 3 17 7 3),A 66 67] IJ)
abbrev IL:=cC (T 40) (cX [M 43 0,F 44 86 3 1,L 45 48 44,N 46 (c2 135 43 45 167 48),M 42 46,N 47 (ex 42 0),N 48 (ex 42 1),A 6 47,A 7 48] (cR [M 49 7,A 4 49])) (cX [N 51 (bk .eql 3 17 6 3),A 50 51] IK)
abbrev IM:=cC (T 27) (cS (.draw [yF (M 29 5),yF (M 30 29),yF (Y 30 31 (mv 0)),yF (Y 30 32 (nc 31)),yF (Y 30 33 (fa 169 32 1)),yF (Y 30 34 (fa 51 33 1)),yF (Y 30 35 (ld' 48 34)),yF (Y 30 36 (fa 86 3 1)),yF (Y 30 37 (ld' 48 36)),yT (Y 30 38 (bo .eql 48 35 37 48)),yT (N 39 (pa 30 38)),yT (A 4 39)]) .ret) (cX [N 41 (bk .eql 3 17 5 3),A 40 41] IL)
abbrev IO:=cC (T 23) (cR [M 25 5,N 26 (nt' 4 25),A 4 26]) (cX [N 28 (bk .eql 3 17 4 3),A 27 28] IM)
abbrev IP:=cC (T 20) (cR [M 22 5,A 4 22]) (cX [N 24 (bk .eql 3 17 3 3),A 23 24] IO)
abbrev Dk:=cC (T 18) (cR [N 4 (.assign B1)]) (cX [N 21 (bk .eql 3 17 2 3),A 20 21] IP)
abbrev Dl:=cB 0 (cX [N 19 (bk .eql 3 17 1 3),A 18 19] Dk)
abbrev Dm:=cR [F 99 86 3 4,L 100 22 99,M 101 0,N 102 (.makeFunc (Fn.func 138) #[T 101] #[]),N 103 (c2 104 100 102 22 27),A 4 103]
abbrev Dn:=cX [M 10 0,N 11 (nc 10),F 12 169 11 1,F 13 51 12 0,L 14 3 13,N 15 (bk .eql 3 14 1 3),A 5 15] (cS (cX [F 16 86 3 0,L 17 3 16] Dl) Dm)
abbrev Yr:=cX [N 3 (bx 86 1),N 4 (.assign B0)] Dn
theorem WG:fE 116 Yr 104 [.tmp 4]:=fR
abbrev IQ:=cR [F 5 59 2 0,L 6 4 5,M 7 6,Y 7 8 (fa 59 2 2),Y 7 9 (ld' 9 8),Y 7 10 (mv 1),Y 7 11 (.index 9 (T 9) (T 10)),Y 7 12 (.binOp .eql 5 (T 11) (.const (.int .u8 1)) 5),N 13 (pa 7 12),A 4 13]
abbrev Ys:=cX [N 2 (bx 59 0),N 4 (.assign B0)] IQ
theorem WH:fE 117 Ys 14 [.tmp 4]:=fR
abbrev IR:=cC (T 17) (cR [N 4 (ak 0),N 5 (ak 0),N 6 (ak 7)]) .skip
abbrev IS:=cC (T 35) (cO [M 36 0,M 37 1,M 38 7,N 39 (cf 139 #[T 36,T 37,T 38] #[9,3,3]),A 8 39]) .skip
abbrev IT:=cC (T 51) (cR [M 52 8,M 53 7,A 4 52,A 5 53,N 6 (ak 0)]) .skip
abbrev IU:=cX [M 42 9,N 43 (ln 42 81),M 44 7,N 45 (bo .eql 3 43 44 3),M 46 45,Y 46 47 (mv 0),Y 46 48 (mv 1),Y 46 49 (mv 9),Y 46 50 (cf 141 #[T 47,T 48,T 49] #[9,3,81]),N 51 (pa 46 50)] IT
abbrev IV:=cX [M 40 8,N 41 (c1 140 40 3),A 9 41] IU
def Aq:E4:=IV
abbrev IW:=cS (cX [M 34 7,N 35 (bk .gtr 3 34 1 3)] IS) Aq
abbrev Ap:=cO [M 28 7,N 29 (iN 28),A 7 29]
abbrev IX:=cS (cB 1 (cX [M 30 0,M 31 1,N 32 (.index 9 (T 30) (T 31)),N 33 (.convert 5 3 (T 32)),A 8 33] IW)) Ap
abbrev Ao:=cS (cX [M 18 7,N 19 (bk .leq 3 18 4 3),M 20 19,Y 20 21 (mv 1),Y 20 22 (mv 7),Y 20 23 (bo .add 3 21 22 3),Y 20 24 (mv 0),Y 20 25 (ln 24 9),Y 20 26 (bo .leq 3 23 25 3),N 27 (pa 20 26)] (cC (T 27) .skip (.exit 0))) IX
abbrev IY:=cC (T 56) (cR [N 4 (ak 0),N 5 (ak 0),N 6 (ak 7)]) .skip
abbrev IZ:=cR [N 4 (ak 0),N 5 (ak 0),N 6 (ak 2)]
abbrev Dp:=cS (cX [M 54 0,M 55 1,N 56 (c2 142 54 55 9 3)] IY) IZ
abbrev Dq:=cS (cX [M 10 1,N 11 (bk .lss 3 10 0 3),M 12 11,Z 12 13 (mv 1),Z 12 14 (mv 0),Z 12 15 (ln 14 9),Z 12 16 (bo .geq 3 13 15 3),N 17 (po 12 16)] IR) (cS (cX [N 7 (ak 1)] (cW 0 Ao)) Dp)
abbrev Yt:=cX [N 4 (ak 0),N 5 (ak 0),N 6 (ak 0)] Dq
theorem WI:fE 118 Yt 57 [.tmp 4,.tmp 5,.tmp 6]:=fR
abbrev Ja:=cR [M 3 0,N 4 (bk .eql 3 3 9 3),M 5 4,Z 5 6 (mv 0),Z 5 7 (bk .eql 3 6 10 3),N 8 (po 5 7),M 9 8,Z 9 10 (mv 0),Z 9 11 (bk .eql 3 10 13 3),N 12 (po 9 11),M 13 12,Z 13 14 (mv 0),Z 13 15 (bk .eql 3 14 32 3),N 16 (po 13 15),A 2 16]
abbrev Yu:=cX [N 2 (.assign B0)] Ja
theorem WJ:fE 119 Yu 17 [.tmp 2]:=fR
abbrev Jb:=cC (T 10) (cR [M 11 0,N 12 (bk .leq 3 11 90 3),M 13 12,Z 13 14 (mv 0),Z 13 15 (bk .eql 3 14 95 3),N 16 (po 13 15),M 17 16,Z 17 18 (mv 0),Z 17 19 (bk .geq 3 18 97 3),Z 17 20 (mv 19),Y 20 21 (mv 0),Y 20 22 (bk .leq 3 21 122 3),Z 17 23 (pa 20 22),N 24 (po 17 23),A 2 24]) .skip
abbrev Jc:=cC (T 46) (cR [M 47 0,N 48 (bk .eql 3 47 8204 3),M 49 48,Z 49 50 (mv 0),Z 49 51 (bk .eql 3 50 8205 3),N 52 (po 49 51),A 2 52]) .skip
abbrev Jd:=cR [M 69 0,N 70 (bk .leq 3 69 65533 3),M 71 70,Z 71 72 (mv 0),Z 71 73 (bk .geq 3 72 65536 3),N 74 (po 71 73),A 2 74]
abbrev Je:=cS (cX [M 67 0,N 68 (bk .lss 3 67 65008 3)] (cC (T 68) (cR [N 2 (.assign B0)]) .skip)) Jd
abbrev Jf:=cS (cX [M 65 0,N 66 (bk .lss 3 65 64976 3)] (cC (T 66) (cR [N 2 (.assign B1)]) .skip)) Je
abbrev Jg:=cS (cX [M 63 0,N 64 (bk .lss 3 63 63744 3)] (cC (T 64) (cR [N 2 (.assign B0)]) .skip)) Jf
abbrev Jh:=cS (cX [M 61 0,N 62 (bk .lss 3 61 55296 3)] (cC (T 62) (cR [N 2 (.assign B1)]) .skip)) Jg
abbrev Ji:=cS (cX [M 59 0,N 60 (bk .lss 3 59 12289 3)] (cC (T 60) (cR [N 2 (.assign B0)]) .skip)) Jh
abbrev Jj:=cS (cX [M 57 0,N 58 (bk .lss 3 57 12272 3)] (cC (T 58) (cR [N 2 (.assign B1)]) .skip)) Ji
abbrev Jk:=cS (cX [M 55 0,N 56 (bk .lss 3 55 11264 3)] (cC (T 56) (cR [N 2 (.assign B0)]) .skip)) Jj
abbrev Dr:=cS (cX [M 53 0,N 54 (bk .lss 3 53 8592 3)] (cC (T 54) (cR [N 2 (.assign B1)]) .skip)) Jk
abbrev Ds:=cS (cX [M 45 0,N 46 (bk .lss 3 45 8304 3)] Jc) Dr
abbrev Dt:=cS (cX [M 43 0,N 44 (bk .lss 3 43 8192 3)] (cC (T 44) (cR [N 2 (.assign B1)]) .skip)) Ds
abbrev Du:=cS (cX [M 37 0,N 38 (bk .lss 3 37 880 3),M 39 38,Z 39 40 (mv 0),Z 39 41 (bk .eql 3 40 894 3),N 42 (po 39 41)] (cC (T 42) (cR [N 2 (.assign B0)]) .skip)) Dt
abbrev Dv:=cS (cX [M 35 0,N 36 (bk .lss 3 35 768 3)] (cC (T 36) (cR [N 2 (.assign B1)]) .skip)) Du
abbrev Dw:=cS (cX [M 25 0,N 26 (bk .lss 3 25 192 3),M 27 26,Z 27 28 (mv 0),Z 27 29 (bk .eql 3 28 215 3),N 30 (po 27 29),M 31 30,Z 31 32 (mv 0),Z 31 33 (bk .eql 3 32 247 3),N 34 (po 31 33)] (cC (T 34) (cR [N 2 (.assign B0)]) .skip)) Dv
abbrev Dx:=cS (cX [M 9 0,N 10 (bk .lss 3 9 128 3)] Jb) Dw
abbrev Dy:=cS (cX [M 3 0,N 4 (bk .lss 3 3 65 3),M 5 4,Z 5 6 (mv 0),Z 5 7 (bk .gtr 3 6 983039 3),N 8 (po 5 7)] (cC (T 8) (cR [N 2 (.assign B0)]) .skip)) Dx
abbrev Yv:=cX [N 2 (.assign B0)] Dy
theorem WK:fE 120 Yv 75 [.tmp 2]:=fR
abbrev Jl:=cR [M 3 0,N 4 (c1 120 3 3),M 5 4,Z 5 6 (mv 0),Z 5 7 (bk .eql 3 6 45 3),N 8 (po 5 7),M 9 8,Z 9 10 (mv 0),Z 9 11 (bk .eql 3 10 46 3),N 12 (po 9 11),M 13 12,Z 13 14 (mv 0),Z 13 15 (bk .geq 3 14 48 3),Z 13 16 (mv 15),Y 16 17 (mv 0),Y 16 18 (bk .leq 3 17 57 3),Z 13 19 (pa 16 18),N 20 (po 13 19),M 21 20,Z 21 22 (mv 0),Z 21 23 (bk .eql 3 22 183 3),N 24 (po 21 23),M 25 24,Z 25 26 (mv 0),Z 25 27 (bk .geq 3 26 768 3),Z 25 28 (mv 27),Y 28 29 (mv 0),Y 28 30 (bk .leq 3 29 879 3),Z 25 31 (pa 28 30),N 32 (po 25 31),M 33 32,Z 33 34 (mv 0),Z 33 35 (bk .eql 3 34 8255 3),N 36 (po 33 35),M 37 36,Z 37 38 (mv 0),Z 37 39 (bk .eql 3 38 8256 3),N 40 (po 37 39),A 2 40]
abbrev Yw:=cX [N 2 (.assign B0)] Jl
theorem WL:fE 121 Yw 41 [.tmp 2]:=fR
abbrev Jm:=cO [M 16 7,N 17 (iN 16),A 7 17]
abbrev Jn:=cS (cB 1 (cX [M 18 0,M 19 7,M 20 7,M 21 2,N 22 (ln 21 9),N 23 (bo .add 3 20 22 3),N 24 (.slice 9 (T 18) (some (T 19)) (some (T 23)) none),M 25 2,N 26 (bo .eql 9 24 25 9)] (cC (T 26) (cR [M 27 7,A 6 27]) .skip))) Jm
abbrev Ar:=cS (cX [M 9 7,M 10 2,N 11 (ln 10 9),N 12 (bo .add 3 9 11 3),M 13 0,N 14 (ln 13 9),N 15 (bo .leq 3 12 14 3)] (cC (T 15) .skip (.exit 0))) Jn
abbrev Jo:=cS (cX [M 8 1,A 7 8] (cW 0 Ar)) (cR [N 6 (ak (-1))])
abbrev Yx:=cX [N 6 (ak 0)] Jo
theorem WM:fE 125 Yx 28 [.tmp 6]:=fR
abbrev Jp:=cR [M 9 0,L 10 48 3,N 11 (.buildSlice 95 1 #[(0,T 10)]),N 12 (ap 9 11 95 95),A 4 12]
abbrev Jq:=cS (cX [M 5 0,L 6 48 3,N 7 (c2 147 5 6 95 48)] (cC (T 7) (cR [M 8 0,A 4 8]) .skip)) Jp
abbrev Yy:=cX [N 3 (bx 48 1),N 4 (.assign S0)] Jq
theorem WN:fE 126 Yy 13 [.tmp 4]:=fR
abbrev Jr:=cX [M 13 5,N 14 (bk .geq 3 13 0 3)] (cC (T 14) (cR [M 15 5,A 4 15]) .skip)
abbrev Js:=cR [M 39 0,N 40 (nc 39),F 41 130 40 0,F 42 99 41 1,L 43 95 42,N 44 (ln 43 95),N 45 (bk .sub 3 44 1 3),A 4 45]
abbrev Jt:=cS (.mix [m2 (M 16 0) 0 4,m2 (M 17 0) 0 5,m2 (M 18 0) 0 1,m2 (N 19 (nc 18)) 0 1,m2 (F 20 130 19 0) 0 1,m2 (F 21 99 20 1) 0 1,⟨L 22 95 21,false,true,0,1⟩,m1 (L 23 48 3),m4 (N 24 (.buildSlice 95 1 #[(0,T 23)])) 0 1,m3 (N 25 (ap 22 24 95 95)) 1 3,m2 (M 26 0) 0 3,m2 (N 27 (nc 26)) 0 3,m2 (F 28 130 27 0) 0 3,m2 (F 29 99 28 2) 0 3,⟨L 30 96 29,false,true,0,3⟩,m4 (N 31 (.buildSlice 96 1 #[(0,S0)])) 0 3,m3 (N 32 (ap 30 31 96 96)) 3 4,m2 (N 33 (nc 16)) 4 4,m2 (F 34 130 33 0) 4 4,m2 (F 35 99 34 1) 4 4,m4 (V (st' 95 35 25)) 4 5,m2 (N 36 (nc 17)) 5 5,m2 (F 37 130 36 0) 5 5,m2 (F 38 99 37 2) 5 5,m4 (V (st' 96 38 32)) 5 6]) Js
abbrev Ju:=cS (cS (.draw [yF (M 6 0),yF (N 7 (nc 6)),yF (F 8 130 7 0),yF (F 9 99 8 1),yF (L 10 95 9),yF (L 11 48 3),yT (N 12 (c2 148 10 11 95 48)),yT (A 5 12)]) Jr) Jt
abbrev Yz:=cX [N 3 (bx 48 1),N 4 (ak 0)] Ju
theorem WO:fE 127 Yz 46 [.tmp 4]:=fR
abbrev Jv:=cR [M 9 0,M 10 1,N 11 (.buildSlice 97 1 #[(0,T 10)]),N 12 (ap 9 11 97 97),A 4 12]
abbrev Jw:=cS (cX [M 5 0,M 6 1,N 7 (c2 80 5 6 97 9)] (cC (T 7) (cR [M 8 0,A 4 8]) .skip)) Jv
abbrev YA:=cX [N 4 (.assign S0)] Jw
theorem WP:fE 128 YA 13 [.tmp 4]:=fR
abbrev Jy:=cC (T 17) (cR [M 18 0,N 19 (c1 149 18 3),A 4 19]) .skip
abbrev Jz:=cC (T 23) (cO [M 24 6,N 25 (.unOp .neg 197 (T 24)),A 6 25]) .skip
abbrev JA:=cR [M 36 7,N 37 (.binOp .add 3 (K 1) (T 36) 3),N 38 (.slice 196 (T 5) none (some (T 37)) none),N 39 (.convert 81 9 (T 38)),A 4 39]
abbrev JB:=cC (T 34) (cX [N 35 (.indexAddr 196 (T 5) (K 0)),V (.store 5 (T 35) (.const (.int .u8 45)))] JA) .skip
abbrev JC:=cR [M 40 7,N 41 (.binOp .add 3 (K 1) (T 40) 3),N 42 (.slice 196 (T 5) (some (K 1)) (some (T 41)) none),N 43 (.convert 81 9 (T 42)),A 4 43]
abbrev JD:=cS (cX [M 33 0,N 34 (bk .lss 2 33 0 2)] JB) JC
abbrev JE:=cX [M 28 7,N 29 (.binOp .add 3 (K 1) (T 28) 3),N 30 (.slice 196 (T 5) (some (K 1)) (some (T 29)) none),M 31 6,N 32 (c2 151 30 31 81 197)] JD
abbrev JF:=cX [M 26 6,N 27 (c1 150 26 197),A 7 27] JE
abbrev JG:=cS (cX [M 22 0,N 23 (bk .lss 2 22 0 2)] Jz) JF
abbrev JH:=cX [M 20 0,N 21 (.convert 2 197 (T 20)),A 6 21] JG
abbrev Dz:=cC (T 11) (cS (cX [M 12 0,N 13 (.binOp .leq 2 (K 0) (T 12) 2),M 14 13,Y 14 15 (mv 0),Y 14 16 (bk .lss 2 15 100 2),N 17 (pa 14 16)] Jy) (cX [N 5 (.alloc 196)] JH)) .skip
abbrev DA:=cX [M 45 0,N 46 (.convert 2 197 (T 45)),M 47 1,M 48 0,N 49 (bk .lss 2 48 0 2),N 50 (cf 152 #[S0,T 46,T 47,T 49,B0] #[81,197,3,4,4]),M 44 50,N 51 (ex 44 0),N 52 (ex 44 1),A 8 51,A 9 52] (cR [M 53 9,A 4 53])
abbrev DB:=cS (cX [M 10 1,N 11 (bk .eql 3 10 10 3)] Dz) DA
abbrev YB:=cX [N 4 (.assign (.const (.string ByteArray.empty)))] DB
theorem WQ:fE 129 YB 54 [.tmp 4]:=fR
abbrev JS:=cX [M 11 1,M 12 0,M 13 5,N 14 (ia 22 12 13),L 15 25 14,N 16 (cv (T 11) #[T 15] #[25])] (cC (T 16) (cR [M 17 5,A 4 17]) .skip)
abbrev JT:=cS (cB 1 (cX [M 10 8,A 5 10] JS)) (cO [N 18 (iN 8),M 8 18])
abbrev Au:=cH 9 8 7 JT
abbrev JU:=cS (cX [M 6 0,N 7 (ln 6 22),N 8 (.move (K 0))] (cW 0 Au)) (cR [N 4 (ak (-1))])
abbrev YC:=cX [N 4 (ak 0)] JU
theorem WS:fE 130 YC 19 [.tmp 4]:=fR
abbrev JV:=cX [M 26 2,L 27 25 8,L 28 25 9,N 29 (cv (T 26) #[T 27,T 28] #[25,25]),N 30 (nt' 4 29)] (cC (T 30) (cR [N 6 (.assign B0)]) .skip)
abbrev JW:=cX [M 22 1,M 23 7,N 24 (ia 22 22 23),L 25 25 24,N 9 (.alloc 25),V (st' 25 9 25)] JV
abbrev JX:=cS (cB 1 (cX [M 19 17,N 20 (ia 22 15 17),L 21 25 20,N 8 (.alloc 25),A 7 19,V (st' 25 8 21)] JW)) (cO [N 31 (iN 17),M 17 31])
abbrev Av:=cH 18 17 16 JX
abbrev JY:=cS (cX [M 15 0,N 16 (ln 15 22),N 17 (.move (K 0))] (cW 0 Av)) (cR [N 6 (.assign B1)])
abbrev JZ:=cS (cX [M 10 0,N 11 (ln 10 22),M 12 1,N 13 (ln 12 22),N 14 (bo .neq 3 11 13 3)] (cC (T 14) (cR [N 6 (.assign B0)]) .skip)) JY
abbrev YD:=cX [N 6 (.assign B0)] JZ
theorem WT:fE 131 YD 32 [.tmp 6]:=fR
abbrev Ka:=cX [M 26 2,L 27 86 8,L 28 86 9,N 29 (cv (T 26) #[T 27,T 28] #[86,86]),N 30 (nt' 4 29)] (cC (T 30) (cR [N 6 (.assign B0)]) .skip)
abbrev Kg:=cX [M 22 1,M 23 7,N 24 (ia 23 22 23),L 25 86 24,N 9 (.alloc 86),V (st' 86 9 25)] Ka
abbrev Kh:=cS (cB 1 (cX [M 19 17,N 20 (ia 23 15 17),L 21 86 20,N 8 (.alloc 86),A 7 19,V (st' 86 8 21)] Kg)) (cO [N 31 (iN 17),M 17 31])
abbrev Aw:=cH 18 17 16 Kh
abbrev Ki:=cS (cX [M 15 0,N 16 (ln 15 23),N 17 (.move (K 0))] (cW 0 Aw)) (cR [N 6 (.assign B1)])
abbrev Kj:=cS (cX [M 10 0,N 11 (ln 10 23),M 12 1,N 13 (ln 12 23),N 14 (bo .neq 3 11 13 3)] (cC (T 14) (cR [N 6 (.assign B0)]) .skip)) Ki
abbrev YE:=cX [N 6 (.assign B0)] Kj
theorem WU:fE 132 YE 32 [.tmp 6]:=fR
abbrev Kk:=cR [F 5 86 2 0,L 6 3 5,F 7 86 3 0,L 8 3 7,N 9 (bo .eql 3 6 8 3),M 10 9,Y 10 11 (fa 86 2 1),Y 10 12 (ld' 48 11),Y 10 13 (fa 86 3 1),Y 10 14 (ld' 48 13),Y 10 15 (bo .eql 48 12 14 48),N 16 (pa 10 15),M 17 16,Y 17 18 (fa 86 2 2),Y 17 19 (ld' 9 18),Y 17 20 (fa 86 3 2),Y 17 21 (ld' 9 20),Y 17 22 (bo .eql 9 19 21 9),N 23 (pa 17 22),M 24 23,Y 24 25 (fa 86 2 3),Y 24 26 (ld' 23 25),Y 24 27 (fa 86 3 3),Y 24 28 (ld' 23 27),Y 24 29 (cf 132 #[T 26,T 28,.func 133] #[23,23,166]),N 30 (pa 24 29),M 31 30,Y 31 32 (fa 86 2 4),Y 31 33 (ld' 22 32),Y 31 34 (fa 86 3 4),Y 31 35 (ld' 22 34),Y 31 36 (cf 131 #[T 33,T 35,.func 106] #[22,22,147]),N 37 (pa 31 36),A 4 37]
abbrev YF:=cX [N 2 (bx 86 0),N 3 (bx 86 1),N 4 (.assign B0)] Kk
theorem WV:fE 133 YF 38 [.tmp 4]:=fR
abbrev YG:=cO [M 4 0,M 5 0,N 6 (nc 5),F 7 135 6 0,F 8 32 7 3,L 9 30 8,M 10 1,N 11 (ap 9 10 30 30),N 12 (nc 4),F 13 135 12 0,F 14 32 13 3,V (st' 30 14 11)]
theorem WW:fE 134 YG 15 []:=fR
abbrev Kl:=cC (T 21) (cS (.draw [yF (F 22 53 7 1),yF (L 23 9 22),yF (M 24 0),yF (N 25 (nc 24)),yF (F 26 169 25 1),yF (F 27 51 26 0),yF (L 28 3 27),yF (N 29 (bk .eql 3 28 1 3)),yF (A 4 23),yT (A 5 29)]) .ret) .skip
abbrev Km:=cX [F 18 53 7 0,L 19 48 18,L 20 48 3,N 21 (bo .eql 48 19 20 48)] Kl
abbrev Kn:=cS (cB 1 (cX [N 16 (ia 49 12 14),L 17 53 16,N 7 (.alloc 53),V (st' 53 7 17)] Km)) (cO [N 30 (iN 14),M 14 30])
abbrev Ax:=cH 15 14 13 Kn
abbrev Ko:=cR [N 4 (.assign (.const (.string ByteArray.empty))),N 5 (.assign B0)]
abbrev Kp:=cS (cX [M 8 0,N 9 (nc 8),F 10 169 9 1,F 11 51 10 2,L 12 49 11,N 13 (ln 12 49),N 14 (.move (K 0))] (cW 0 Ax)) Ko
abbrev YH:=cX [N 3 (bx 48 1),N 4 (.assign (.const (.string ByteArray.empty))),N 5 (.assign B0)] Kp
theorem WX:fE 135 YH 31 [.tmp 4,.tmp 5]:=fR
abbrev Kq:=cR [M 5 0,M 6 1,N 7 (c2 153 5 6 23 170),N 8 (bk .geq 3 7 0 3),A 4 8]
abbrev YI:=cX [N 4 (.assign B0)] Kq
theorem WY:fE 136 YI 9 [.tmp 4]:=fR
abbrev Kr:=cR [M 5 0,L 6 86 3,N 7 (c2 116 5 6 167 86),N 8 (nt' 4 7),A 4 8]
abbrev YJ:=cX [N 3 (bx 86 1),N 4 (.assign B0)] Kr
theorem WZ:fE 137 YJ 9 [.tmp 4]:=fR
abbrev Kt:=cS (.draw [yF (M 12 5),yF (N 13 (bk .geq 3 12 0 3)),yF (M 14 13),yF (Y 14 15 (mv 0)),yF (Y 14 16 (nc 15)),yF (Y 14 17 (fa 169 16 2)),yF (Y 14 18 (ld' 81 17)),yF (Y 14 19 (mv 0)),yF (Y 14 20 (nc 19)),yF (Y 14 21 (fa 169 20 0)),yF (Y 14 22 (fa 34 21 2)),yF (Y 14 23 (ld' 29 22)),yF (Y 14 24 (mv 5)),yF (Y 14 25 (ia 29 23 24)),yF (Y 14 26 (ld' 3 25)),yF (Y 14 27 (mv 0)),yF (Y 14 28 (nc 27)),yF (Y 14 29 (fa 169 28 0)),yF (Y 14 30 (fa 34 29 1)),yF (Y 14 31 (ld' 28 30)),yF (Y 14 32 (mv 5)),yF (Y 14 33 (ia 28 31 32)),yF (Y 14 34 (fa 32 33 1)),yF (Y 14 35 (ld' 3 34)),yF (Y 14 36 (bo .add 3 26 35 3)),yT (Y 14 37 (ia 81 18 36)),yT (Y 14 38 (ld' 5 37)),yT (Y 14 39 (.binOp .eql 5 (T 38) (.const (.int .u8 1)) 5)),yT (N 40 (pa 14 39)),yT (A 4 40)]) .ret
abbrev Ku:=cS (.draw [yF (M 6 0),yF (N 7 (nc 6)),yF (F 8 169 7 0),yF (L 9 34 8),yF (L 10 25 3),yT (N 11 (c2 154 9 10 34 25)),yT (A 5 11)]) Kt
abbrev YK:=cX [N 3 (bx 25 1),N 4 (.assign B0)] Ku
theorem Xa:fE 138 YK 41 [.tmp 4]:=fR
abbrev Kw:=cC (T 26) (cO [M 27 9,N 28 (bk .sub 3 27 192 3),A 9 28]) .skip
abbrev Kx:=cC (T 34) (cO [M 35 9,N 36 (bk .sub 3 35 224 3),A 9 36]) .skip
abbrev Ky:=cC (T 42) (cO [M 43 9,N 44 (bk .sub 3 43 240 3),A 9 44]) .skip
abbrev Kz:=cC (T 46) (cO [M 47 9,N 48 (bk .sub 3 47 128 3),A 9 48]) .skip
abbrev KA:=cO [M 49 7,N 50 (bk .mul 3 49 64 3),M 51 9,N 52 (bo .add 3 50 51 3),A 7 52]
abbrev KB:=cS (cX [M 45 8,N 46 (bk .gtr 3 45 0 3)] Kz) KA
abbrev KC:=cS (cX [M 37 8,N 38 (bk .eql 3 37 0 3),M 39 38,Y 39 40 (mv 2),Y 39 41 (bk .eql 3 40 4 3),N 42 (pa 39 41)] Ky) KB
abbrev KD:=cS (cX [M 29 8,N 30 (bk .eql 3 29 0 3),M 31 30,Y 31 32 (mv 2),Y 31 33 (bk .eql 3 32 3 3),N 34 (pa 31 33)] Kx) KC
abbrev KE:=cS (cX [M 21 8,N 22 (bk .eql 3 21 0 3),M 23 22,Y 23 24 (mv 2),Y 23 25 (bk .eql 3 24 2 3),N 26 (pa 23 25)] Kw) KD
abbrev KF:=cO [M 13 8,N 14 (iN 13),A 8 14]
abbrev DC:=cS (cB 1 (cX [M 15 0,M 16 1,M 17 8,N 18 (bo .add 3 16 17 3),N 19 (.index 9 (T 15) (T 18)),N 20 (.convert 5 3 (T 19)),A 9 20] KE)) KF
abbrev Kv:=cS (cX [M 10 8,M 11 2,N 12 (bo .lss 3 10 11 3)] (cC (T 12) .skip (.exit 0))) DC
abbrev DD:=cS (cX [N 8 (ak 0)] (cW 0 Kv)) (cR [M 53 7,A 6 53])
abbrev YL:=cX [N 6 (ak 0)] (cX [N 7 (ak 0)] DD)
theorem Xb:fE 139 YL 54 [.tmp 6]:=fR
abbrev au4:=cC (T 18) (cR [M 19 0,N 20 (.convert 3 5 (T 19)),N 21 (.buildSlice 81 1 #[(0,T 20)]),A 2 21]) .skip
abbrev KH:=cC (T 23) (cR [M 24 0,N 25 (bk .quo 3 24 64 3),N 26 (.binOp .add 3 (K 192) (T 25) 3),N 27 (.convert 3 5 (T 26)),M 28 0,N 29 (bk .rem 3 28 64 3),N 30 (.binOp .add 3 (K 128) (T 29) 3),N 31 (.convert 3 5 (T 30)),N 32 (.buildSlice 81 2 #[(0,T 27),(1,T 31)]),A 2 32]) .skip
abbrev KI:=cC (T 34) (cR [M 35 0,N 36 (bk .quo 3 35 4096 3),N 37 (.binOp .add 3 (K 224) (T 36) 3),N 38 (.convert 3 5 (T 37)),M 39 0,N 40 (bk .quo 3 39 64 3),N 41 (bk .rem 3 40 64 3),N 42 (.binOp .add 3 (K 128) (T 41) 3),N 43 (.convert 3 5 (T 42)),M 44 0,N 45 (bk .rem 3 44 64 3),N 46 (.binOp .add 3 (K 128) (T 45) 3),N 47 (.convert 3 5 (T 46)),N 48 (.buildSlice 81 3 #[(0,T 38),(1,T 43),(2,T 47)]),A 2 48]) .skip
abbrev KJ:=cR [M 49 0,N 50 (bk .quo 3 49 262144 3),N 51 (.binOp .add 3 (K 240) (T 50) 3),N 52 (.convert 3 5 (T 51)),M 53 0,N 54 (bk .quo 3 53 4096 3),N 55 (bk .rem 3 54 64 3),N 56 (.binOp .add 3 (K 128) (T 55) 3),N 57 (.convert 3 5 (T 56)),M 58 0,N 59 (bk .quo 3 58 64 3),N 60 (bk .rem 3 59 64 3),N 61 (.binOp .add 3 (K 128) (T 60) 3),N 62 (.convert 3 5 (T 61)),M 63 0,N 64 (bk .rem 3 63 64 3),N 65 (.binOp .add 3 (K 128) (T 64) 3),N 66 (.convert 3 5 (T 65)),N 67 (.buildSlice 81 4 #[(0,T 52),(1,T 57),(2,T 62),(3,T 66)]),A 2 67]
abbrev KK:=cS (cX [M 33 0,N 34 (bk .lss 3 33 65536 3)] KI) KJ
abbrev KL:=cS (cX [M 22 0,N 23 (bk .lss 3 22 2048 3)] KH) KK
abbrev KM:=cS (cX [M 17 0,N 18 (bk .lss 3 17 128 3)] au4) KL
abbrev KN:=cS (cX [M 3 0,N 4 (bk .lss 3 3 0 3),M 5 4,Z 5 6 (mv 0),Z 5 7 (bk .gtr 3 6 1114111 3),N 8 (po 5 7),M 9 8,Z 9 10 (mv 0),Z 9 11 (bk .geq 3 10 55296 3),Z 9 12 (mv 11),Y 12 13 (mv 0),Y 12 14 (bk .leq 3 13 57343 3),Z 9 15 (pa 12 14),N 16 (po 9 15)] (cC (T 16) (cR [N 2 (.assign S0)]) .skip)) KM
abbrev YM:=cX [N 2 (.assign S0)] KN
theorem Xc:fE 140 YM 68 [.tmp 2]:=fR
abbrev KO:=cO [M 24 7,N 25 (iN 24),A 7 25]
abbrev KP:=cS (cB 1 (cS (.draw [yF (M 26 0),yF (M 27 1),yF (M 28 7),yF (N 29 (bo .add 3 27 28 3)),yF (N 30 (.index 9 (T 26) (T 29))),yF (M 31 2),yF (M 32 7),yF (N 33 (ia 81 31 32)),yF (L 34 5 33),yT (N 35 (bo .neq 5 30 34 5))]) (cC (T 35) (cR [N 6 (.assign B0)]) .skip))) KO
abbrev Ay:=cS (cX [M 20 7,M 21 2,N 22 (ln 21 81),N 23 (bo .lss 3 20 22 3)] (cC (T 23) .skip (.exit 0))) KP
abbrev KQ:=cS (cX [N 7 (ak 0)] (cW 0 Ay)) (cR [N 6 (.assign B1)])
abbrev KR:=cS (cX [M 8 2,N 9 (ln 8 81),N 10 (bk .eql 3 9 0 3),M 11 10,Z 11 12 (mv 1),Z 11 13 (mv 2),Z 11 14 (ln 13 81),Z 11 15 (bo .add 3 12 14 3),Z 11 16 (mv 0),Z 11 17 (ln 16 9),Z 11 18 (bo .gtr 3 15 17 3),N 19 (po 11 18)] (cC (T 19) (cR [N 6 (.assign B0)]) .skip)) KQ
abbrev YN:=cX [N 6 (.assign B0)] KR
theorem Xd:fE 141 YN 36 [.tmp 6]:=fR
abbrev KS:=cO [M 45 9,N 46 (.binOp .add 9 (T 45) (.const (.string ⟨#[191]⟩)) 9),A 9 46]
abbrev KT:=cB 3 (cX [M 43 8,N 44 (.binOp .add 9 (T 43) (.const (.string ⟨#[128]⟩)) 9),A 8 44] KS)
abbrev Az:=cS (cX [M 39 8,N 40 (ln 39 9),M 41 6,N 42 (bo .lss 3 40 41 3)] (cC (T 42) .skip (.exit 2))) KT
abbrev KU:=cO [M 56 13,N 57 (iN 56),A 13 57]
abbrev KV:=cS (cB 5 (cO [M 58 12,M 59 58,Y 59 60 (mv 0),Y 59 61 (mv 1),Y 59 62 (mv 13),Y 59 63 (bo .add 3 61 62 3),Y 59 64 (.index 9 (T 60) (T 63)),Y 59 65 (.binOp .geq 5 (T 64) (.const (.int .u8 128)) 5),N 66 (pa 59 65),M 67 66,Y 67 68 (mv 0),Y 67 69 (mv 1),Y 67 70 (mv 13),Y 67 71 (bo .add 3 69 70 3),Y 67 72 (.index 9 (T 68) (T 71)),Y 67 73 (.binOp .leq 5 (T 72) (.const (.int .u8 191)) 5),N 74 (pa 67 73),A 12 74])) KU
abbrev AA:=cS (cX [M 53 13,M 54 5,N 55 (bo .lss 3 53 54 3)] (cC (T 55) .skip (.exit 4))) KV
abbrev KW:=cX [M 144 17,N 145 (ln 144 81),M 146 6,N 147 (bo .eql 3 145 146 3),M 148 147,Y 148 149 (mv 17),Y 148 150 (.convert 81 9 (T 149)),Y 148 151 (.binOp .add 9 (T 150) (.const (.string ⟨#[120]⟩)) 9),Y 148 152 (mv 7),Y 148 153 (.convert 9 81 (T 152)),Y 148 154 (cf 141 #[T 151,K 0,T 153] #[9,3,81]),N 155 (pa 148 154)] (cC (T 155) (cR [N 4 (.assign B1)]) .skip)
abbrev KX:=cX [M 142 16,N 143 (c1 140 142 3),A 17 143] KW
def vu:E4:=KX
abbrev KY:=cS (cX [M 139 15,N 140 (bk .eql 3 139 63 3)] (cC (T 140) (cO [M 141 11,A 16 141]) .skip)) vu
abbrev AC:=cO [M 129 15,N 130 (iN 129),A 15 130]
abbrev KZ:=cS (cB 7 (cX [M 131 10,M 132 11,M 133 10,N 134 (bo .sub 3 132 133 3),N 135 (bk .quo 3 134 63 3),M 136 15,N 137 (bo .mul 3 135 136 3),N 138 (bo .add 3 131 137 3),A 16 138] KY)) AC
abbrev tp:=cS (cX [M 127 15,N 128 (bk .lss 3 127 64 3)] (cC (T 128) .skip (.exit 6))) KZ
abbrev La:=cS (cX [M 121 12,N 122 (nt' 4 121),M 123 122,Z 123 124 (mv 14),Z 123 125 (nt' 4 124),N 126 (po 123 125)] (cC (T 126) (.exit 1) .skip)) (cX [N 15 (ak 0)] (cW 6 tp))
abbrev vr:=cX [M 75 6,N 76 (bk .eql 3 75 2 3),M 77 76,Y 77 78 (mv 0),Y 77 79 (mv 1),Y 77 80 (.index 9 (T 78) (T 79)),Y 77 81 (.binOp .geq 5 (T 80) (.const (.int .u8 192)) 5),N 82 (pa 77 81),M 83 82,Y 83 84 (mv 0),Y 83 85 (mv 1),Y 83 86 (.index 9 (T 84) (T 85)),Y 83 87 (.binOp .lss 5 (T 86) (.const (.int .u8 224)) 5),N 88 (pa 83 87),M 89 88,Z 89 90 (mv 6),Z 89 91 (bk .eql 3 90 3 3),Z 89 92 (mv 91),Y 92 93 (mv 0),Y 92 94 (mv 1),Y 92 95 (.index 9 (T 93) (T 94)),Y 92 96 (.binOp .geq 5 (T 95) (.const (.int .u8 224)) 5),Z 89 97 (pa 92 96),Z 89 98 (mv 97),Y 98 99 (mv 0),Y 98 100 (mv 1),Y 98 101 (.index 9 (T 99) (T 100)),Y 98 102 (.binOp .lss 5 (T 101) (.const (.int .u8 240)) 5),Z 89 103 (pa 98 102),N 104 (po 89 103),M 105 104,Z 105 106 (mv 6),Z 105 107 (bk .eql 3 106 4 3),Z 105 108 (mv 107),Y 108 109 (mv 0),Y 108 110 (mv 1),Y 108 111 (.index 9 (T 109) (T 110)),Y 108 112 (.binOp .geq 5 (T 111) (.const (.int .u8 240)) 5),Z 105 113 (pa 108 112),Z 105 114 (mv 113),Y 114 115 (mv 0),Y 114 116 (mv 1),Y 114 117 (.index 9 (T 115) (T 116)),Y 114 118 (.binOp .lss 5 (T 117) (.const (.int .u8 248)) 5),Z 105 119 (pa 114 118),N 120 (po 105 119),A 14 120] La
abbrev DE:=cX [N 12 (.assign B1)] (cS (cX [N 13 (ak 1)] (cW 4 AA)) vr)
abbrev DF:=cX [M 50 9,M 51 6,N 52 (cf 139 #[T 50,K 0,T 51] #[9,3,3]),A 11 52] DE
abbrev DG:=cX [M 47 8,M 48 6,N 49 (cf 139 #[T 47,K 0,T 48] #[9,3,3]),A 10 49] DF
abbrev DH:=cX [M 37 7,A 8 37] (cX [M 38 7,A 9 38] (cS (cW 2 Az) DG))
abbrev gt:=cO [M 32 6,N 33 (iN 32),A 6 33]
abbrev DI:=cS (cB 1 (cX [M 34 0,M 35 1,N 36 (.slice 9 (T 34) (some (T 35)) none none),A 7 36] DH)) gt
abbrev AB:=cS (cX [M 30 6,N 31 (bk .leq 3 30 4 3)] (cC (T 31) .skip (.exit 0))) DI
abbrev DJ:=cS (cX [M 28 5,N 29 (iN 28),A 6 29] (cW 0 AB)) (cR [N 4 (.assign B0)])
abbrev DK:=cS (cX [M 22 5,N 23 (bk .lss 3 22 1 3),M 24 23,Z 24 25 (mv 5),Z 24 26 (bk .gtr 3 25 3 3),N 27 (po 24 26)] (cC (T 27) (cR [N 4 (.assign B0)]) .skip)) DJ
abbrev DL:=cX [M 18 0,N 19 (ln 18 9),M 20 1,N 21 (bo .sub 3 19 20 3),A 5 21] DK
abbrev YO:=cX [N 4 (.assign B0)] DL
theorem Xe:fE 142 YO 156 [.tmp 4]:=fR
abbrev Lb:=cR [M 5 0,L 6 48 3,N 7 (c2 148 5 6 95 48),N 8 (bk .geq 3 7 0 3),A 4 8]
abbrev YP:=cX [N 3 (bx 48 1),N 4 (.assign B0)] Lb
theorem Xf:fE 147 YP 9 [.tmp 4]:=fR
abbrev Lc:=cS (.draw [yF (L 11 48 3),yF (M 12 0),yF (M 13 5),yF (N 14 (ia 95 12 13)),yF (L 15 48 14),yT (N 16 (bo .eql 48 11 15 48))]) (cC (T 16) (cR [M 17 5,A 4 17]) .skip)
abbrev Ld:=cS (cB 1 (cX [M 10 8,A 5 10] Lc)) (cO [N 18 (iN 8),M 8 18])
abbrev AD:=cH 9 8 7 Ld
abbrev Lf:=cS (cX [M 6 0,N 7 (ln 6 95),N 8 (.move (K 0))] (cW 0 AD)) (cR [N 4 (ak (-1))])
abbrev YQ:=cX [N 3 (bx 48 1),N 4 (ak 0)] Lf
theorem Xg:fE 148 YQ 19 [.tmp 4]:=fR
abbrev Lj:=cX [M 11 1,M 12 0,M 13 5,N 14 (ia 23 12 13),L 15 86 14,N 16 (cv (T 11) #[T 15] #[86])] (cC (T 16) (cR [M 17 5,A 4 17]) .skip)
abbrev Lk:=cS (cB 1 (cX [M 10 8,A 5 10] Lj)) (cO [N 18 (iN 8),M 8 18])
abbrev AE:=cH 9 8 7 Lk
abbrev Ll:=cS (cX [M 6 0,N 7 (ln 6 23),N 8 (.move (K 0))] (cW 0 AE)) (cR [N 4 (ak (-1))])
abbrev YS:=cX [N 4 (ak 0)] Ll
theorem Xi:fE 153 YS 19 [.tmp 4]:=fR
abbrev Ln:=cR [F 5 34 2 0,L 6 22 5,N 7 (.makeFunc (Fn.func 165) #[] #[T 3]),N 8 (c2 130 6 7 22 27),A 4 8]
abbrev YT:=cX [N 2 (bx 34 0),N 3 (bx 25 1),N 4 (ak 0)] Ln
theorem Xj:fE 154 YT 9 [.tmp 4]:=fR
abbrev Lo:=cR [L 4 25 2,L 5 25 1,N 6 (c2 106 4 5 25 25),A 3 6]
abbrev YU:=cX [N 2 (bx 25 0),N 3 (.assign B0)] Lo
theorem Xk:fE 165 YU 7 [.tmp 3]:=fR
end Go.Proofs.YtofbhlhamfkljaaGreatDoor.Ve
namespace Go.Proofs.YtofbhlhamfkljaaGreatDoor.Ve
open Go Go.RowKit
open Go.Proofs.Tryz (prog)
abbrev tD(n s b:Nat)(z:LV)(v:Value)(g:Bool):Prop:=z9 prog n=some s/\A7 prog n=some b/\B8 prog n=some z/\lx prog n=some v/\E7 prog n=some g
abbrev tE(n s b:Nat)(z:LV)(v:Value)(g:Bool)(p:Prop):Prop:=z9 prog n=some s/\A7 prog n=some b/\B8 prog n=some z/\lx prog n=some v/\E7 prog n=some g/\p
abbrev tF(n i a b:Nat):Prop:=E0 prog n i=some (a,b)
abbrev tG(n:Nat)(l:List (Nat×Nat)):Prop:=bL prog n=some (.inl l)
abbrev tK(n:Nat)(l:List D1):Prop:=eM prog n=some l
abbrev tU(n:Nat)(l:List D1):Prop:=eN prog n=some l
abbrev tS(n e:Nat):Prop:=tE n 1 24 [nS] nS false (I2 prog n=some e/\prog.underlying n=some (.slice e))
abbrev tP(n e:Nat):Prop:=tE n 1 8 [.pointer none] (.pointer none) false (prog.underlying n=some (.pointer e))
theorem gP{p:Prop}(q:p:=by repeat' (first|kernel_rfl|refine⟨?_,?_⟩|(show _=_;kernel_rfl))):p:=q
theorem ty3:tE 3 1 8 [iV (0)] (iV (0)) false (tK 3 [.int]/\prog.underlying 3=some (.int .i64)):=gP
theorem ty4:tE 4 1 1 [.bool false] (.bool false) false (tK 4 [.bool]/\rY prog 4=true/\prog.underlying 4=some .bool):=gP
theorem ty5:tE 5 1 1 [.int .u8 (0)] (.int .u8 (0)) false (tK 5 [.int]/\prog.underlying 5=some (.int .u8)):=gP
theorem ty9:tE 9 1 16 [.string eB] (.string eB) false (tK 9 [.str]/\prog.underlying 9=some .string):=gP
theorem Cn:tE 21 1 4 [.int .i32 (0)] (.int .i32 (0)) false (tK 21 [.int]/\prog.underlying 21=some (.int .i32)):=gP
theorem jL:tE 22 1 24 [nS] (nS) false (I2 prog 22=some 25/\prog.underlying 22=some (.slice 25)):=gP
theorem pI:tE 23 1 24 [nS] (nS) false (I2 prog 23=some 86/\prog.underlying 23=some (.slice 86)):=gP
theorem X8:tE 25 3 56 [iV (0),nS,nS] (.agg #[iV (0),nS,nS]) true (tG 25 [(0,1),(1,1),(2,1)]/\tF 25 0 0 3/\tF 25 1 1 22/\tF 25 2 2 23):=gP
theorem NP:tE 28 1 24 [nS] (nS) false (I2 prog 28=some 32/\prog.underlying 28=some (.slice 32)):=gP
theorem yL:tE 29 1 24 [nS] (nS) false (I2 prog 29=some 3/\prog.underlying 29=some (.slice 3)):=gP
theorem Fp:tE 30 1 24 [nS] (nS) false (I2 prog 30=some 89/\prog.underlying 30=some (.slice 89)):=gP
theorem mK:tE 32 5 72 [iV (0),iV (0),iV (0),nS,nS] (.agg #[iV (0),iV (0),iV (0),nS,nS]) true (tG 32 [(0,1),(1,1),(2,1),(3,1),(4,1)]/\tF 32 0 0 3/\tF 32 1 1 3/\tF 32 2 2 3/\tF 32 3 3 30/\tF 32 4 4 23):=gP
theorem ah9:tE 34 8 144 [nS,nS,nS,iV (0),iV (0),iV (0),nS,nS] (.agg #[nS,nS,nS,iV (0),iV (0),iV (0),nS,nS]) true (tG 34 [(0,1),(1,1),(2,1),(3,5)]/\tF 34 0 0 22/\tF 34 1 1 28/\tF 34 2 2 29/\tF 34 3 3 32):=gP
theorem uT:tE 35 1 24 [nS] (nS) false (I2 prog 35=some 51/\prog.underlying 35=some (.slice 51)):=gP
theorem NQ:tE 36 1 24 [nS] (nS) false (I2 prog 36=some 59/\prog.underlying 36=some (.slice 59)):=gP
theorem XW:tE 37 1 24 [nS] (nS) false (I2 prog 37=some 56/\prog.underlying 37=some (.slice 56)):=gP
theorem ai0:tE 39 12 240 [nS,nS,nS,iV (0),iV (0),iV (0),nS,nS,nS,nS,nS,nS] (.agg #[nS,nS,nS,iV (0),iV (0),iV (0),nS,nS,nS,nS,nS,nS]) true (tG 39 [(0,8),(8,1),(9,1),(10,1),(11,1)]/\tF 39 0 0 34/\tF 39 1 8 35/\tF 39 2 9 36/\tF 39 3 10 29/\tF 39 4 11 37):=gP
theorem cr:tE 48 2 32 [.string eB,.string eB] (.agg #[.string eB,.string eB]) true (tG 48 [(0,1),(1,1)]/\tK 48 [.str,.str]/\tU 48 [.str,.str]/\tF 48 0 0 9/\tF 48 1 1 9):=gP
theorem yM:tE 49 1 24 [nS] (nS) false (I2 prog 49=some 53/\prog.underlying 49=some (.slice 53)):=gP
theorem aG:tE 51 5 80 [iV (0),.string eB,.string eB,nS,.string eB] (.agg #[iV (0),.string eB,.string eB,nS,.string eB]) true (tG 51 [(0,1),(1,2),(3,1),(4,1)]/\tF 51 0 0 3/\tF 51 1 1 48/\tF 51 2 3 49/\tF 51 3 4 9):=gP
theorem ik:tE 53 3 48 [.string eB,.string eB,.string eB] (.agg #[.string eB,.string eB,.string eB]) true (tG 53 [(0,2),(2,1)]/\tK 53 [.str,.str,.str]/\tU 53 [.str,.str,.str]/\tF 53 0 0 48/\tF 53 1 2 9):=gP
theorem yN:tE 56 3 24 [iV (0),iV (0),iV (0)] (.agg #[iV (0),iV (0),iV (0)]) true (tG 56 [(0,1),(1,1),(2,1)]/\tK 56 [.int,.int,.int]/\tU 56 [.int,.int,.int]/\tF 56 0 0 3/\tF 56 1 1 3/\tF 56 2 2 3):=gP
theorem yO:tE 59 3 24 [.bool false,.bool false,.string eB] (.agg #[.bool false,.bool false,.string eB]) true (tG 59 [(0,1),(1,1),(2,1)]/\tK 59 [.bool,.bool,.str]/\tU 59 [.bool,.bool,.str]/\tF 59 0 0 4/\tF 59 1 1 4/\tF 59 2 2 9):=gP
theorem XX:tP 75 39:=gP
theorem yP:tE 81 1 24 [nS] (nS) false (I2 prog 81=some 5/\prog.underlying 81=some (.slice 5)):=gP
theorem XY:tE 83 1 24 [nS] (nS) false (I2 prog 83=some 4/\prog.underlying 83=some (.slice 4)):=gP
theorem aW:tE 86 6 104 [iV (0),.string eB,.string eB,.string eB,nS,nS] (.agg #[iV (0),.string eB,.string eB,.string eB,nS,nS]) true (tG 86 [(0,1),(1,2),(3,1),(4,1),(5,1)]/\tF 86 0 0 3/\tF 86 1 1 48/\tF 86 2 3 9/\tF 86 3 4 23/\tF 86 4 5 22):=gP
theorem mL:tE 89 4 32 [iV (0),iV (0),iV (0),iV (0)] (.agg #[iV (0),iV (0),iV (0),iV (0)]) true (tG 89 [(0,1),(1,1),(2,1),(3,1)]/\tK 89 [.int,.int,.int,.int]/\tU 89 [.int,.int,.int,.int]/\tF 89 0 0 3/\tF 89 1 1 3/\tF 89 2 2 3/\tF 89 3 3 3):=gP
theorem pJ:tE 95 1 24 [nS] (nS) false (I2 prog 95=some 48/\prog.underlying 95=some (.slice 48)):=gP
theorem NR:tE 96 1 24 [nS] (nS) false (I2 prog 96=some 97/\prog.underlying 96=some (.slice 97)):=gP
theorem aH:tE 97 1 24 [nS] (nS) false (I2 prog 97=some 9/\prog.underlying 97=some (.slice 9)):=gP
theorem ai1:tE 99 4 96 [nS,nS,nS,nS] (.agg #[nS,nS,nS,nS]) true (tG 99 [(0,1),(1,1),(2,1),(3,1)]/\tF 99 0 0 95/\tF 99 1 1 95/\tF 99 2 2 96/\tF 99 3 3 97):=gP
theorem XO:tD 102 1 8 [.nilFunc] .nilFunc false:=gP
theorem XP:tE 107 1 24 [nS] (.agg #[nS]) true (tG 107 [(0,1)]/\tF 107 0 0 22):=gP
theorem XQ:tE 115 4 96 [nS,nS,nS,nS] (.agg #[nS,nS,nS,nS]) true (tG 115 [(0,1),(1,1),(2,1),(3,1)]/\tF 115 0 0 95/\tF 115 1 1 95/\tF 115 2 2 96/\tF 115 3 3 97):=gP
theorem XR:tE 123 20 296 [nS,nS,nS,iV (0),iV (0),iV (0),nS,nS,iV (0),.string eB,.string eB,nS,.string eB,.bool false,.bool false,.string eB,.bool false,.bool false,.string eB,nS] (.agg #[nS,nS,nS,iV (0),iV (0),iV (0),nS,nS,iV (0),.string eB,.string eB,nS,.string eB,.bool false,.bool false,.string eB,.bool false,.bool false,.string eB,nS]) true (tG 123 [(0,8),(8,5),(13,3),(16,3),(19,1)]/\tF 123 0 0 34/\tF 123 1 8 51/\tF 123 2 13 59/\tF 123 3 16 59/\tF 123 4 19 81):=gP
theorem XS:tE 130 4 96 [nS,nS,nS,nS] (.agg #[nS,nS,nS,nS]) true (tG 130 [(0,4)]/\tF 130 0 0 99):=gP
theorem XT:tE 135 5 72 [iV (0),iV (0),iV (0),nS,nS] (.agg #[iV (0),iV (0),iV (0),nS,nS]) true (tG 135 [(0,5)]/\tF 135 0 0 32):=gP
theorem XU:tE 144 7 88 [iV (0),iV (0),iV (0),nS,nS,iV (0),iV (0)] (.agg #[iV (0),iV (0),iV (0),nS,nS,iV (0),iV (0)]) true (tG 144 [(0,5),(5,1),(6,1)]/\tF 144 0 0 32/\tF 144 1 5 3/\tF 144 2 6 3):=gP
theorem Cm:tE 150 1 24 [nS] (nS) false (I2 prog 150=some 21/\prog.underlying 150=some (.slice 21)):=gP
theorem XV:tE 169 14 248 [nS,nS,nS,iV (0),iV (0),iV (0),nS,nS,iV (0),.string eB,.string eB,nS,.string eB,nS] (.agg #[nS,nS,nS,iV (0),iV (0),iV (0),nS,nS,iV (0),.string eB,.string eB,nS,.string eB,nS]) true (tG 169 [(0,8),(8,5),(13,1)]/\tF 169 0 0 34/\tF 169 1 8 51/\tF 169 2 13 81):=gP
theorem anB:ai2 (aI @List.any_cons.{0} @List.any_nil.{0}):=stOf _
theorem tyA:ai2 (aI (aI (aI (aI (aI @ty3 @ty4) (aI @ty5 (aI @ty9 @Cn))) (aI (aI @jL @pI) (aI @X8 (aI @NP @yL)))) (aI (aI (aI @Fp @mK) (aI @ah9 (aI @uT @NQ))) (aI (aI @XW @ai0) (aI @cr (aI @yM @aG))))) (aI (aI (aI (aI @ik @yN) (aI @yO (aI @XX @yP))) (aI (aI @XY @aW) (aI @mL (aI @pJ @NR)))) (aI (aI (aI @aH @ai1) (aI @XO (aI @XP @XQ))) (aI (aI @XR (aI @XS @XT)) (aI @XU (aI @Cm @XV)))))):=stOf _
section
variable{a b c d e f g h i j k l m n o r s t u v w x y z a1 b1 c1 d1 e1 f1 p q:Prop}
theorem Jj'(a':a)(K:q)(Z:a->q->p:=by intro a;simp(maxSteps:=20000000) -dsimp (disch:=first|omega|(simp only[rH]<;>omega)|fail) only[↓ai3,rQ,D8,sevalprocAttr,tyA,a]<;>exact id):p:=Z a' K
theorem J1(a':a)(K:q)(Z:a->q->p:=by intro a;simp(maxSteps:=20000000) -dsimp (disch:=first|omega|(simp only[rH]<;>omega)|fail) only[↓ai3,rQ,D8,sevalprocAttr,tyA,a]<;>exact id):p:=Z a' K
theorem J2(a':a)(b':b)(K:q)(Z:a/\b->q->p:=by exact fun a b=>Jj' a b):p:=Z ⟨a',b'⟩ K
theorem J3(a':a)(b':b)(c':c)(K:q)(Z:a/\b/\c->q->p:=by exact fun a b=>Jj' a b):p:=Z ⟨a',b',c'⟩ K
theorem J4(a':a)(b':b)(c':c)(d':d)(K:q)(Z:a/\b/\c/\d->q->p:=by exact fun a b=>Jj' a b):p:=Z ⟨a',b',c',d'⟩ K
theorem J5(a':a)(b':b)(c':c)(d':d)(e':e)(K:q)(Z:a/\b/\c/\d/\e->q->p:=by exact fun a b=>Jj' a b):p:=Z ⟨a',b',c',d',e'⟩ K
theorem J6(a':a)(b':b)(c':c)(d':d)(e':e)(f':f)(K:q)(Z:a/\b/\c/\d/\e/\f->q->p:=by exact fun a b=>Jj' a b):p:=Z ⟨a',b',c',d',e',f'⟩ K
theorem J7(a':a)(b':b)(c':c)(d':d)(e':e)(f':f)(g':g)(K:q)(Z:a/\b/\c/\d/\e/\f/\g->q->p:=by exact fun a b=>Jj' a b):p:=Z ⟨a',b',c',d',e',f',g'⟩ K
theorem J8(a':a)(b':b)(c':c)(d':d)(e':e)(f':f)(g':g)(h':h)(K:q)(Z:a/\b/\c/\d/\e/\f/\g/\h->q->p:=by exact fun a b=>Jj' a b):p:=Z ⟨a',b',c',d',e',f',g',h'⟩ K
theorem J9(a':a)(b':b)(c':c)(d':d)(e':e)(f':f)(g':g)(h':h)(i':i)(K:q)(Z:a/\b/\c/\d/\e/\f/\g/\h/\i->q->p:=by exact fun a b=>Jj' a b):p:=Z ⟨a',b',c',d',e',f',g',h',i'⟩ K
theorem J10(a':a)(b':b)(c':c)(d':d)(e':e)(f':f)(g':g)(h':h)(i':i)(j':j)(K:q)(Z:a/\b/\c/\d/\e/\f/\g/\h/\i/\j->q->p:=by exact fun a b=>Jj' a b):p:=Z ⟨a',b',c',d',e',f',g',h',i',j'⟩ K
theorem J11(a':a)(b':b)(c':c)(d':d)(e':e)(f':f)(g':g)(h':h)(i':i)(j':j)(k':k)(K:q)(Z:a/\b/\c/\d/\e/\f/\g/\h/\i/\j/\k->q->p:=by exact fun a b=>Jj' a b):p:=Z ⟨a',b',c',d',e',f',g',h',i',j',k'⟩ K
theorem J12(a':a)(b':b)(c':c)(d':d)(e':e)(f':f)(g':g)(h':h)(i':i)(j':j)(k':k)(l':l)(K:q)(Z:a/\b/\c/\d/\e/\f/\g/\h/\i/\j/\k/\l->q->p:=by exact fun a b=>Jj' a b):p:=Z ⟨a',b',c',d',e',f',g',h',i',j',k',l'⟩ K
theorem J13(a':a)(b':b)(c':c)(d':d)(e':e)(f':f)(g':g)(h':h)(i':i)(j':j)(k':k)(l':l)(m':m)(K:q)(Z:a/\b/\c/\d/\e/\f/\g/\h/\i/\j/\k/\l/\m->q->p:=by exact fun a b=>Jj' a b):p:=Z ⟨a',b',c',d',e',f',g',h',i',j',k',l',m'⟩ K
theorem J14(a':a)(b':b)(c':c)(d':d)(e':e)(f':f)(g':g)(h':h)(i':i)(j':j)(k':k)(l':l)(m':m)(n':n)(K:q)(Z:a/\b/\c/\d/\e/\f/\g/\h/\i/\j/\k/\l/\m/\n->q->p:=by exact fun a b=>Jj' a b):p:=Z ⟨a',b',c',d',e',f',g',h',i',j',k',l',m',n'⟩ K
theorem J15(a':a)(b':b)(c':c)(d':d)(e':e)(f':f)(g':g)(h':h)(i':i)(j':j)(k':k)(l':l)(m':m)(n':n)(o':o)(K:q)(Z:a/\b/\c/\d/\e/\f/\g/\h/\i/\j/\k/\l/\m/\n/\o->q->p:=by exact fun a b=>Jj' a b):p:=Z ⟨a',b',c',d',e',f',g',h',i',j',k',l',m',n',o'⟩ K
theorem J16(a':a)(b':b)(c':c)(d':d)(e':e)(f':f)(g':g)(h':h)(i':i)(j':j)(k':k)(l':l)(m':m)(n':n)(o':o)(r':r)(K:q)(Z:a/\b/\c/\d/\e/\f/\g/\h/\i/\j/\k/\l/\m/\n/\o/\r->q->p:=by exact fun a b=>Jj' a b):p:=Z ⟨a',b',c',d',e',f',g',h',i',j',k',l',m',n',o',r'⟩ K
theorem J17(a':a)(b':b)(c':c)(d':d)(e':e)(f':f)(g':g)(h':h)(i':i)(j':j)(k':k)(l':l)(m':m)(n':n)(o':o)(r':r)(s':s)(K:q)(Z:a/\b/\c/\d/\e/\f/\g/\h/\i/\j/\k/\l/\m/\n/\o/\r/\s->q->p:=by exact fun a b=>Jj' a b):p:=Z ⟨a',b',c',d',e',f',g',h',i',j',k',l',m',n',o',r',s'⟩ K
theorem J18(a':a)(b':b)(c':c)(d':d)(e':e)(f':f)(g':g)(h':h)(i':i)(j':j)(k':k)(l':l)(m':m)(n':n)(o':o)(r':r)(s':s)(t':t)(K:q)(Z:a/\b/\c/\d/\e/\f/\g/\h/\i/\j/\k/\l/\m/\n/\o/\r/\s/\t->q->p:=by exact fun a b=>Jj' a b):p:=Z ⟨a',b',c',d',e',f',g',h',i',j',k',l',m',n',o',r',s',t'⟩ K
theorem J19(a':a)(b':b)(c':c)(d':d)(e':e)(f':f)(g':g)(h':h)(i':i)(j':j)(k':k)(l':l)(m':m)(n':n)(o':o)(r':r)(s':s)(t':t)(u':u)(K:q)(Z:a/\b/\c/\d/\e/\f/\g/\h/\i/\j/\k/\l/\m/\n/\o/\r/\s/\t/\u->q->p:=by exact fun a b=>Jj' a b):p:=Z ⟨a',b',c',d',e',f',g',h',i',j',k',l',m',n',o',r',s',t',u'⟩ K
theorem J20(a':a)(b':b)(c':c)(d':d)(e':e)(f':f)(g':g)(h':h)(i':i)(j':j)(k':k)(l':l)(m':m)(n':n)(o':o)(r':r)(s':s)(t':t)(u':u)(v':v)(K:q)(Z:a/\b/\c/\d/\e/\f/\g/\h/\i/\j/\k/\l/\m/\n/\o/\r/\s/\t/\u/\v->q->p:=by exact fun a b=>Jj' a b):p:=Z ⟨a',b',c',d',e',f',g',h',i',j',k',l',m',n',o',r',s',t',u',v'⟩ K
theorem J21(a':a)(b':b)(c':c)(d':d)(e':e)(f':f)(g':g)(h':h)(i':i)(j':j)(k':k)(l':l)(m':m)(n':n)(o':o)(r':r)(s':s)(t':t)(u':u)(v':v)(w':w)(K:q)(Z:a/\b/\c/\d/\e/\f/\g/\h/\i/\j/\k/\l/\m/\n/\o/\r/\s/\t/\u/\v/\w->q->p:=by exact fun a b=>Jj' a b):p:=Z ⟨a',b',c',d',e',f',g',h',i',j',k',l',m',n',o',r',s',t',u',v',w'⟩ K
theorem J23(a':a)(b':b)(c':c)(d':d)(e':e)(f':f)(g':g)(h':h)(i':i)(j':j)(k':k)(l':l)(m':m)(n':n)(o':o)(r':r)(s':s)(t':t)(u':u)(v':v)(w':w)(x':x)(y':y)(K:q)(Z:a/\b/\c/\d/\e/\f/\g/\h/\i/\j/\k/\l/\m/\n/\o/\r/\s/\t/\u/\v/\w/\x/\y->q->p:=by exact fun a b=>Jj' a b):p:=Z ⟨a',b',c',d',e',f',g',h',i',j',k',l',m',n',o',r',s',t',u',v',w',x',y'⟩ K
theorem J24(a':a)(b':b)(c':c)(d':d)(e':e)(f':f)(g':g)(h':h)(i':i)(j':j)(k':k)(l':l)(m':m)(n':n)(o':o)(r':r)(s':s)(t':t)(u':u)(v':v)(w':w)(x':x)(y':y)(z':z)(K:q)(Z:a/\b/\c/\d/\e/\f/\g/\h/\i/\j/\k/\l/\m/\n/\o/\r/\s/\t/\u/\v/\w/\x/\y/\z->q->p:=by exact fun a b=>Jj' a b):p:=Z ⟨a',b',c',d',e',f',g',h',i',j',k',l',m',n',o',r',s',t',u',v',w',x',y',z'⟩ K
theorem J25(a':a)(b':b)(c':c)(d':d)(e':e)(f':f)(g':g)(h':h)(i':i)(j':j)(k':k)(l':l)(m':m)(n':n)(o':o)(r':r)(s':s)(t':t)(u':u)(v':v)(w':w)(x':x)(y':y)(z':z)(a1':a1)(K:q)(Z:a/\b/\c/\d/\e/\f/\g/\h/\i/\j/\k/\l/\m/\n/\o/\r/\s/\t/\u/\v/\w/\x/\y/\z/\a1->q->p:=by exact fun a b=>Jj' a b):p:=Z ⟨a',b',c',d',e',f',g',h',i',j',k',l',m',n',o',r',s',t',u',v',w',x',y',z',a1'⟩ K
theorem J26(a':a)(b':b)(c':c)(d':d)(e':e)(f':f)(g':g)(h':h)(i':i)(j':j)(k':k)(l':l)(m':m)(n':n)(o':o)(r':r)(s':s)(t':t)(u':u)(v':v)(w':w)(x':x)(y':y)(z':z)(a1':a1)(b1':b1)(K:q)(Z:a/\b/\c/\d/\e/\f/\g/\h/\i/\j/\k/\l/\m/\n/\o/\r/\s/\t/\u/\v/\w/\x/\y/\z/\a1/\b1->q->p:=by exact fun a b=>Jj' a b):p:=Z ⟨a',b',c',d',e',f',g',h',i',j',k',l',m',n',o',r',s',t',u',v',w',x',y',z',a1',b1'⟩ K
theorem J27(a':a)(b':b)(c':c)(d':d)(e':e)(f':f)(g':g)(h':h)(i':i)(j':j)(k':k)(l':l)(m':m)(n':n)(o':o)(r':r)(s':s)(t':t)(u':u)(v':v)(w':w)(x':x)(y':y)(z':z)(a1':a1)(b1':b1)(c1':c1)(K:q)(Z:a/\b/\c/\d/\e/\f/\g/\h/\i/\j/\k/\l/\m/\n/\o/\r/\s/\t/\u/\v/\w/\x/\y/\z/\a1/\b1/\c1->q->p:=by exact fun a b=>Jj' a b):p:=Z ⟨a',b',c',d',e',f',g',h',i',j',k',l',m',n',o',r',s',t',u',v',w',x',y',z',a1',b1',c1'⟩ K
theorem J28(a':a)(b':b)(c':c)(d':d)(e':e)(f':f)(g':g)(h':h)(i':i)(j':j)(k':k)(l':l)(m':m)(n':n)(o':o)(r':r)(s':s)(t':t)(u':u)(v':v)(w':w)(x':x)(y':y)(z':z)(a1':a1)(b1':b1)(c1':c1)(d1':d1)(K:q)(Z:a/\b/\c/\d/\e/\f/\g/\h/\i/\j/\k/\l/\m/\n/\o/\r/\s/\t/\u/\v/\w/\x/\y/\z/\a1/\b1/\c1/\d1->q->p:=by exact fun a b=>Jj' a b):p:=Z ⟨a',b',c',d',e',f',g',h',i',j',k',l',m',n',o',r',s',t',u',v',w',x',y',z',a1',b1',c1',d1'⟩ K
theorem J30(a':a)(b':b)(c':c)(d':d)(e':e)(f':f)(g':g)(h':h)(i':i)(j':j)(k':k)(l':l)(m':m)(n':n)(o':o)(r':r)(s':s)(t':t)(u':u)(v':v)(w':w)(x':x)(y':y)(z':z)(a1':a1)(b1':b1)(c1':c1)(d1':d1)(e1':e1)(f1':f1)(K:q)(Z:a/\b/\c/\d/\e/\f/\g/\h/\i/\j/\k/\l/\m/\n/\o/\r/\s/\t/\u/\v/\w/\x/\y/\z/\a1/\b1/\c1/\d1/\e1/\f1->q->p:=by exact fun a b=>Jj' a b):p:=Z ⟨a',b',c',d',e',f',g',h',i',j',k',l',m',n',o',r',s',t',u',v',w',x',y',z',a1',b1',c1',d1',e1',f1'⟩ K
end
theorem pushE(H:d9)(B:Blk):∃K,K=H.push B/\K.next=H.next+1/\K.get H.next=some B/\i4 H.next H K:=⟨_,rfl,by rw[i5],i7,i4.push (Nat.le_refl _)⟩
theorem pushF(H:d9)(B:Blk):∃K,K=d9.push ⟨H.bs,H.next⟩ B/\K.next=H.next+1/\K.get H.next=some B/\i4 H.next H K:=⟨_,rfl,by rw[i5];rfl,i7,i4.first H _⟩
theorem pushP(H:d9)(B C:Blk):∃K,K=(H.push B).put H.next C/\K.next=H.next+1/\K.get H.next=some C/\i4 H.next H K:=⟨_,rfl,by rw[j5,i5],i8 (by rw[i5];omega),(i4.push (Nat.le_refl _)).trans (i4.put (Nat.le_refl _))⟩
abbrev bC(c:LV)(n:Nat):Blk:= .cells c true n
abbrev sL(b n c:Nat):Value:= .slice (some ⟨b,0,none⟩) n c
abbrev cE(c:LV)(n:Nat):Option Blk:=some (.cells c true n)
def O8:Lib:=fun _=>none
def inSpans(r:Int)(l:List (Int×Int)):Bool:=l.any fun s=>decide (s.1<=r)&&decide (r<=s.2)
def am7(r:Int):Bool:=decide (r=9)||decide (r=10)||decide (r=13)||decide (r=32)
def mW:List (Int×Int):=[(0x20,0xd7ff),(0xe000,0xfffd),(0x10000,0x10ffff)]
def lW:List (Int×Int):=[(65,90),(97,122),(95,95),(0xc0,0xd6),(0xd8,0xf6),(0xf8,0x2ff),(0x370,0x37d),(0x37f,0x1fff),(0x200c,0x200d),(0x2070,0x218f),(0x2c00,0x2fef),(0x3001,0xd7ff),(0xf900,0xfdcf),(0xfdf0,0xfffd),(0x10000,0xeffff)]
def nN:List (Int×Int):=[(45,46),(48,57),(0xb7,0xb7),(0x300,0x36f),(0x203f,0x2040)]
def iZ(r:Int):Bool:=am7 r||inSpans r mW
def dR(r:Int):Bool:=inSpans r lW
def gi(r:Int):Bool:=dR r||inSpans r nN
def oo(v:Int)(tails:Int):Int×Int:=
 (IntKind.wrap .i32 (v*2 ^ min (6*tails).toNat 32),Go.bits .or .i32 (IntKind.wrap .i32 (v*2 ^ min (6*tails).toNat 32)) (IntKind.wrap .i32 (IntKind.wrap .i32 (1*2 ^ min (6*tails).toNat 32)-1)))
def Z0(s:ByteArray)(at_ n:Nat):Nat->Int->Nat->Int×Nat
 |0,v,h=>(v,h)
 |k+1,v,h=>
  if at_+h<s.size/\Go.bits .and .u8 (x9 s (at_+h)) 192=128 then
   Z0 s at_ n k (Go.bits .or .i32 (IntKind.wrap .i32 (v*2 ^ min (Int.toNat 6) 32)) (IntKind.wrap .i32 (Go.bits .and .u8 (x9 s (at_+h)) 63))) (h+1)
  else(v,h)
def pK(s:ByteArray)(at_ n:Nat)(least v:Int)(h:Nat):Int×Int×Int:=
 if(oo v (n+1-h)).2<least\/1114111<(oo v (n+1-h)).1\/(55296<=(oo v (n+1-h)).1/\(oo v (n+1-h)).2<=57343) then(0,0,2)
 else if h=n+1 then(v,h,0) else if at_+h=s.size then(0,0,7) else(0,0,2)
def X5:Nat->Int×Int×Int
 |0=>(128,0,0)
 |1=>(224,192,128)
 |2=>(240,224,2048)
 |_=>(248,240,65536)
def T6(s:ByteArray)(at_:Nat):Nat->Nat->Int×Int×Int
 |0,_=>(0,0,2)
 |k+1,i=>
  if Go.bits .and .u8 (x9 s at_) (X5 i).1=(X5 i).2.1 then
   pK s at_ i (X5 i).2.2 (Z0 s at_ i i (IntKind.wrap .i32 (Go.bits .andNot .u8 (x9 s at_) (X5 i).1)) 1).1 (Z0 s at_ i i (IntKind.wrap .i32 (Go.bits .andNot .u8 (x9 s at_) (X5 i).1)) 1).2
  else T6 s at_ k (i+1)
def bM(s:ByteArray)(at_:Nat):Int×Int×Int:=if at_<s.size then T6 s at_ 4 0 else(0,0,7)
theorem Cq(s:ByteArray)(u n:Nat):∀k v h,u+h<=s.size->h<=(Z0 s u n k v h).2/\u+(Z0 s u n k v h).2<=s.size:=by
 intro k;induction k with
 |zero=>intro v h y;exact⟨lR,y⟩
 |succ k z=>
  intro v h y;rw[Z0];split
  .rename_i c;have:=z (Go.bits .or .i32 (IntKind.wrap .i32 (v*2 ^ min (Int.toNat 6) 32)) (IntKind.wrap .i32 (Go.bits .and .u8 (x9 s (u+h)) 63))) (h+1) oM;exact⟨oM,this.2⟩
  .exact⟨lR,y⟩
theorem Cp(s:ByteArray)(u:Nat)(D:u<s.size):∀k i,(T6 s u k i).2.2=0->∃h:Nat,(T6 s u k i).2.1=h/\1<=h/\u+h<=s.size:=by
 intro k;induction k with
 |zero=>intro i h;exact absurd h (by simp [T6])
 |succ k z=>
  intro i h;rw[T6]at h ⊢;split at h
  .rename_i c;rw[if_pos c];have y:=Cq s u i i (IntKind.wrap .i32 (Go.bits .andNot .u8 (x9 s u) (X5 i).1)) 1 oM;rw[pK]at h ⊢;split at h
   .exact absurd h sM
   .rename_i c1;rw[if_neg c1];split at h
    .rename_i c2;rw[if_pos c2];exact⟨_,rfl,y.1,y.2⟩
    .split at h<;>exact absurd h sM
  .rename_i c;rw[if_neg c];exact z (i+1) h
theorem Cr(s:ByteArray)(u:Nat)(h:(bM s u).2.2=0):∃n:Nat,(bM s u).2.1=n/\1<=n/\u+n<=s.size:=by
 rw[bM]at h ⊢;split at h
 .rename_i c;rw[if_pos c];exact Cp s u c _ _ h
 .exact absurd h sM
def yQ(s:ByteArray)(at_:Nat):Int:=
 if h:at_<s.size then
  if h2:(bM s at_).2.2=0 then yQ s (at_+(bM s at_).2.1.toNat) else(bM s at_).2.2
 else 0
termination_by s.size-at_
decreasing_by
 obtain⟨n,h3,h4,h5⟩:=Cr s at_ h2;rw[h3];simp only[Int.toNat_natCast];omega
def zD(f:Int->Bool)(s:ByteArray)(at_:Nat):Bool:=
 if h:at_<s.size then if f (Utf8.decode s at_).1 then zD f s (at_+(Utf8.decode s at_).2) else false else true
termination_by s.size-at_
decreasing_by have:=U8 s at_;omega
def im(s:ByteArray):Bool:=decide (yQ s 0=0)&&zD iZ s 0
def lu(s:ByteArray)(at_:Nat):Bool:=
 if h:at_<s.size then if(decide (at_=0)&& !dR (Utf8.decode s at_).1)|| !gi (Utf8.decode s at_).1 then false else lu s (at_+(Utf8.decode s at_).2) else true
termination_by s.size-at_
decreasing_by have:=U8 s at_;omega
def mg(s:ByteArray):Bool:=lu s 0&& !decide (s=eB)
structure AtD where
 space:ByteArray
 loc:ByteArray
 val:ByteArray
def AtR(cs:LV)(a:AtD):Prop:=cs=[.string a.space,.string a.loc,.string a.val]/\a.space.size<=1048576/\a.loc.size<=1048576/\a.val.size<=1048576
structure EvD where
 kind:Int
 space:ByteArray
 loc:ByteArray
 attrs:List AtD
 text:ByteArray
def EvR(H:d9)(lo:Nat)(cs:LV)(e:EvD):Prop:=
 ∃v,cs=[iV e.kind,.string e.space,.string e.loc,v,.string e.text]/\SlI H lo 3 AtR v e.attrs/\e.space.size<=1048576/\e.loc.size<=1048576/\e.text.size<=1048576/\e.attrs.length<=1048576
theorem EvR.mono{H H':d9}{lo u:Nat}(I:∀j,j<lo->H'.get j=H.get j) (y:lo<=u) {cs:LV} {e:EvD} (h:EvR H lo cs e):EvR H' u cs e:=by
 obtain⟨v,z,D,E⟩:=h;exact⟨v,z,D.mono I y iF,E⟩
abbrev GS(H:d9)(lo:Nat)(v:Value)(l:List EvD):Prop:=SlI H lo 5 (EvR H lo) v l
theorem GS.mono{H H':d9}{lo y:Nat}{v:Value}{l:List EvD}(h:GS H lo v l)(z:∀j,j<lo->H'.get j=H.get j) (u:lo<=y):GS H' y v l:=
 SlI.mono h z u fun _ _ q=>q.mono z u
theorem eS{α:Type}{l:List α}{i:Nat}(h:i<l.length):∃a,l[i]?=some a/\l.drop i=a::l.drop (i+1):=
 ⟨l[i],List.getElem?_eq_getElem h,List.drop_eq_getElem_cons h⟩
inductive Q where
 |mk (op:Int) (sp lc vl:ByteArray) (a b:List Q)
namespace Q
def op:Q->Int| .mk o _ _ _ _ _=>o
def sp:Q->ByteArray| .mk _ s _ _ _ _=>s
def lc:Q->ByteArray| .mk _ _ c _ _ _=>c
def vl:Q->ByteArray| .mk _ _ _ v _ _=>v
def a:Q->List Q| .mk _ _ _ _ a _=>a
def b:Q->List Q| .mk _ _ _ _ _ b=>b
end Q
def qSz(f:Bool):Nat:=if f then 6 else 3
def QR(H:d9)(lo:Nat):Nat->Bool->LV->Q->Prop
 |0,_,_,_=>False
 |k+1,f,cs,q=>∃v w,cs=(if f then [iV q.op,.string q.sp,.string q.lc,.string q.vl,v,w] else [iV q.op,v,w])/\
   SlI H lo (qSz f) (QR H lo k f) v q.a/\SlI H lo (qSz !f) (QR H lo k !f) w q.b/\q.a.length<=1048576/\q.b.length<=1048576/\q.sp.size<=1048576/\q.lc.size<=1048576/\q.vl.size<=1048576/\(f=false->q.sp=eB/\q.lc=eB/\q.vl=eB)
theorem QR.mono{H H':d9}{lo y:Nat}(z:∀j,j<lo->H'.get j=H.get j) (u:lo<=y):∀{k:Nat}{f:Bool}{cs:LV}{q:Q},QR H lo k f cs q->QR H' y k f cs q:=by
 intro k;induction k with
 |zero=>intro f cs q h;exact h.elim
 |succ k D=>
  intro f cs q h;obtain⟨v,w,E,I,J,O⟩:=h;exact⟨v,w,E,I.mono z u (fun _ _ h=>D h),J.mono z u (fun _ _ h=>D h),O⟩
theorem QR.len{H:d9}{lo k:Nat}{f:Bool}{cs:LV}{q:Q}(h:QR H lo k f cs q):cs.length=qSz f:=by
 cases k with
 |zero=>exact h.elim
 |succ k=>obtain⟨v,w,rfl,_⟩:=h;cases f<;>rfl
theorem QR.stay{H H':d9}{lo:Nat}(u:i4 lo H H'){k:Nat}{f:Bool}{cs:LV}{q:Q}(h:QR H lo k f cs q):QR H' lo k f cs q:=h.mono (fun j y=>u.get j y) lR
theorem QR.plain{H:d9}{lo k:Nat}{f:Bool}{cs:LV}{q:Q}(h:QR H lo k f cs q)(y:f=false):q.sp=eB/\q.lc=eB/\q.vl=eB:=by
 cases k with
 |zero=>exact h.elim
 |succ k=>obtain⟨v,w,z,D,E,I,J,O,S,U,u⟩:=h;exact u y
abbrev QsR(H:d9)(lo k:Nat)(f:Bool)(v:Value)(l:List Q):Prop:=SlI H lo (qSz f) (QR H lo k f) v l
theorem QsR.mono{H H':d9}{lo y k:Nat}{f:Bool}{v:Value}{l:List Q}(h:QsR H lo k f v l)(z:∀j,j<lo->H'.get j=H.get j) (u:lo<=y):QsR H' y k f v l:=SlI.mono h z u (fun _ _ h=>h.mono z u)
theorem QR.path{H:d9}{lo k:Nat}{cs:LV}{q:Q}(h:QR H lo (k+1) false cs q):∃z y D u,cs=[iV q.op,.slice z q.a.length y,.slice D q.b.length u]/\QsR H lo k false (.slice z q.a.length y) q.a/\QsR H lo k true (.slice D q.b.length u) q.b/\q.a.length<=1048576/\q.b.length<=1048576:=by
 obtain⟨v,w,J,E,I,O,S,_⟩:=h;obtain⟨z,y,rfl⟩:=E.slice;obtain⟨D,u,rfl⟩:=I.slice;exact⟨z,y,D,u,J,E,I,O,S⟩
theorem QR.filter{H:d9}{lo k:Nat}{cs:LV}{q:Q}(h:QR H lo (k+1) true cs q):∃z y D u,cs=[iV q.op,.string q.sp,.string q.lc,.string q.vl,.slice z q.a.length y,.slice D q.b.length u]/\QsR H lo k true (.slice z q.a.length y) q.a/\QsR H lo k false (.slice D q.b.length u) q.b/\q.a.length<=1048576/\q.b.length<=1048576/\q.sp.size<=1048576/\q.lc.size<=1048576/\q.vl.size<=1048576:=by
 obtain⟨v,w,J,E,I,O,S,U,W,X,_⟩:=h;obtain⟨z,y,rfl⟩:=E.slice;obtain⟨D,u,rfl⟩:=I.slice;exact⟨z,y,D,u,J,E,I,O,S,U,W,X⟩
theorem QsR.row{H:d9}{lo k:Nat}{f:Bool}{y:Option Addr}{n z:Nat}{l:List Q}(h:QsR H lo k f (.slice y n z) l){i:Nat}(O:i<l.length):
  ∃x b o cs own el,l[i]?=some x/\l.drop i=x::l.drop (i+1)/\y=some ⟨b,o,none⟩/\b<lo/\H.get b=some (.cells cs own (qSz f))/\o+i*qSz f+qSz f<=cs.length/\ldC (some true) (some (qSz f)) (o+i*qSz f) cs=some (.agg el.toArray)/\QR H lo k f el x:=by
 obtain⟨x,D,I⟩:=eS (l:=l) (i:=i) O;obtain⟨b,o,c,cs,own,U,E,J,u,S⟩:=h.at_ D;obtain⟨rfl,rfl,rfl⟩:y=some ⟨b,o,none⟩/\n=l.length/\z=c:=by simpa using U
 exact⟨x,b,o,cs,own,_,D,I,rfl,E,J,u,pE u rfl,S⟩
mutual
def szQ:Q->Int->Int
 | .mk _ _ _ _ a b,m=>szL b (szL a 1 m) m
def szL:List Q->Int->Int->Int
 |[],n,_=>n
 |x::l,n,m=>if n<=m then szL l (n+szQ x (m-n)) m else n
end
theorem Cl(q:Q)(m:Int):szQ q m=szL q.b (szL q.a 1 m) m:=by cases q;rw[szQ];rfl
mutual
theorem iU:∀(q:Q)(m:Int),0<=m->1<=szQ q m/\szQ q m<=m+1
 | .mk _ _ _ _ a b,m,h=>by
  rw[szQ];have h1:=mb a 1 m oM oM h;exact mb b _ m oM oM h
theorem mb:∀(l:List Q)(n m:Int),1<=n->n<=m+1->0<=m->1<=szL l n m/\szL l n m<=m+1
 |[],n,m,h0,h1,h=>by rw[szL];omega
 |x::l,n,m,h0,h1,h=>by
  rw[szL];split
  .rename_i hnm;have h2:=iU x (m-n) oM;exact mb l _ m oM oM h
  .omega
end
theorem ij(l:List Q)(n m:Int)(h:m<n):szL l n m=n:=by cases l with|nil=>rfl|cons x l=>rw[szL,if_neg oM]
def aE(fn:Nat)(f:Bool)(k:Nat):Prop:=∀(H:d9)(lo:Nat)(cs:LV)(q:Q)(m:Int),lo<=H.next->QR H lo k f cs q->0<=m->m<=64->CL prog O8 fn [.agg cs.toArray,iV m] H=some (.int .i64 (szQ q m),none)
theorem Ff(k:Nat)(ih:aE 77 false k)(H0:d9)(lo:Nat)(va:Option Addr)(ca:Nat)(l:List Q)(W:lo<=H0.next)(hv:QsR H0 lo k false (.slice va l.length ca) l)(hn:l.length<=1048576)(I:Nat)(cl:LV)(J:H0.get I=cE cl 1)(S:cl[1]?=some (.slice va l.length ca))(m:Int)(a3:0<=m)(hm:m<=64)(r:Int):
  ∀X e H2,(∃(i:Nat)(n:Int),X=l.length-i/\i<=l.length/\1<=n/\n<=m+1/\e.get 1=iV m/\e.get 2=pT I/\e.get 5=iV n/\e.get 6=iV i/\H2=H0/\szL (l.drop i) n m=r)->
  u9 (LE prog O8 (.loop Gf) e H2) (fun o e H2=>H2=H0/\o= .exit 0/\e.get 1=iV m/\e.get 2=pT I/\e.get 5=iV r):=by
 refine j7 _ _ ?_;rintro X e H2 ⟨i,n,hk,hi,a4,a5,z,u,f5,f6,hH,y⟩;subst hH;rcases b:decide ((i:Int)<l.length)with _|_
 .have O:=dF b;have:l.drop i=[]:=dN oM;rw[this,szL]at y;refine J5 u f6 J S b ?_;exact l7 ⟨rfl,rfl,z,u,by rw[<-y];exact f5⟩
 have O:=dT b;rcases E:decide (n<=m)with _|_
 .have D:=dF E;rw[ij _ _ _ oM]at y;refine J8 z u f5 f6 J S b E ?_;exact l7 ⟨rfl,rfl,z,u,by rw[<-y];exact f5⟩
 have D:=dT E;obtain⟨x,nb,o,cs,own,el,hx,hd,rfl,a2,hg,a1,h,hr⟩:=hv.row (i:=i) oM;have nt:(i:Int).toNat=i:=tN i;have hs:=iU x (m-n) oM;rw[hd,szL,if_pos D]at y;simp only[qSz,if_true,bF]at h hg;have U:=ih H2 lo el x (m-n) W hr oM oM;refine J13 z u f5 f6 J S b E hg nt h @wrap_small U ?_;refine i6 (X-1) oM ⟨i+1,n+szQ x (m-n),oM,oM,oM,oM,z,u,rfl,rfl,rfl,y⟩
theorem Fg(k:Nat)(ih:aE 99 true k)(H0:d9)(lo:Nat)(va:Option Addr)(ca:Nat)(l:List Q)(W:lo<=H0.next)(hv:QsR H0 lo k true (.slice va l.length ca) l)(hn:l.length<=1048576)(I:Nat)(cl:LV)(J:H0.get I=cE cl 1)(S:cl[2]?=some (.slice va l.length ca))(m:Int)(a3:0<=m)(hm:m<=64)(r:Int):
  ∀X e H2,(∃(i:Nat)(n:Int),X=l.length-i/\i<=l.length/\1<=n/\n<=m+1/\e.get 1=iV m/\e.get 2=pT I/\e.get 5=iV n/\e.get 7=iV i/\H2=H0/\szL (l.drop i) n m=r)->
  u9 (LE prog O8 (.loop Gg) e H2) (fun o e H2=>H2=H0/\o= .exit 2/\e.get 1=iV m/\e.get 2=pT I/\e.get 5=iV r):=by
 refine j7 _ _ ?_;rintro X e H2 ⟨i,n,hk,hi,a4,a5,z,u,f5,f6,hH,y⟩;subst hH;rcases b:decide ((i:Int)<l.length)with _|_
 .have O:=dF b;have:l.drop i=[]:=dN oM;rw[this,szL]at y;refine J5 u f6 J S b ?_;exact l7 ⟨rfl,rfl,z,u,by rw[<-y];exact f5⟩
 have O:=dT b;rcases E:decide (n<=m)with _|_
 .have D:=dF E;rw[ij _ _ _ oM]at y;refine J8 z u f5 f6 J S b E ?_;exact l7 ⟨rfl,rfl,z,u,by rw[<-y];exact f5⟩
 have D:=dT E;obtain⟨x,nb,o,cs,own,el,hx,hd,rfl,a2,hg,a1,h,hr⟩:=hv.row (i:=i) oM;have nt:(i:Int).toNat=i:=tN i;have hs:=iU x (m-n) oM;rw[hd,szL,if_pos D]at y;simp only[qSz,if_true,bF]at h hg;have U:=ih H2 lo el x (m-n) W hr oM oM;refine J13 z u f5 f6 J S b E hg nt h @wrap_small U ?_;refine i6 (X-1) oM ⟨i+1,n+szQ x (m-n),oM,oM,oM,oM,z,u,rfl,rfl,rfl,y⟩
theorem Fh(k:Nat)(ih:aE 99 true k)(H0:d9)(lo:Nat)(va:Option Addr)(ca:Nat)(l:List Q)(W:lo<=H0.next)(hv:QsR H0 lo k true (.slice va l.length ca) l)(hn:l.length<=1048576)(I:Nat)(cl:LV)(J:H0.get I=cE cl 1)(S:cl[4]?=some (.slice va l.length ca))(m:Int)(a3:0<=m)(hm:m<=64)(r:Int):
  ∀X e H2,(∃(i:Nat)(n:Int),X=l.length-i/\i<=l.length/\1<=n/\n<=m+1/\e.get 1=iV m/\e.get 2=pT I/\e.get 5=iV n/\e.get 6=iV i/\H2=H0/\szL (l.drop i) n m=r)->
  u9 (LE prog O8 (.loop GB) e H2) (fun o e H2=>H2=H0/\o= .exit 0/\e.get 1=iV m/\e.get 2=pT I/\e.get 5=iV r):=by
 refine j7 _ _ ?_;rintro X e H2 ⟨i,n,hk,hi,a4,a5,z,u,f5,f6,hH,y⟩;subst hH;rcases b:decide ((i:Int)<l.length)with _|_
 .have O:=dF b;have:l.drop i=[]:=dN oM;rw[this,szL]at y;refine J5 u f6 J S b ?_;exact l7 ⟨rfl,rfl,z,u,by rw[<-y];exact f5⟩
 have O:=dT b;rcases E:decide (n<=m)with _|_
 .have D:=dF E;rw[ij _ _ _ oM]at y;refine J8 z u f5 f6 J S b E ?_;exact l7 ⟨rfl,rfl,z,u,by rw[<-y];exact f5⟩
 have D:=dT E;obtain⟨x,nb,o,cs,own,el,hx,hd,rfl,a2,hg,a1,h,hr⟩:=hv.row (i:=i) oM;have nt:(i:Int).toNat=i:=tN i;have hs:=iU x (m-n) oM;rw[hd,szL,if_pos D]at y;simp only[qSz,if_true,bF]at h hg;have U:=ih H2 lo el x (m-n) W hr oM oM;refine J13 z u f5 f6 J S b E hg nt h @wrap_small U ?_;refine i6 (X-1) oM ⟨i+1,n+szQ x (m-n),oM,oM,oM,oM,z,u,rfl,rfl,rfl,y⟩
theorem Fi(k:Nat)(ih:aE 77 false k)(H0:d9)(lo:Nat)(va:Option Addr)(ca:Nat)(l:List Q)(W:lo<=H0.next)(hv:QsR H0 lo k false (.slice va l.length ca) l)(hn:l.length<=1048576)(I:Nat)(cl:LV)(J:H0.get I=cE cl 1)(S:cl[5]?=some (.slice va l.length ca))(m:Int)(a3:0<=m)(hm:m<=64)(r:Int):
  ∀X e H2,(∃(i:Nat)(n:Int),X=l.length-i/\i<=l.length/\1<=n/\n<=m+1/\e.get 1=iV m/\e.get 2=pT I/\e.get 5=iV n/\e.get 7=iV i/\H2=H0/\szL (l.drop i) n m=r)->
  u9 (LE prog O8 (.loop GC) e H2) (fun o e H2=>H2=H0/\o= .exit 2/\e.get 1=iV m/\e.get 2=pT I/\e.get 5=iV r):=by
 refine j7 _ _ ?_;rintro X e H2 ⟨i,n,hk,hi,a4,a5,z,u,f5,f6,hH,y⟩;subst hH;rcases b:decide ((i:Int)<l.length)with _|_
 .have O:=dF b;have:l.drop i=[]:=dN oM;rw[this,szL]at y;refine J5 u f6 J S b ?_;exact l7 ⟨rfl,rfl,z,u,by rw[<-y];exact f5⟩
 have O:=dT b;rcases E:decide (n<=m)with _|_
 .have D:=dF E;rw[ij _ _ _ oM]at y;refine J8 z u f5 f6 J S b E ?_;exact l7 ⟨rfl,rfl,z,u,by rw[<-y];exact f5⟩
 have D:=dT E;obtain⟨x,nb,o,cs,own,el,hx,hd,rfl,a2,hg,a1,h,hr⟩:=hv.row (i:=i) oM;have nt:(i:Int).toNat=i:=tN i;have hs:=iU x (m-n) oM;rw[hd,szL,if_pos D]at y;simp only[qSz,if_true,bF]at h hg;have U:=ih H2 lo el x (m-n) W hr oM oM;refine J13 z u f5 f6 J S b E hg nt h @wrap_small U ?_;refine i6 (X-1) oM ⟨i+1,n+szQ x (m-n),oM,oM,oM,oM,z,u,rfl,rfl,rfl,y⟩
theorem NL(k:Nat)(W:aE 77 false k)(X:aE 99 (!false) k):aE 77 false (k+1):=by
 intro H lo cs q m a2 hr h hm;obtain⟨va,ca,wa,u,rfl,h1,h2,h3,h4⟩:=hr.path;rw[j8 ae2 rfl _ sM,Cl];obtain⟨D,y,-,hg,S⟩:=pushF H (bC [iV q.op,.slice va q.a.length ca,.slice wa q.b.length u] 1);have a1:H.next<=D.low:=by rw[y,O7];exact lR
 have hn:=S.next;have I:=h1.mono (H':=D) (fun j hj=>S.get j oM) lR;have J:=h2.mono (H':=D) (fun j hj=>S.get j oM) lR;have hz:=mb q.a 1 m oM oM h;refine J1 y.symm ?_;refine l9 (F:=fun z=>u5 _ _ _ (u7 (inBlock 0 z) _)=_) (Ff k W D lo va ca q.a oM I h3 H.next _ hg rfl m h hm (szL q.a 1 m) q.a.length _ _ ⟨0,1,rfl,oM,oM,oM,rfl,rfl,rfl,rfl,rfl,rfl⟩) ?_;rintro o e' H' ⟨O,U,g1,g2,E⟩;subst O;refine J1 U ?_;refine l9 (F:=fun z=>u5 _ _ _ (u7 (inBlock 2 z) _)=_) (Fg k X H' lo wa u q.b oM J h4 H.next _ hg rfl m h hm (szL q.b (szL q.a 1 m) m) q.b.length _ _ ⟨0,szL q.a 1 m,rfl,oM,hz.1,hz.2,g1,g2,E,rfl,rfl,rfl⟩) ?_;rintro o e' H2 ⟨O,U,g1,g2,E⟩;exact J3 U E O trivial
theorem NM(k:Nat)(W:aE 99 true k)(X:aE 77 (!true) k):aE 99 true (k+1):=by
 intro H lo cs q m a2 hr h hm;obtain⟨va,ca,wa,u,rfl,h1,h2,h3,h4,_⟩:=hr.filter;rw[j8 af9 rfl _ sM,Cl];obtain⟨D,y,-,hg,S⟩:=pushF H (bC [iV q.op,.string q.sp,.string q.lc,.string q.vl,.slice va q.a.length ca,.slice wa q.b.length u] 1);have a1:H.next<=D.low:=by rw[y,O7];exact lR
 have hn:=S.next;have I:=h1.mono (H':=D) (fun j hj=>S.get j oM) lR;have J:=h2.mono (H':=D) (fun j hj=>S.get j oM) lR;have hz:=mb q.a 1 m oM oM h;refine J1 y.symm ?_;refine l9 (F:=fun z=>u5 _ _ _ (u7 (inBlock 0 z) _)=_) (Fh k W D lo va ca q.a oM I h3 H.next _ hg rfl m h hm (szL q.a 1 m) q.a.length _ _ ⟨0,1,rfl,oM,oM,oM,rfl,rfl,rfl,rfl,rfl,rfl⟩) ?_;rintro o e' H' ⟨O,U,g1,g2,E⟩;subst O;refine J1 U ?_;refine l9 (F:=fun z=>u5 _ _ _ (u7 (inBlock 2 z) _)=_) (Fi k X H' lo wa u q.b oM J h4 H.next _ hg rfl m h hm (szL q.b (szL q.a 1 m) m) q.b.length _ _ ⟨0,szL q.a 1 m,rfl,oM,hz.1,hz.2,g1,g2,E,rfl,rfl,rfl⟩) ?_;rintro o e' H2 ⟨O,U,g1,g2,E⟩;exact J3 U E O trivial
theorem Cd:∀k,aE 77 false k/\aE 99 true k:=by
 intro k;induction k with
 |zero=>exact⟨fun H lo cs q m u y=>y.elim,fun H lo cs q m u y=>y.elim⟩
 |succ k h=>exact⟨NL k h.1 h.2,NM k h.2 h.1⟩
theorem BP(H:d9)(lo k:Nat)(cs:LV)(q:Q)(a1:lo<=H.next)(E:QR H lo k false cs q):CL prog O8 50 [.agg cs.toArray] H=some (.int .i64 (szQ q 64),none):=by
 cases k with
 |zero=>exact E.elim
 |succ k=>
 have I:=E;obtain⟨O,D,S,h,rfl,h1,h2,h3,h4⟩:=E.path;obtain⟨z,u,-,X,U⟩:=pushF H (bC [iV q.op,.slice O q.a.length D,.slice S q.b.length h] 1);have W:H.next<=z.low:=by rw[u,O7];exact lR
 have hn:=U.next;have y:ldC (some true) (some 3) 0 [iV q.op,.slice O q.a.length D,.slice S q.b.length h]=some (.agg [iV q.op,.slice O q.a.length D,.slice S q.b.length h].toArray):=rfl;have J:QR z lo (k+1) false _ q:=I.mono (fun j hj=>U.get j oM) lR;have c1:=(Cd (k+1)).1 z lo _ q 64 oM J oM oM;rw[j8 ac0 rfl _ sM];exact J4 u.symm X y c1 trivial
theorem Ce{S:List Blk}{sz:Nat}{α:Type}{R u:LV->α->Prop}{v:Value}{l:List α}(h:Sl S sz R v l)(E:∀cs a,R cs a->u cs a):SlI ⟨S,S.length⟩ S.length sz u v l:=by
 rcases h with h|⟨b,o,J,h⟩
 .exact .inl h
 .refine .inr ⟨b,o,_,J,?_⟩;rcases h with h|⟨c,y,z,D⟩
  .exact .inl h
  .exact .inr ⟨c,false,(gS y).1,y,z,fun i a I=>E _ _ (D i a I)⟩
theorem aC6(k:Nat):P4 prog k 9 (fun _ cs(s:ByteArray)=>cs=[.string s]/\s.size<=1048576):=mm Tryz.underlying9
theorem uY(k:Nat):P4 prog k 3 (fun _ cs(n:Int)=>cs=[iV n]/\(Lit.int .i64 n).wf=true):=sC Tryz.underlying3
def NmR(cs:LV)(x:ByteArray×ByteArray):Prop:=cs=[.string x.1,.string x.2]/\x.1.size<=1048576/\x.2.size<=1048576
theorem yY(k:Nat):P4 prog (k+1) 48 (fun _ cs x=>NmR cs x):=by
 have h:=cg (P:=prog) (t:=48) Tryz.underlying48 kR (I3 (k:=1) rfl kR (aC6 k) (I3 (k:=1) rfl kR (aC6 k) (dL _)));refine h.map (fun x=>(x.1,x.2.1)) ?_ (fun _ _ _ _ _ h=>h);rintro S cs ⟨a,b,u⟩ ⟨c1,c2,rfl,⟨rfl,y⟩,D,E,rfl,⟨rfl,z⟩,rfl⟩;exact⟨rfl,y,z⟩
def QG(S:List Blk):Nat->Bool->LV->Q->Prop
 |0,_,_,_=>False
 |k+1,f,cs,q=>∃v w,cs=(if f then [iV q.op,.string q.sp,.string q.lc,.string q.vl,v,w] else [iV q.op,v,w])/\
   Sl S (qSz f) (QG S k f) v q.a/\Sl S (qSz !f) (QG S k !f) w q.b/\q.a.length<=1048576/\q.b.length<=1048576/\q.sp.size<=1048576/\q.lc.size<=1048576/\q.vl.size<=1048576/\(f=false->q.sp=eB/\q.lc=eB/\q.vl=eB)
theorem QG.mono{S u:List Blk}(y:Old S u):∀{k:Nat}{f:Bool}{cs:LV}{q:Q},QG S k f cs q->QG u k f cs q:=by
 intro k;induction k with
 |zero=>intro f cs q h;exact h.elim
 |succ k z=>
  intro f cs q h;obtain⟨v,w,D,E,I,J⟩:=h;exact⟨v,w,D,E.mono y (fun _ _ h=>z h),I.mono y (fun _ _ h=>z h),J⟩
theorem pL:∀k,P4 prog (2*k) 25 (fun S cs q=>QG S k false cs q)/\P4 prog (2*k) 86 (fun S cs q=>QG S k true cs q)
 |0=>⟨⟨fun _ _ _ _ D h=>h.mono D,fun _ _ _ h=>absurd h oM⟩,⟨fun _ _ _ _ D h=>h.mono D,fun _ _ _ h=>absurd h oM⟩⟩
 |k+1=>by
  obtain⟨O,U⟩:=pL k;have W:=fZ (P:=prog) (t:=22) (e:=25) (sz:=3) Tryz.underlying22 kR oM O;have X:=fZ (P:=prog) (t:=23) (e:=86) (sz:=6) Tryz.underlying23 kR oM U
  constructor
  .have h:=cg (P:=prog) (t:=25) Tryz.underlying25 kR (I3 (k:=1) rfl kR (uY (2*k+1)) (I3 (k:=1) rfl kR W (I3 (k:=1) rfl kR X (dL _))));refine h.map (fun x=> .mk x.1 eB eB eB x.2.1 x.2.2.1) ?_ (fun _ _ _ _ D h=>h.mono D);rintro S cs ⟨o,a,b,u⟩ ⟨c1,c2,rfl,⟨rfl,h1⟩,c3,c4,rfl,⟨v,rfl,E,y⟩,c5,c6,rfl,⟨w,rfl,I,z⟩,rfl⟩;have J:eB.size<=1048576:=by decide
   exact⟨v,w,rfl,E,I,y,z,J,J,J,fun _=>⟨rfl,rfl,rfl⟩⟩
  .have h:=cg (P:=prog) (t:=86) Tryz.underlying86 kR (I3 (k:=1) rfl kR (uY (2*k+1)) (I3 (k:=2) rfl kR (yY (2*k)) (I3 (k:=1) rfl kR (aC6 (2*k+1)) (I3 (k:=1) rfl kR X (I3 (k:=1) rfl kR W (dL _))))));refine h.map (fun x=> .mk x.1 x.2.1.1 x.2.1.2 x.2.2.1 x.2.2.2.1 x.2.2.2.2.1) ?_ (fun _ _ _ _ D h=>h.mono D);rintro S cs ⟨o,nm,vl,a,b,u⟩ ⟨c1,c2,rfl,⟨rfl,h1⟩,c3,c4,rfl,⟨rfl,n1,n2⟩,c7,c8,rfl,⟨rfl,n3⟩,c9,a1,rfl,⟨v,rfl,E,y⟩,c5,c6,rfl,⟨w,rfl,I,z⟩,rfl⟩;exact⟨v,w,rfl,E,I,y,z,n1,n2,n3,fun h=>by cases h⟩
theorem ah5{S:List Blk}:∀{k:Nat}{f:Bool}{cs:LV}{q:Q},QG S k f cs q->QR ⟨S,S.length⟩ S.length k f cs q:=by
 intro k;induction k with
 |zero=>intro f cs q h;exact h.elim
 |succ k u=>
  intro f cs q h;obtain⟨v,w,y,z,D,E⟩:=h;exact⟨v,w,y,Ce z (fun _ _ h=>u h),Ce D (fun _ _ h=>u h),E⟩
end Go.Proofs.YtofbhlhamfkljaaGreatDoor.Ve
namespace Go.Proofs.YtofbhlhamfkljaaGreatDoor.card
open Go.ChangeShapes Go.WideShapes Go.ChangeAt Go.RowKit
open Go.Proofs.Tryz (prog)
open Go Ve
theorem own:ownKnob prog.godebug=none:=kR
theorem Eh:laidOutB prog=true:=kR
def Xz:DataW Unit->Value
 | .lit (.int k n)=> .int k n
 |_=> .nilIface
def Hh:DataW Unit->Array Value
 | .agg l=>(l.map Xz).toArray
 |_=> #[]
def MV(d:DataW Unit):Obj->Obj
 | .cells _ t frozen=> .cells (Hh d) t frozen
 |o=>o
noncomputable def iG(os:Os):World:=
 {World.holding prog os ⟨#[],#[],[]⟩with heap:=(((World.holding prog os ⟨#[],#[],[]⟩).heap.modify 0 (MV Rows.laid_internal_strconv_uint64pow10)).modify 1 (MV Rows.laid_math_bits_deBruijn32tab)).modify 2 (MV Rows.laid_math_bits_deBruijn64tab)}
abbrev Xy:List (String×DataW Unit):=[("math/bits.deBruijn32tab",Rows.laid_math_bits_deBruijn32tab),("math/bits.deBruijn64tab",Rows.laid_math_bits_deBruijn64tab),("internal/strconv.uint64pow10",Rows.laid_internal_strconv_uint64pow10)]
abbrev CG:Value:= .agg #[.int .i64 0,.slice none 0 0,.slice none 0 0]
theorem Bf(h:Os):laidMet prog Xy ((iG h).forCall (fun _ _=>0) ⟨#[],#[CG],[]⟩).memory:=
 laidMet_of_run' 8 kR kR
theorem reads(u:Os){H:Type}(enc:TypeId×Value->H):∃h,DataW.whole enc prog ((iG u).forCall (fun _ _=>0) ⟨#[],#[CG],[]⟩).memory [25] [] false #[CG].toList 8=some ([.agg [.lit (.int .i64 0),.nil,.nil]],[],h):=
 ⟨[],kR⟩
end Go.Proofs.YtofbhlhamfkljaaGreatDoor.card
namespace Go.Proofs.YtofbhlhamfkljaaGreatDoor.Ve
open Go Go.RowKit
open Go.Proofs.Tryz (prog)
def bAt(s:ByteArray)(i:Nat):Nat:=(s.data.toList.getD i 0).toNat
theorem U1(s:ByteArray)(i:Nat):x9 s i=(bAt s i:Int):=rfl
theorem U6(s:ByteArray)(i:Nat):bAt s i<256:=by
 have:=(s.data.toList.getD i 0).toNat_lt
 simpa [bAt] using this
theorem AQ(s:ByteArray)(i:Nat)(h:i<s.size):(s.get! i).toNat=bAt s i:=by
 have u:i<s.data.toList.length:=by simpa using h
 have:s.get! i=s.data[i]!:=by cases s;rfl
 rw[this,bAt,List.getD_eq_getElem?_getD,List.getElem?_eq_getElem u,getElem!_pos _ _ (by simpa using h)];simp
def Q5(s:ByteArray)(i:Nat):Bool:=decide (i<s.size)&&decide (bAt s i / 64=2)
def dec(s:ByteArray)(i:Nat):Option (Nat×Nat):=
 if bAt s i<128 then some (bAt s i,1)
 else if bAt s i / 32=6 then
  if Q5 s (i+1)=true/\128<=bAt s i % 32*64+bAt s (i+1) % 64 then some (bAt s i % 32*64+bAt s (i+1) % 64,2) else none
 else if bAt s i / 16=14 then
  if Q5 s (i+1)=true/\Q5 s (i+2)=true/\2048<=bAt s i % 16*4096+bAt s (i+1) % 64*64+bAt s (i+2) % 64/\¬(55296<=bAt s i % 16*4096+bAt s (i+1) % 64*64+bAt s (i+2) % 64/\bAt s i % 16*4096+bAt s (i+1) % 64*64+bAt s (i+2) % 64<=57343)
   then some (bAt s i % 16*4096+bAt s (i+1) % 64*64+bAt s (i+2) % 64,3) else none
 else if bAt s i / 8=30 then
  if Q5 s (i+1)=true/\Q5 s (i+2)=true/\Q5 s (i+3)=true/\65536<=bAt s i % 8*262144+bAt s (i+1) % 64*4096+bAt s (i+2) % 64*64+bAt s (i+3) % 64/\bAt s i % 8*262144+bAt s (i+1) % 64*4096+bAt s (i+2) % 64*64+bAt s (i+3) % 64<=1114111
   then some (bAt s i % 8*262144+bAt s (i+1) % 64*4096+bAt s (i+2) % 64*64+bAt s (i+3) % 64,4) else none
 else none
theorem G9{s:ByteArray}{i:Nat}:Q5 s i=true↔i<s.size/\bAt s i / 64=2:=by simp [Q5]
theorem tg(s:ByteArray)(i:Nat)(hi:i<s.size)(c n:Nat)(h:dec s i=some (c,n)):Utf8.decode s i=(c,n):=by
 have g0:=AQ s i hi;have D:∀k,Q5 s (i+k)=true->(s.get! (i+k)).toNat=bAt s (i+k)/\(decide (i+k<s.size)&&(s.get! (i+k)).toNat / 64==2)=true:=by
  intro k O;rw[G9]at O;have:=AQ s (i+k) O.1;refine⟨this,?_⟩;rw[this,O.2];simp [O.1]
 unfold dec at h;unfold Utf8.decode;simp only[Nat.add_zero,g0];split at h
 .rename_i W;rw[if_pos W];cases h;rfl
 .rename_i W;rw[if_neg W];split at h
  .rename_i X;split at h
   .rename_i h3;obtain⟨I,u⟩:=D 1 h3.1;have S:(bAt s i / 32==6)=true:=by simp [X]
    rw[S,u];simp only[Bool.and_self,if_true,I];rw[if_pos h3.2];cases h;rfl
   .cases h
  .rename_i X;have S:(bAt s i / 32==6)=false:=by simp [X]
   rw[S];simp only[Bool.false_and,bF];split at h
   .rename_i h4;split at h
    .rename_i J;obtain⟨I,u⟩:=D 1 J.1;obtain⟨k2,z⟩:=D 2 J.2.1;have U:(bAt s i / 16==14)=true:=by simp [h4]
     rw[U,u,z];simp only[Bool.and_self,if_true,I,k2];have hv:Utf8.valid ((bAt s i % 16*4096+bAt s (i+1) % 64*64+bAt s (i+2) % 64:Nat):Int)=true:=by
      have:=J.2.2.2;have b0:=U6 s i;simp only[Utf8.valid,Bool.or_eq_true,Bool.and_eq_true,decide_eq_true_eq];omega
     have y:(decide (2048<=bAt s i % 16*4096+bAt s (i+1) % 64*64+bAt s (i+2) % 64)&&Utf8.valid ((bAt s i % 16*4096+bAt s (i+1) % 64*64+bAt s (i+2) % 64:Nat):Int))=true:=by rw[hv];simp [J.2.2.1]
     rw[if_pos (by simpa using y)];cases h;rfl
    .cases h
   .rename_i h4;have U:(bAt s i / 16==14)=false:=by simp [h4]
    rw[U];simp only[Bool.false_and,bF];split at h
    .rename_i h6;split at h
     .rename_i E;obtain⟨I,u⟩:=D 1 E.1;obtain⟨k2,z⟩:=D 2 E.2.1;obtain⟨k3,a1⟩:=D 3 E.2.2.1;have e6:(bAt s i / 8==30)=true:=by simp [h6]
      rw[e6,u,z,a1];simp only[Bool.and_self,if_true,I,k2,k3];have hv:Utf8.valid ((bAt s i % 8*262144+bAt s (i+1) % 64*4096+bAt s (i+2) % 64*64+bAt s (i+3) % 64:Nat):Int)=true:=by
       have:=E.2.2.2;simp only[Utf8.valid,Bool.or_eq_true,Bool.and_eq_true,decide_eq_true_eq];omega
      have y:(decide (65536<=bAt s i % 8*262144+bAt s (i+1) % 64*4096+bAt s (i+2) % 64*64+bAt s (i+3) % 64)&&Utf8.valid ((bAt s i % 8*262144+bAt s (i+1) % 64*4096+bAt s (i+2) % 64*64+bAt s (i+3) % 64:Nat):Int))=true:=by rw[hv];simp [E.2.2.2.1]
      rw[if_pos (by simpa using y)];cases h;rfl
     .cases h
    .cases h
theorem wH:∀b:Fin 256,(Go.bits .and .u8 (b.val:Int) 128=0↔b.val<128)/\(Go.bits .and .u8 (b.val:Int) 224=192↔b.val / 32=6)/\(Go.bits .and .u8 (b.val:Int) 240=224↔b.val / 16=14)/\(Go.bits .and .u8 (b.val:Int) 248=240↔b.val / 8=30):=by decide
theorem wI:∀b:Fin 256,Go.bits .andNot .u8 (b.val:Int) 128=(b.val % 128:Nat)/\Go.bits .andNot .u8 (b.val:Int) 224=(b.val % 32:Nat)/\Go.bits .andNot .u8 (b.val:Int) 240=(b.val % 16:Nat)/\Go.bits .andNot .u8 (b.val:Int) 248=(b.val % 8:Nat):=by decide
theorem wG:∀b:Fin 256,(Go.bits .and .u8 (b.val:Int) 192=128↔b.val / 64=2)/\Go.bits .and .u8 (b.val:Int) 63=(b.val % 64:Nat):=by decide
theorem bN{n:Int}(h: -2147483648<=n)(u:n<=2147483647):IntKind.wrap .i32 n=n:=by
 simp [IntKind.wrap,IntKind.min,IntKind.max,IntKind.signed,IntKind.bits];omega
theorem CS(a b:Nat)(D:a<16777216)(E:b<64):Go.bits .or .i32 ((a*64:Nat):Int) (b:Int)=((a*64+b:Nat):Int):=by
 have u:(BitVec.ofInt 32 ((a*64:Nat):Int))=BitVec.ofNat 32 (a*64):=BitVec.ofInt_natCast _ _;have y:(BitVec.ofInt 32 (b:Int))=BitVec.ofNat 32 b:=BitVec.ofInt_natCast _ _;have z:(BitVec.ofNat 32 (a*64)|||BitVec.ofNat 32 b).toNat=a*64+b:=by
  rw[BitVec.toNat_or,BitVec.toNat_ofNat,BitVec.toNat_ofNat,Nat.mod_eq_of_lt oM,Nat.mod_eq_of_lt oM];have:=Nat.two_pow_add_eq_or_of_lt (i:=6) (b:=b) oM a;have h:(2:Nat) ^ 6*a=a*64:=by rw[Nat.mul_comm]
  rw[h]at this;omega
 show IntKind.wrap .i32 (((BitVec.ofInt 32 ((a*64:Nat):Int))|||(BitVec.ofInt 32 (b:Int))).toNat:Int)=_;rw[u,y,z];exact bN oM oM
theorem zt(v:Nat)(z:v<2147483648):Go.bits .or .i32 (v:Int) 0=(v:Int):=by
 have h:(BitVec.ofInt 32 (v:Int))=BitVec.ofNat 32 v:=BitVec.ofInt_natCast _ _;have u:(BitVec.ofInt 32 (0:Int))=BitVec.ofNat 32 0:=by decide
 have y:(BitVec.ofNat 32 v|||BitVec.ofNat 32 0).toNat=v:=by
  rw[BitVec.toNat_or,BitVec.toNat_ofNat,BitVec.toNat_ofNat,Nat.mod_eq_of_lt oM];simp
 show IntKind.wrap .i32 (((BitVec.ofInt 32 (v:Int))|||(BitVec.ofInt 32 (0:Int))).toNat:Int)=_;rw[h,u,y];exact bN oM oM
theorem am(s:ByteArray)(u n k v h:Nat)(I:v<16777216):Z0 s u n (k+1) (v:Int) h=if Q5 s (u+h)=true then Z0 s u n k ((v*64+bAt s (u+h) % 64:Nat):Int) (h+1) else((v:Int),h):=by
 have E:=U6 s (u+h);obtain⟨c1,c2⟩:=wG ⟨bAt s (u+h),E⟩;simp only at c1 c2;rw[Z0,U1,c2];have z:IntKind.wrap .i32 ((v:Int)*2 ^ min (Int.toNat 6) 32)=((v*64:Nat):Int):=by
  have:(v:Int)*2 ^ min (Int.toNat 6) 32=((v*64:Nat):Int):=by
   rw[Int.natCast_mul];rfl
  rw[this];exact bN oM oM
 have D:IntKind.wrap .i32 ((bAt s (u+h) % 64:Nat):Int)=((bAt s (u+h) % 64:Nat):Int):=bN oM oM;rw[z,D,CS v _ I (Nat.mod_lt _ oM)];by_cases y:Q5 s (u+h)=true
 .rw[if_pos y,if_pos];rw[G9]at y;exact⟨y.1,c1.2 y.2⟩
 .rw[if_neg y,if_neg];intro q;exact y (G9.2 ⟨q.1,c1.1 q.2⟩)
theorem Fq(v:Nat)(y:v<2147483648):oo (v:Int) 0=((v:Int),(v:Int)):=by
 have h:IntKind.wrap .i32 ((v:Int)*2 ^ min (6*(0:Int)).toNat 32)=(v:Int):=by
  have:(v:Int)*2 ^ min (6*(0:Int)).toNat 32=(v:Int):=sM;rw[this];exact bN oM oM
 have u:IntKind.wrap .i32 (IntKind.wrap .i32 (1*2 ^ min (6*(0:Int)).toNat 32)-1)=0:=by decide
 rw[oo,h,u,zt v y]
theorem fg(s:ByteArray)(u n v:Nat)(h:Int)(y:v<2147483648):pK s u n h (v:Int) (n+1)=if(v:Int)<h\/(1114111:Int)<v\/((55296:Int)<=v/\(v:Int)<=57343) then(0,0,2) else((v:Int),((n+1:Nat):Int),0):=by
 have e:((n:Int)+1-((n+1:Nat):Int))=0:=oM;rw[pK,e,Fq v y];simp only[if_true]
theorem bp(s:ByteArray)(y n h:Nat)(u v:Int)(z:h≠n+1):(pK s y n u v h).2.2≠0:=by
 rw[pK];split
 .decide
 .split<;>(try decide)
theorem zi(s:ByteArray)(i:Nat):(Go.bits .and .u8 (x9 s i) 128=0↔bAt s i<128)/\(Go.bits .and .u8 (x9 s i) 224=192↔bAt s i / 32=6)/\(Go.bits .and .u8 (x9 s i) 240=224↔bAt s i / 16=14)/\(Go.bits .and .u8 (x9 s i) 248=240↔bAt s i / 8=30):=wH ⟨bAt s i,U6 s i⟩
theorem yx(s:ByteArray)(i:Nat):Go.bits .andNot .u8 (x9 s i) 128=(bAt s i % 128:Nat)/\Go.bits .andNot .u8 (x9 s i) 224=(bAt s i % 32:Nat)/\Go.bits .andNot .u8 (x9 s i) 240=(bAt s i % 16:Nat)/\Go.bits .andNot .u8 (x9 s i) 248=(bAt s i % 8:Nat):=wI ⟨bAt s i,U6 s i⟩
theorem yR(s:ByteArray)(i:Nat)(hi:i<s.size):(∀c n,dec s i=some (c,n)->bM s i=((c:Int),(n:Int),0))/\(dec s i=none->(bM s i).2.2≠0):=by
 have hb:=U6 s i;obtain⟨f1,f2,f3,f4⟩:=zi s i;obtain⟨r1,r2,r3,r4⟩:=yx s i;have w:∀n:Nat,n<256->IntKind.wrap .i32 (n:Int)=(n:Int):=fun n h=>bN oM oM;have S:bM s i=T6 s i 4 0:=by rw[bM,if_pos hi]
 by_cases y:bAt s i<128
 .have e:bM s i=((bAt s i:Int),1,0):=by
   rw[S,T6,X5,if_pos (f1.2 y)];simp only;rw[r1,w _ oM,Z0,Nat.mod_eq_of_lt y];rw[fg s i 0 _ 0 oM,if_neg oM];rfl
  have d:dec s i=some (bAt s i,1):=by rw[dec,if_pos y]
  rw[d,e];refine⟨fun c n h=>?_,fun h=>by cases h⟩;cases h;rfl
 have U:¬Go.bits .and .u8 (x9 s i) 128=0:=fun q=>y (f1.1 q);by_cases D:bAt s i / 32=6
 .have e:bM s i=pK s i 1 128 (Z0 s i 1 1 ((bAt s i % 32:Nat):Int) 1).1 (Z0 s i 1 1 ((bAt s i % 32:Nat):Int) 1).2:=by
   rw[S,T6,X5,if_neg U,T6,X5,if_pos (f2.2 D)];simp only;rw[r2,w _ oM]
  have d:dec s i=if Q5 s (i+1)=true/\128<=bAt s i % 32*64+bAt s (i+1) % 64 then some (bAt s i % 32*64+bAt s (i+1) % 64,2) else none:=by rw[dec,if_neg y,if_pos D]
  rw[am _ _ _ _ _ _ oM]at e;by_cases z:Q5 s (i+1)=true
  .rw[if_pos z,Z0]at e;simp only at e;rw[fg s i 1 _ 128 oM]at e;by_cases I:128<=bAt s i % 32*64+bAt s (i+1) % 64
   .rw[if_neg oM]at e;rw[if_pos ⟨z,I⟩]at d;rw[d,e];exact⟨fun c n h=>by cases h;rfl,fun h=>by cases h⟩
   .rw[if_pos oM]at e;rw[if_neg (fun q=>I q.2)]at d;rw[d,e];exact⟨fun c n h=>(by cases h),fun _=>by decide⟩
  .rw[if_neg z]at e;rw[if_neg (fun q=>z q.1)]at d;rw[d,e];exact⟨fun c n h=>(by cases h),fun _=>bp _ _ _ _ _ _ oM⟩
 have X:¬Go.bits .and .u8 (x9 s i) 224=192:=fun q=>D (f2.1 q);by_cases E:bAt s i / 16=14
 .have e:bM s i=pK s i 2 2048 (Z0 s i 2 2 ((bAt s i % 16:Nat):Int) 1).1 (Z0 s i 2 2 ((bAt s i % 16:Nat):Int) 1).2:=by
   rw[S,T6,X5,if_neg U,T6,X5,if_neg X,T6,X5,if_pos (f3.2 E)];simp only;rw[r3,w _ oM]
  rw[am _ _ _ _ _ _ oM]at e;by_cases z:Q5 s (i+1)=true
  .rw[if_pos z,am _ _ _ _ _ _ oM]at e;by_cases u:Q5 s (i+2)=true
   .rw[if_pos u,Z0]at e;simp only at e;have W:(bAt s i % 16*64+bAt s (i+1) % 64)*64+bAt s (i+1+1) % 64=bAt s i % 16*4096+bAt s (i+1) % 64*64+bAt s (i+2) % 64:=by
     show(bAt s i % 16*64+bAt s (i+1) % 64)*64+bAt s (i+2) % 64=_;omega
    rw[show i+(1+1)=i+1+1 from rfl,W,fg s i 2 _ 2048 oM]at e;by_cases I:2048<=bAt s i % 16*4096+bAt s (i+1) % 64*64+bAt s (i+2) % 64/\¬(55296<=bAt s i % 16*4096+bAt s (i+1) % 64*64+bAt s (i+2) % 64/\bAt s i % 16*4096+bAt s (i+1) % 64*64+bAt s (i+2) % 64<=57343)
    .rw[if_neg oM]at e;have d:dec s i=some (bAt s i % 16*4096+bAt s (i+1) % 64*64+bAt s (i+2) % 64,3):=by rw[dec,if_neg y,if_neg D,if_pos E,if_pos ⟨z,u,I.1,I.2⟩]
     rw[d,e];exact⟨fun c n h=>by cases h;rfl,fun h=>by cases h⟩
    .rw[if_pos oM]at e;have d:dec s i=none:=by rw[dec,if_neg y,if_neg D,if_pos E,if_neg (fun q=>I q.2.2)]
     rw[d,e];exact⟨fun c n h=>(by cases h),fun _=>by decide⟩
   .rw[if_neg u]at e;have d:dec s i=none:=by rw[dec,if_neg y,if_neg D,if_pos E,if_neg (fun q=>u q.2.1)]
    rw[d,e];exact⟨fun c n h=>(by cases h),fun _=>bp _ _ _ _ _ _ oM⟩
  .rw[if_neg z]at e;have d:dec s i=none:=by rw[dec,if_neg y,if_neg D,if_pos E,if_neg (fun q=>z q.1)]
   rw[d,e];exact⟨fun c n h=>(by cases h),fun _=>bp _ _ _ _ _ _ oM⟩
 have g3:¬Go.bits .and .u8 (x9 s i) 240=224:=fun q=>E (f3.1 q);by_cases O:bAt s i / 8=30
 .have e:bM s i=pK s i 3 65536 (Z0 s i 3 3 ((bAt s i % 8:Nat):Int) 1).1 (Z0 s i 3 3 ((bAt s i % 8:Nat):Int) 1).2:=by
   rw[S,T6,X5,if_neg U,T6,X5,if_neg X,T6,X5,if_neg g3,T6,X5,if_pos (f4.2 O)];simp only;rw[r4,w _ oM]
   all_goals (intro q;omega)
  rw[am _ _ _ _ _ _ oM]at e;by_cases z:Q5 s (i+1)=true
  .rw[if_pos z,am _ _ _ _ _ _ oM]at e;by_cases u:Q5 s (i+2)=true
   .rw[if_pos u,am _ _ _ _ _ _ oM]at e;by_cases J:Q5 s (i+3)=true
    .rw[if_pos J,Z0]at e;simp only at e;have W:((bAt s i % 8*64+bAt s (i+1) % 64)*64+bAt s (i+(1+1)) % 64)*64+bAt s (i+(1+1+1)) % 64=bAt s i % 8*262144+bAt s (i+1) % 64*4096+bAt s (i+2) % 64*64+bAt s (i+3) % 64:=by
      show((bAt s i % 8*64+bAt s (i+1) % 64)*64+bAt s (i+2) % 64)*64+bAt s (i+3) % 64=_;omega
     rw[W,fg s i 3 _ 65536 oM]at e;by_cases I:65536<=bAt s i % 8*262144+bAt s (i+1) % 64*4096+bAt s (i+2) % 64*64+bAt s (i+3) % 64/\bAt s i % 8*262144+bAt s (i+1) % 64*4096+bAt s (i+2) % 64*64+bAt s (i+3) % 64<=1114111
     .rw[if_neg oM]at e;have d:dec s i=some (bAt s i % 8*262144+bAt s (i+1) % 64*4096+bAt s (i+2) % 64*64+bAt s (i+3) % 64,4):=by rw[dec,if_neg y,if_neg D,if_neg E,if_pos O,if_pos ⟨z,u,J,I.1,I.2⟩]
      rw[d,e];exact⟨fun c n h=>by cases h;rfl,fun h=>by cases h⟩
     .rw[if_pos oM]at e;have d:dec s i=none:=by rw[dec,if_neg y,if_neg D,if_neg E,if_pos O,if_neg (fun q=>I q.2.2.2)]
      rw[d,e];exact⟨fun c n h=>(by cases h),fun _=>by decide⟩
    .rw[if_neg J]at e;have d:dec s i=none:=by rw[dec,if_neg y,if_neg D,if_neg E,if_pos O,if_neg (fun q=>J q.2.2.1)]
     rw[d,e];exact⟨fun c n h=>(by cases h),fun _=>bp _ _ _ _ _ _ oM⟩
   .rw[if_neg u]at e;have d:dec s i=none:=by rw[dec,if_neg y,if_neg D,if_neg E,if_pos O,if_neg (fun q=>u q.2.1)]
    rw[d,e];exact⟨fun c n h=>(by cases h),fun _=>bp _ _ _ _ _ _ oM⟩
  .rw[if_neg z]at e;have d:dec s i=none:=by rw[dec,if_neg y,if_neg D,if_neg E,if_pos O,if_neg (fun q=>z q.1)]
   rw[d,e];exact⟨fun c n h=>(by cases h),fun _=>bp _ _ _ _ _ _ oM⟩
 have g4:¬Go.bits .and .u8 (x9 s i) 248=240:=fun q=>O (f4.1 q);have e:bM s i=(0,0,2):=by
  rw[S,T6,X5,if_neg U,T6,X5,if_neg X,T6,X5,if_neg g3,T6,X5,if_neg g4,T6]
  all_goals (intro q;omega)
 have d:dec s i=none:=by rw[dec,if_neg y,if_neg D,if_neg E,if_neg O]
 rw[d,e];exact⟨fun c n h=>(by cases h),fun _=>by decide⟩
theorem dl1{a b:Int}(h:a<b):decide (a<b)=true:=decide_eq_true h
theorem dl0{a b:Int}(h:b<=a):decide (a<b)=false:=decide_eq_false oM
theorem de1{a b:Int}(h:a<=b):decide (a<=b)=true:=decide_eq_true h
theorem de0{a b:Int}(h:b<a):decide (a<=b)=false:=decide_eq_false oM
theorem dq1{a b:Int}(h:a=b):decide (a=b)=true:=decide_eq_true h
theorem dq0{a b:Int}(h:a<b\/b<a):decide (a=b)=false:=decide_eq_false oM
theorem dlB:ai2 (aI (aI (aI @dl0 @dl1) (aI @dq0 @dq1)) (aI @de0 @de1)):=stOf _
theorem yn(H:d9)(r:Int):CL prog O8 119 [iV r] H=some (.bool (am7 r),none):=by
 rw[j8 WJ rfl _ sM,am7];rcases h:decide (r=9)with _|_
 .rcases u:decide (r=10)with _|_
  .rcases y:decide (r=13)with _|_
   .exact J3 h u y trivial
   .exact J3 h u y trivial
  .exact J2 h u trivial
 .exact J1 h trivial
theorem ry(H:d9)(r:Int):CL prog O8 96 [iV r] H=some (.bool (iZ r),none):=by
 rw[j8 af7 rfl _ sM,iZ,inSpans,mW];rcases Int.lt_or_le r 32 with u|u
 .exact J3 @yn anB dlB trivial
 have h:am7 r=decide (r=32):=by
  rw[am7,dq0 oM,dq0 oM,dq0 oM];rfl
 rw[h];rcases Int.lt_or_le r 55296 with y|y
 .exact J2 anB dlB trivial
 rcases Int.lt_or_le r 57344 with z|z
 .exact J2 anB dlB trivial
 rcases Int.lt_or_le r 65534 with D|D
 .exact J2 anB dlB trivial
 rcases Int.lt_or_le r 65535 with E|E
 .exact J2 anB dlB trivial
 rcases Int.lt_or_le r 65536 with I|I
 .exact J2 anB dlB trivial
 rcases Int.lt_or_le r 1114112 with J|J
 .exact J2 anB dlB trivial
 .exact J2 anB dlB trivial
theorem az8(H:d9)(r:Int):CL prog O8 120 [iV r] H=some (.bool (dR r),none):=by
 revert r
 intro r;rw[j8 WK rfl _ sM,dR,inSpans,lW];rcases Int.lt_or_le r 65 with k0|k0
 .exact J2 anB dlB trivial
 rcases Int.lt_or_le r 91 with k1|k1
 .exact J2 anB dlB trivial
 clear k0;rcases Int.lt_or_le r 95 with k2|k2
 .exact J2 anB dlB trivial
 clear k1;rcases Int.lt_or_le r 96 with k3|k3
 .exact J2 anB dlB trivial
 clear k2;rcases Int.lt_or_le r 97 with k4|k4
 .exact J2 anB dlB trivial
 clear k3;rcases Int.lt_or_le r 123 with k5|k5
 .exact J2 anB dlB trivial
 clear k4;rcases Int.lt_or_le r 128 with k6|k6
 .exact J2 anB dlB trivial
 clear k5;rcases Int.lt_or_le r 192 with k7|k7
 .exact J2 anB dlB trivial
 clear k6;rcases Int.lt_or_le r 215 with k8|k8
 .exact J2 anB dlB trivial
 clear k7;rcases Int.lt_or_le r 216 with k9|k9
 .exact J2 anB dlB trivial
 clear k8;rcases Int.lt_or_le r 247 with h|h
 .exact J2 anB dlB trivial
 clear k9;rcases Int.lt_or_le r 248 with u|u
 .exact J2 anB dlB trivial
 clear h;rcases Int.lt_or_le r 768 with y|y
 .exact J2 anB dlB trivial
 clear u;rcases Int.lt_or_le r 880 with z|z
 .exact J2 anB dlB trivial
 clear y;rcases Int.lt_or_le r 894 with D|D
 .exact J2 anB dlB trivial
 clear z;rcases Int.lt_or_le r 895 with E|E
 .exact J2 anB dlB trivial
 clear D;rcases Int.lt_or_le r 8192 with I|I
 .exact J2 anB dlB trivial
 clear E;rcases Int.lt_or_le r 8204 with J|J
 .exact J2 anB dlB trivial
 clear I;rcases Int.lt_or_le r 8205 with O|O
 .exact J2 anB dlB trivial
 clear J;rcases Int.lt_or_le r 8206 with S|S
 .exact J2 anB dlB trivial
 clear O;rcases Int.lt_or_le r 8304 with U|U
 .exact J2 anB dlB trivial
 clear S;rcases Int.lt_or_le r 8592 with W|W
 .exact J2 anB dlB trivial
 clear U;rcases Int.lt_or_le r 11264 with X|X
 .exact J2 anB dlB trivial
 clear W;rcases Int.lt_or_le r 12272 with a1|a1
 .exact J2 anB dlB trivial
 clear X;rcases Int.lt_or_le r 12289 with a2|a2
 .exact J2 anB dlB trivial
 clear a1;rcases Int.lt_or_le r 55296 with a3|a3
 .exact J2 anB dlB trivial
 clear a2;rcases Int.lt_or_le r 63744 with a4|a4
 .exact J2 anB dlB trivial
 clear a3;rcases Int.lt_or_le r 64976 with a5|a5
 .exact J2 anB dlB trivial
 clear a4;rcases Int.lt_or_le r 65008 with a6|a6
 .exact J2 anB dlB trivial
 clear a5;rcases Int.lt_or_le r 65534 with a7|a7
 .exact J2 anB dlB trivial
 clear a6;rcases Int.lt_or_le r 65536 with a8|a8
 .exact J2 anB dlB trivial
 clear a7;rcases Int.lt_or_le r 983040 with a9|a9
 .exact J2 anB dlB trivial
 clear a8;exact J2 anB dlB trivial
theorem rE(H:d9)(r:Int):CL prog O8 121 [iV r] H=some (.bool (gi r),none):=by
 rw[j8 WL rfl _ sM,gi,inSpans,nN];rcases h:dR r with _|_
 .skip
  rcases Int.lt_or_le r 45 with z|z
  .exact J4 @az8 h anB dlB trivial
  rcases Int.lt_or_le r 46 with D|D
  .exact J4 @az8 h anB dlB trivial
  clear z;rcases Int.lt_or_le r 47 with E|E
  .exact J4 @az8 h anB dlB trivial
  clear D;rcases Int.lt_or_le r 48 with I|I
  .exact J4 @az8 h anB dlB trivial
  clear E;rcases Int.lt_or_le r 58 with J|J
  .exact J4 @az8 h anB dlB trivial
  clear I;rcases Int.lt_or_le r 183 with O|O
  .exact J4 @az8 h anB dlB trivial
  clear J;rcases Int.lt_or_le r 184 with S|S
  .exact J4 @az8 h anB dlB trivial
  clear O;rcases Int.lt_or_le r 768 with U|U
  .exact J4 @az8 h anB dlB trivial
  clear S;rcases Int.lt_or_le r 880 with W|W
  .exact J4 @az8 h anB dlB trivial
  clear U;rcases Int.lt_or_le r 8255 with X|X
  .exact J4 @az8 h anB dlB trivial
  clear W;rcases Int.lt_or_le r 8256 with u|u
  .exact J4 @az8 h anB dlB trivial
  clear X;rcases Int.lt_or_le r 8257 with y|y
  .exact J4 @az8 h anB dlB trivial
  clear u;exact J4 @az8 h anB dlB trivial
 .exact J2 @az8 h trivial
def jJ(s:ByteArray)(i n:Nat):Int:=
 if n=2 then(x9 s i-192)*64+(x9 s (i+1)-128)
 else if n=3 then((x9 s i-224)*64+(x9 s (i+1)-128))*64+(x9 s (i+2)-128)
 else(((x9 s i-240)*64+(x9 s (i+1)-128))*64+(x9 s (i+2)-128))*64+(x9 s (i+3)-128)
theorem M9(s:ByteArray)(i:Nat):0<=x9 s i/\x9 s i<=255:=by rw[U1];have:=U6 s i;omega
theorem uo(s:ByteArray)(i n:Nat): -100000000<=jJ s i n/\jJ s i n<=100000000:=by
 have h:=M9 s i;have u:=M9 s (i+1);have y:=M9 s (i+2);have z:=M9 s (i+3);unfold jJ;split
 .omega
 .split<;>omega
theorem iS(H:d9)(s:ByteArray)(i n:Nat)(D:2<=n)(E:n<=4)(hs:i+n<=s.size)(I:s.size<=2000000):CL prog O8 139 [.string s,iV i,iV n] H=some (.int .i64 (jJ s i n),none):=by
 have q0:=M9 s i;have J:=M9 s (i+1);have O:=M9 s (i+2);have S:=M9 s (i+3);have h:((i:Int)+1).toNat=i+1:=oM;have u:((i:Int)+2).toNat=i+2:=oM;have y:((i:Int)+3).toNat=i+3:=oM;have z:(i:Int)+0=i:=oM;rw[j8 Xb rfl _ sM];refine J1 @wrap_small ?_;rw[Y0];refine J3 @wrap_small @dl1 z ?_;obtain rfl|rfl|rfl:n=2\/n=3\/n=4:=oM
 .refine J2 @wrap_small @Int.zero_add ?_;rw[Y0];refine J2 @wrap_small h ?_;rw[Y0];refine J7 @wrap_small z h u y @Int.zero_add dlB ?_;rw[jJ,if_pos rfl]
 .refine J2 @wrap_small @Int.zero_add ?_;rw[Y0];refine J2 @wrap_small h ?_;rw[Y0];refine J2 @wrap_small u ?_;rw[Y0];refine J7 @wrap_small z h u y @Int.zero_add dlB ?_;rw[jJ,if_neg oM,if_pos rfl]
 .refine J2 @wrap_small @Int.zero_add ?_;rw[Y0];refine J2 @wrap_small h ?_;rw[Y0];refine J2 @wrap_small u ?_;rw[Y0];refine J2 @wrap_small y ?_;rw[Y0];refine J7 @wrap_small z h u y @Int.zero_add dlB ?_;rw[jJ,if_neg oM,if_neg oM]
theorem jU{P:Program}(t:TypeId)(a b:Int)(h:0<=a)(u:0<b):E9 P .quo t (.int .i64 a) (.int .i64 b)=some (.int .i64 (IntKind.wrap .i64 (a / b))):=by
 simp only[E9,if_true];rw[if_neg oM,Int.tdiv_eq_ediv_of_nonneg h]
theorem jW{P:Program}(t:TypeId)(a b:Int)(h:0<=a)(u:0<b):E9 P .rem t (.int .i64 a) (.int .i64 b)=some (.int .i64 (a % b)):=by
 simp only[E9,if_true];rw[if_neg oM,Int.tmod_eq_emod_of_nonneg h]
theorem ip{n:Int}(h:0<=n)(u:n<=255):IntKind.wrap .u8 n=n:=by
 simp [IntKind.wrap,IntKind.min,IntKind.max,IntKind.signed,IntKind.bits];omega
def u8V(n:Int):Value:= .int .u8 n
def L7(r:Int):List Int:=
 if r<0\/1114111<r\/(55296<=r/\r<=57343) then []
 else if r<128 then [r]
 else if r<2048 then [192+r / 64,128+r % 64]
 else if r<65536 then [224+r / 4096,128+r / 64 % 64,128+r % 64]
 else [240+r / 262144,128+r / 4096 % 64,128+r / 64 % 64,128+r % 64]
theorem vO(H:d9)(r:Int):Ret (CL prog O8 140 [iV r] H) H fun w z=>aP z H.next 1 w (L7 r).length ((L7 r).map u8V)/\i4 H.next H z:=by
 have nil:∀l,l=[]->aP H H.next 1 (nS) l.length (l.map u8V):=fun l h=>by rw[h];exact .inl ⟨rfl,rfl,rfl⟩
 have y:∀cs:LV,cs.length=cs.length->∀l:List Int,l.map u8V=cs->Ret (some (Value.slice (sP H.next) cs.length cs.length,some ⟨(d9.push ⟨H.bs,H.next⟩ (bC cs 1)).bs,min H.low H.next⟩)) H fun w z=>aP z H.next 1 w l.length (l.map u8V)/\i4 H.next H z:=by
  intro cs _ l I;have E:l.length=cs.length:=by rw[<-I,List.length_map]
  refine⟨_,_,_,rfl,rfl,.inr ⟨H.next,cs.length,by rw[E],?_,lR,by rw[I,E];omega⟩,(i4.first H _).ret lR⟩;rw[I];exact i7
 rw[j8 Xc rfl _ sM];by_cases u:r<0\/1114111<r\/(55296<=r/\r<=57343)
 .have X:L7 r=[]:=by rw[L7,if_pos u]
  have D:Ret (some (nS,(none:Option d9))) H fun w z=>aP z H.next 1 w (L7 r).length ((L7 r).map u8V)/\i4 H.next H z:=⟨_,none,H,rfl,rfl,nil _ X,i4.refl _ _⟩
  rcases Int.lt_or_le r 0 with O|O
  .refine J1 @dl1 ?_;exact D
  rcases Int.lt_or_le 1114111 r with W|W
  .refine J1 dlB ?_;exact D
  .have h3:55296<=r/\r<=57343:=oM;refine J1 dlB ?_;exact D
 .have O:0<=r/\r<=1114111:=oM;rcases Int.lt_or_le r 128 with S|S
  .refine J2 @ip dlB ?_;exact y _ rfl (L7 r) (by rw[L7,if_neg u,if_pos S])
  rcases Int.lt_or_le r 2048 with U|U
  .refine J5 @ip @wrap_small @jU @jW dlB ?_;exact y _ rfl (L7 r) (by rw[L7,if_neg u,if_neg oM,if_pos U])
  rcases Int.lt_or_le r 65536 with J|J
  .rcases Int.lt_or_le r 55296 with k4|k4
   .refine J5 @ip @wrap_small @jU @jW dlB ?_;exact y _ rfl (L7 r) (by rw[L7,if_neg u,if_neg oM,if_neg oM,if_pos J])
   .have k5:57343<r:=oM;refine J5 @ip @wrap_small @jU @jW dlB ?_;exact y _ rfl (L7 r) (by rw[L7,if_neg u,if_neg oM,if_neg oM,if_pos J])
  .refine J5 @ip @wrap_small @jU @jW dlB ?_;exact y _ rfl (L7 r) (by rw[L7,if_neg u,if_neg oM,if_neg oM,if_neg oM])
def dP(s:ByteArray):Nat->List Int->Bool
 |_,[]=>true
 |k,b::r=>if x9 s k=b then dP s (k+1) r else false
def un(s:ByteArray)(i:Nat)(b:List Int):Bool:= !decide (b=[])&&decide (i+b.length<=s.size)&&dP s i b
theorem wy(H0:d9)(lo:Nat)(s:ByteArray)(i:Nat)(l:List Int)(a:Option Addr)(c:Nat)(hv:aP H0 lo 1 (.slice a l.length c) l.length (l.map u8V))(hs:i+l.length<=s.size)(hz:s.size<=2000000)(r:Bool):
  ∀k e H2,(∃j:Nat,k=l.length-j/\j<=l.length/\e.get 0= .string s/\e.get 1=iV i/\e.get 2= .slice a l.length c/\e.get 7=iV j/\H2=H0/\dP s (i+j) (l.drop j)=r)->
  u9 (LE prog O8 (.loop Ay) e H2) (fun o e H2=>H2=H0/\((o= .exit 0/\r=true)\/(o= .ret/\e.get 6= .bool false/\r=false))):=by
 refine j7 _ _ ?_;rintro k e H2 ⟨j,hk,hj,E,I,z,f7,X,h⟩;subst X;rcases b:decide ((j:Int)<l.length)with _|_
 .have J:=dF b;have:l.drop j=[]:=dN oM;rw[this,dP]at h;refine J3 z f7 b ?_;exact l7 ⟨rfl,.inl ⟨rfl,h.symm⟩⟩
 .have J:=dT b;rcases hv with⟨_,h0,_⟩|⟨nb,U,W,S,_,_⟩
  .omega
  obtain⟨rfl,_⟩:a=some ⟨nb,0,none⟩/\c=U:=by simpa using W
  obtain⟨x,hx,hd⟩:=eS (l:=l) (i:=j) oM;rw[hd,dP]at h;have nt:(j:Int).toNat=j:=tN j;have y:((i:Int)+j).toNat=i+j:=oM;have O:(l.map u8V)[j]?=some (.int .u8 x):=by rw[List.getElem?_map,hx];rfl
  rcases D:decide (x9 s (i+j)=x)with _|_
  .have u:=dF D;rw[if_neg u]at h;refine J11 E I z f7 b S @wrap_small y @Nat.mul_one O D ?_;exact A6 ⟨rfl,.inr ⟨rfl,rfl,h.symm⟩⟩
  .have u:=dT D;rw[if_pos u]at h;refine J11 E I z f7 b S @wrap_small y @Nat.mul_one O D ?_;exact i6 (k-1) oM ⟨j+1,oM,oM,E,I,z,rfl,rfl,h⟩
theorem lM(H:d9)(lo:Nat)(s:ByteArray)(i:Nat)(l:List Int)(v:Value)(J:aP H lo 1 v l.length (l.map u8V))(U:i<=2000000)(W:l.length<=2000000)(S:s.size<=2000000):CL prog O8 141 [.string s,iV i,v] H=some (.bool (un s i l),none):=by
 obtain⟨a,c,rfl⟩:=J.slice;have e0:decide ((l.length:Int)=0)=decide (l=[]):=decide_eq_decide.2 (by rw[<-List.length_eq_zero_iff];omega);have E:decide ((s.size:Int)<(i:Int)+l.length)= !decide (i+l.length<=s.size):=by
  rw[<-decide_not];exact decide_eq_decide.2 oM
 rw[j8 Xd rfl _ sM,un];rcases h:decide (l=[])with _|_
 .rcases u:decide (i+l.length<=s.size)with _|_
  .exact J5 e0 E h u @wrap_small trivial
  .refine J5 e0 E h u @wrap_small ?_;refine l9 (F:=fun z=>u5 _ _ _ (u7 (inBlock 0 z) _)=_) (wy ⟨H.bs,H.next⟩ lo s i l a c (J.mono lR (fun _ _=>rfl)) (dT u) S (dP s i l) l.length _ _ ⟨0,rfl,oM,rfl,rfl,rfl,rfl,rfl,rfl⟩) ?_;rintro o e' H' ⟨I,⟨y,D⟩|⟨y,O,D⟩⟩
   .exact J3 y D I trivial
   .exact J4 y O D I trivial
 .exact J2 e0 h trivial
theorem lF(b:UInt8):(⟨#[b]⟩:ByteArray).size=1:=rfl
theorem Hj(H0:d9)(s u:ByteArray)(z n h:Nat)(ht:h<=4)(r:Unit):∀k e H2,(∃lo y:ByteArray,k=h-lo.size/\lo.size<=h/\y.size=lo.size/\e.get 0= .string s/\e.get 1=iV z/\e.get 5=iV n/\e.get 6=iV h/\e.get 7= .string u/\e.get 8= .string lo/\e.get 9= .string y/\H2=H0)->
  u9 (LE prog O8 (.loop Az) e H2) (fun o e H2=>o= .exit 2/\H2=H0/\e.get 0= .string s/\e.get 1=iV z/\e.get 5=iV n/\e.get 6=iV h/\e.get 7= .string u/\∃lo y:ByteArray,lo.size=h/\y.size=h/\e.get 8= .string lo/\e.get 9= .string y):=by
 refine j7 _ _ ?_;rintro k e H2 ⟨lo,y,W,X,U,I,J,f5,f6,f7,f8,f9,O⟩;rcases b:decide ((lo.size:Int)<h)with _|_
 .have D:=dF b;refine J3 f6 f8 b ?_;exact l7 ⟨rfl,O,I,J,f5,f6,f7,lo,y,oM,oM,f8,f9⟩
 .have D:=dT b;have E:=lF 128;have S:=lF 191;refine J5 f6 f8 f9 b @W7 ?_;exact i6 (k-1) oM ⟨lo++⟨#[128]⟩,y++⟨#[191]⟩,by rw[ByteArray.size_append,E];omega,by rw[ByteArray.size_append,E];omega,by rw[ByteArray.size_append,ByteArray.size_append,E,S];omega,I,J,f5,f6,f7,rfl,rfl,O⟩
theorem Hn(H0:d9)(s y:ByteArray)(h n u:Nat)(O S:Int)(hs:h+n=s.size)(hz:s.size<=1048576):∀k e H2,(∃(i:Nat)(t:Bool),k=n-i/\1<=i/\i<=n/\e.get 0= .string s/\e.get 1=iV h/\e.get 5=iV n/\e.get 6=iV u/\e.get 7= .string y/\e.get 10=iV O/\e.get 11=iV S/\e.get 12= .bool t/\e.get 13=iV i/\H2=H0)->
  u9 (LE prog O8 (.loop AA) e H2) (fun o e H2=>o= .exit 4/\H2=H0/\e.get 0= .string s/\e.get 1=iV h/\e.get 5=iV n/\e.get 6=iV u/\e.get 7= .string y/\e.get 10=iV O/\e.get 11=iV S/\∃t:Bool,e.get 12= .bool t):=by
 refine j7 _ _ ?_;rintro k e H2 ⟨i,t,hk,W,X,z,D,f5,f6,f7,f10,f11,f12,f13,E⟩;rcases b:decide ((i:Int)<n)with _|_
 .refine J3 f5 f13 b ?_;exact l7 ⟨rfl,E,z,D,f5,f6,f7,f10,f11,t,f12⟩
 .have U:=dT b;have J:((h:Int)+i).toNat=h+i:=oM;cases t with
  |false=>
   refine J5 f5 f12 f13 b @wrap_small ?_;exact i6 (k-1) oM ⟨i+1,_,oM,oM,oM,z,D,f5,f6,f7,f10,f11,rfl,rfl,E⟩
  |true=>
   rcases I:decide ((128:Int)<=x9 s (h+i))with _|_
   .refine J9 z D f5 f12 f13 b @wrap_small J I ?_;exact i6 (k-1) oM ⟨i+1,_,oM,oM,oM,z,D,f5,f6,f7,f10,f11,rfl,rfl,E⟩
   .refine J9 z D f5 f12 f13 b @wrap_small J I ?_;exact i6 (k-1) oM ⟨i+1,_,oM,oM,oM,z,D,f5,f6,f7,f10,f11,rfl,rfl,E⟩
theorem lj:∀l:List Int,((l.map u8V).mapM bB)=some (l.map fun n=>UInt8.ofNat n.toNat)
 |[]=>rfl
 |n::l=>by
  rw[List.map_cons,List.mapM_cons,lj l];rfl
theorem wU(H:d9)(lo:Nat)(l:List Int)(a:Option Addr)(c:Nat)(h:aP H lo 1 (.slice a l.length c) l.length (l.map u8V)):∃z:ByteArray,z.size=l.length/\W8 prog H 81 9 (.slice a l.length c)=some (.string z,none):=by
 obtain⟨a',u,e,y⟩:=h.cells oM;obtain⟨rfl,rfl⟩:a=a'/\c=u:=by simpa using e
 refine⟨⟨(l.map fun n=>UInt8.ofNat n.toNat).toArray⟩,by simp [ByteArray.size],?_⟩;simp only[W8,yP,ty9,ty5,y,Option.bind_some,lj]
theorem kq(H:d9)(z:ByteArray):W8 prog H 9 81 (.string z)=some (sL H.next z.size (z.size+1),some (H.push (bC (z.data.toList.map P9) 1))):=by
 simp only[W8,yP,ty9,ty5]
theorem zC(z:ByteArray):z.data.toList.map P9=(z.data.toList.map fun b=>(b.toNat:Int)).map u8V:=by
 rw[List.map_map];rfl
theorem pB{P:Program}(t:TypeId)(a b:Int)(h:b≠0):E9 P .quo t (.int .i64 a) (.int .i64 b)=some (.int .i64 (IntKind.wrap .i64 (a.tdiv b))):=by
 simp only[E9,if_true];rw[if_neg h]
theorem Ho(H:d9)(s u:ByteArray)(E n y:Nat)(va vb:Int)(hf:u.size<=1048576):∀k e H2,(∃i:Nat,k=64-i/\i<=64/\e.get 0= .string s/\e.get 1=iV E/\e.get 5=iV n/\e.get 6=iV y/\e.get 7= .string u/\e.get 10=iV va/\e.get 11=iV vb/\e.get 15=iV i/\i4 H.next H H2/\H.next<=H2.low)->
  u9 (LE prog O8 (.loop tp) e H2) (fun o e H2=>i4 H.next H H2/\H.next<=H2.low/\((o= .exit 6/\e.get 0= .string s/\e.get 1=iV E/\e.get 5=iV n/\e.get 6=iV y)\/(o= .ret/\e.get 4= .bool true))):=by
 refine j7 _ _ ?_;rintro k e H2 ⟨i,hk,hi,f0,f1,f5,f6,f7,f10,f11,f15,hS,hl⟩;rcases b:decide ((i:Int)<64)with _|_
 .refine J2 f15 b ?_;exact l7 ⟨hS,hl,.inl ⟨rfl,f0,f1,f5,f6⟩⟩
 have b0:=dT b;have a4:=hS.next;have a7:∀(r:Int),∃w h D,CL prog O8 140 [iV r] H2=dr w h/\h.getD H2=D/\aP D H2.next 1 w (L7 r).length ((L7 r).map u8V)/\i4 H2.next H2 D:=fun r=>by
  obtain⟨w,h,D,h1,h2,h3,h4⟩:=vO H2 r;exact⟨w,h,D,h1,h2,h3,h4⟩
 have body:∀(r:Int)(e':Env),e'.get 16=iV r->e'.get 0= .string s->e'.get 1=iV E->e'.get 5=iV n->e'.get 6=iV y->e'.get 7= .string u->e'.get 10=iV va->e'.get 11=iV vb->e'.get 15=iV i->
   u9 (u7 (inBlock 7 (LE prog O8 vu e' H2)) (LE prog O8 AC)) (dy k (fun k e H2=>∃i:Nat,k=64-i/\i<=64/\e.get 0= .string s/\e.get 1=iV E/\e.get 5=iV n/\e.get 6=iV y/\e.get 7= .string u/\e.get 10=iV va/\e.get 11=iV vb/\e.get 15=iV i/\i4 H.next H H2/\H.next<=H2.low) (fun o e H2=>i4 H.next H H2/\H.next<=H2.low/\((o= .exit 6/\e.get 0= .string s/\e.get 1=iV E/\e.get 5=iV n/\e.get 6=iV y)\/(o= .ret/\e.get 4= .bool true)))):=by
  intro r e' O g0 g1 g5 g6 g7 X a1 a2;obtain⟨w,h,D,hc,hh,hO,I⟩:=a7 r;obtain⟨a,c,rfl⟩:=hO.slice;have S:i4 H.next H D:=hS.trans (I.weaken a4);have a9:=S.next;have U:H.next<=D.low:=I.lowAll _ a4 hl;rcases b2:decide (((L7 r).length:Int)=y)with _|_
  .rw[vu];refine J7 g6 a2 O hc hh b2 @wrap_small ?_;exact i6 (k-1) oM ⟨i+1,oM,oM,g0,g1,g5,g6,g7,X,a1,rfl,S,U⟩
  .obtain⟨z,hz,a5⟩:=wU D H2.next (L7 r) a c hO;have b1:(L7 r).length<=4:=by unfold L7;split<;>(try split)<;>(try split)<;>(try split)<;>simp
   have zx:=lF 120;have a6:(u.data.toList.map fun b=>(b.toNat:Int)).length=u.size:=by rw[List.length_map,Array.length_toList];rfl
   have a8:=lM (D.push (bC (u.data.toList.map P9) 1)) D.next (z++⟨#[120]⟩) 0 (u.data.toList.map fun b=>(b.toNat:Int)) (sL D.next u.size (u.size+1)) (.inr ⟨D.next,u.size+1,by rw[a6],by rw[<-zC];exact i7,lR,by rw[List.length_map,Nat.mul_one]⟩) oM (by rw[a6];omega) (by rw[ByteArray.size_append];omega);have J:CL prog O8 141 [.string (z++⟨#[120]⟩),iV 0,sL D.next u.size (u.size+1)] (D.push (bC (u.data.toList.map P9) 1))=_:=a8;have a3:i4 H.next H (D.push (bC (u.data.toList.map P9) 1)):=S.trans (i4.push a9);rw[vu];rcases b3:un (z++⟨#[120]⟩) 0 (u.data.toList.map fun b=>(b.toNat:Int))with _|_
   .refine J13 g6 g7 a2 O hc hh b2 @wrap_small a5 @W7 @kq J b3 ?_;exact i6 (k-1) oM ⟨i+1,oM,oM,g0,g1,g5,g6,g7,X,a1,rfl,a3,U⟩
   .refine J11 g6 g7 O hc hh b2 a5 @W7 @kq J b3 ?_;exact A6 ⟨a3,U,.inr ⟨rfl,rfl⟩⟩
 rcases W:decide ((i:Int)=63)with _|_
 .refine J6 f10 f11 f15 b @pB W ?_;exact body _ _ rfl f0 f1 f5 f6 f7 f10 f11 f15
 .refine J6 f10 f11 f15 b @pB W ?_;exact body _ _ rfl f0 f1 f5 f6 f7 f10 f11 f15
theorem rN{P:Program}(H:d9)(t:TypeId)(s:ByteArray)(i:Nat)(u:P.underlying t=some .string)(h:i<=s.size):Y7 P H t (.string s) (some (.int .i64 i)) none none=some (.string (s.extract i s.size)):=by
 simp only[Y7,u,bnd,Int.natCast_nonneg,if_true,Int.toNat_natCast];rw[if_pos ⟨h,lR⟩]
def zR(H:d9)(s:ByteArray)(at_ n:Nat)(k:Nat)(e:Env)(H2:d9):Prop:=
 ∃total:Nat,k=5-total/\n+1<=total/\total<=5/\e.get 0= .string s/\e.get 1=iV at_/\e.get 5=iV n/\e.get 6=iV total/\i4 H.next H H2/\H.next<=H2.low
def zU(H:d9)(o:Out)(e:Env)(H2:d9):Prop:=H.next<=H2.low/\(o= .exit 0\/(o= .ret/\e.get 4= .bool true))
theorem qp{H:d9}{s:ByteArray}{u n k h:Nat}(O:k=5-h)(I:n+1<=h)(J:h<=4){e:Env}{H2:d9}(y:e.get 0= .string s)(z:e.get 1=iV u)(f5:e.get 5=iV n)(f6:e.get 6=iV h)(D:i4 H.next H H2)(E:H.next<=H2.low):
  u9 (LE prog O8 gt e H2) (dy k (zR H s u n) (zU H)):=by
 refine J2 f6 @wrap_small ?_;exact i6 (k-1) oM ⟨h+1,oM,oM,oM,y,z,f5,rfl,D,E⟩
theorem wZ{H:d9}{s:ByteArray}{D n k E:Nat}{va vb:Int}{S:ByteArray}{t:Bool}(hs:D+n=s.size)(a6:1<=n)(hf:S.size<=1048576)(hz:s.size<=1048576)(hk:k=5-E)(h1:n+1<=E)(h4:E<=4){e:Env}{H2:d9}(u:e.get 0= .string s)(y:e.get 1=iV D)(f5:e.get 5=iV n)(f6:e.get 6=iV E)
  (f7:e.get 7= .string S) (f10:e.get 10=iV va) (f11:e.get 11=iV vb) (f12:e.get 12= .bool t) (I:i4 H.next H H2) (J:H.next<=H2.low):
  u9 (u7 (inBlock 1 (LE prog O8 vr e H2)) (LE prog O8 gt)) (dy k (zR H s D n) (zU H)):=by
 have O:(D:Int).toNat=D:=tN D;have h:∀e':Env,e'.get 0= .string s->e'.get 1=iV D->e'.get 5=iV n->e'.get 6=iV E->e'.get 7= .string S->e'.get 10=iV va->e'.get 11=iV vb->e'.get 15=iV 0->
   u9 (u7 (inBlock 1 (inBlock 6 (LE prog O8 (.loop tp) e' H2))) (LE prog O8 gt)) (dy k (zR H s D n) (zU H)):=by
  intro e' g0 g1 g5 g6 g7 a2 a3 a4;refine fA (F:=fun z=>u7 (inBlock 1 (inBlock 6 z)) _) (Ho H s S D n E va vb hf 64 e' H2 ⟨0,rfl,oM,g0,g1,g5,g6,g7,a2,a3,a4,I,J⟩) ?_;rintro o e3 H3 ⟨a5,a1,⟨ho,q0,q1,q5,q6⟩|⟨ho,q4⟩⟩
  .simp only[ho,de,if_true,ek,cq];exact qp hk h1 h4 q0 q1 q5 q6 a5 a1
  .simp only[ho,jn,mf,cQ];exact A6 ⟨a1,.inr ⟨rfl,q4⟩⟩
 have skip:∀e':Env,e'.get 0= .string s->e'.get 1=iV D->e'.get 5=iV n->e'.get 6=iV E->u9 (LE prog O8 gt e' H2) (dy k (zR H s D n) (zU H)):=fun e' g0 g1 g5 g6=>qp hk h1 h4 g0 g1 g5 g6 I J;obtain rfl|rfl|rfl:E=2\/E=3\/E=4:=oM
 .cases t
  .skip
   rcases Int.lt_or_le (x9 s D) 192 with U|U
   .refine J7 u y f6 f12 O @de0 @wrap_small ?_
    first|exact i6 (k-1) oM ⟨3,oM,oM,oM,u,y,f5,rfl,I,J⟩|exact h _ u y f5 f6 f7 f10 f11 rfl
   rcases Int.lt_or_le (x9 s D) 224 with W|W
   .refine J7 u y f6 f12 O @wrap_small dlB ?_
    first|exact i6 (k-1) oM ⟨3,oM,oM,oM,u,y,f5,rfl,I,J⟩|exact h _ u y f5 f6 f7 f10 f11 rfl
   rcases Int.lt_or_le (x9 s D) 240 with X|X
   .refine J7 u y f6 f12 O @wrap_small dlB ?_
    first|exact i6 (k-1) oM ⟨3,oM,oM,oM,u,y,f5,rfl,I,J⟩|exact h _ u y f5 f6 f7 f10 f11 rfl
   rcases Int.lt_or_le (x9 s D) 248 with k3|k3
   .refine J7 u y f6 f12 O @wrap_small dlB ?_
    first|exact i6 (k-1) oM ⟨3,oM,oM,oM,u,y,f5,rfl,I,J⟩|exact h _ u y f5 f6 f7 f10 f11 rfl
   refine J7 u y f6 f12 O @wrap_small dlB ?_
   first|exact i6 (k-1) oM ⟨3,oM,oM,oM,u,y,f5,rfl,I,J⟩|exact h _ u y f5 f6 f7 f10 f11 rfl
  .skip
   rcases Int.lt_or_le (x9 s D) 192 with U|U
   .refine J7 u y f6 f12 O @de0 @wrap_small ?_
    first|exact i6 (k-1) oM ⟨3,oM,oM,oM,u,y,f5,rfl,I,J⟩|exact h _ u y f5 f6 f7 f10 f11 rfl
   rcases Int.lt_or_le (x9 s D) 224 with W|W
   .refine J6 u y f6 f12 O dlB ?_
    first|exact i6 (k-1) oM ⟨3,oM,oM,oM,u,y,f5,rfl,I,J⟩|exact h _ u y f5 f6 f7 f10 f11 rfl
   rcases Int.lt_or_le (x9 s D) 240 with X|X
   .refine J7 u y f6 f12 O @wrap_small dlB ?_
    first|exact i6 (k-1) oM ⟨3,oM,oM,oM,u,y,f5,rfl,I,J⟩|exact h _ u y f5 f6 f7 f10 f11 rfl
   rcases Int.lt_or_le (x9 s D) 248 with k3|k3
   .refine J7 u y f6 f12 O @wrap_small dlB ?_
    first|exact i6 (k-1) oM ⟨3,oM,oM,oM,u,y,f5,rfl,I,J⟩|exact h _ u y f5 f6 f7 f10 f11 rfl
   refine J7 u y f6 f12 O @wrap_small dlB ?_
   first|exact i6 (k-1) oM ⟨3,oM,oM,oM,u,y,f5,rfl,I,J⟩|exact h _ u y f5 f6 f7 f10 f11 rfl
 .cases t
  .skip
   rcases Int.lt_or_le (x9 s D) 192 with U|U
   .refine J7 u y f6 f12 O @de0 @wrap_small ?_
    first|exact i6 (k-1) oM ⟨4,oM,oM,oM,u,y,f5,rfl,I,J⟩|exact h _ u y f5 f6 f7 f10 f11 rfl
   rcases Int.lt_or_le (x9 s D) 224 with W|W
   .refine J7 u y f6 f12 O @de0 @wrap_small ?_
    first|exact i6 (k-1) oM ⟨4,oM,oM,oM,u,y,f5,rfl,I,J⟩|exact h _ u y f5 f6 f7 f10 f11 rfl
   rcases Int.lt_or_le (x9 s D) 240 with X|X
   .refine J7 u y f6 f12 O @wrap_small dlB ?_
    first|exact i6 (k-1) oM ⟨4,oM,oM,oM,u,y,f5,rfl,I,J⟩|exact h _ u y f5 f6 f7 f10 f11 rfl
   rcases Int.lt_or_le (x9 s D) 248 with k3|k3
   .refine J7 u y f6 f12 O @wrap_small dlB ?_
    first|exact i6 (k-1) oM ⟨4,oM,oM,oM,u,y,f5,rfl,I,J⟩|exact h _ u y f5 f6 f7 f10 f11 rfl
   refine J7 u y f6 f12 O @wrap_small dlB ?_
   first|exact i6 (k-1) oM ⟨4,oM,oM,oM,u,y,f5,rfl,I,J⟩|exact h _ u y f5 f6 f7 f10 f11 rfl
  .skip
   rcases Int.lt_or_le (x9 s D) 192 with U|U
   .refine J7 u y f6 f12 O @de0 @wrap_small ?_
    first|exact i6 (k-1) oM ⟨4,oM,oM,oM,u,y,f5,rfl,I,J⟩|exact h _ u y f5 f6 f7 f10 f11 rfl
   rcases Int.lt_or_le (x9 s D) 224 with W|W
   .refine J7 u y f6 f12 O @de0 @wrap_small ?_
    first|exact i6 (k-1) oM ⟨4,oM,oM,oM,u,y,f5,rfl,I,J⟩|exact h _ u y f5 f6 f7 f10 f11 rfl
   rcases Int.lt_or_le (x9 s D) 240 with X|X
   .refine J6 u y f6 f12 O dlB ?_
    first|exact i6 (k-1) oM ⟨4,oM,oM,oM,u,y,f5,rfl,I,J⟩|exact h _ u y f5 f6 f7 f10 f11 rfl
   rcases Int.lt_or_le (x9 s D) 248 with k3|k3
   .refine J7 u y f6 f12 O @wrap_small dlB ?_
    first|exact i6 (k-1) oM ⟨4,oM,oM,oM,u,y,f5,rfl,I,J⟩|exact h _ u y f5 f6 f7 f10 f11 rfl
   refine J7 u y f6 f12 O @wrap_small dlB ?_
   first|exact i6 (k-1) oM ⟨4,oM,oM,oM,u,y,f5,rfl,I,J⟩|exact h _ u y f5 f6 f7 f10 f11 rfl
 .cases t
  .skip
   rcases Int.lt_or_le (x9 s D) 192 with U|U
   .refine J7 u y f6 f12 O @de0 @wrap_small ?_
    first|exact i6 (k-1) oM ⟨5,oM,oM,oM,u,y,f5,rfl,I,J⟩|exact h _ u y f5 f6 f7 f10 f11 rfl
   rcases Int.lt_or_le (x9 s D) 224 with W|W
   .refine J7 u y f6 f12 O @de0 @wrap_small ?_
    first|exact i6 (k-1) oM ⟨5,oM,oM,oM,u,y,f5,rfl,I,J⟩|exact h _ u y f5 f6 f7 f10 f11 rfl
   rcases Int.lt_or_le (x9 s D) 240 with X|X
   .refine J7 u y f6 f12 O @de0 @wrap_small ?_
    first|exact i6 (k-1) oM ⟨5,oM,oM,oM,u,y,f5,rfl,I,J⟩|exact h _ u y f5 f6 f7 f10 f11 rfl
   rcases Int.lt_or_le (x9 s D) 248 with k3|k3
   .refine J7 u y f6 f12 O @wrap_small dlB ?_
    first|exact i6 (k-1) oM ⟨5,oM,oM,oM,u,y,f5,rfl,I,J⟩|exact h _ u y f5 f6 f7 f10 f11 rfl
   refine J7 u y f6 f12 O @wrap_small dlB ?_
   first|exact i6 (k-1) oM ⟨5,oM,oM,oM,u,y,f5,rfl,I,J⟩|exact h _ u y f5 f6 f7 f10 f11 rfl
  .skip
   rcases Int.lt_or_le (x9 s D) 192 with U|U
   .refine J7 u y f6 f12 O @de0 @wrap_small ?_
    first|exact i6 (k-1) oM ⟨5,oM,oM,oM,u,y,f5,rfl,I,J⟩|exact h _ u y f5 f6 f7 f10 f11 rfl
   rcases Int.lt_or_le (x9 s D) 224 with W|W
   .refine J7 u y f6 f12 O @de0 @wrap_small ?_
    first|exact i6 (k-1) oM ⟨5,oM,oM,oM,u,y,f5,rfl,I,J⟩|exact h _ u y f5 f6 f7 f10 f11 rfl
   rcases Int.lt_or_le (x9 s D) 240 with X|X
   .refine J7 u y f6 f12 O @de0 @wrap_small ?_
    first|exact i6 (k-1) oM ⟨5,oM,oM,oM,u,y,f5,rfl,I,J⟩|exact h _ u y f5 f6 f7 f10 f11 rfl
   rcases Int.lt_or_le (x9 s D) 248 with k3|k3
   .refine J6 u y f6 f12 O dlB ?_
    first|exact i6 (k-1) oM ⟨5,oM,oM,oM,u,y,f5,rfl,I,J⟩|exact h _ u y f5 f6 f7 f10 f11 rfl
   refine J7 u y f6 f12 O @wrap_small dlB ?_
   first|exact i6 (k-1) oM ⟨5,oM,oM,oM,u,y,f5,rfl,I,J⟩|exact h _ u y f5 f6 f7 f10 f11 rfl
theorem ET(H:d9)(s:ByteArray)(u:Nat)(ha:u<=s.size)(hz:s.size<=1048576):∃t:Bool,CL prog O8 142 [.string s,iV u] H=some (.bool t,none):=by
 obtain⟨n,hn⟩:=eY (s.size-u);have y:(s.size:Int)-u=n:=oM;rw[j8 Xe rfl _ sM];by_cases h1:n<1
 .refine J3 y @wrap_small @dl1 ?_;exact⟨_,rfl⟩
 by_cases h3:3<n
 .refine J3 y @wrap_small dlB ?_;exact⟨_,rfl⟩
 refine J3 y @wrap_small @dl0 ?_;have hx:(s.extract u s.size).size=n:=by rw[ByteArray.size_extract];omega
 have D:∀k e H2,zR H s u n k e H2->u9 (LE prog O8 (.loop AB) e H2) (zU H):=by
  refine j7 _ _ ?_;rintro k e H2 ⟨h,hk,W,a8,f0,f1,f5,f6,hS,O⟩;rcases b:decide ((h:Int)<=4)with _|_
  .refine J2 f6 b ?_;exact l7 ⟨O,.inl rfl⟩
  have a5:=dT b;have U:=rN (P:=prog) H2 9 s u ty9.2.2.2.2.2.2 ha;refine J5 f0 f1 f6 b U ?_;refine fA (F:=fun z=>u7 (inBlock 1 (u7 (inBlock 2 z) _)) _) (Hj H2 s (s.extract u s.size) u n h oM () (h-n) _ _ ⟨s.extract u s.size,s.extract u s.size,by rw[hx],oM,rfl,f0,f1,f5,f6,rfl,rfl,rfl,rfl⟩) ?_;rintro o e1 H3 ⟨E,hH,g0,g1,g5,g6,g7,lo,I,a7,a6,g8,g9⟩;have v1:=iS H2 lo 0 h oM oM oM oM;have v2:=iS H2 I 0 h oM oM oM oM;have a3:CL prog O8 139 [.string lo,iV 0,iV h] H2=some (.int .i64 (jJ lo 0 h),none):=v1;have a4:CL prog O8 139 [.string I,iV 0,iV h] H2=some (.int .i64 (jJ I 0 h),none):=v2;refine J7 E hH g6 g8 g9 a3 a4 ?_;refine fA (F:=fun z=>u7 (inBlock 1 (u7 (inBlock 4 z) _)) _) (Hn H2 s (s.extract u s.size) u n h (jJ lo 0 h) (jJ I 0 h) oM hz (n-1) _ _ ⟨1,true,rfl,oM,oM,g0,g1,g5,g6,g7,rfl,rfl,rfl,rfl,rfl⟩) ?_;rintro o e2 H4 ⟨S,J,q0,q1,q5,q6,q7,X,a1,t,a2⟩;simp only[S,J,de,if_true,cq];exact wZ oM oM oM hz hk W oM q0 q1 q5 q6 q7 X a1 a2 hS O
 refine l9 (F:=fun z=>∃t:Bool,u5 _ _ _ (u7 (inBlock 0 z) _)=some (.bool t,none)) (D (5-(n+1)) _ _ ⟨n+1,rfl,oM,oM,rfl,rfl,rfl,rfl,i4.start H,lR⟩) ?_;rintro o e' H' ⟨O,E|⟨E,h4⟩⟩
 .refine J1 E ?_;exact⟨_,rfl⟩
 .refine J2 E h4 ?_;exact⟨_,rfl⟩
def I1(s:ByteArray)(i n:Nat):Int:=if n=1 then x9 s i else jJ s i n
def iR(s:ByteArray)(i n:Nat):Bool:=decide ((L7 (I1 s i n)).length=n)&&un s i (L7 (I1 s i n))
theorem Nt{r:Int}(h:(L7 r).length=1):0<=r/\r<128/\L7 r=[r]:=by
 unfold L7 at h ⊢;split at h
 .simp at h
 .rename_i c;rw[if_neg c];split at h
  .rename_i c1;rw[if_pos c1];exact⟨oM,c1,rfl⟩
  .split at h
   .simp at h
   .split at h<;>simp at h
theorem Nu{r:Int}(h:(L7 r).length=2):128<=r/\r<2048/\L7 r=[192+r / 64,128+r % 64]:=by
 unfold L7 at h ⊢;split at h
 .simp at h
 .rename_i c;rw[if_neg c];split at h
  .simp at h
  .rename_i c1;rw[if_neg c1];split at h
   .rename_i c2;rw[if_pos c2];exact⟨oM,c2,rfl⟩
   .split at h<;>simp at h
theorem Nv{r:Int}(h:(L7 r).length=3):2048<=r/\r<65536/\¬(55296<=r/\r<=57343)/\L7 r=[224+r / 4096,128+r / 64 % 64,128+r % 64]:=by
 unfold L7 at h ⊢;split at h
 .simp at h
 .rename_i c;rw[if_neg c];split at h
  .simp at h
  .rename_i c1;rw[if_neg c1];split at h
   .simp at h
   .rename_i c2;rw[if_neg c2];split at h
    .rename_i u;rw[if_pos u];exact⟨oM,u,oM,rfl⟩
    .simp at h
theorem Nw{r:Int}(h:(L7 r).length=4):65536<=r/\r<=1114111/\L7 r=[240+r / 262144,128+r / 4096 % 64,128+r / 64 % 64,128+r % 64]:=by
 unfold L7 at h ⊢;split at h
 .simp at h
 .rename_i c;rw[if_neg c];split at h
  .simp at h
  .rename_i c1;rw[if_neg c1];split at h
   .simp at h
   .rename_i c2;rw[if_neg c2];split at h
    .simp at h
    .rename_i u;rw[if_neg u];exact⟨oM,oM,rfl⟩
theorem rv{s:ByteArray}{i:Nat}{l:List Int}:un s i l=true↔l≠ []/\i+l.length<=s.size/\dP s i l=true:=by simp [un,and_assoc]
theorem C9{s:ByteArray}{k:Nat}{b:Int}{r:List Int}:dP s k (b::r)=true↔x9 s k=b/\dP s (k+1) r=true:=by
 rw[dP];split
 .rename_i h;simp [h]
 .rename_i h;simp [h]
theorem EP(s:ByteArray)(i n:Nat)(h1:1<=n)(h4:n<=4)(h:iR s i n=true):0<=I1 s i n/\i+n<=s.size/\dec s i=some ((I1 s i n).toNat,n):=by
 rw[iR,Bool.and_eq_true,decide_eq_true_eq]at h;obtain⟨z,u⟩:=h;rw[rv,z]at u;obtain⟨_,hs,u⟩:=u;have q0:=U6 s i;have q1:=U6 s (i+1);have q2:=U6 s (i+2);have q3:=U6 s (i+3);have e0:=U1 s i;have e1:=U1 s (i+1);have e2:=U1 s (i+2);have e3:=U1 s (i+3);obtain rfl|rfl|rfl|rfl:n=1\/n=2\/n=3\/n=4:=oM
 .obtain⟨D,I,y⟩:=Nt z;have E:I1 s i 1=x9 s i:=rfl;rw[E]at D I ⊢;refine⟨D,hs,?_⟩;rw[dec,if_pos oM,e0,Int.toNat_natCast]
 .obtain⟨D,I,y⟩:=Nu z;rw[y,C9,C9]at u;obtain⟨O,p1,_⟩:=u;have E:I1 s i 2=(x9 s i-192)*64+(x9 s (i+1)-128):=rfl;generalize I1 s i 2=v at*;have c1:Q5 s (i+1)=true:=G9.2 ⟨oM,oM⟩;refine⟨oM,hs,?_⟩;rw[dec,if_neg oM,if_pos oM,if_pos ⟨c1,oM⟩]
  congr 2;omega
 .obtain⟨D,I,U,y⟩:=Nv z;rw[y,C9,C9,C9]at u;obtain⟨O,p1,p2,_⟩:=u;have J:x9 s (i+2)=128+I1 s i 3 % 64:=p2;have E:I1 s i 3=((x9 s i-224)*64+(x9 s (i+1)-128))*64+(x9 s (i+2)-128):=rfl;generalize I1 s i 3=v at*;have c1:Q5 s (i+1)=true:=G9.2 ⟨oM,oM⟩;have c2:Q5 s (i+2)=true:=G9.2 ⟨oM,oM⟩;refine⟨oM,hs,?_⟩;rw[dec,if_neg oM,if_neg oM,if_pos oM,if_pos ⟨c1,c2,oM,oM⟩]
  congr 2;omega
 .obtain⟨D,I,y⟩:=Nw z;rw[y,C9,C9,C9,C9]at u;obtain⟨O,p1,p2,W,_⟩:=u;have J:x9 s (i+2)=128+I1 s i 4 / 64 % 64:=p2;have X:x9 s (i+3)=128+I1 s i 4 % 64:=W;have E:I1 s i 4=(((x9 s i-240)*64+(x9 s (i+1)-128))*64+(x9 s (i+2)-128))*64+(x9 s (i+3)-128):=rfl;generalize I1 s i 4=v at*;have c1:Q5 s (i+1)=true:=G9.2 ⟨oM,oM⟩;have c2:Q5 s (i+2)=true:=G9.2 ⟨oM,oM⟩;have S:Q5 s (i+3)=true:=G9.2 ⟨oM,oM⟩;refine⟨oM,hs,?_⟩;rw[dec,if_neg oM,if_neg oM,if_neg oM,if_pos oM,if_pos ⟨c1,c2,S,oM,oM⟩]
  congr 2;omega
theorem oP(s:ByteArray)(i c n:Nat)(hi:i<s.size)(h:dec s i=some (c,n)):1<=n/\n<=4/\i+n<=s.size/\iR s i n=true/\I1 s i n=(c:Int):=by
 have q0:=U6 s i;have q1:=U6 s (i+1);have q2:=U6 s (i+2);have q3:=U6 s (i+3);have e0:=U1 s i;have e1:=U1 s (i+1);have e2:=U1 s (i+2);have e3:=U1 s (i+3);have ok:∀(n:Nat)(l:List Int),L7 (I1 s i n)=l->l≠ []->l.length=n->i+n<=s.size->dP s i l=true->iR s i n=true:=by
  intro n l J O S U y;rw[iR,J,Bool.and_eq_true,decide_eq_true_eq,rv,S];exact⟨rfl,O,U,y⟩
 unfold dec at h;split at h
 .cases h;rename_i J;have D:I1 s i 1=x9 s i:=rfl;refine⟨oM,oM,oM,ok 1 [x9 s i] ?_ sM rfl oM (C9.2 ⟨rfl,rfl⟩),by rw[D,e0]⟩;rw[D,L7,if_neg oM,if_pos oM]
 .rename_i J;split at h
  .rename_i O;split at h
   .rename_i S;cases h;obtain⟨W,u⟩:=G9.1 S.1;have D:I1 s i 2=(x9 s i-192)*64+(x9 s (i+1)-128):=rfl;have z:I1 s i 2=((bAt s i % 32*64+bAt s (i+1) % 64:Nat):Int):=oM;generalize hw:I1 s i 2=v at*;refine⟨oM,oM,oM,ok 2 [192+v / 64,128+v % 64] ?_ sM rfl oM (C9.2 ⟨oM,C9.2 ⟨oM,rfl⟩⟩),z⟩;rw[hw,L7,if_neg oM,if_neg oM,if_pos oM]
   .cases h
  .rename_i O;split at h
   .rename_i U;split at h
    .rename_i y;cases h;obtain⟨W,u⟩:=G9.1 y.1;obtain⟨X,I⟩:=G9.1 y.2.1;have D:I1 s i 3=((x9 s i-224)*64+(x9 s (i+1)-128))*64+(x9 s (i+2)-128):=rfl;have z:I1 s i 3=((bAt s i % 16*4096+bAt s (i+1) % 64*64+bAt s (i+2) % 64:Nat):Int):=oM;have a2:=y.2.2;generalize hw:I1 s i 3=v at*;refine⟨oM,oM,oM,ok 3 [224+v / 4096,128+v / 64 % 64,128+v % 64] ?_ sM rfl oM (C9.2 ⟨oM,C9.2 ⟨oM,C9.2 ⟨by show x9 s (i+2)=_;omega,rfl⟩⟩⟩),z⟩;rw[hw,L7,if_neg oM,if_neg oM,if_neg oM,if_pos oM]
    .cases h
   .rename_i U;split at h
    .rename_i h6;split at h
     .rename_i E;cases h;obtain⟨W,u⟩:=G9.1 E.1;obtain⟨X,I⟩:=G9.1 E.2.1;obtain⟨g3,a1⟩:=G9.1 E.2.2.1;have a3:=E.2.2.2;have D:I1 s i 4=(((x9 s i-240)*64+(x9 s (i+1)-128))*64+(x9 s (i+2)-128))*64+(x9 s (i+3)-128):=rfl;have z:I1 s i 4=((bAt s i % 8*262144+bAt s (i+1) % 64*4096+bAt s (i+2) % 64*64+bAt s (i+3) % 64:Nat):Int):=oM;generalize hw:I1 s i 4=v at*;refine⟨oM,oM,oM,ok 4 [240+v / 262144,128+v / 4096 % 64,128+v / 64 % 64,128+v % 64] ?_ sM rfl oM (C9.2 ⟨oM,C9.2 ⟨oM,C9.2 ⟨by show x9 s (i+2)=_;omega,C9.2 ⟨by show x9 s (i+3)=_;omega,rfl⟩⟩⟩⟩),z⟩;rw[hw,L7,if_neg oM,if_neg oM,if_neg oM,if_neg oM]
     .cases h
    .cases h
def BX(H:d9)(s:ByteArray)(i:Nat)(o:Out)(e:Env)(H2:d9):Prop:=
 H.next<=H2.low/\i4 H.next H H2/\((o= .exit 0/\dec s i=none/\e.get 0= .string s/\e.get 1=iV i)\/(o= .ret/\∃c n:Nat,dec s i=some (c,n)/\e.get 4=iV c/\e.get 5=iV n/\e.get 6=iV 0))
theorem yA(H:d9)(s:ByteArray)(i:Nat)(hi:i<s.size)(hz:s.size<=1048576):∀k e H2,(∃n:Nat,k=5-n/\1<=n/\n<=5/\(∀m,1<=m->m<n->i+m<=s.size->iR s i m=false)/\e.get 0= .string s/\e.get 1=iV i/\e.get 7=iV n/\i4 H.next H H2/\H.next<=H2.low)->
  u9 (LE prog O8 (.loop Ao) e H2) (BX H s i):=by
 refine j7 _ _ ?_;rintro k e H2 ⟨n,hk,h1,h5,O,I,J,f7,hS,hl⟩;have u:(∀m,1<=m->m<=4->i+m<=s.size->iR s i m=false)->dec s i=none:=by
  intro a3;cases hd:dec s i with
  |none=>rfl
  |some q=>
   obtain⟨c,m⟩:=q;obtain⟨m1,m4,ms,mo,_⟩:=oP s i c m hi hd;rw[a3 m m1 m4 ms]at mo;cases mo
 rcases S:decide ((n:Int)<=4)with _|_
 .have hb:=dF S;refine J2 f7 S ?_;exact l7 ⟨hl,hS,.inl ⟨rfl,u fun m a b c=>O m a oM c,I,J⟩⟩
 have a8:=dT S;rcases W:decide ((i:Int)+n<=s.size)with _|_
 .have hb:=dF W;refine J6 I J f7 S W @wrap_small ?_;exact l7 ⟨hl,hS,.inl ⟨rfl,u fun m a b c=>O m a oM c,I,J⟩⟩
 have a9:=dT W;have nt:(i:Int).toNat=i:=tN i;have q0:=M9 s i;have a2:=hS.next;have qv:=uo s i n;have E:∀e':Env,e'.get 0= .string s->e'.get 1=iV i->e'.get 7=iV n->e'.get 8=iV (I1 s i n)->u9 (u7 (inBlock 1 (LE prog O8 Aq e' H2)) (LE prog O8 Ap)) (dy k (fun k e H2=>∃n:Nat,k=5-n/\1<=n/\n<=5/\(∀m,1<=m->m<n->i+m<=s.size->iR s i m=false)/\e.get 0= .string s/\e.get 1=iV i/\e.get 7=iV n/\i4 H.next H H2/\H.next<=H2.low) (BX H s i)):=by
  intro e' g0 g1 g7 g8;obtain⟨w,h,H3,hc,hh,hO,z⟩:=vO H2 (I1 s i n);have a1:i4 H.next H H3:=hS.trans (z.weaken a2);have a4:H.next<=H3.low:=z.lowAll _ a2 hl;have b0:(L7 (I1 s i n)).length<=4:=by unfold L7;split<;>(try split)<;>(try split)<;>(try split)<;>simp
  have y:=lM H3 H2.next s i (L7 (I1 s i n)) w hO oM oM oM;obtain⟨a,c,rfl⟩:=hO.slice;have en:decide (((L7 (I1 s i n)).length:Int)=n)=decide ((L7 (I1 s i n)).length=n):=decide_eq_decide.2 oM;have D:iR s i n=false->∀X:Env,X.get 0= .string s->X.get 1=iV i->X.get 7=iV ((n:Int)+1)->dy k (fun k e H2=>∃n:Nat,k=5-n/\1<=n/\n<=5/\(∀m,1<=m->m<n->i+m<=s.size->iR s i m=false)/\e.get 0= .string s/\e.get 1=iV i/\e.get 7=iV n/\i4 H.next H H2/\H.next<=H2.low) (BX H s i) .normal X H3:=fun a5 X k0 k1 k7=>
   i6 (k-1) oM ⟨n+1,oM,oM,oM,fun m a b c=>by
    by_cases hm:m=n
    .rw[hm];exact a5
    .exact O m a oM c,k0,k1,k7,a1,a4⟩
  rw[Aq];rcases U:decide ((L7 (I1 s i n)).length=n)with _|_
  .refine J7 g7 g8 hc hh en U @wrap_small ?_;exact D (by rw[iR,U];rfl) _ g0 g1 rfl
  .rcases b4:un s i (L7 (I1 s i n))with _|_
   .rw[b4]at y;refine J10 g0 g1 g7 g8 hc hh en U y @wrap_small ?_;exact D (by rw[iR,U,b4];rfl) _ g0 g1 rfl
   .rw[b4]at y;obtain⟨r0,_,rd⟩:=EP s i n h1 oM (by rw[iR,U,b4];rfl);refine J9 g0 g1 g7 g8 hc hh en U y ?_;refine A6 ⟨a4,a1,.inr ⟨rfl,_,n,rd,?_,rfl,rfl⟩⟩;rw[Int.toNat_of_nonneg r0];rfl
 rcases b5:decide (1<(n:Int))with _|_
 .have a6:=dF b5;have a7:n=1:=oM;refine J8 I J f7 S W b5 @wrap_small nt ?_;exact E _ I J f7 (by rw[I1,if_pos a7];rfl)
 .have a6:=dT b5;have hv:=iS H2 s i n oM oM oM oM;refine J9 I J f7 S W b5 @wrap_small nt hv ?_;exact E _ I J f7 (by rw[I1,if_neg oM];rfl)
theorem BO(H:d9)(s:ByteArray)(i:Nat)(hi:i<s.size)(J:s.size<=1048576):(∀c n,dec s i=some (c,n)->CL prog O8 118 [.string s,iV i] H=some (.tuple #[iV c,iV n,iV 0],none))/\(dec s i=none->∃q:Int,q≠0/\CL prog O8 118 [.string s,iV i] H=some (.tuple #[iV 0,iV 0,iV q],none)):=by
 have O:decide ((i:Int)<0)=false:=decide_eq_false oM;have S:decide ((s.size:Int)<=i)=false:=decide_eq_false oM;rw[j8 WI rfl _ sM];refine J2 O S ?_;refine l9 (F:=fun z=>(∀c n,dec s i=some (c,n)->u5 _ _ _ (u7 (inBlock 0 z) _)=some (.tuple #[iV c,iV n,iV 0],none))/\(dec s i=none->∃q:Int,q≠0/\u5 _ _ _ (u7 (inBlock 0 z) _)=some (.tuple #[iV 0,iV 0,iV q],none))) (yA H s i hi J 4 _ _ ⟨1,rfl,oM,oM,fun m a b=>oM,rfl,rfl,rfl,i4.start H,lR⟩) ?_;rintro o e' H' ⟨hl,hS,⟨y,u,D,E⟩|⟨y,c,n,u,U,W,X⟩⟩
 .refine⟨fun c n h=>(by rw[u]at h;cases h),fun _=>?_⟩;obtain⟨t,I⟩:=ET H' s i oM J;cases t with
  |true=>
   refine⟨7,by decide,?_⟩;exact J4 y D E I trivial
  |false=>
   refine⟨2,by decide,?_⟩;exact J4 y D E I trivial
 .refine⟨fun c' n' h=>?_,fun h=>(by rw[u]at h;cases h)⟩;rw[u]at h;cases h;exact J4 y U W X trivial
theorem eR{s:ByteArray}{i c n:Nat}(u:i<s.size)(h:dec s i=some (c,n)):1<=n/\i+n<=s.size:=⟨(oP s i c n u h).1,(oP s i c n u h).2.2.1⟩
theorem mZ{s:ByteArray}{i c n:Nat}(h:dec s i=some (c,n)):c<=2097152:=by
 have:=U6 s i;unfold dec at h;split at h
 .cases h;omega
 .split at h
  .split at h
   .cases h;omega
   .cases h
  .split at h
   .split at h
    .cases h;omega
    .cases h
   .split at h
    .split at h
     .cases h;omega
     .cases h
    .cases h
def rLs(s:ByteArray)(i:Nat):List Int:=
 if h:i<s.size then
  match hd:dec s i with
  |some (c,n)=>(c:Int)::rLs s (i+n)
  |none=>[]
 else []
termination_by s.size-i
decreasing_by have:=eR h hd;omega
def fQ(s:ByteArray)(i:Nat):Bool:=
 if h:i<s.size then
  match hd:dec s i with
  |some (c,n)=>fQ s (i+n)
  |none=>false
 else true
termination_by s.size-i
decreasing_by have:=eR h hd;omega
theorem lL{s:ByteArray}{i c n:Nat}(y:i<s.size)(h:dec s i=some (c,n)):rLs s i=(c:Int)::rLs s (i+n):=by
 rw[rLs,dif_pos y];split
 .rename_i z D u;rw[h]at u;cases u;rfl
 .rename_i u;rw[h]at u;cases u
theorem ez{s:ByteArray}{i:Nat}(h:i<s.size->dec s i=none):rLs s i=[]:=by
 rw[rLs];split
 .rename_i y;split
  .rename_i z D u;rw[h y]at u;cases u
  .rfl
 .rfl
theorem iQ{s:ByteArray}{i c n:Nat}(y:i<s.size)(h:dec s i=some (c,n)):fQ s i=fQ s (i+n):=by
 rw[fQ,dif_pos y];split
 .rename_i z D u;rw[h]at u;cases u;rfl
 .rename_i u;rw[h]at u;cases u
theorem iP{s:ByteArray}{i:Nat}(y:i<s.size)(h:dec s i=none):fQ s i=false:=by
 rw[fQ,dif_pos y];split
 .rename_i z D u;rw[h]at u;cases u
 .rfl
theorem ru{s:ByteArray}{i:Nat}(h:s.size<=i):fQ s i=true:=by rw[fQ,dif_neg oM]
theorem Co(s:ByteArray):∀k i,s.size-i=k->(yQ s i=0↔fQ s i=true):=by
 intro k;induction k using Nat.strongRecOn with
 |ind k D=>
  intro i E;by_cases u:i<s.size
  .rw[yQ,dif_pos u];obtain⟨z,y⟩:=yR s i u;cases h:dec s i with
   |none=>
    rw[dif_neg (y h),iP u h];have:=y h;simp [this]
   |some q=>
    obtain⟨c,n⟩:=q;have e:=z c n h;obtain⟨p1,p2⟩:=eR u h;rw[dif_pos (by rw[e]),e,iQ u h];simp only[Int.toNat_natCast];exact D (s.size-(i+n)) oM (i+n) rfl
  .rw[yQ,dif_neg u,ru oM];simp
theorem zE(f:Int->Bool)(s:ByteArray):∀k i,s.size-i=k->fQ s i=true->zD f s i=(rLs s i).all f:=by
 intro k;induction k using Nat.strongRecOn with
 |ind k z=>
  intro i D h;by_cases u:i<s.size
  .cases y:dec s i with
   |none=>rw[iP u y]at h;cases h
   |some q=>
    obtain⟨c,n⟩:=q;obtain⟨p1,p2⟩:=eR u y;rw[iQ u y]at h;rw[zD,dif_pos u,tg s i u c n y,lL u y,List.all_cons,<-z (s.size-(i+n)) oM (i+n) rfl h];simp only;cases f c<;>simp
  .rw[zD,dif_neg u,ez (fun q=>absurd q u)];rfl
theorem aC2(s:ByteArray):im s=((rLs s 0).all iZ&&fQ s 0):=by
 rw[im];have h:=Co s _ 0 rfl;cases u:fQ s 0 with
 |true=>rw[decide_eq_true (h.2 u),zE iZ s _ 0 rfl u];simp
 |false=>
  have:¬yQ s 0=0:=fun q=>by rw[h.1 q]at u;cases u
  rw[decide_eq_false this];simp
def dJ(n:Int):Value:= .int .i32 n
theorem pD(s:ByteArray)(H:d9)(hs:s.size<=1048576)(L:List Int)(t:Bool):∀k e H2,(∃(i:Nat)(v:Value)(l:List Int),k=s.size-i/\i<=s.size/\l.length<=i/\e.get 0= .string s/\e.get 5=v/\e.get 6=iV i/\V8 H2 H.next 1 v l.length (l.map dJ)/\i4 H.next H H2/\H.next<=H2.low/\l++rLs s i=L/\fQ s i=t)->
  u9 (LE prog O8 (.loop Gy) e H2) (fun o e H2=>∃(a:Int)(v:Value),V8 H2 H.next 1 v L.length (L.map dJ)/\i4 H.next H H2/\H.next<=H2.low/\((o= .exit 0/\t=true/\e.get 5=v/\e.get 6=iV a)\/(o= .ret/\t=false/\e.get 2=v/\e.get 3=iV a/\∃q:Int,q≠0/\e.get 4=iV q))):=by
 refine j7 _ _ ?_;rintro k e H2 ⟨i,v,l,hk,hi,a3,J,f5,f6,O,D,hl,z,y⟩;rcases I:decide ((i:Int)<s.size)with _|_
 .have W:=dF I;refine J3 J f6 I ?_;rw[ez (fun q=>oM),List.append_nil]at z;rw[ru oM]at y;exact l7 ⟨i,v,by rw[<-z];exact O,D,hl,.inl ⟨rfl,y.symm,f5,f6⟩⟩
 .have W:=dT I;have h:i<s.size:=oM;obtain⟨r1,r2⟩:=BO H2 s i h hs;cases u:dec s i with
  |none=>
   obtain⟨q,hq,X⟩:=r2 u;have a1:decide (q=0)=false:=decide_eq_false hq;refine J6 J f5 f6 I X a1 ?_;rw[ez (fun _=>u),List.append_nil]at z;rw[iP h u]at y;exact A6 ⟨i,v,by rw[<-z];exact O,D,hl,.inr ⟨rfl,y.symm,rfl,rfl,q,hq,rfl⟩⟩
  |some q=>
   obtain⟨c,n⟩:=q;obtain⟨p1,p2⟩:=eR h u;have a2:=mZ u;have X:=r1 c n u;have hw:IntKind.wrap .i32 (c:Int)=c:=bN oM oM;obtain⟨v',H3,ha,S,E⟩:=sI (P:=prog) (t:=150) Cm.2.2.2.2.2.2 Cn.1 Cn.2.1 Cn.2.2.1 oM oM (O.push (bC [.int .i32 c] 1)) (c:=H2.next) (m:=1) (k:=1) (el:=[.int .i32 c]) i7 oM sM oM (by rw[i5];have:=D.next;omega);have U:=(D.trans (i4.push (B:= .cells [.int .i32 c] true 1) D.next)).trans E;refine J8 J f5 f6 I X hw ha @wrap_small ?_;rw[lL h u]at z;rw[iQ h u]at y;refine i6 (k-n) oM ⟨i+n,v',l++[(c:Int)],oM,oM,by simp;omega,J,rfl,rfl,?_,U,E.low hl,by rw[<-z];simp,y⟩;have e1:(l++[(c:Int)]).length=l.length+1:=sM;have e2:(l++[(c:Int)]).map dJ=l.map dJ++[.int .i32 c]:=by simp [dJ]
   rw[e1,e2];exact S
theorem ES(H:d9)(s:ByteArray)(hs:s.size<=1048576):Ret (CL prog O8 95 [.string s] H) H fun w E=>∃(v:Value)(a q:Int),w= .tuple #[v,iV a,iV q]/\decide (q=0)=fQ s 0/\V8 E H.next 1 v (rLs s 0).length ((rLs s 0).map dJ)/\i4 H.next H E:=by
 rw[j8 af6 rfl _ sM];refine J1 @if_true.{1} ?_;refine l9 (F:=fun z=>Ret (u5 _ _ _ (u7 (inBlock 0 z) _)) _ _) (pD s H hs (rLs s 0) (fQ s 0) s.size _ _ ⟨0,_,[],rfl,oM,by simp,rfl,rfl,rfl,.inl ⟨rfl,rfl,rfl⟩,i4.start H,lR,rfl,rfl⟩) ?_;rintro o e' H' ⟨a,v,h,I,J,⟨y,D,X,h6⟩|⟨y,D,S,U,q,O,W⟩⟩
 .refine J3 y X h6 ?_;rw[D];exact ce (fun u=>⟨v,a,0,rfl,rfl,h.na (by simpa using u),i4.refl _ _⟩) ⟨v,a,0,rfl,rfl,h.low _,I.ret J⟩
 .refine J4 y S U W ?_;rw[D];exact ce (fun u=>⟨v,a,q,rfl,decide_eq_false O,h.na (by simpa using u),i4.refl _ _⟩) ⟨v,a,q,rfl,decide_eq_false O,h.low _,I.ret J⟩
theorem yJ(H0:d9)(lo:Nat)(a:Option Addr)(c:Nat)(q:Int)(l:List Int)(hn:l.length<=1048576)(S:∀x∈l,-2147483648<=x/\x<=2147483647) (U:V8 H0 lo 1 (.slice a l.length c) l.length (l.map dJ)) (r:Bool):
  ∀k e H2,(∃i:Nat,k=l.length-i/\i<=l.length/\e.get 3= .slice a l.length c/\e.get 5=iV q/\e.get 6=iV i/\H2=H0/\(l.drop i).all iZ=r)->
  u9 (LE prog O8 (.loop Ge) e H2) (fun o e H2=>H2=H0/\((o= .exit 0/\r=true/\e.get 5=iV q)\/(o= .ret/\e.get 2= .bool false/\r=false))):=by
 refine j7 _ _ ?_;rintro k e H2 ⟨i,hk,hi,f3,f5,f6,J,h⟩;subst J;rcases b:decide ((i:Int)<l.length)with _|_
 .have y:=dF b;have:l.drop i=[]:=dN oM;rw[this,List.all_nil]at h;refine J3 f3 f6 b ?_;exact l7 ⟨rfl,.inl ⟨rfl,h.symm,f5⟩⟩
 .have y:=dT b;rcases U with⟨_,h0,_⟩|⟨X,I,D,_,_⟩
  .omega
  obtain⟨rfl,rfl⟩:a=some ⟨X,0,none⟩/\c=l.length+1:=by simpa using I
  obtain⟨x,E,O⟩:=eS (l:=l) (i:=i) oM;have W:=S x (mG E);rw[O,List.all_cons]at h;have nt:(i:Int).toNat=i:=tN i;have z:(l.map dJ)[i]?=some (.int .i32 x):=by rw[List.getElem?_map,E];rfl
  rcases u:iZ x with _|_
  .rw[u]at h;refine J9 f3 f6 b D @wrap_small @Nat.mul_one z @ry u ?_;exact A6 ⟨rfl,.inr ⟨rfl,rfl,by rw[<-h];rfl⟩⟩
  .rw[u]at h;refine J9 f3 f6 b D @wrap_small @Nat.mul_one z @ry u ?_;exact i6 (k-1) oM ⟨i+1,oM,oM,f3,f5,rfl,rfl,by rw[<-h];rfl⟩
theorem ym(s:ByteArray):∀k i,s.size-i=k->(rLs s i).length<=s.size-i/\∀x∈rLs s i,-2147483648<=x/\x<=2147483647:=by
 intro k;induction k using Nat.strongRecOn with
 |ind k E=>
  intro i J;by_cases u:i<s.size
  .cases h:dec s i with
   |none=>rw[ez (fun _=>h)];simp
   |some q=>
    obtain⟨c,n⟩:=q;obtain⟨p1,p2⟩:=eR u h;have D:=mZ h;obtain⟨I,z⟩:=E (s.size-(i+n)) oM (i+n) rfl;rw[lL u h];refine⟨by rw[List.length_cons];omega,fun x y=>?_⟩;rcases List.mem_cons.1 y with rfl|y
    .omega
    .exact z x y
  .rw[ez (fun q=>absurd q u)];simp
theorem eA(H:d9)(s:ByteArray)(hs:s.size<=1048576):CL prog O8 73 [.string s] H=some (.bool (im s),none):=by
 obtain⟨w,h,E,hc,hh,v,a,q,rfl,hq,J,X⟩:=ES ⟨H.bs,H.next⟩ s hs;have u:=J;obtain⟨O,cv,rfl⟩:=J.ownC.slice;have a1:H.next<=E.low:=X.low lR;obtain⟨f1,S⟩:=ym s _ 0 rfl;rw[j8 ae1 rfl _ sM,aC2];refine J2 hc hh ?_;refine l9 (F:=fun z=>u5 _ _ _ (u7 (inBlock 0 z) _)=_) (yJ E H.next O cv q (rLs s 0) oM S u ((rLs s 0).all iZ) (rLs s 0).length _ _ ⟨0,rfl,oM,rfl,rfl,rfl,rfl,rfl⟩) ?_;rintro o e' H' ⟨I,⟨y,D,W⟩|⟨y,U,D⟩⟩
 .exact J5 y I W hq D trivial
 .exact J4 y I U D trivial
def dLs(s:ByteArray)(i:Nat):List Int:=
 if h:i<s.size then((Utf8.decode s i).1:Int)::dLs s (i+(Utf8.decode s i).2) else []
termination_by s.size-i
decreasing_by have:=U8 s i;omega
theorem oQ(s:ByteArray)(i:Nat):(Utf8.decode s i).1<=2097152:=by
 unfold Utf8.decode;simp only;split
 .omega
 .split
  .split
   .simp only;omega
   .simp [Utf8.runeError]
  .split
   .split
    .simp only;omega
    .simp [Utf8.runeError]
   .split
    .split
     .simp only;omega
     .simp [Utf8.runeError]
    .simp [Utf8.runeError]
theorem xe(s:ByteArray):∀k i,s.size-i=k->(dLs s i).length<=s.size-i/\∀x∈dLs s i,-2147483648<=x/\x<=2147483647:=by
 intro k;induction k using Nat.strongRecOn with
 |ind k y=>
  intro i E;rw[dLs];split
  .rename_i D;have I:=U8 s i;have hs:=oQ s i;obtain⟨z,u⟩:=y (s.size-(i+(Utf8.decode s i).2)) oM (i+(Utf8.decode s i).2) rfl;refine⟨by rw[List.length_cons];omega,fun x h=>?_⟩;rcases List.mem_cons.1 h with rfl|h
   .omega
   .exact u x h
  .simp
theorem uE(s:ByteArray):∀b i(h:Array Value),s.size-i<=b->(Conv.runesFrom s b i h).toList=h.toList++(dLs s i).map dJ:=by
 intro b;induction b with
 |zero=>
  intro i h y;rw[dLs,dif_neg oM];simp [Conv.runesFrom]
 |succ b z=>
  intro i h y;rw[Conv.runesFrom,dLs];by_cases u:i<s.size
  .have D:=U8 s i;rw[if_pos u,dif_pos u];simp only;rw[z _ _ oM];simp [dJ]
  .rw[if_neg u,dif_neg u];simp
theorem te(H:d9)(s:ByteArray):W8 prog H 9 150 (.string s)=some (sL H.next (dLs s 0).length ((dLs s 0).length+1),some (H.push (.cells ((dLs s 0).map dJ) true 1))):=by
 have h:=uE s s.size 0 #[] oM;have u:(Conv.runesFrom s s.size 0 #[]).size=(dLs s 0).length:=by rw[<-Array.length_toList,h];simp
 simp only[W8,Cm,ty9,Cn,u,h];simp
theorem rm(s:ByteArray):∀k i,s.size-i=k->0<i->lu s i=(dLs s i).all gi:=by
 intro k;induction k using Nat.strongRecOn with
 |ind k u=>
  intro i z h;rw[lu,dLs];split
  .rename_i y;have D:=U8 s i;rw[List.all_cons,<-u (s.size-(i+(Utf8.decode s i).2)) oM (i+(Utf8.decode s i).2) rfl oM,decide_eq_false (show¬i=0 from oM)];cases gi (Utf8.decode s i).1<;>simp
  .rfl
theorem nV{s:ByteArray}:s.size=0↔s=eB:=by
 constructor
 .intro h;obtain⟨d⟩:=s;have:d= #[]:=Array.size_eq_zero_iff.1 h;rw[this];rfl
 .intro h;rw[h];rfl
def U9:List Int->Bool
 |[]=>false
 |x::_=>dR x
theorem si(s:ByteArray):mg s=(U9 (dLs s 0)&&(dLs s 0).all gi):=by
 rw[mg];by_cases u:s.size=0
 .have h:=nV.1 u;rw[dLs,dif_neg oM,decide_eq_true h];simp [U9]
 .have h:¬s=eB:=fun q=>u (nV.2 q);have y:=U8 s 0;rw[dLs,dif_pos oM,lu,dif_pos oM,decide_eq_false h,List.all_cons,U9,<-rm s _ (0+(Utf8.decode s 0).2) rfl oM];cases dR (Utf8.decode s 0).1<;>cases gi (Utf8.decode s 0).1<;>simp
theorem um(H0:d9)(I:Nat)(l:List Int)(hn:l.length<=1048576)(S:∀x∈l,-2147483648<=x/\x<=2147483647) (D:H0.get I=cE (l.map dJ) 1) (r:Bool):
  ∀k e H2,(∃i:Nat,k=l.length-i/\i<=l.length/\e.get 3=sL I l.length (l.length+1)/\e.get 4=iV i/\H2=H0/\(l.drop i).all gi=r)->
  u9 (LE prog O8 (.loop Gz) e H2) (fun o e H2=>H2=H0/\((o= .exit 0/\r=true)\/(o= .ret/\e.get 2= .bool false/\r=false))):=by
 refine j7 _ _ ?_;rintro k e H2 ⟨i,X,W,f3,f4,J,h⟩;subst J;rcases b:decide ((i:Int)<l.length)with _|_
 .have y:=dF b;have:l.drop i=[]:=dN oM;rw[this,List.all_nil]at h;refine J3 f3 f4 b ?_;exact l7 ⟨rfl,.inl ⟨rfl,h.symm⟩⟩
 .have y:=dT b;obtain⟨x,E,O⟩:=eS (l:=l) (i:=i) oM;have U:=S x (mG E);rw[O,List.all_cons]at h;have nt:(i:Int).toNat=i:=tN i;have z:(l.map dJ)[i]?=some (.int .i32 x):=by rw[List.getElem?_map,E];rfl
  rcases u:gi x with _|_
  .rw[u]at h;refine J9 f3 f4 b D @wrap_small @Nat.mul_one z @rE u ?_;exact A6 ⟨rfl,.inr ⟨rfl,rfl,by rw[<-h];rfl⟩⟩
  .rw[u]at h;refine J9 f3 f4 b D @wrap_small @Nat.mul_one z @rE u ?_;exact i6 (k-1) oM ⟨i+1,oM,oM,f3,rfl,rfl,by rw[<-h];rfl⟩
theorem cL(H:d9)(s:ByteArray)(hs:s.size<=1048576):CL prog O8 97 [.string s] H=some (.bool (mg s),none):=by
 obtain⟨f1,U⟩:=xe s _ 0 rfl;have hz:d9.next ⟨H.bs,H.next⟩=H.next:=rfl;rw[j8 af8 rfl _ sM,si];have E:d9.get (d9.push ⟨H.bs,H.next⟩ (.cells ((dLs s 0).map dJ) true 1)) H.next=some (.cells ((dLs s 0).map dJ) true 1):=i7;have cv:W8 prog ⟨H.bs,H.next⟩ 9 150 (.string s)=some (sL H.next (dLs s 0).length ((dLs s 0).length+1),some (d9.push ⟨H.bs,H.next⟩ (.cells ((dLs s 0).map dJ) true 1))):=te ⟨H.bs,H.next⟩ s;generalize dLs s 0=l at*;have u:decide ((l.length:Int)=0)=decide (l=[]):=decide_eq_decide.2 (by rw[<-List.length_eq_zero_iff];omega);rcases y:decide (l=[])with _|_
 .have I:=dF y;obtain⟨x,m,D⟩:=List.exists_cons_of_ne_nil I;have a3:=U x (by rw[D];simp);have a2:(0:Int)<(l.length:Int):=by rw[D];simp only[List.length_cons];omega
  have X:(l.map dJ)[0]?=some (.int .i32 x):=by rw[D];rfl
  have h:U9 l=dR x:=by rw[D,U9]
  rw[h];rcases S:dR x with _|_
  .exact J8 cv u y E X @wrap_small @az8 S trivial
  .refine J8 cv u y E X @wrap_small @az8 S ?_;refine l9 (F:=fun z=>u5 _ _ _ (u7 (inBlock 0 z) _)=_) (um _ H.next l oM U E (l.all gi) l.length _ _ ⟨0,rfl,oM,rfl,rfl,rfl,rfl⟩) ?_;have a1:H.next<=(d9.push ⟨H.bs,H.next⟩ (bC (l.map dJ) 1)).low:=lR;rintro o e' H' ⟨W,⟨J,O⟩|⟨J,h2,O⟩⟩
   .exact J3 J O W trivial
   .exact J4 J h2 O W trivial
 .have he:=dT y;have h:U9 l=false:=by rw[he,U9]
  rw[h];exact J3 cv u y trivial
def aC5(s x:ByteArray)(i:Nat):Int:=
 if h:i+x.size<=s.size/\i<=s.size then(if s.extract i (i+x.size)=x then(i:Int) else aC5 s x (i+1)) else -1
termination_by s.size+1-i
theorem uI{P:Program}(H:d9)(t:TypeId)(s:ByteArray)(i j:Nat)(y:P.underlying t=some .string)(h:i<=j)(u:j<=s.size):Y7 P H t (.string s) (some (.int .i64 i)) (some (.int .i64 j)) none=some (.string (s.extract i j)):=by
 simp only[Y7,y,bnd,Int.natCast_nonneg,if_true,Int.toNat_natCast];rw[if_pos ⟨h,u⟩]
theorem xm(H0:d9)(s x:ByteArray)(hs:s.size<=1048576)(W:x.size<=1048576)(r:Int):
  ∀k e H2,(∃i:Nat,k=s.size+1-i/\i<=s.size+1/\e.get 0= .string s/\e.get 2= .string x/\e.get 7=iV i/\H2=H0/\aC5 s x i=r)->
  u9 (LE prog O8 (.loop Ar) e H2) (fun o e H2=>H2=H0/\((o= .exit 0/\r= -1)\/(o= .ret/\e.get 6=iV r))):=by
 refine j7 _ _ ?_;rintro k e H2 ⟨i,U,S,z,D,f7,I,h⟩;have O:H0=H0:=rfl;subst I;rcases b:decide ((i:Int)+x.size<=s.size)with _|_
 .have J:=dF b;rw[aC5,dif_neg oM]at h;refine J5 z D f7 @wrap_small b ?_;exact l7 ⟨rfl,.inl ⟨rfl,h.symm⟩⟩
 have J:=dT b;rw[aC5,dif_pos oM]at h;have u:=uI (P:=prog) H2 9 s i (i+x.size) (by simp [ty9]) oM oM;have E:((i+x.size:Nat):Int)=(i:Int)+x.size:=oM;rw[E]at u;rcases y:decide (s.extract i (i+x.size)=x)with _|_
 .rw[if_neg (dF y)]at h;refine J7 z D f7 @wrap_small b u y ?_;exact i6 (k-1) oM ⟨i+1,oM,oM,z,D,rfl,rfl,h⟩
 .rw[if_pos (dT y)]at h;refine J7 z D f7 @wrap_small b u y ?_;exact A6 ⟨rfl,.inr ⟨rfl,by rw[<-h];rfl⟩⟩
theorem rz(H:d9)(s x:ByteArray)(hs:s.size<=1048576)(E:x.size<=1048576):CL prog O8 125 [.string s,iV 0,.string x] H=some (.int .i64 (aC5 s x 0),none):=by
 rw[j8 WM rfl _ sM];refine J1 ty3 ?_;refine l9 (F:=fun z=>u5 _ _ _ (u7 (inBlock 0 z) _)=_) (xm ⟨H.bs,H.next⟩ s x hs E (aC5 s x 0) (s.size+1) _ _ ⟨0,rfl,oM,rfl,rfl,rfl,rfl,rfl⟩) ?_;rintro o e' H' ⟨u,⟨h,D⟩|⟨h,y⟩⟩
 .exact J3 h u D trivial
 .exact J3 h u y trivial
def jz:ByteArray:=⟨#[104,116,116,112,58,47,47,119,119,119,46,119,51,46,111,114,103,47,50,48,48,48,47,120,109,108,110,115,47]⟩
def qNamed(sp lc:ByteArray):Bool:= !decide (sp=jz)&&mg lc&&im lc&&im sp&&decide (aC5 sp ⟨#[123]⟩ 0<0)&&decide (aC5 sp ⟨#[125]⟩ 0<0)
theorem uy(H:d9)(a b:ByteArray)(I:a.size<=1048576)(J:b.size<=1048576):CL prog O8 100 [.agg #[.string a,.string b]] H=some (.bool (qNamed a b),none):=by
 have O:(⟨#[123]⟩:ByteArray).size<=1048576:=by decide
 have S:(⟨#[125]⟩:ByteArray).size<=1048576:=by decide
 rw[j8 Wq rfl _ sM];rw[qNamed];rcases u:decide (a=jz)with _|_
 .rcases y:mg b with _|_
  .have h:=u;rw[jz]at h;exact J3 @cL h y trivial
  rcases z:im b with _|_
  .have h:=u;rw[jz]at h;exact J5 @cL @eA h y z trivial
  rcases D:im a with _|_
  .have h:=u;rw[jz]at h;exact J6 @cL @eA h y z D trivial
  rcases E:decide (aC5 a ⟨#[123]⟩ 0<0)with _|_
  .have h:=u;rw[jz]at h;exact J8 @cL @eA @rz h y z D E trivial
  have h:=u;rw[jz]at h;exact J8 @cL @eA @rz h y z D E trivial
 .have h:=u;rw[jz]at h;exact J1 h trivial
def lst(f:Bool)(o:Int):Int:=if f then(if o=8 then 1 else if o=9\/o=10 then 2 else 0) else(if o=4\/o=5 then 2 else if o=6 then 1 else 0)
def mst(f:Bool)(o:Int):Int:=if f then(if o=8 then 1 else if o=9\/o=10 then 64 else 0) else(if o=4\/o=5 then 64 else if o=6 then 1 else 0)
def okN(op s least most:Int)(na nb:Nat):Bool:=decide (least<=na)&&decide ((na:Int)<=most)&&(decide (op=s)==decide (nb=1))&&decide (nb<=1)
def xy(op:Int):Bool:=decide (4<=op)&&decide (op<=6)
def AW(op:Int):Bool:=decide (op=6)||decide (op=7)
def iM(hn:Bool)(sp lc:ByteArray):Bool:=(hn== !(decide (sp=eB)&&decide (lc=eB)))&&(!hn||qNamed sp lc)
def rq(hv:Bool)(op:Int)(vl:ByteArray):Bool:=(hv||decide (vl=eB))&& !(decide (op=7)&&decide (vl=eB))&&im vl
def lE(f:Bool)(q:Q):Bool:=if f then decide (q.op<=11)&&iM (xy q.op) q.sp q.lc&&rq (AW q.op) q.op q.vl else decide (q.op<=7)
def okQ:Nat->Bool->Q->Bool
 |0,_,_=>false
 |d+1,f,q=>decide (1<=q.op)&&lE f q&&okN q.op (if f then 11 else 7) (lst f q.op) (mst f q.op) q.a.length q.b.length&&q.a.all (okQ d f)&&q.b.all (okQ d !f)
def fX(fn:Nat)(f:Bool)(d:Nat):Prop:=∀(k:Nat)(H:d9)(lo:Nat)(cs:LV)(q:Q),lo<=H.next->QR H lo k f cs q->CL prog O8 fn [.agg cs.toArray,iV d] H=some (.bool (okQ d f q),none)
theorem Bz(d:Nat)(a1:d<=64)(ih:fX 51 false d)(k:Nat)(H0:d9)(lo:Nat)(va:Option Addr)(ca:Nat)(l:List Q)(W:lo<=H0.next)(hv:QsR H0 lo k false (.slice va l.length ca) l)(hn:l.length<=1048576)(I:Nat)(cl:LV)(J:H0.get I=cE cl 1)(S:cl[1]?=some (.slice va l.length ca))(r:Bool):
  ∀X e H2,(∃i:Nat,X=l.length-i/\i<=l.length/\e.get 1=iV ((d:Int)+1)/\e.get 2=pT I/\e.get 7=iV i/\H2=H0/\(l.drop i).all (okQ d false)=r)->
  u9 (LE prog O8 (.loop FJ) e H2) (fun o e H2=>H2=H0/\((o= .exit 0/\e.get 1=iV ((d:Int)+1)/\e.get 2=pT I/\r=true)\/(o= .ret/\e.get 4= .bool false/\r=false))):=by
 refine j7 _ _ ?_;rintro X e H2 ⟨i,hk,hi,E,z,f6,hH,y⟩;subst hH;rcases b:decide ((i:Int)<l.length)with _|_
 .have O:=dF b;have:l.drop i=[]:=dN oM;rw[this]at y;refine J5 z f6 J S b ?_;exact l7 ⟨rfl,.inl ⟨rfl,E,z,y.symm⟩⟩
 have O:=dT b;obtain⟨x,nb,o,cs,own,el,hx,hd,rfl,a3,U,a2,h,hr⟩:=hv.row (i:=i) oM;have nt:(i:Int).toNat=i:=tN i;rw[hd,List.all_cons]at y;simp only[qSz,if_true,bF]at h U;have u:=ih k H2 lo el x W hr;have D:(d:Int)+1-1=d:=oM;rcases b2:okQ d false x with _|_
 .rw[b2]at u y;refine J12 E z f6 J S b U nt h @wrap_small D u ?_;exact A6 ⟨rfl,.inr ⟨rfl,rfl,by rw[<-y];rfl⟩⟩
 .rw[b2]at u y;refine J12 E z f6 J S b U nt h @wrap_small D u ?_;exact i6 (X-1) oM ⟨i+1,oM,oM,E,z,rfl,rfl,y⟩
theorem BA(d:Nat)(a1:d<=64)(ih:fX 78 true d)(k:Nat)(H0:d9)(lo:Nat)(va:Option Addr)(ca:Nat)(l:List Q)(W:lo<=H0.next)(hv:QsR H0 lo k true (.slice va l.length ca) l)(hn:l.length<=1048576)(I:Nat)(cl:LV)(J:H0.get I=cE cl 1)(S:cl[4]?=some (.slice va l.length ca))(r:Bool):
  ∀X e H2,(∃i:Nat,X=l.length-i/\i<=l.length/\e.get 1=iV ((d:Int)+1)/\e.get 2=pT I/\e.get 9=iV i/\H2=H0/\(l.drop i).all (okQ d true)=r)->
  u9 (LE prog O8 (.loop Gh) e H2) (fun o e H2=>H2=H0/\((o= .exit 0/\e.get 1=iV ((d:Int)+1)/\e.get 2=pT I/\r=true)\/(o= .ret/\e.get 4= .bool false/\r=false))):=by
 refine j7 _ _ ?_;rintro X e H2 ⟨i,hk,hi,E,z,f6,hH,y⟩;subst hH;rcases b:decide ((i:Int)<l.length)with _|_
 .have O:=dF b;have:l.drop i=[]:=dN oM;rw[this]at y;refine J5 z f6 J S b ?_;exact l7 ⟨rfl,.inl ⟨rfl,E,z,y.symm⟩⟩
 have O:=dT b;obtain⟨x,nb,o,cs,own,el,hx,hd,rfl,a3,U,a2,h,hr⟩:=hv.row (i:=i) oM;have nt:(i:Int).toNat=i:=tN i;rw[hd,List.all_cons]at y;simp only[qSz,if_true,bF]at h U;have u:=ih k H2 lo el x W hr;have D:(d:Int)+1-1=d:=oM;rcases b2:okQ d true x with _|_
 .rw[b2]at u y;refine J12 E z f6 J S b U nt h @wrap_small D u ?_;exact A6 ⟨rfl,.inr ⟨rfl,rfl,by rw[<-y];rfl⟩⟩
 .rw[b2]at u y;refine J12 E z f6 J S b U nt h @wrap_small D u ?_;exact i6 (X-1) oM ⟨i+1,oM,oM,E,z,rfl,rfl,y⟩
theorem BB(d:Nat)(a5:d<=64)(b6:fX 51 false d)(b7:fX 78 true d)(k:Nat)(H0:d9)(lo:Nat)(va wa:Option Addr)(ca a3:Nat)(a b:List Q)(a6:lo<=H0.next)(h1:QsR H0 lo k false (.slice va a.length ca) a)(h2:QsR H0 lo k true (.slice wa b.length a3) b)(a9:a.length<=1048576)(c3:b.length<=1048576)
  (bl:Nat) (cl:LV) (O:H0.get bl=cE cl 1) (op:Int) (a2:cl[0]?=some (.int .i64 op)) (hc:cl[1]?=some (.slice va a.length ca)) (J:cl[2]?=some (.slice wa b.length a3)) (h u:Int) (e:Env) (f1:e.get 1=iV ((d:Int)+1)) (f2:e.get 2=pT bl) (fL:e.get 5=iV h) (fM:e.get 6=iV u):
  u9 (LE prog O8 DM e H0) (fun o e H2=>H2=H0/\o= .ret/\e.get 4= .bool (okN op 7 h u a.length b.length&&a.all (okQ d false)&&b.all (okQ d true))):=by
 have X:∀x y:Bool,E9 prog .neq 4 (.bool x) (.bool y)=some (.bool (!(x==y))):=fun x y=>cV 4 x y ty4.2.2.2.2.2.2.1;rw[DM,okN];rcases b1:decide (h<=a.length)with _|_
 .have D:decide ((a.length:Int)<h)=true:=by have:=dF b1;exact decide_eq_true oM
  exact J5 f2 fL O hc D trivial
 have D:decide ((a.length:Int)<h)=false:=by have:=dT b1;exact decide_eq_false oM
 rcases b2:decide ((a.length:Int)<=u)with _|_
 .have E:decide (u<(a.length:Int))=true:=by have:=dF b2;exact decide_eq_true oM
  exact J7 f2 fL fM O hc D E trivial
 have E:decide (u<(a.length:Int))=false:=by have:=dT b2;exact decide_eq_false oM
 have e1:decide ((b.length:Int)=1)=decide (b.length=1):=decide_eq_decide.2 oM;rcases b3:(decide (op=7)==decide (b.length=1))with _|_
 .exact J12 f2 fL fM O a2 hc J D E X e1 b3 trivial
 rcases b4:decide (b.length<=1)with _|_
 .have U:decide ((1:Int)<b.length)=true:=by have:=dF b4;exact decide_eq_true oM
  exact J13 f2 fL fM O a2 hc J D E X e1 b3 U trivial
 have U:decide ((1:Int)<b.length)=false:=by have:=dT b4;exact decide_eq_false oM
 have b8:=dT b4;refine J13 f2 fL fM O a2 hc J D E X e1 b3 U ?_;refine l9 (F:=fun z=>u9 (u7 (inBlock 0 z) _) _) (Bz d a5 b6 k H0 lo va ca a a6 h1 a9 bl cl O hc (a.all (okQ d false)) a.length _ _ ⟨0,rfl,oM,f1,f2,rfl,rfl,rfl⟩) ?_;rintro o e' H' ⟨rfl,⟨ho,g1,g2,hr⟩|⟨ho,g4,hr⟩⟩
 .have b0:(d:Int)+1-1=d:=oM;rcases b5:decide (b.length=0)with _|_
  .have a4:=dF b5;have W:decide ((b.length:Int)=0)=false:=decide_eq_false oM;have a8:b.length=1:=oM;obtain⟨x,nb,o,cs,own,el,hx,hd,rfl,c0,hg,b9,S,hR⟩:=h2.row (i:=0) oM;have a1:b=[x]:=by
    obtain⟨y,rfl⟩:=List.length_eq_one_iff.1 a8
    simpa using hx
   simp only[qSz,if_true,bF,Bool.not_false,Bool.not_true,Nat.zero_mul,Nat.add_zero]at S hg;have a7:=b7 k H' lo el x a6 hR;have I:b.all (okQ d true)=okQ d true x:=by rw[a1];simp
   rw[hr,I];exact J11 ho g1 g2 O J W hg S @wrap_small b0 a7 trivial
  .have a4:=dT b5;have W:decide ((b.length:Int)=0)=true:=decide_eq_true oM;have a1:b=[]:=List.length_eq_zero_iff.1 a4;have I:b.all (okQ d true)=true:=by rw[a1];rfl
   rw[hr,I];exact J5 ho g2 O J W trivial
 .rw[hr];exact J2 ho g4 trivial
theorem BC(d:Nat)(a5:d<=64)(b6:fX 78 true d)(b7:fX 51 false d)(k:Nat)(H0:d9)(lo:Nat)(va wa:Option Addr)(ca a3:Nat)(a b:List Q)(a6:lo<=H0.next)(h1:QsR H0 lo k true (.slice va a.length ca) a)(h2:QsR H0 lo k false (.slice wa b.length a3) b)(a9:a.length<=1048576)(c3:b.length<=1048576)
  (bl:Nat) (cl:LV) (O:H0.get bl=cE cl 1) (op:Int) (a2:cl[0]?=some (.int .i64 op)) (hc:cl[4]?=some (.slice va a.length ca)) (J:cl[5]?=some (.slice wa b.length a3)) (h u:Int) (e:Env) (f1:e.get 1=iV ((d:Int)+1)) (f2:e.get 2=pT bl) (fL:e.get 7=iV h) (fM:e.get 8=iV u):
  u9 (LE prog O8 DN e H0) (fun o e H2=>H2=H0/\o= .ret/\e.get 4= .bool (okN op 11 h u a.length b.length&&a.all (okQ d true)&&b.all (okQ d false))):=by
 have X:∀x y:Bool,E9 prog .neq 4 (.bool x) (.bool y)=some (.bool (!(x==y))):=fun x y=>cV 4 x y ty4.2.2.2.2.2.2.1;rw[DN,okN];rcases b1:decide (h<=a.length)with _|_
 .have D:decide ((a.length:Int)<h)=true:=by have:=dF b1;exact decide_eq_true oM
  exact J5 f2 fL O hc D trivial
 have D:decide ((a.length:Int)<h)=false:=by have:=dT b1;exact decide_eq_false oM
 rcases b2:decide ((a.length:Int)<=u)with _|_
 .have E:decide (u<(a.length:Int))=true:=by have:=dF b2;exact decide_eq_true oM
  exact J7 f2 fL fM O hc D E trivial
 have E:decide (u<(a.length:Int))=false:=by have:=dT b2;exact decide_eq_false oM
 have e1:decide ((b.length:Int)=1)=decide (b.length=1):=decide_eq_decide.2 oM;rcases b3:(decide (op=11)==decide (b.length=1))with _|_
 .exact J12 f2 fL fM O a2 hc J D E X e1 b3 trivial
 rcases b4:decide (b.length<=1)with _|_
 .have U:decide ((1:Int)<b.length)=true:=by have:=dF b4;exact decide_eq_true oM
  exact J13 f2 fL fM O a2 hc J D E X e1 b3 U trivial
 have U:decide ((1:Int)<b.length)=false:=by have:=dT b4;exact decide_eq_false oM
 have b8:=dT b4;refine J13 f2 fL fM O a2 hc J D E X e1 b3 U ?_;refine l9 (F:=fun z=>u9 (u7 (inBlock 0 z) _) _) (BA d a5 b6 k H0 lo va ca a a6 h1 a9 bl cl O hc (a.all (okQ d true)) a.length _ _ ⟨0,rfl,oM,f1,f2,rfl,rfl,rfl⟩) ?_;rintro o e' H' ⟨rfl,⟨ho,g1,g2,hr⟩|⟨ho,g4,hr⟩⟩
 .have b0:(d:Int)+1-1=d:=oM;rcases b5:decide (b.length=0)with _|_
  .have a4:=dF b5;have W:decide ((b.length:Int)=0)=false:=decide_eq_false oM;have a8:b.length=1:=oM;obtain⟨x,nb,o,cs,own,el,hx,hd,rfl,c0,hg,b9,S,hR⟩:=h2.row (i:=0) oM;have a1:b=[x]:=by
    obtain⟨y,rfl⟩:=List.length_eq_one_iff.1 a8
    simpa using hx
   simp only[qSz,if_true,bF,Bool.not_false,Bool.not_true,Nat.zero_mul,Nat.add_zero]at S hg;have a7:=b7 k H' lo el x a6 hR;have I:b.all (okQ d false)=okQ d false x:=by rw[a1];simp
   rw[hr,I];exact J11 ho g1 g2 O J W hg S @wrap_small b0 a7 trivial
  .have a4:=dT b5;have W:decide ((b.length:Int)=0)=true:=decide_eq_true oM;have a1:b=[]:=List.length_eq_zero_iff.1 a4;have I:b.all (okQ d false)=true:=by rw[a1];rfl
   rw[hr,I];exact J5 ho g2 O J W trivial
 .rw[hr];exact J2 ho g4 trivial
theorem uf(d:Int)(sp lc:ByteArray)(W:sp.size<=1048576)(U:lc.size<=1048576)(z:d9)(S:Nat)(cl:LV)(J:z.get S=cE cl 1)(O:ldC (some true) (some 2) 1 cl=some (.agg #[.string sp,.string lc]))(E hv:Bool)(e:Env)(f1:e.get 1=iV d)(D:e.get 2=pT S)(f5:e.get 5= .bool E)(f6:e.get 6= .bool hv):
  (iM E sp lc=false/\∃e',LE prog O8 AH e z=some (.ret,e',z)/\e'.get 4= .bool false)\/(iM E sp lc=true/\∃e',LE prog O8 AH e z=LE prog O8 qx e' z/\e'.get 1=iV d/\e'.get 2=pT S/\e'.get 6= .bool hv):=by
 have h:∀x y:Bool,E9 prog .neq 4 (.bool x) (.bool y)=some (.bool (!(x==y))):=fun x y=>cV 4 x y ty4.2.2.2.2.2.2.1;rw[AH,iM];rcases I:(E== !(decide (sp=eB)&&decide (lc=eB)))with _|_
 .refine J6 D f5 J O h I ?_;exact .inl ⟨_,rfl,rfl⟩
 rcases E with _|_
 .refine J6 D f5 J O h I ?_;exact .inr ⟨_,rfl,f1,D,f6⟩
 have u:=uy z sp lc W U;rcases X:qNamed sp lc with _|_
 .rw[X]at u;refine J7 D f5 J O h I u ?_;exact .inl ⟨_,rfl,rfl⟩
 .rw[X]at u;refine J7 D f5 J O h I u ?_;exact .inr ⟨_,rfl,f1,D,f6⟩
theorem xY(d op:Int)(vl:ByteArray)(hq:vl.size<=1048576)(u:d9)(D:Nat)(I:LV)(hb:u.get D=cE I 1)(J:I[0]?=some (.int .i64 op))(O:I[3]?=some (.string vl))(E:Bool)(e:Env)(W:e.get 1=iV d)(S:e.get 2=pT D)(f6:e.get 6= .bool E):
  (rq E op vl=false/\∃e',LE prog O8 qx e u=some (.ret,e',u)/\e'.get 4= .bool false)\/(rq E op vl=true/\∃e',LE prog O8 qx e u=LE prog O8 AI e' u/\e'.get 1=iV d/\e'.get 2=pT D):=by
 rw[qx,rq];have U:=eA u vl hq;have key:∀(t:Bool),im vl=t->∀(y:Bool),decide (vl=eB)=y->∀(z:Bool),decide (op=7)=z->∀h:Bool,h=E->
   (((h||y)&& !(z&&y)&&t)=false/\∃e',LE prog O8 qx e u=some (.ret,e',u)/\e'.get 4= .bool false)\/(((h||y)&& !(z&&y)&&t)=true/\∃e',LE prog O8 qx e u=LE prog O8 AI e' u/\e'.get 1=iV d/\e'.get 2=pT D):=by
  intro t X y h2 z h3 h h4;subst h4;rw[X]at U;rw[qx];cases h<;>cases y<;>cases z<;>cases t<;>(simp(maxSteps:=20000000) -dsimp (disch:=first|omega|(simp only[rH]<;>omega)|fail) only[↓ai3,rQ,D8,sevalprocAttr,tyA,S,f6,hb,J,O,h2,h3,U])<;>first|exact .inl ⟨_,rfl,rfl⟩|exact .inr ⟨_,rfl,W,S⟩
 exact key _ rfl _ rfl _ rfl _ rfl
theorem ah3(d:Nat)(X:d<=64)(a3:fX 51 false d)(a4:fX 78 true d):fX 51 false (d+1):=by
 intro k H lo cs q a6 hr;cases k with
 |zero=>exact hr.elim
 |succ k=>
 obtain⟨va,ca,wa,J,rfl,h1,h2,h3,h4⟩:=hr.path;have e1:((d+1:Nat):Int)=(d:Int)+1:=oM;rw[j8 Xl rfl _ sM,okQ,lE,e1];have S:decide ((d:Int)+1=0)=false:=decide_eq_false oM;obtain⟨U,u,-,O,hS⟩:=pushF H (bC [iV q.op,.slice va q.a.length ca,.slice wa q.b.length J] 1);have a5:H.next<=U.low:=by rw[u,O7];exact lR
 have hn:=hS.next;have a1:QsR U lo k false (.slice va q.a.length ca) q.a:=h1.mono (fun j hj=>hS.get j oM) lR;have a2:QsR U lo k true (.slice wa q.b.length J) q.b:=h2.mono (fun j hj=>hS.get j oM) lR;rcases b1:decide (1<=q.op)with _|_
 .have h:decide (q.op<1)=true:=by have:=dF b1;exact decide_eq_true oM
  exact J4 u.symm O S h trivial
 have h:decide (q.op<1)=false:=by have:=dT b1;exact decide_eq_false oM
 rcases b2:decide (q.op<=7)with _|_
 .have y:decide (7<q.op)=true:=by have:=dF b2;exact decide_eq_true oM
  exact J5 u.symm O S h y trivial
 have y:decide (7<q.op)=false:=by have:=dT b2;exact decide_eq_false oM
 have E:∀(e:Env),e.get 1=iV ((d:Int)+1)->e.get 2=pT H.next->e.get 5=iV (lst false q.op)->e.get 6=iV (mst false q.op)->
   u5 prog [.tmp 4] H (LE prog O8 DM e U)=some (.bool (okN q.op 7 (lst false q.op) (mst false q.op) q.a.length q.b.length&&q.a.all (okQ d false)&&q.b.all (okQ d !false)),none):=by
  intro e f1 f2 f5 f6;refine l9 (F:=fun z=>u5 _ _ _ z=_) (BB d X a3 a4 k U lo va wa ca J q.a q.b oM a1 a2 h3 h4 H.next _ O q.op rfl rfl rfl _ _ e f1 f2 f5 f6) ?_;rintro o e' H' ⟨hH,ho,g4⟩;exact J3 ho hH g4 trivial
 by_cases o4:q.op=4
 .have D:lst false q.op=2/\mst false q.op=64:=by rw[o4];decide
  have W:decide (q.op=4)=true:=decide_eq_true o4;have I:decide (q.op=6)=false:=decide_eq_false oM;refine J7 u.symm O S h y W I ?_;exact E _ rfl rfl (by rw[D.1];rfl) (by rw[D.2];rfl)
 have W:decide (q.op=4)=false:=decide_eq_false o4;by_cases o5:q.op=5
 .have D:lst false q.op=2/\mst false q.op=64:=by rw[o5];decide
  have c5:decide (q.op=5)=true:=decide_eq_true o5;have I:decide (q.op=6)=false:=decide_eq_false oM;refine J8 u.symm O S h y W c5 I ?_;exact E _ rfl rfl (by rw[D.1];rfl) (by rw[D.2];rfl)
 have c5:decide (q.op=5)=false:=decide_eq_false o5;by_cases o6:q.op=6
 .have D:lst false q.op=1/\mst false q.op=1:=by rw[o6];decide
  have I:decide (q.op=6)=true:=decide_eq_true o6;refine J8 u.symm O S h y W c5 I ?_;exact E _ rfl rfl (by rw[D.1];rfl) (by rw[D.2];rfl)
 have I:decide (q.op=6)=false:=decide_eq_false o6;have D:lst false q.op=0/\mst false q.op=0:=by simp [lst,mst,o4,o5,o6]
 refine J8 u.symm O S h y W c5 I ?_;exact E _ rfl rfl (by rw[D.1];rfl) (by rw[D.2];rfl)
theorem ah4(d:Nat)(a3:d<=64)(a6:fX 78 true d)(a7:fX 51 false d):fX 78 true (d+1):=by
 intro k H lo cs q b4 hr;cases k with
 |zero=>exact hr.elim
 |succ k=>
 obtain⟨va,ca,wa,a1,rfl,h1,h2,h3,h4,z1,z2,z3⟩:=hr.filter;have e1:((d+1:Nat):Int)=(d:Int)+1:=oM;rw[j8 Xn rfl _ sM,okQ,lE,e1,if_pos rfl];have b0:decide ((d:Int)+1=0)=false:=decide_eq_false oM;obtain⟨I,S,-,E,hS⟩:=pushF H (bC [iV q.op,.string q.sp,.string q.lc,.string q.vl,.slice va q.a.length ca,.slice wa q.b.length a1] 1);have b3:H.next<=I.low:=by rw[S,O7];exact lR
 have hn:=hS.next;have a4:QsR I lo k true (.slice va q.a.length ca) q.a:=h1.mono (fun j hj=>hS.get j oM) lR;have a5:QsR I lo k false (.slice wa q.b.length a1) q.b:=h2.mono (fun j hj=>hS.get j oM) lR;rcases b1:decide (1<=q.op)with _|_
 .have J:decide (q.op<1)=true:=by have:=dF b1;exact decide_eq_true oM
  exact J4 S.symm E b0 J trivial
 have J:decide (q.op<1)=false:=by have:=dT b1;exact decide_eq_false oM
 rcases b2:decide (q.op<=11)with _|_
 .have X:decide (11<q.op)=true:=by have:=dF b2;exact decide_eq_true oM
  exact J5 S.symm E b0 J X trivial
 have X:decide (11<q.op)=false:=by have:=dT b2;exact decide_eq_false oM
 have O:∀(e:Env),e.get 1=iV ((d:Int)+1)->e.get 2=pT H.next->e.get 7=iV (lst true q.op)->e.get 8=iV (mst true q.op)->
   u5 prog [.tmp 4] H (LE prog O8 DN e I)=some (.bool (okN q.op 11 (lst true q.op) (mst true q.op) q.a.length q.b.length&&q.a.all (okQ d true)&&q.b.all (okQ d !true)),none):=by
  intro e W u f5 f6;refine l9 (F:=fun z=>u5 _ _ _ z=_) (BC d a3 a6 a7 k I lo va wa ca a1 q.a q.b oM a4 a5 h3 h4 H.next _ E q.op rfl rfl rfl _ _ e W u f5 f6) ?_;rintro o e' H' ⟨hH,ho,g4⟩;exact J3 ho hH g4 trivial
 have a8:∀(e:Env),e.get 1=iV ((d:Int)+1)->e.get 2=pT H.next->
   u5 prog [.tmp 4] H (LE prog O8 AI e I)=some (.bool (okN q.op 11 (lst true q.op) (mst true q.op) q.a.length q.b.length&&q.a.all (okQ d true)&&q.b.all (okQ d !true)),none):=by
  intro e W u;rw[AI];by_cases o8:q.op=8
  .have D:lst true q.op=1/\mst true q.op=1:=by rw[o8];decide
   have c8:decide (q.op=8)=true:=decide_eq_true o8;have c9:decide (q.op=9)=false:=decide_eq_false oM;have y:decide (q.op=10)=false:=decide_eq_false oM;refine J5 u E c8 c9 y ?_;exact O _ W u (by rw[D.1];rfl) (by rw[D.2];rfl)
  have c8:decide (q.op=8)=false:=decide_eq_false o8;by_cases o9:q.op=9
  .have D:lst true q.op=2/\mst true q.op=64:=by rw[o9];decide
   have c9:decide (q.op=9)=true:=decide_eq_true o9;refine J4 u E c8 c9 ?_;exact O _ W u (by rw[D.1];rfl) (by rw[D.2];rfl)
  have c9:decide (q.op=9)=false:=decide_eq_false o9;by_cases U:q.op=10
  .have D:lst true q.op=2/\mst true q.op=64:=by rw[U];decide
   have y:decide (q.op=10)=true:=decide_eq_true U;refine J5 u E c8 c9 y ?_;exact O _ W u (by rw[D.1];rfl) (by rw[D.2];rfl)
  have y:decide (q.op=10)=false:=decide_eq_false U;have D:lst true q.op=0/\mst true q.op=0:=by simp [lst,mst,o8,o9,U]
  refine J5 u E c8 c9 y ?_;exact O _ W u (by rw[D.1];rfl) (by rw[D.2];rfl)
 have a9:∀(e:Env),e.get 1=iV ((d:Int)+1)->e.get 2=pT H.next->e.get 5= .bool (xy q.op)->e.get 6= .bool (AW q.op)->
   u5 prog [.tmp 4] H (LE prog O8 AH e I)=some (.bool (iM (xy q.op) q.sp q.lc&&rq (AW q.op) q.op q.vl&&okN q.op 11 (lst true q.op) (mst true q.op) q.a.length q.b.length&&q.a.all (okQ d true)&&q.b.all (okQ d !true)),none):=by
  intro e W u f5 f6;rcases uf _ q.sp q.lc z1 z2 I H.next _ E rfl _ _ e W u f5 f6 with⟨hA,e',hE,g4⟩|⟨hA,e',hE,g1,g2,g6⟩
  .rw[hE,hA];exact J1 g4 trivial
  rw[hE,hA];rcases xY _ q.op q.vl z3 I H.next _ E rfl rfl _ e' g1 g2 g6 with⟨hB,e2,a2,k4⟩|⟨hB,e2,a2,k1,k2⟩
  .rw[a2,hB];exact J1 k4 trivial
  rw[a2,hB,a8 e2 k1 k2];simp only[Bool.true_and]
 have hN:∀a b:Bool,decide (4<=q.op)=a->decide (q.op<=6)=b->xy q.op=(a&&b):=by intro a b h h';rw[xy,h,h']
 have hV:∀a b:Bool,decide (q.op=6)=a->decide (q.op=7)=b->AW q.op=(a||b):=by intro a b h h';rw[AW,h,h']
 rcases h4:decide (4<=q.op)with _|_<;>rcases h6:decide (q.op<=6)with _|_<;>rcases k6:decide (q.op=6)with _|_<;>rcases k7:decide (q.op=7)with _|_<;>(simp(maxSteps:=20000000) -dsimp (disch:=first|omega|(simp only[rH]<;>omega)|fail) only[↓ai3,rQ,D8,sevalprocAttr,tyA,<-S,E,b0,J,X,h4,h6,k6,k7])<;>exact a9 _ rfl rfl (by rw[hN _ _ h4 h6];rfl) (by rw[hV _ _ k6 k7];rfl)
theorem Np:∀d,d<=64->fX 51 false d/\fX 78 true d:=by
 intro d;induction d with
 |zero=>
  intro _
  constructor
  .intro k H lo cs q z u;cases k with
   |zero=>exact u.elim
   |succ k=>
   obtain⟨U,D,W,y,rfl,E,I,J,O⟩:=u.path;rw[j8 Xl rfl _ sM,okQ];exact J1 @Int.natCast_zero trivial
  .intro k H lo cs q z u;cases k with
   |zero=>exact u.elim
   |succ k=>
   obtain⟨U,D,W,y,rfl,E,I,J,O,X,z2,z3⟩:=u.filter;rw[j8 Xn rfl _ sM,okQ];exact J1 @Int.natCast_zero trivial
 |succ d S=>
  intro h;obtain⟨a,b⟩:=S oM;exact⟨ah3 d oM a b,ah4 d oM b a⟩
def ey(q:Q):Bool:=decide (szQ q 64<=64)&&okQ 16 false q
theorem uz(H:d9)(lo k:Nat)(cs:LV)(q:Q)(a2:lo<=H.next)(J:QR H lo k false cs q):CL prog O8 29 [.agg cs.toArray] H=some (.bool (ey q),none):=by
 cases k with
 |zero=>exact J.elim
 |succ k=>
 have O:=J;obtain⟨S,E,U,u,rfl,h1,h2,h3,h4⟩:=J.path;obtain⟨D,y,-,X,W⟩:=pushF H (bC [iV q.op,.slice S q.a.length E,.slice U q.b.length u] 1);have a1:H.next<=D.low:=by rw[y,O7];exact lR
 have hn:=W.next;have h:ldC (some true) (some 3) 0 [iV q.op,.slice S q.a.length E,.slice U q.b.length u]=some (.agg [iV q.op,.slice S q.a.length E,.slice U q.b.length u].toArray):=rfl;have z:QR D lo (k+1) false _ q:=O.mono (fun j hj=>W.get j oM) lR;have c1:=BP D lo (k+1) _ q oM z;have c2:=(Np 16 oM).1 (k+1) D lo _ q oM z;have I:((16:Nat):Int)=16:=rfl;rw[I]at c2;rw[j8 aa8 rfl _ sM,ey];rcases b:decide (szQ q 64<=64)with _|_
 .exact J5 y.symm X h c1 b trivial
 .exact J6 y.symm X h c1 c2 b trivial
mutual
def M0:Q->Q->Bool
 | .mk o s c v a b,y=>decide (o=y.op)&&(decide (s=y.sp)&&decide (c=y.lc))&&decide (v=y.vl)&&decide (a.length=y.a.length)&&decide (b.length=y.b.length)&&L8 a y.a&&L8 b y.b
def L8:List Q->List Q->Bool
 |[],_=>true
 |x::l,m=>(match m with|[]=>true|y::m=>M0 x y&&L8 l m)
end
theorem eG(x y:Q):M0 x y=(decide (x.op=y.op)&&(decide (x.sp=y.sp)&&decide (x.lc=y.lc))&&decide (x.vl=y.vl)&&decide (x.a.length=y.a.length)&&decide (x.b.length=y.b.length)&&L8 x.a y.a&&L8 x.b y.b):=by cases x;rw[M0];rfl
theorem V5(x y:Q)(l m:List Q):L8 (x::l) (y::m)=(M0 x y&&L8 l m):=by rw[L8]
mutual
theorem iT:∀(x y:Q),M0 x y=true↔x=y
 | .mk o s c v a b,.mk o' s' c' v' a' b'=>by
  rw[eG];simp only[Bool.and_eq_true,decide_eq_true_eq];simp only[Q.op,Q.sp,Q.lc,Q.vl,Q.a,Q.b,Q.mk.injEq]
  constructor
  .rintro⟨⟨⟨⟨⟨⟨h1,h2,h3⟩,h4⟩,h5⟩,h6⟩,h7⟩,h8⟩;exact⟨h1,h2,h3,h4,(cN a a' h5).1 h7,(cN b b' h6).1 h8⟩
  .rintro⟨rfl,rfl,rfl,rfl,rfl,rfl⟩;exact⟨⟨⟨⟨⟨⟨rfl,rfl,rfl⟩,rfl⟩,rfl⟩,rfl⟩,(cN a a rfl).2 rfl⟩,(cN b b rfl).2 rfl⟩
theorem cN:∀(l m:List Q),l.length=m.length->(L8 l m=true↔l=m)
 |[],m,h=>by
  have:m=[]:=List.length_eq_zero_iff.1 (by simpa using h.symm);subst this;simp [L8]
 |x::l,[],h=>by simp at h
 |x::l,y::m,h=>by
  rw[V5,Bool.and_eq_true,List.cons.injEq,iT x y,cN l m (by simpa using h)]
end
def N7(fn:Nat)(f:Bool)(k:Nat):Prop:=∀(H:d9)(lo:Nat)(c1 c2:LV)(x y:Q),lo<=H.next->QR H lo k f c1 x->QR H lo k f c2 y->CL prog O8 fn [.agg c1.toArray,.agg c2.toArray] H=some (.bool (M0 x y),none)
theorem zf(k:Nat)(ih:N7 92 false k)(H0:d9)(lo:Nat)(va vb:Option Addr)(ca cb:Nat)(l m:List Q)(b3:l.length=m.length)(a4:lo<=H0.next)(hv:QsR H0 lo k false (.slice va l.length ca) l)(hw:QsR H0 lo k false (.slice vb m.length cb) m)(hn:l.length<=1048576)(X O:Nat)(cl cm:LV)(E:H0.get X=cE cl 1)(U:H0.get O=cE cm 1)(I:cl[1]?=some (.slice va l.length ca))(W:cm[1]?=some (.slice vb m.length cb))(r:Bool):
  ∀kk e H2,(∃i:Nat,kk=l.length-i/\i<=l.length/\e.get 2=pT X/\e.get 3=pT O/\e.get 5=iV i/\H2=H0/\L8 (l.drop i) (m.drop i)=r)->
  u9 (LE prog O8 (.loop Gv) e H2) (fun o e H2=>H2=H0/\((o= .exit 0/\e.get 2=pT X/\e.get 3=pT O/\r=true)\/(o= .ret/\e.get 4= .bool false/\r=false))):=by
 refine j7 _ _ ?_;rintro kk e H2 ⟨i,hk,hi,S,f3,f6,hH,D⟩;subst hH;rcases b:decide ((i:Int)<l.length)with _|_
 .have a2:=dF b;have:l.drop i=[]:=dN oM;rw[this,L8]at D;refine J5 S f6 E I b ?_;exact l7 ⟨rfl,.inl ⟨rfl,S,f3,D.symm⟩⟩
 have a2:=dT b;obtain⟨x,nb,o,cs,own,el,hx,hd,rfl,b4,hg,b0,u,hr⟩:=hv.row (i:=i) oM;obtain⟨y,b6,o',cs',a9,a1,b5,a3,rfl,a7,J,a6,h,a5⟩:=hw.row (i:=i) oM;have nt:(i:Int).toNat=i:=tN i;have a8:(i:Int)<m.length:=oM;rw[hd,a3,V5]at D;simp only[qSz,if_true,bF]at u hg h J;have z:=ih H2 lo el a1 x y a4 hr a5;rcases O:M0 x y with _|_
 .rw[O]at z D;refine J14 S f3 f6 E U I W b hg J nt u h z ?_;exact A6 ⟨rfl,.inr ⟨rfl,rfl,by rw[<-D];rfl⟩⟩
 .rw[O]at z D;refine J15 S f3 f6 E U I W b hg J nt u h @wrap_small z ?_;exact i6 (kk-1) oM ⟨i+1,oM,oM,S,f3,rfl,rfl,D⟩
theorem zg(k:Nat)(ih:N7 115 true k)(H0:d9)(lo:Nat)(va vb:Option Addr)(ca cb:Nat)(l m:List Q)(b3:l.length=m.length)(a4:lo<=H0.next)(hv:QsR H0 lo k true (.slice va l.length ca) l)(hw:QsR H0 lo k true (.slice vb m.length cb) m)(hn:l.length<=1048576)(X O:Nat)(cl cm:LV)(E:H0.get X=cE cl 1)(U:H0.get O=cE cm 1)(I:cl[2]?=some (.slice va l.length ca))(W:cm[2]?=some (.slice vb m.length cb))(r:Bool):
  ∀kk e H2,(∃i:Nat,kk=l.length-i/\i<=l.length/\e.get 2=pT X/\e.get 3=pT O/\e.get 6=iV i/\H2=H0/\L8 (l.drop i) (m.drop i)=r)->
  u9 (LE prog O8 (.loop Gw) e H2) (fun o e H2=>H2=H0/\((o= .exit 2/\e.get 2=pT X/\e.get 3=pT O/\r=true)\/(o= .ret/\e.get 4= .bool false/\r=false))):=by
 refine j7 _ _ ?_;rintro kk e H2 ⟨i,hk,hi,S,f3,f6,hH,D⟩;subst hH;rcases b:decide ((i:Int)<l.length)with _|_
 .have a2:=dF b;have:l.drop i=[]:=dN oM;rw[this,L8]at D;refine J5 S f6 E I b ?_;exact l7 ⟨rfl,.inl ⟨rfl,S,f3,D.symm⟩⟩
 have a2:=dT b;obtain⟨x,nb,o,cs,own,el,hx,hd,rfl,b4,hg,b0,u,hr⟩:=hv.row (i:=i) oM;obtain⟨y,b6,o',cs',a9,a1,b5,a3,rfl,a7,J,a6,h,a5⟩:=hw.row (i:=i) oM;have nt:(i:Int).toNat=i:=tN i;have a8:(i:Int)<m.length:=oM;rw[hd,a3,V5]at D;simp only[qSz,if_true,bF]at u hg h J;have z:=ih H2 lo el a1 x y a4 hr a5;rcases O:M0 x y with _|_
 .rw[O]at z D;refine J14 S f3 f6 E U I W b hg J nt u h z ?_;exact A6 ⟨rfl,.inr ⟨rfl,rfl,by rw[<-D];rfl⟩⟩
 .rw[O]at z D;refine J15 S f3 f6 E U I W b hg J nt u h @wrap_small z ?_;exact i6 (kk-1) oM ⟨i+1,oM,oM,S,f3,rfl,rfl,D⟩
theorem wd(k:Nat)(ih:N7 115 true k)(H0:d9)(lo:Nat)(va vb:Option Addr)(ca cb:Nat)(l m:List Q)(b3:l.length=m.length)(a4:lo<=H0.next)(hv:QsR H0 lo k true (.slice va l.length ca) l)(hw:QsR H0 lo k true (.slice vb m.length cb) m)(hn:l.length<=1048576)(X O:Nat)(cl cm:LV)(E:H0.get X=cE cl 1)(U:H0.get O=cE cm 1)(I:cl[4]?=some (.slice va l.length ca))(W:cm[4]?=some (.slice vb m.length cb))(r:Bool):
  ∀kk e H2,(∃i:Nat,kk=l.length-i/\i<=l.length/\e.get 2=pT X/\e.get 3=pT O/\e.get 5=iV i/\H2=H0/\L8 (l.drop i) (m.drop i)=r)->
  u9 (LE prog O8 (.loop Am) e H2) (fun o e H2=>H2=H0/\((o= .exit 0/\e.get 2=pT X/\e.get 3=pT O/\r=true)\/(o= .ret/\e.get 4= .bool false/\r=false))):=by
 refine j7 _ _ ?_;rintro kk e H2 ⟨i,hk,hi,S,f3,f6,hH,D⟩;subst hH;rcases b:decide ((i:Int)<l.length)with _|_
 .have a2:=dF b;have:l.drop i=[]:=dN oM;rw[this,L8]at D;refine J5 S f6 E I b ?_;exact l7 ⟨rfl,.inl ⟨rfl,S,f3,D.symm⟩⟩
 have a2:=dT b;obtain⟨x,nb,o,cs,own,el,hx,hd,rfl,b4,hg,b0,u,hr⟩:=hv.row (i:=i) oM;obtain⟨y,b6,o',cs',a9,a1,b5,a3,rfl,a7,J,a6,h,a5⟩:=hw.row (i:=i) oM;have nt:(i:Int).toNat=i:=tN i;have a8:(i:Int)<m.length:=oM;rw[hd,a3,V5]at D;simp only[qSz,if_true,bF]at u hg h J;have z:=ih H2 lo el a1 x y a4 hr a5;rcases O:M0 x y with _|_
 .rw[O]at z D;refine J14 S f3 f6 E U I W b hg J nt u h z ?_;exact A6 ⟨rfl,.inr ⟨rfl,rfl,by rw[<-D];rfl⟩⟩
 .rw[O]at z D;refine J15 S f3 f6 E U I W b hg J nt u h @wrap_small z ?_;exact i6 (kk-1) oM ⟨i+1,oM,oM,S,f3,rfl,rfl,D⟩
theorem wg(k:Nat)(ih:N7 92 false k)(H0:d9)(lo:Nat)(va vb:Option Addr)(ca cb:Nat)(l m:List Q)(b3:l.length=m.length)(a4:lo<=H0.next)(hv:QsR H0 lo k false (.slice va l.length ca) l)(hw:QsR H0 lo k false (.slice vb m.length cb) m)(hn:l.length<=1048576)(X O:Nat)(cl cm:LV)(E:H0.get X=cE cl 1)(U:H0.get O=cE cm 1)(I:cl[5]?=some (.slice va l.length ca))(W:cm[5]?=some (.slice vb m.length cb))(r:Bool):
  ∀kk e H2,(∃i:Nat,kk=l.length-i/\i<=l.length/\e.get 2=pT X/\e.get 3=pT O/\e.get 6=iV i/\H2=H0/\L8 (l.drop i) (m.drop i)=r)->
  u9 (LE prog O8 (.loop An) e H2) (fun o e H2=>H2=H0/\((o= .exit 2/\e.get 2=pT X/\e.get 3=pT O/\r=true)\/(o= .ret/\e.get 4= .bool false/\r=false))):=by
 refine j7 _ _ ?_;rintro kk e H2 ⟨i,hk,hi,S,f3,f6,hH,D⟩;subst hH;rcases b:decide ((i:Int)<l.length)with _|_
 .have a2:=dF b;have:l.drop i=[]:=dN oM;rw[this,L8]at D;refine J5 S f6 E I b ?_;exact l7 ⟨rfl,.inl ⟨rfl,S,f3,D.symm⟩⟩
 have a2:=dT b;obtain⟨x,nb,o,cs,own,el,hx,hd,rfl,b4,hg,b0,u,hr⟩:=hv.row (i:=i) oM;obtain⟨y,b6,o',cs',a9,a1,b5,a3,rfl,a7,J,a6,h,a5⟩:=hw.row (i:=i) oM;have nt:(i:Int).toNat=i:=tN i;have a8:(i:Int)<m.length:=oM;rw[hd,a3,V5]at D;simp only[qSz,if_true,bF]at u hg h J;have z:=ih H2 lo el a1 x y a4 hr a5;rcases O:M0 x y with _|_
 .rw[O]at z D;refine J14 S f3 f6 E U I W b hg J nt u h z ?_;exact A6 ⟨rfl,.inr ⟨rfl,rfl,by rw[<-D];rfl⟩⟩
 .rw[O]at z D;refine J15 S f3 f6 E U I W b hg J nt u h @wrap_small z ?_;exact i6 (kk-1) oM ⟨i+1,oM,oM,S,f3,rfl,rfl,D⟩
theorem NK(k:Nat)(a3:N7 92 false k)(a4:N7 115 true k):N7 92 false (k+1):=by
 intro H lo c1 c2 x y a8 hx hy;have sx:=fun h:false=false=>hx.plain h;have sy:=fun h:false=false=>hy.plain h;obtain⟨va,ca,wa,J,rfl,h1,h2,h3,h4⟩:=hx.path;obtain⟨vb,cb,wb,O,rfl,k1,k2,k3,k4⟩:=hy.path;obtain⟨I,u⟩:=eY ((d9.push ⟨H.bs,H.next⟩ (bC [iV x.op,.slice va x.a.length ca,.slice wa x.b.length J] 1)).push (bC [iV y.op,.slice vb y.a.length cb,.slice wb y.b.length O] 1));have X:i4 H.next H I:=by rw[u];exact(i4.first H _).trans (i4.push (by rw[i5];show H.next<=H.next+1;omega))
 have D:I.get H.next=cE [iV x.op,.slice va x.a.length ca,.slice wa x.b.length J] 1:=by rw[u,j6 (by rw[i5];show H.next<H.next+1;omega)];exact i7
 have E:I.get (H.next+1)=cE [iV y.op,.slice vb y.a.length cb,.slice wb y.b.length O] 1:=by rw[u];exact R2 (by rw[i5];show H.next+1<=H.next+1/\H.next+1<=H.next+1;omega)
 have a7:H.next<=I.low:=by rw[u,O7,O7];exact lR
 have hn:=X.next;have a1:=h1.mono (H':=I) (fun j hj=>X.get j oM) lR;have a2:=h2.mono (H':=I) (fun j hj=>X.get j oM) lR;have a5:=k1.mono (H':=I) (fun j hj=>X.get j oM) lR;have a6:=k2.mono (H':=I) (fun j hj=>X.get j oM) lR;rw[j8 af4 rfl _ sM,eG];rcases b1:decide (x.op=y.op)with _|_
 .exact J4 u.symm D E b1 trivial
 obtain⟨s1,s2,s3⟩:=sx rfl;obtain⟨u1,u2,u3⟩:=sy rfl;have b2:(decide (x.sp=y.sp)&&decide (x.lc=y.lc))=true:=by rw[s1,s2,u1,u2];rfl
 have b3:decide (x.vl=y.vl)=true:=by rw[s3,u3];rfl
 rw[b2,b3];have el:decide ((x.a.length:Int)=y.a.length)=decide (x.a.length=y.a.length):=decide_eq_decide.2 oM;rcases b4:decide (x.a.length=y.a.length)with _|_
 .exact J6 u.symm D E b1 el b4 trivial
 have W:decide ((x.b.length:Int)=y.b.length)=decide (x.b.length=y.b.length):=decide_eq_decide.2 oM;rcases b5:decide (x.b.length=y.b.length)with _|_
 .exact J8 u.symm D E b1 el b4 W b5 trivial
 refine J8 u.symm D E b1 el b4 W b5 ?_;refine l9 (F:=fun z=>u5 _ _ _ (u7 (inBlock 0 z) _)=_) (zf k a3 I lo va vb ca cb x.a y.a (dT b4) oM a1 a5 h3 H.next (H.next+1) _ _ D E rfl rfl (L8 x.a y.a) x.a.length _ _ ⟨0,rfl,oM,rfl,rfl,rfl,rfl,rfl⟩) ?_;rintro o e' H' ⟨rfl,⟨S,g2,g3,U⟩|⟨S,g4,U⟩⟩
 .refine J2 S U ?_;refine l9 (F:=fun z=>u5 _ _ _ (u7 (inBlock 2 z) _)=_) (zg k a4 H' lo wa wb J O x.b y.b (dT b5) oM a2 a6 h4 H.next (H.next+1) _ _ D E rfl rfl (L8 x.b y.b) x.b.length _ _ ⟨0,rfl,oM,g2,g3,rfl,rfl,rfl⟩) ?_;rintro o e' H2 ⟨rfl,⟨S,g2,g3,U⟩|⟨S,g4,U⟩⟩
  .exact J2 S U trivial
  .exact J3 S g4 U trivial
 .exact J3 S g4 U trivial
theorem Fb(k:Nat)(a4:N7 115 true k)(a5:N7 92 false k):N7 115 true (k+1):=by
 intro H lo c1 c2 x y a9 hx hy;have sx:=fun h:true=false=>hx.plain h;have sy:=fun h:true=false=>hy.plain h;obtain⟨va,ca,wa,J,rfl,h1,h2,h3,h4,_⟩:=hx.filter;obtain⟨vb,cb,wb,O,rfl,k1,k2,k3,k4,_⟩:=hy.filter;obtain⟨I,u⟩:=eY ((d9.push ⟨H.bs,H.next⟩ (bC [iV x.op,.string x.sp,.string x.lc,.string x.vl,.slice va x.a.length ca,.slice wa x.b.length J] 1)).push (bC [iV y.op,.string y.sp,.string y.lc,.string y.vl,.slice vb y.a.length cb,.slice wb y.b.length O] 1));have hS:i4 H.next H I:=by rw[u];exact(i4.first H _).trans (i4.push (by rw[i5];show H.next<=H.next+1;omega))
 have D:I.get H.next=cE [iV x.op,.string x.sp,.string x.lc,.string x.vl,.slice va x.a.length ca,.slice wa x.b.length J] 1:=by rw[u,j6 (by rw[i5];show H.next<H.next+1;omega)];exact i7
 have E:I.get (H.next+1)=cE [iV y.op,.string y.sp,.string y.lc,.string y.vl,.slice vb y.a.length cb,.slice wb y.b.length O] 1:=by rw[u];exact R2 (by rw[i5];show H.next+1<=H.next+1/\H.next+1<=H.next+1;omega)
 have a8:H.next<=I.low:=by rw[u,O7,O7];exact lR
 have hn:=hS.next;have a2:=h1.mono (H':=I) (fun j hj=>hS.get j oM) lR;have a3:=h2.mono (H':=I) (fun j hj=>hS.get j oM) lR;have a6:=k1.mono (H':=I) (fun j hj=>hS.get j oM) lR;have a7:=k2.mono (H':=I) (fun j hj=>hS.get j oM) lR;rw[j8 WF rfl _ sM,eG];rcases W:decide (x.op=y.op)with _|_
 .exact J4 u.symm D E W trivial
 rcases X:(decide (x.sp=y.sp)&&decide (x.lc=y.lc))with _|_
 .exact J5 u.symm D E W X trivial
 rcases b3:decide (x.vl=y.vl)with _|_
 .exact J6 u.symm D E W X b3 trivial
 have el:decide ((x.a.length:Int)=y.a.length)=decide (x.a.length=y.a.length):=decide_eq_decide.2 oM;rcases b4:decide (x.a.length=y.a.length)with _|_
 .exact J8 u.symm D E W X b3 el b4 trivial
 have a1:decide ((x.b.length:Int)=y.b.length)=decide (x.b.length=y.b.length):=decide_eq_decide.2 oM;rcases b5:decide (x.b.length=y.b.length)with _|_
 .exact J10 u.symm D E W X b3 el b4 a1 b5 trivial
 refine J10 u.symm D E W X b3 el b4 a1 b5 ?_;refine l9 (F:=fun z=>u5 _ _ _ (u7 (inBlock 0 z) _)=_) (wd k a4 I lo va vb ca cb x.a y.a (dT b4) oM a2 a6 h3 H.next (H.next+1) _ _ D E rfl rfl (L8 x.a y.a) x.a.length _ _ ⟨0,rfl,oM,rfl,rfl,rfl,rfl,rfl⟩) ?_;rintro o e' H' ⟨rfl,⟨S,g2,g3,U⟩|⟨S,g4,U⟩⟩
 .refine J2 S U ?_;refine l9 (F:=fun z=>u5 _ _ _ (u7 (inBlock 2 z) _)=_) (wg k a5 H' lo wa wb J O x.b y.b (dT b5) oM a3 a7 h4 H.next (H.next+1) _ _ D E rfl rfl (L8 x.b y.b) x.b.length _ _ ⟨0,rfl,oM,g2,g3,rfl,rfl,rfl⟩) ?_;rintro o e' H2 ⟨rfl,⟨S,g2,g3,U⟩|⟨S,g4,U⟩⟩
  .exact J2 S U trivial
  .exact J3 S g4 U trivial
 .exact J3 S g4 U trivial
theorem BZ:∀k,N7 92 false k/\N7 115 true k:=by
 intro k;induction k with
 |zero=>exact⟨fun H lo c1 c2 x y u z D=>z.elim,fun H lo c1 c2 x y u z D=>z.elim⟩
 |succ k h=>exact⟨NK k h.1 h.2,Fb k h.2 h.1⟩
end Go.Proofs.YtofbhlhamfkljaaGreatDoor.Ve
namespace Go.Proofs.YtofbhlhamfkljaaGreatDoor.Ve
open Go Go.RowKit
def t7(H:d9)(lo sz:Nat){α:Type}(R:LV->α->Prop)(w:Value)(l:List α):Prop:=∃cs,aP H lo sz w l.length cs/\D2 sz R cs l
section
variable{α:Type}{R R':List Value->α->Prop}{H H':d9}{lo lo' sz:Nat}{w:Value}{l l2:List α}
theorem D2.nil:D2 sz R [] ([]:List α):=⟨by simp,fun i a h=>by simp at h⟩
theorem D2.one{cs:LV}{a:α}(h:cs.length=sz)(y:R cs a):D2 sz R cs [a]:=by
 refine⟨by simp [h],fun i b u=>?_⟩;cases i with
 |zero=>
  have:a=b:=by simpa using u
  subst this;rw[Nat.zero_mul,List.drop_zero,<-h,List.take_length];exact y
 |succ i=>simp at u
theorem t7.nil:t7 H lo sz R (.slice none 0 0) ([]:List α):=⟨[],.inl ⟨rfl,rfl,rfl⟩,D2.nil⟩
theorem t7.slice(h:t7 H lo sz R w l):∃a c,w= .slice a l.length c:=by obtain⟨cs,u,y⟩:=h;exact u.slice
theorem t7.mono(h:t7 H lo sz R w l)(D:lo'<=lo)(z:∀j,j<H.next->H'.get j=H.get j):t7 H' lo' sz R w l:=by obtain⟨cs,u,y⟩:=h;exact⟨cs,u.mono D z,y⟩
theorem t7.keep(h:t7 H lo sz R w l)(u:i4 H.next H H'):t7 H' lo sz R w l:=h.mono lR fun j y=>u.get j y
theorem t7.weaken(h:t7 H lo sz R w l)(u:lo'<=lo):t7 H lo' sz R w l:=h.mono u fun _ _=>rfl
theorem t7.imp(h:t7 H lo sz R w l)(z:∀cs a,R cs a->R' cs a):t7 H lo sz R' w l:=by obtain⟨cs,u,y⟩:=h;exact⟨cs,u,y.mono z⟩
theorem t7.low(h:t7 H lo sz R w l)(n:Nat):t7 ⟨H.bs,n⟩ lo sz R w l:=h.mono lR fun _ _=>rfl
theorem t7.sl(h:t7 H lo sz R w l):SlI H H.next sz R w l:=by obtain⟨cs,u,y⟩:=h;exact u.sl y
theorem t7.na(h:t7 H lo sz R w l)(z:L0 w=true)(H0:d9)(y:Nat):t7 H0 y sz R w l:=by
 obtain⟨cs,u,D⟩:=h;rcases u with u|⟨b,c,E,_⟩
 .exact⟨cs,.inl u,D⟩
 .rw[E]at z;cases z
theorem t7.fresh{cs:LV}{n c:Nat}(y:n=l.length)(h:lo<=H.next)(u:D2 sz R cs l):t7 (H.push (.cells cs true sz)) lo sz R (.slice (some ⟨H.next,0,none⟩) n c) l:=by
 subst y;exact⟨cs,.inr ⟨H.next,c,rfl,i7,h,u.1⟩,u⟩
theorem t7.at_(h:t7 H lo sz R w l){i:Nat}{a:α}(y:l[i]?=some a):∃b c cs,w= .slice (some ⟨b,0,none⟩) l.length c/\lo<=b/\b<H.next/\H.get b=some (.cells cs true sz)/\i*sz+sz<=cs.length/\R ((cs.drop (i*sz)).take sz) a:=by
 obtain⟨cs,z,D⟩:=h;have J:i<l.length:=(gS y).1;rcases z with⟨_,O,_⟩|⟨b,c,E,u,I,S⟩
 .omega
 .refine⟨b,c,cs,E,I,u6 u,u,?_,D.2 i a y⟩;have:(i+1)*sz<=l.length*sz:=Nat.mul_le_mul_right _ J;rw[Nat.add_mul]at this;omega
theorem SlI.rows{v:Value}{n:Nat}(h:SlI H n sz R v l):∃a c el,v= .slice a l.length c/\dl H sz (.slice a l.length c)=some el/\D2 sz R el l:=by
 obtain⟨a,c,rfl⟩:=h.slice;obtain⟨el,u,y⟩:=h.cells;exact⟨a,c,el,rfl,u,y⟩
theorem t7.append{P:Program}{t e:TypeId}{bytes n:Nat}{z:LV}{x:Value}(U:P.underlying t=some (.slice e))(hs:z9 P e=some sz)(O:A7 P e=some bytes)(X:B8 P e=some z)(I:0<sz)(J:0<bytes)
  (h:t7 H lo sz R w l) (W:SlI H n sz R x l2) (S:(l.length+l2.length)*bytes<=140737488355328) (u:lo<=H.next):
  Ret (fb P H [t,t] w x) H fun v' H'=>t7 H' lo sz R v' (l++l2)/\i4 lo H H':=by
 obtain⟨cs,k1,k2⟩:=h;obtain⟨a,c,el,rfl,q1,y⟩:=W.rows;obtain⟨v',E,D,r1,r2,r3,r4⟩:=pW (m:=l2.length) U hs O X I J k1 q1 y.1 S u;exact⟨v',E,D,r1,r2,⟨cs++el,by rw[List.length_append];exact r3,k2.append y⟩,r4⟩
end
def N5(x:Option (Value×Option d9))(H:d9)(sz:Nat){α:Type}(R:LV->α->Prop)(l:List α):Prop:=Ret x H fun w H1=>t7 H1 H.next sz R w l/\i4 H.next H H1
theorem I4{H H':d9}{sz:Nat}{α:Type}{R:LV->α->Prop}{w:Value}{l:List α}(h:t7 H' H.next sz R w l)(y:i4 H.next H H')(z:H.next<=H'.low):N5 (some (D4 w H H')) H sz R l:=
 D7 (fun u _=>⟨h.na u _ _,i4.refl _ _⟩) ⟨h.low _,y.ret z⟩
theorem N5.imp{x:Option (Value×Option d9)}{H:d9}{sz:Nat}{α:Type}{R R':LV->α->Prop}{l:List α}(h:N5 x H sz R l)(J:∀cs a,R cs a->R' cs a):N5 x H sz R' l:=by
 obtain⟨v,y,u,z,D,E,I⟩:=h;exact⟨v,y,u,z,D,E.imp J,I⟩
theorem vm(h:List D1)(a b:Bool)(xs u:LV):A0 (.bool::h) (.bool a::xs) (.bool b::u)=(A0 h xs u).map ((a==b)&& ·):=by
 simp only[A0,M6];cases A0 h xs u<;>rfl
theorem aq5(h:List D1)(k:IntKind)(a b:Int)(xs u:LV):A0 (.int::h) (.int k a::xs) (.int k b::u)=(A0 h xs u).map (decide (a=b)&& ·):=by
 have e:(a==b)=decide (a=b):=rfl;simp only[A0,M6,if_true,e];cases A0 h xs u<;>rfl
abbrev R1{α:Type}(enc:α->LV):LV->α->Prop:=fun cs a=>cs=enc a
abbrev nmE(x:ByteArray×ByteArray):LV:=[.string x.1,.string x.2]
abbrev stE(s:ByteArray):LV:=[.string s]
abbrev soE(x:Bool×Bool×ByteArray):LV:=[.bool x.1,.bool x.2.1,.string x.2.2]
abbrev inE(n:Int):LV:=[.int .i64 n]
abbrev boE(b:Bool):LV:=[.bool b]
abbrev hoE(x:Int×Int×Int):LV:=[.int .i64 x.1,.int .i64 x.2.1,.int .i64 x.2.2]
abbrev edE(x:Int×Int×Int×Int):LV:=[.int .i64 x.1,.int .i64 x.2.1,.int .i64 x.2.2.1,.int .i64 x.2.2.2]
def ixG{α:Type}(p:α->Bool):List α->Nat->Int
 |[],_=> -1
 |a::l,i=>if p a then(i:Int) else ixG p l (i+1)
theorem eW{α:Type}(p:α->Bool):∀(l:List α)(i:Nat),(l.any p=false/\ixG p l i= -1)\/(l.any p=true/\(i:Int)<=ixG p l i/\ixG p l i<i+l.length)
 |[],i=> .inl ⟨rfl,rfl⟩
 |a::l,i=>by
  rw[ixG,List.any_cons,List.length_cons];cases h:p a with
  |true=>exact .inr ⟨rfl,by rw[if_pos rfl];omega,by rw[if_pos rfl];omega⟩
  |false=>
   rw[if_neg Bool.false_ne_true];rcases eW p l (i+1)with⟨u,y⟩|⟨u,y,z⟩
   .exact .inl ⟨by rw[u];rfl,y⟩
   .exact .inr ⟨by rw[u];rfl,oM,oM⟩
theorem eU{α:Type}(p:α->Bool)(l:List α):decide (0<=ixG p l 0)=l.any p:=by
 rcases eW p l 0 with⟨h,u⟩|⟨h,u,y⟩
 .rw[h,u];rfl
 .rw[h];exact decide_eq_true oM
theorem S4{α:Type}{l:List α}{i:Nat}(h:i<l.length):∃a,l[i]?=some a/\l.drop i=a::l.drop (i+1):=
 ⟨l[i],List.getElem?_eq_getElem h,List.drop_eq_getElem_cons h⟩
theorem SlI.row{H:d9}{lo sz:Nat}{α:Type}{R:LV->α->Prop}{y:Option Addr}{n z:Nat}{l:List α}(h:SlI H lo sz R (.slice y n z) l){i:Nat}(O:i<l.length):
  ∃x b o cs own el,l[i]?=some x/\l.drop i=x::l.drop (i+1)/\y=some ⟨b,o,none⟩/\b<lo/\H.get b=some (.cells cs own sz)/\o+i*sz+sz<=cs.length/\ldC (some true) (some sz) (o+i*sz) cs=some (.agg el.toArray)/\(∀k,k<sz->cs[o+i*sz+k]?=el[k]?)/\R el x:=by
 obtain⟨x,D,I⟩:=S4 (l:=l) (i:=i) O;obtain⟨b,o,c,cs,own,W,E,J,u,U⟩:=h.at_ D;obtain⟨rfl,rfl,rfl⟩:y=some ⟨b,o,none⟩/\n=l.length/\z=c:=by simpa using W
 exact⟨x,b,o,cs,own,_,D,I,rfl,E,J,u,pE u rfl,fun k S=>lP S rfl,U⟩
theorem vQ{cs el:LV}{a sz j m:Nat}(h:∀k,k<sz->cs[a+k]?=el[k]?) (u:a+sz<=cs.length) (y:j+m<=sz):ldC (some true) (some m) (a+j) cs=some (.agg ((el.drop j).take m).toArray):=by
 rw[aA1 _ _ _ oM]
 congr 3
 refine List.ext_getElem? fun i=>?_;rw[List.getElem?_take,List.getElem?_take];split
 .rw[List.getElem?_drop,List.getElem?_drop,Nat.add_assoc,h _ oM]
 .rfl
theorem t7.push1{P:Program}{t e:TypeId}{bytes sz lo:Nat}{z:LV}{α:Type}{R:LV->α->Prop}{H:d9}{w:Value}{l:List α}(X:P.underlying t=some (.slice e))(hs:z9 P e=some sz)(U:A7 P e=some bytes)(hz:B8 P e=some z)(I:0<sz)(J:0<bytes)
  (h:t7 H lo sz R w l) {cs:LV} {a:α} (u:cs.length=sz) (S:R cs a) (W:(l.length+1)*bytes<=140737488355328) (y:lo<=H.next):
  Ret (fb P (H.push (.cells cs true sz)) [t,t] w (.slice (some ⟨H.next,0,none⟩) 1 1)) (H.push (.cells cs true sz)) fun v' H'=>t7 H' lo sz R v' (l++[a])/\i4 lo H H':=by
 have O:=t7.fresh (H:=H) (lo:=H.next) (l:=[a]) (n:=1) (c:=1) rfl lR (D2.one u S);have hn:(H.push (.cells cs true sz)).next=H.next+1:=i5;have D:i4 H.next H (H.push (.cells cs true sz)):=i4.push lR;obtain⟨v',E,H',r1,r2,r3,r4⟩:=(h.keep D).append X hs U hz I J O.sl (by simpa using W) oM;exact⟨v',E,H',r1,r2,r3,(D.weaken y).trans r4⟩
end Go.Proofs.YtofbhlhamfkljaaGreatDoor.Ve
namespace Go.Proofs.YtofbhlhamfkljaaGreatDoor.Ve
open Go Go.RowKit
open Go.Proofs.Tryz (prog)
theorem QR.up{H:d9}{lo:Nat}:∀{k:Nat}{f:Bool}{cs:LV}{q:Q},QR H lo k f cs q->QR H lo (k+1) f cs q:=by
 intro k;induction k with
 |zero=>intro f cs q h;exact h.elim
 |succ k u=>
  intro f cs q h;obtain⟨v,w,y,z,D,E⟩:=h;exact⟨v,w,y,SlI.mono z (fun _ _=>rfl) lR (fun _ _ h=>u h),SlI.mono D (fun _ _=>rfl) lR (fun _ _ h=>u h),E⟩
mutual
def fsQ:Bool->Q->List Q
 |f,.mk o s c v a b=>(if f then [.mk o s c v a b] else [])++(fsL f a++fsL (!f) b)
def fsL:Bool->List Q->List Q
 |_,[]=>[]
 |f,x::l=>fsQ f x++fsL f l
end
theorem kE(f:Bool)(q:Q):fsQ f q=(if f then [q] else [])++(fsL f q.a++fsL (!f) q.b):=by cases q;rw[fsQ];rfl
theorem fH(f:Bool):∀l,fsL f l=l.flatMap (fsQ f)
 |[]=>by rw[fsL];rfl
 |x::l=>by rw[fsL,fH f l,List.flatMap_cons]
mutual
def inQ:Bool->Q->List Q
 |f,.mk o s c v a b=>inL f a++(if f then(if o=11 then inL false b++b else []) else inL true b)
def inL:Bool->List Q->List Q
 |_,[]=>[]
 |f,x::l=>inQ f x++inL f l
end
theorem kN(q:Q):inQ false q=inL false q.a++inL true q.b:=by cases q;rw[inQ];rfl
theorem fI(q:Q):inQ true q=inL true q.a++(if q.op=11 then inL false q.b++q.b else []):=by cases q;rw[inQ];rfl
theorem al1(f:Bool):∀l,inL f l=l.flatMap (inQ f)
 |[]=>by rw[inL];rfl
 |x::l=>by rw[inL,al1 f l,List.flatMap_cons]
def OkD(f:Bool)(q:Q):Prop:=∃d,okQ d f q=true
theorem OkD.parts{f:Bool}{q:Q}(h:OkD f q):(∀x∈q.a,OkD f x)/\(∀x∈q.b,OkD (!f) x)/\1<=q.op/\lE f q=true/\okN q.op (if f then 11 else 7) (lst f q.op) (mst f q.op) q.a.length q.b.length=true:=by
 obtain⟨d,h⟩:=h;cases d with
 |zero=>cases h
 |succ d=>
  rw[okQ]at h;simp only[Bool.and_eq_true,decide_eq_true_eq,List.all_eq_true]at h;obtain⟨⟨⟨⟨y,z⟩,D⟩,E⟩,I⟩:=h;exact⟨fun x u=>⟨d,E x u⟩,fun x u=>⟨d,I x u⟩,y,z,D⟩
theorem dk{op s u y:Int}{z D:Nat}(h:okN op s u y z D=true):u<=z/\(z:Int)<=y/\(op=s↔D=1)/\D<=1:=by
 simp only[okN,Bool.and_eq_true,decide_eq_true_eq,beq_iff_eq]at h;obtain⟨⟨⟨E,I⟩,J⟩,O⟩:=h;exact⟨E,I,by simpa using J,O⟩
def Q9(fn:Nat)(f:Bool)(sz:Nat)(rf:Bool)(F:Q->List Q)(k:Nat):Prop:=∀(H:d9)(lo:Nat)(cs:LV)(q:Q),lo<=H.next->QR H lo k f cs q->(F q).length<=1000000->OkD f q->N5 (CL prog O8 fn [.agg cs.toArray] H) H sz (QR H lo k rf) (F q)
theorem MD(F:Q->List Q)(k:Nat)(ih:Q9 86 false 6 true F k)(z:d9)(lo y:Nat)(b1:lo<=y)(a9:y<z.next)(va:Option Addr)(ca:Nat)(l:List Q)(hv:QsR z lo k false (.slice va l.length ca) l)(hn:l.length<=1048576)(X:LV)(hb:z.get y=cE X 1)(hc:X[1]?=some (.slice va l.length ca))(r:List Q)(hr:r.length<=1000000)(hw:∀x∈l,OkD false x):
  ∀kk e H2,(∃(i:Nat)(u:List Q)(w:Value),kk=l.length-i/\i<=l.length/\e.get 1=pT y/\e.get 3=w/\e.get 4=iV i/\t7 H2 (y+1) 6 (QR z lo (k+1) true) w u/\i4 (y+1) z H2/\u++(l.drop i).flatMap F=r)->
  u9 (LE prog O8 (.loop Gm) e H2) (fun o e H2=>o= .exit 0/\e.get 1=pT y/\∃w,e.get 3=w/\t7 H2 (y+1) 6 (QR z lo (k+1) true) w r/\i4 (y+1) z H2):=by
 refine j7 _ _ ?_;rintro kk e H2 ⟨i,u,w,hk,hi,W,f3,f6,hO,E,J⟩;have S:H2.get y=cE X 1:=by rw[E.get y oM];exact hb
 have b3:=E.next;rcases b:decide ((i:Int)<l.length)with _|_
 .have a4:=dF b;have:l.drop i=[]:=dN oM;rw[this,List.flatMap_nil,List.append_nil]at J;refine J5 W f6 S hc b ?_;exact l7 ⟨rfl,W,w,f3,by rw[<-J];exact hO,E⟩
 have a4:=dT b;obtain⟨x,nb,o,cs,own,el,hx,hd,rfl,b2,hg,b0,D,hR⟩:=hv.row (i:=i) oM;have nt:(i:Int).toNat=i:=tN i;simp only[qSz,if_true,bF]at D hg;have a6:=(E.get nb oM).trans hg;rw[hd,List.flatMap_cons,<-List.append_assoc]at J;have a8:u.length+(F x).length<=1000000:=by
  have:r.length=u.length+(F x).length+((l.drop (i+1)).flatMap F).length:=by rw[<-J,List.length_append,List.length_append]
  omega
 obtain⟨v,h,H3,a5,a7,a1,I⟩:=ih H2 lo el x oM (hR.mono (fun j hj=>E.get j oM) lR) oM (hw x (mG hx));have O:t7 H3 H2.next 6 (QR z lo (k+1) true) v (F x):=a1.imp fun cs q h=>(h.mono (fun j hj=>(E.get j oM).symm) lR).up;have b4:=I.next;obtain⟨v',h',H4,ha,U,a2,a3⟩:=(hO.keep I).append (P:=prog) (t:=23) (n:=H3.next) (by exact pI.2.2.2.2.2.2) aW.1 aW.2.1 aW.2.2.1 oM oM O.sl oM oM;refine J14 W f3 f6 S hc b a6 nt D @wrap_small a5 a7 ha U ?_;refine i6 (kk-1) oM ⟨i+1,u++F x,v',oM,oM,W,rfl,rfl,a2,(E.trans (I.weaken oM)).trans a3,J⟩
theorem ME(F:Q->List Q)(k:Nat)(ih:Q9 112 true 6 true F k)(z:d9)(lo y:Nat)(b1:lo<=y)(a9:y<z.next)(va:Option Addr)(ca:Nat)(l:List Q)(hv:QsR z lo k true (.slice va l.length ca) l)(hn:l.length<=1048576)(X:LV)(hb:z.get y=cE X 1)(hc:X[2]?=some (.slice va l.length ca))(r:List Q)(hr:r.length<=1000000)(hw:∀x∈l,OkD true x):
  ∀kk e H2,(∃(i:Nat)(u:List Q)(w:Value),kk=l.length-i/\i<=l.length/\e.get 1=pT y/\e.get 3=w/\e.get 5=iV i/\t7 H2 (y+1) 6 (QR z lo (k+1) true) w u/\i4 (y+1) z H2/\u++(l.drop i).flatMap F=r)->
  u9 (LE prog O8 (.loop Gn) e H2) (fun o e H2=>o= .exit 2/\e.get 1=pT y/\∃w,e.get 3=w/\t7 H2 (y+1) 6 (QR z lo (k+1) true) w r/\i4 (y+1) z H2):=by
 refine j7 _ _ ?_;rintro kk e H2 ⟨i,u,w,hk,hi,W,f3,f6,hO,E,J⟩;have S:H2.get y=cE X 1:=by rw[E.get y oM];exact hb
 have b3:=E.next;rcases b:decide ((i:Int)<l.length)with _|_
 .have a4:=dF b;have:l.drop i=[]:=dN oM;rw[this,List.flatMap_nil,List.append_nil]at J;refine J5 W f6 S hc b ?_;exact l7 ⟨rfl,W,w,f3,by rw[<-J];exact hO,E⟩
 have a4:=dT b;obtain⟨x,nb,o,cs,own,el,hx,hd,rfl,b2,hg,b0,D,hR⟩:=hv.row (i:=i) oM;have nt:(i:Int).toNat=i:=tN i;simp only[qSz,if_true,bF]at D hg;have a6:=(E.get nb oM).trans hg;rw[hd,List.flatMap_cons,<-List.append_assoc]at J;have a8:u.length+(F x).length<=1000000:=by
  have:r.length=u.length+(F x).length+((l.drop (i+1)).flatMap F).length:=by rw[<-J,List.length_append,List.length_append]
  omega
 obtain⟨v,h,H3,a5,a7,a1,I⟩:=ih H2 lo el x oM (hR.mono (fun j hj=>E.get j oM) lR) oM (hw x (mG hx));have O:t7 H3 H2.next 6 (QR z lo (k+1) true) v (F x):=a1.imp fun cs q h=>(h.mono (fun j hj=>(E.get j oM).symm) lR).up;have b4:=I.next;obtain⟨v',h',H4,ha,U,a2,a3⟩:=(hO.keep I).append (P:=prog) (t:=23) (n:=H3.next) (by exact pI.2.2.2.2.2.2) aW.1 aW.2.1 aW.2.2.1 oM oM O.sl oM oM;refine J14 W f3 f6 S hc b a6 nt D @wrap_small a5 a7 ha U ?_;refine i6 (kk-1) oM ⟨i+1,u++F x,v',oM,oM,W,rfl,rfl,a2,(E.trans (I.weaken oM)).trans a3,J⟩
theorem DS(F:Q->List Q)(k:Nat)(ih:Q9 112 true 6 true F k)(z:d9)(lo y:Nat)(b1:lo<=y)(a9:y<z.next)(va:Option Addr)(ca:Nat)(l:List Q)(hv:QsR z lo k true (.slice va l.length ca) l)(hn:l.length<=1048576)(X:LV)(hb:z.get y=cE X 1)(hc:X[4]?=some (.slice va l.length ca))(r:List Q)(hr:r.length<=1000000)(hw:∀x∈l,OkD true x):
  ∀kk e H2,(∃(i:Nat)(u:List Q)(w:Value),kk=l.length-i/\i<=l.length/\e.get 1=pT y/\e.get 3=w/\e.get 4=iV i/\t7 H2 (y+1) 6 (QR z lo (k+1) true) w u/\i4 (y+1) z H2/\u++(l.drop i).flatMap F=r)->
  u9 (LE prog O8 (.loop Aj) e H2) (fun o e H2=>o= .exit 0/\e.get 1=pT y/\∃w,e.get 3=w/\t7 H2 (y+1) 6 (QR z lo (k+1) true) w r/\i4 (y+1) z H2):=by
 refine j7 _ _ ?_;rintro kk e H2 ⟨i,u,w,hk,hi,W,f3,f6,hO,E,J⟩;have S:H2.get y=cE X 1:=by rw[E.get y oM];exact hb
 have b3:=E.next;rcases b:decide ((i:Int)<l.length)with _|_
 .have a4:=dF b;have:l.drop i=[]:=dN oM;rw[this,List.flatMap_nil,List.append_nil]at J;refine J5 W f6 S hc b ?_;exact l7 ⟨rfl,W,w,f3,by rw[<-J];exact hO,E⟩
 have a4:=dT b;obtain⟨x,nb,o,cs,own,el,hx,hd,rfl,b2,hg,b0,D,hR⟩:=hv.row (i:=i) oM;have nt:(i:Int).toNat=i:=tN i;simp only[qSz,if_true,bF]at D hg;have a6:=(E.get nb oM).trans hg;rw[hd,List.flatMap_cons,<-List.append_assoc]at J;have a8:u.length+(F x).length<=1000000:=by
  have:r.length=u.length+(F x).length+((l.drop (i+1)).flatMap F).length:=by rw[<-J,List.length_append,List.length_append]
  omega
 obtain⟨v,h,H3,a5,a7,a1,I⟩:=ih H2 lo el x oM (hR.mono (fun j hj=>E.get j oM) lR) oM (hw x (mG hx));have O:t7 H3 H2.next 6 (QR z lo (k+1) true) v (F x):=a1.imp fun cs q h=>(h.mono (fun j hj=>(E.get j oM).symm) lR).up;have b4:=I.next;obtain⟨v',h',H4,ha,U,a2,a3⟩:=(hO.keep I).append (P:=prog) (t:=23) (n:=H3.next) (by exact pI.2.2.2.2.2.2) aW.1 aW.2.1 aW.2.2.1 oM oM O.sl oM oM;refine J14 W f3 f6 S hc b a6 nt D @wrap_small a5 a7 ha U ?_;refine i6 (kk-1) oM ⟨i+1,u++F x,v',oM,oM,W,rfl,rfl,a2,(E.trans (I.weaken oM)).trans a3,J⟩
theorem DT(F:Q->List Q)(k:Nat)(ih:Q9 86 false 6 true F k)(z:d9)(lo y:Nat)(b1:lo<=y)(a9:y<z.next)(va:Option Addr)(ca:Nat)(l:List Q)(hv:QsR z lo k false (.slice va l.length ca) l)(hn:l.length<=1048576)(X:LV)(hb:z.get y=cE X 1)(hc:X[5]?=some (.slice va l.length ca))(r:List Q)(hr:r.length<=1000000)(hw:∀x∈l,OkD false x):
  ∀kk e H2,(∃(i:Nat)(u:List Q)(w:Value),kk=l.length-i/\i<=l.length/\e.get 1=pT y/\e.get 3=w/\e.get 5=iV i/\t7 H2 (y+1) 6 (QR z lo (k+1) true) w u/\i4 (y+1) z H2/\u++(l.drop i).flatMap F=r)->
  u9 (LE prog O8 (.loop Ak) e H2) (fun o e H2=>o= .exit 2/\e.get 1=pT y/\∃w,e.get 3=w/\t7 H2 (y+1) 6 (QR z lo (k+1) true) w r/\i4 (y+1) z H2):=by
 refine j7 _ _ ?_;rintro kk e H2 ⟨i,u,w,hk,hi,W,f3,f6,hO,E,J⟩;have S:H2.get y=cE X 1:=by rw[E.get y oM];exact hb
 have b3:=E.next;rcases b:decide ((i:Int)<l.length)with _|_
 .have a4:=dF b;have:l.drop i=[]:=dN oM;rw[this,List.flatMap_nil,List.append_nil]at J;refine J5 W f6 S hc b ?_;exact l7 ⟨rfl,W,w,f3,by rw[<-J];exact hO,E⟩
 have a4:=dT b;obtain⟨x,nb,o,cs,own,el,hx,hd,rfl,b2,hg,b0,D,hR⟩:=hv.row (i:=i) oM;have nt:(i:Int).toNat=i:=tN i;simp only[qSz,if_true,bF]at D hg;have a6:=(E.get nb oM).trans hg;rw[hd,List.flatMap_cons,<-List.append_assoc]at J;have a8:u.length+(F x).length<=1000000:=by
  have:r.length=u.length+(F x).length+((l.drop (i+1)).flatMap F).length:=by rw[<-J,List.length_append,List.length_append]
  omega
 obtain⟨v,h,H3,a5,a7,a1,I⟩:=ih H2 lo el x oM (hR.mono (fun j hj=>E.get j oM) lR) oM (hw x (mG hx));have O:t7 H3 H2.next 6 (QR z lo (k+1) true) v (F x):=a1.imp fun cs q h=>(h.mono (fun j hj=>(E.get j oM).symm) lR).up;have b4:=I.next;obtain⟨v',h',H4,ha,U,a2,a3⟩:=(hO.keep I).append (P:=prog) (t:=23) (n:=H3.next) (by exact pI.2.2.2.2.2.2) aW.1 aW.2.1 aW.2.2.1 oM oM O.sl oM oM;refine J14 W f3 f6 S hc b a6 nt D @wrap_small a5 a7 ha U ?_;refine i6 (kk-1) oM ⟨i+1,u++F x,v',oM,oM,W,rfl,rfl,a2,(E.trans (I.weaken oM)).trans a3,J⟩
theorem MB(F:Q->List Q)(k:Nat)(ih:Q9 68 false 3 false F k)(z:d9)(lo y:Nat)(b1:lo<=y)(a9:y<z.next)(va:Option Addr)(ca:Nat)(l:List Q)(hv:QsR z lo k false (.slice va l.length ca) l)(hn:l.length<=1048576)(X:LV)(hb:z.get y=cE X 1)(hc:X[1]?=some (.slice va l.length ca))(r:List Q)(hr:r.length<=1000000)(hw:∀x∈l,OkD false x):
  ∀kk e H2,(∃(i:Nat)(u:List Q)(w:Value),kk=l.length-i/\i<=l.length/\e.get 1=pT y/\e.get 3=w/\e.get 4=iV i/\t7 H2 (y+1) 3 (QR z lo (k+1) false) w u/\i4 (y+1) z H2/\u++(l.drop i).flatMap F=r)->
  u9 (LE prog O8 (.loop FZ) e H2) (fun o e H2=>o= .exit 0/\e.get 1=pT y/\∃w,e.get 3=w/\t7 H2 (y+1) 3 (QR z lo (k+1) false) w r/\i4 (y+1) z H2):=by
 refine j7 _ _ ?_;rintro kk e H2 ⟨i,u,w,hk,hi,W,f3,f6,hO,E,J⟩;have S:H2.get y=cE X 1:=by rw[E.get y oM];exact hb
 have b3:=E.next;rcases b:decide ((i:Int)<l.length)with _|_
 .have a4:=dF b;have:l.drop i=[]:=dN oM;rw[this,List.flatMap_nil,List.append_nil]at J;refine J5 W f6 S hc b ?_;exact l7 ⟨rfl,W,w,f3,by rw[<-J];exact hO,E⟩
 have a4:=dT b;obtain⟨x,nb,o,cs,own,el,hx,hd,rfl,b2,hg,b0,D,hR⟩:=hv.row (i:=i) oM;have nt:(i:Int).toNat=i:=tN i;simp only[qSz,if_true,bF]at D hg;have a6:=(E.get nb oM).trans hg;rw[hd,List.flatMap_cons,<-List.append_assoc]at J;have a8:u.length+(F x).length<=1000000:=by
  have:r.length=u.length+(F x).length+((l.drop (i+1)).flatMap F).length:=by rw[<-J,List.length_append,List.length_append]
  omega
 obtain⟨v,h,H3,a5,a7,a1,I⟩:=ih H2 lo el x oM (hR.mono (fun j hj=>E.get j oM) lR) oM (hw x (mG hx));have O:t7 H3 H2.next 3 (QR z lo (k+1) false) v (F x):=a1.imp fun cs q h=>(h.mono (fun j hj=>(E.get j oM).symm) lR).up;have b4:=I.next;obtain⟨v',h',H4,ha,U,a2,a3⟩:=(hO.keep I).append (P:=prog) (t:=22) (n:=H3.next) (by exact jL.2.2.2.2.2.2) X8.1 X8.2.1 X8.2.2.1 oM oM O.sl oM oM;refine J14 W f3 f6 S hc b a6 nt D @wrap_small a5 a7 ha U ?_;refine i6 (kk-1) oM ⟨i+1,u++F x,v',oM,oM,W,rfl,rfl,a2,(E.trans (I.weaken oM)).trans a3,J⟩
theorem MC(F:Q->List Q)(k:Nat)(ih:Q9 91 true 3 false F k)(z:d9)(lo y:Nat)(b1:lo<=y)(a9:y<z.next)(va:Option Addr)(ca:Nat)(l:List Q)(hv:QsR z lo k true (.slice va l.length ca) l)(hn:l.length<=1048576)(X:LV)(hb:z.get y=cE X 1)(hc:X[2]?=some (.slice va l.length ca))(r:List Q)(hr:r.length<=1000000)(hw:∀x∈l,OkD true x):
  ∀kk e H2,(∃(i:Nat)(u:List Q)(w:Value),kk=l.length-i/\i<=l.length/\e.get 1=pT y/\e.get 3=w/\e.get 5=iV i/\t7 H2 (y+1) 3 (QR z lo (k+1) false) w u/\i4 (y+1) z H2/\u++(l.drop i).flatMap F=r)->
  u9 (LE prog O8 (.loop Ga) e H2) (fun o e H2=>o= .exit 2/\e.get 1=pT y/\∃w,e.get 3=w/\t7 H2 (y+1) 3 (QR z lo (k+1) false) w r/\i4 (y+1) z H2):=by
 refine j7 _ _ ?_;rintro kk e H2 ⟨i,u,w,hk,hi,W,f3,f6,hO,E,J⟩;have S:H2.get y=cE X 1:=by rw[E.get y oM];exact hb
 have b3:=E.next;rcases b:decide ((i:Int)<l.length)with _|_
 .have a4:=dF b;have:l.drop i=[]:=dN oM;rw[this,List.flatMap_nil,List.append_nil]at J;refine J5 W f6 S hc b ?_;exact l7 ⟨rfl,W,w,f3,by rw[<-J];exact hO,E⟩
 have a4:=dT b;obtain⟨x,nb,o,cs,own,el,hx,hd,rfl,b2,hg,b0,D,hR⟩:=hv.row (i:=i) oM;have nt:(i:Int).toNat=i:=tN i;simp only[qSz,if_true,bF]at D hg;have a6:=(E.get nb oM).trans hg;rw[hd,List.flatMap_cons,<-List.append_assoc]at J;have a8:u.length+(F x).length<=1000000:=by
  have:r.length=u.length+(F x).length+((l.drop (i+1)).flatMap F).length:=by rw[<-J,List.length_append,List.length_append]
  omega
 obtain⟨v,h,H3,a5,a7,a1,I⟩:=ih H2 lo el x oM (hR.mono (fun j hj=>E.get j oM) lR) oM (hw x (mG hx));have O:t7 H3 H2.next 3 (QR z lo (k+1) false) v (F x):=a1.imp fun cs q h=>(h.mono (fun j hj=>(E.get j oM).symm) lR).up;have b4:=I.next;obtain⟨v',h',H4,ha,U,a2,a3⟩:=(hO.keep I).append (P:=prog) (t:=22) (n:=H3.next) (by exact jL.2.2.2.2.2.2) X8.1 X8.2.1 X8.2.2.1 oM oM O.sl oM oM;refine J14 W f3 f6 S hc b a6 nt D @wrap_small a5 a7 ha U ?_;refine i6 (kk-1) oM ⟨i+1,u++F x,v',oM,oM,W,rfl,rfl,a2,(E.trans (I.weaken oM)).trans a3,J⟩
theorem MF(F:Q->List Q)(k:Nat)(ih:Q9 91 true 3 false F k)(z:d9)(lo y:Nat)(b1:lo<=y)(a9:y<z.next)(va:Option Addr)(ca:Nat)(l:List Q)(hv:QsR z lo k true (.slice va l.length ca) l)(hn:l.length<=1048576)(X:LV)(hb:z.get y=cE X 1)(hc:X[4]?=some (.slice va l.length ca))(r:List Q)(hr:r.length<=1000000)(hw:∀x∈l,OkD true x):
  ∀kk e H2,(∃(i:Nat)(u:List Q)(w:Value),kk=l.length-i/\i<=l.length/\e.get 1=pT y/\e.get 3=w/\e.get 4=iV i/\t7 H2 (y+1) 3 (QR z lo (k+1) false) w u/\i4 (y+1) z H2/\u++(l.drop i).flatMap F=r)->
  u9 (LE prog O8 (.loop Gu) e H2) (fun o e H2=>o= .exit 0/\e.get 1=pT y/\∃w,e.get 3=w/\t7 H2 (y+1) 3 (QR z lo (k+1) false) w r/\i4 (y+1) z H2):=by
 refine j7 _ _ ?_;rintro kk e H2 ⟨i,u,w,hk,hi,W,f3,f6,hO,E,J⟩;have S:H2.get y=cE X 1:=by rw[E.get y oM];exact hb
 have b3:=E.next;rcases b:decide ((i:Int)<l.length)with _|_
 .have a4:=dF b;have:l.drop i=[]:=dN oM;rw[this,List.flatMap_nil,List.append_nil]at J;refine J5 W f6 S hc b ?_;exact l7 ⟨rfl,W,w,f3,by rw[<-J];exact hO,E⟩
 have a4:=dT b;obtain⟨x,nb,o,cs,own,el,hx,hd,rfl,b2,hg,b0,D,hR⟩:=hv.row (i:=i) oM;have nt:(i:Int).toNat=i:=tN i;simp only[qSz,if_true,bF]at D hg;have a6:=(E.get nb oM).trans hg;rw[hd,List.flatMap_cons,<-List.append_assoc]at J;have a8:u.length+(F x).length<=1000000:=by
  have:r.length=u.length+(F x).length+((l.drop (i+1)).flatMap F).length:=by rw[<-J,List.length_append,List.length_append]
  omega
 obtain⟨v,h,H3,a5,a7,a1,I⟩:=ih H2 lo el x oM (hR.mono (fun j hj=>E.get j oM) lR) oM (hw x (mG hx));have O:t7 H3 H2.next 3 (QR z lo (k+1) false) v (F x):=a1.imp fun cs q h=>(h.mono (fun j hj=>(E.get j oM).symm) lR).up;have b4:=I.next;obtain⟨v',h',H4,ha,U,a2,a3⟩:=(hO.keep I).append (P:=prog) (t:=22) (n:=H3.next) (by exact jL.2.2.2.2.2.2) X8.1 X8.2.1 X8.2.2.1 oM oM O.sl oM oM;refine J14 W f3 f6 S hc b a6 nt D @wrap_small a5 a7 ha U ?_;refine i6 (kk-1) oM ⟨i+1,u++F x,v',oM,oM,W,rfl,rfl,a2,(E.trans (I.weaken oM)).trans a3,J⟩
theorem Xr(k:Nat)(a7:Q9 86 false 6 true (fsQ false) k)(a8:Q9 112 true 6 true (fsQ true) k):Q9 86 false 6 true (fsQ false) (k+1):=by
 intro H lo cs q S hr hl a6;obtain⟨a9,b0,_⟩:=a6.parts;obtain⟨va,ca,wa,D,rfl,h1,h2,h3,h4⟩:=hr.path;obtain⟨y,I,-,hg,W⟩:=pushF H (bC [iV q.op,.slice va q.a.length ca,.slice wa q.b.length D] 1);have U:H.next<=y.low:=by rw[I,O7];exact lR
 have a4:=u6 hg;have hs:fsQ false q=(fsL false q.a)++fsL true q.b:=by rw[kE false q,if_neg Bool.false_ne_true,List.nil_append]<;>rfl
 have a1:=h1.mono (H':=y) (fun j X=>W.get j oM) lR;have a2:=h2.mono (H':=y) (fun j X=>W.get j oM) lR;rw[hs]at hl ⊢;have a5:(fsL false q.a).length<=1000000:=by rw[List.length_append]at hl;omega
 rw[j8 ae9 rfl _ sM];refine J1 I.symm ?_;refine l9 (F:=fun z=>N5 (u5 _ _ _ (u7 (inBlock 0 z) _)) _ _ _ _) (MD (fsQ false) k a7 y lo H.next S a4 va ca q.a a1 h3 _ hg rfl (fsL false q.a) a5 a9 q.a.length _ _ ⟨0,[],_,rfl,oM,rfl,rfl,rfl,t7.nil,i4.refl _ _,by rw[fH];rfl⟩) ?_;rintro o e' H2 ⟨ho,g1,w,g3,hO,u⟩;have b1:=u.next;have O:H2.get H.next=_:=(u.get H.next oM).trans hg;have E:=a2.mono (H':=H2) (fun j X=>u.get j oM) lR;refine J1 ho ?_;refine l9 (F:=fun z=>N5 (u5 _ _ _ (u7 (inBlock 2 z) _)) _ _ _ _) (ME (fsQ true) k a8 H2 lo H.next S (u6 O) wa D q.b E h4 _ O rfl (fsL false q.a++fsL true q.b) hl b0 q.b.length _ _ ⟨0,fsL false q.a,w,rfl,oM,g1,g3,rfl,hO.imp fun cs q h=>h.mono (fun j X=>u.get j oM) lR,i4.refl _ _,by rw[fH true];rfl⟩) ?_;rintro o e' H3 ⟨ho,g1,w,g3,hO,a3⟩;have J:i4 (H.next+1) y H3:=u.trans a3;refine J2 ho g3 ?_;exact I4 ((hO.weaken oM).imp fun cs q h=>h.mono (fun j X=>by rw[<-W.get j oM,<-u.get j oM]) lR) (W.trans (J.weaken oM)) ((J.weaken oM).low U)
theorem Xq(k:Nat)(a7:Q9 68 false 3 false (inQ false) k)(a8:Q9 91 true 3 false (inQ true) k):Q9 68 false 3 false (inQ false) (k+1):=by
 intro H lo cs q S hr hl a6;obtain⟨a9,b0,_⟩:=a6.parts;obtain⟨va,ca,wa,D,rfl,h1,h2,h3,h4⟩:=hr.path;obtain⟨y,I,-,hg,W⟩:=pushF H (bC [iV q.op,.slice va q.a.length ca,.slice wa q.b.length D] 1);have U:H.next<=y.low:=by rw[I,O7];exact lR
 have a4:=u6 hg;have hs:inQ false q=(inL false q.a)++inL true q.b:=by rw[kN q]<;>rfl
 have a1:=h1.mono (H':=y) (fun j X=>W.get j oM) lR;have a2:=h2.mono (H':=y) (fun j X=>W.get j oM) lR;rw[hs]at hl ⊢;have a5:(inL false q.a).length<=1000000:=by rw[List.length_append]at hl;omega
 rw[j8 ad6 rfl _ sM];refine J1 I.symm ?_;refine l9 (F:=fun z=>N5 (u5 _ _ _ (u7 (inBlock 0 z) _)) _ _ _ _) (MB (inQ false) k a7 y lo H.next S a4 va ca q.a a1 h3 _ hg rfl (inL false q.a) a5 a9 q.a.length _ _ ⟨0,[],_,rfl,oM,rfl,rfl,rfl,t7.nil,i4.refl _ _,by rw[al1];rfl⟩) ?_;rintro o e' H2 ⟨ho,g1,w,g3,hO,u⟩;have b1:=u.next;have O:H2.get H.next=_:=(u.get H.next oM).trans hg;have E:=a2.mono (H':=H2) (fun j X=>u.get j oM) lR;refine J1 ho ?_;refine l9 (F:=fun z=>N5 (u5 _ _ _ (u7 (inBlock 2 z) _)) _ _ _ _) (MC (inQ true) k a8 H2 lo H.next S (u6 O) wa D q.b E h4 _ O rfl (inL false q.a++inL true q.b) hl b0 q.b.length _ _ ⟨0,inL false q.a,w,rfl,oM,g1,g3,rfl,hO.imp fun cs q h=>h.mono (fun j X=>u.get j oM) lR,i4.refl _ _,by rw[al1 true];rfl⟩) ?_;rintro o e' H3 ⟨ho,g1,w,g3,hO,a3⟩;have J:i4 (H.next+1) y H3:=u.trans a3;refine J2 ho g3 ?_;exact I4 ((hO.weaken oM).imp fun cs q h=>h.mono (fun j X=>by rw[<-W.get j oM,<-u.get j oM]) lR) (W.trans (J.weaken oM)) ((J.weaken oM).low U)
theorem MA(k:Nat)(b7:Q9 112 true 6 true (fsQ true) k)(b8:Q9 86 false 6 true (fsQ false) k):Q9 112 true 6 true (fsQ true) (k+1):=by
 intro H lo cs q a4 hr hl b6;obtain⟨b9,c0,_⟩:=b6.parts;have a6:=hr;obtain⟨va,ca,wa,J,rfl,h1,h2,h3,h4,_⟩:=hr.filter;obtain⟨y,u⟩:=eY ([iV q.op,.string q.sp,.string q.lc,.string q.vl,.slice va q.a.length ca,.slice wa q.b.length J]:LV);obtain⟨I,W,-,hg,hS⟩:=pushF H (bC y 1);have a5:H.next<=I.low:=by rw[W,O7];exact lR
 have c3:=u6 hg;have b4:ldC (some true) (some 6) 0 y=some (.agg y.toArray):=by rw[u];rfl
 obtain⟨H2,O⟩:=eY (I.push (bC y 6));have D:i4 (H.next+1) I H2:=by rw[O];exact i4.push oM
 have c4:=D.next;have S:H2.get H.next=_:=(D.get H.next oM).trans hg;rw[<-u]at a6;have X:t7 H2 (H.next+1) 6 (QR H2 lo (k+1) true) (sL I.next 1 1) [q]:=by
  rw[O];refine t7.fresh rfl oM (D2.one (by rw[u];rfl) (a6.mono (fun j hj=>?_) lR));rw[j6 oM,hS.get j oM]
 have hs:fsQ true q=[q]++(fsL true q.a++fsL false q.b):=by rw[kE true q,if_pos rfl];rfl
 have a8:=h1.mono (H':=H2) (fun j hj=>by rw[D.get j oM,hS.get j oM]) lR;rw[hs,<-List.append_assoc]at hl ⊢;have b3:([q]++fsL true q.a).length<=1000000:=by rw[List.length_append]at hl;omega
 have b1:y[4]?=some (.slice va q.a.length ca):=by rw[u];rfl
 have b2:y[5]?=some (.slice wa q.b.length J):=by rw[u];rfl
 have a2:y.all oC=true:=by rw[u];rfl
 have b0:(Value.agg y.toArray).cells.toList=y:=rfl;have b5:y.length=6:=by rw[u];rfl
 rw[j8 WC rfl _ sM,<-u];have a7:bsA prog (some 86) I 1 [(0,.agg y.toArray)]=some (sL I.next 1 1,H2):=by
  rw[u,O,u];simp only[C7,aW,C8];rfl
 refine J5 a2 W.symm hg b4 a7 ?_;refine l9 (F:=fun z=>N5 (u5 _ _ _ (u7 (inBlock 0 z) _)) _ _ _ _) (DS (fsQ true) k b7 H2 lo H.next a4 (u6 S) va ca q.a a8 h3 _ S b1 ([q]++fsL true q.a) b3 b9 q.a.length _ _ ⟨0,[q],_,rfl,oM,rfl,rfl,rfl,X,i4.refl _ _,by rw[fH];rfl⟩) ?_;rintro o e' H3 ⟨ho,g1,w,g3,X,E⟩;have c5:=E.next;have a3:H3.get H.next=_:=(E.get H.next oM).trans S;have U:=h2.mono (H':=H3) (fun j hj=>by rw[E.get j oM,D.get j oM,hS.get j oM]) lR;refine J1 ho ?_;refine l9 (F:=fun z=>N5 (u5 _ _ _ (u7 (inBlock 2 z) _)) _ _ _ _) (DT (fsQ false) k b8 H3 lo H.next a4 (u6 a3) wa J q.b U h4 _ a3 b2 ([q]++fsL true q.a++fsL false q.b) hl c0 q.b.length _ _ ⟨0,[q]++fsL true q.a,w,rfl,oM,g1,g3,rfl,X.imp fun cs q h=>h.mono (fun j hj=>E.get j oM) lR,i4.refl _ _,by rw[fH false];rfl⟩) ?_;rintro o e' H4 ⟨ho,g1,w,g3,X,a9⟩;have a1:i4 (H.next+1) I H4:=(D.trans E).trans a9;refine J2 ho g3 ?_;exact I4 ((X.weaken oM).imp fun cs q h=>h.mono (fun j hj=>by rw[<-hS.get j oM,<-D.get j oM,<-E.get j oM]) lR) (hS.trans (a1.weaken oM)) ((a1.weaken oM).low a5)
theorem My:∀k,Q9 86 false 6 true (fsQ false) k/\Q9 112 true 6 true (fsQ true) k:=by
 intro k;induction k with
 |zero=>exact⟨fun H lo cs q u y=>y.elim,fun H lo cs q u y=>y.elim⟩
 |succ k h=>exact⟨Xr k h.1 h.2,MA k h.2 h.1⟩
theorem Xs(k:Nat)(d2:Q9 91 true 3 false (inQ true) k)(d3:Q9 68 false 3 false (inQ false) k):Q9 91 true 3 false (inQ true) (k+1):=by
 intro H lo cs q d0 hr hl d1;obtain⟨d4,d5,_,_,d6⟩:=d1.parts;have a5:=(dk d6).2.2.1;simp only[if_true]at a5;obtain⟨va,ca,wa,b4,rfl,h1,h2,h3,h4,_⟩:=hr.filter;obtain⟨H1,a6,-,hg,X⟩:=pushF H (bC [iV q.op,.string q.sp,.string q.lc,.string q.vl,.slice va q.a.length ca,.slice wa q.b.length b4] 1);have S:H.next<=H1.low:=by rw[a6,O7];exact lR
 have c8:=u6 hg;have b5:=h1.mono (H':=H1) (fun j hj=>X.get j oM) lR;rw[fI]at hl ⊢;have a4:(inL true q.a).length<=1000000:=by rw[List.length_append]at hl;omega
 rw[j8 af3 rfl _ sM];refine J1 a6.symm ?_;refine l9 (F:=fun z=>N5 (u5 _ _ _ (u7 (inBlock 0 z) _)) _ _ _ _) (MF (inQ true) k d2 H1 lo H.next d0 c8 va ca q.a b5 h3 _ hg rfl (inL true q.a) a4 d4 q.a.length _ _ ⟨0,[],_,rfl,oM,rfl,rfl,rfl,t7.nil,i4.refl _ _,by rw[al1];rfl⟩) ?_;rintro o e' H2 ⟨ho,g1,w,g3,hO,u⟩;have e1:=u.next;have a3:H2.get H.next=_:=(u.get H.next oM).trans hg;rcases b:decide (q.op=11)with _|_
 .have hb:=dF b;rw[if_neg hb,List.append_nil];refine J5 ho g1 g3 a3 b ?_;exact I4 ((hO.weaken oM).imp fun cs q h=>h.mono (fun j hj=>by rw[<-X.get j oM]) lR) (X.trans (u.weaken oM)) ((u.weaken oM).low S)
 have hb:=dT b;rw[if_pos hb]at hl ⊢;have a4:=a5.1 hb;obtain⟨x,nb,o,cs,own,el,hx,hd,rfl,d8,b1,c9,U,hR⟩:=h2.row (i:=0) oM;have a2:q.b=[x]:=by
  obtain⟨y,hy⟩:=List.length_eq_one_iff.1 a4;rw[hy]at hx ⊢;simpa using hx
 have c5:inL false q.b=inQ false x:=by rw[a2,al1];simp
 rw[c5,a2]at hl ⊢;simp only[List.length_append,List.length_cons,List.length_nil]at hl;simp only[qSz,if_true,bF,Bool.not_false,Bool.not_true,Nat.zero_mul,Nat.add_zero]at U b1 c9;have O:H2.get nb=_:=(u.get nb oM).trans ((X.get nb oM).trans b1);have D:QR H2 lo k false el x:=hR.mono (fun j hj=>by rw[u.get j oM,X.get j oM]) lR;obtain⟨v,h,H3,c4,c7,b6,E⟩:=d3 H2 lo el x oM D oM (d5 x (by rw[a2];simp));have a7:t7 H3 H2.next 3 (QR H1 lo (k+1) false) v (inQ false x):=b6.imp fun cs q h=>(h.mono (fun j hj=>(u.get j oM).symm) lR).up;have e2:=E.next;obtain⟨v',h',I,ha,a9,b7,J⟩:=(hO.keep E).append (P:=prog) (t:=22) (n:=H3.next) (by exact jL.2.2.2.2.2.2) X8.1 X8.2.1 X8.2.2.1 oM oM a7.sl oM oM;have e4:=J.next;have c6:I.get H.next=_:=(J.get H.next oM).trans ((E.get H.next oM).trans a3);have b2:I.get nb=_:=(J.get nb oM).trans ((E.get nb oM).trans O);obtain⟨H5,W⟩:=eY (I.push (bC el 3));have a1:i4 I.next I H5:=by rw[W];exact i4.push oM
 have e5:=a1.next;have b8:t7 H5 I.next 3 (QR H1 lo (k+1) false) (sL I.next 1 1) [x]:=by
  rw[W];refine t7.fresh rfl oM (D2.one hR.len (D.up.mono (fun j hj=>(u.get j oM).symm) lR))
 obtain⟨v6,h6,H6,c3,b0,b9,c0⟩:=(b7.keep a1).append (P:=prog) (t:=22) (n:=H5.next) (by exact jL.2.2.2.2.2.2) X8.1 X8.2.1 X8.2.2.1 oM oM b8.sl (by simp only[List.length_append,List.length_cons,List.length_nil];omega) oM;have b3:bsA prog (some 25) I 1 [(0,.agg el.toArray)]=some (sL I.next 1 1,H5):=by
  have e3:el=[iV x.op,el[1]?.getD undef,el[2]?.getD undef]:=by
   cases k with
   |zero=>exact D.elim
   |succ k=>obtain⟨_,_,_,_,rfl,_⟩:=D.path;rfl
  rw[W];cases k with
  |zero=>exact D.elim
  |succ k=>
   obtain⟨_,_,_,_,rfl,_⟩:=D.path;simp only[C7,X8,C8];rfl
 refine J16 ho g1 g3 a3 b O U c4 c7 ha a9 c6 b2 b3 c3 b0 ?_;have a8:i4 (H.next+1) H1 H6:=(((u.trans (E.weaken oM)).trans J).trans (a1.weaken oM)).trans c0;rw[<-List.append_assoc];exact I4 ((b9.weaken oM).imp fun cs q h=>h.mono (fun j hj=>by rw[<-X.get j oM]) lR) (X.trans (a8.weaken oM)) ((a8.weaken oM).low S)
theorem MS:∀k,Q9 68 false 3 false (inQ false) k/\Q9 91 true 3 false (inQ true) k:=by
 intro k;induction k with
 |zero=>exact⟨fun H lo cs q u y=>y.elim,fun H lo cs q u y=>y.elim⟩
 |succ k h=>exact⟨Xq k h.1 h.2,Xs k h.2 h.1⟩
abbrev Q3(x y:ByteArray×ByteArray):Bool:=decide (x.1=y.1)&&decide (x.2=y.2)
abbrev ci(x y:ByteArray):Bool:=decide (x=y)
abbrev fo(x y:Bool×Bool×ByteArray):Bool:=(x.1==y.1)&&((x.2.1==y.2.1)&&decide (x.2.2=y.2.2))
theorem Er(H0:d9)(lo:Nat)(W:Option Addr)(J:Nat)(l:List (ByteArray×ByteArray))(x:ByteArray×ByteArray)(hv:SlI H0 lo 2 (R1 nmE) (.slice W l.length J) l)(hn:l.length<=1048576)(bx:Nat)(O:H0.get bx=cE (nmE x) 1)(r:Bool):
  ∀I e H2,(∃i:Nat,I=l.length-i/\i<=l.length/\e.get 0= .slice W l.length J/\e.get 3=pT bx/\e.get 5=iV i/\H2=H0/\(l.drop i).any (fun y=>Q3 y x)=r)->
  u9 (LE prog O8 (.loop Al) e H2) (fun o e H2=>H2=H0/\((o= .exit 0/\r=false)\/(o= .ret/\e.get 4= .bool true/\r=true))):=by
 refine j7 _ _ ?_;rintro I e H2 ⟨i,hk,hi,D,f3,f5,hH,u⟩;subst hH;rcases b:decide ((i:Int)<l.length)with _|_
 .have E:=dF b;have:l.drop i=[]:=dN oM;rw[this,List.any_nil]at u;refine J3 D f5 b ?_;exact l7 ⟨rfl,.inl ⟨rfl,u.symm⟩⟩
 have E:=dT b;obtain⟨y,nb,o,cs,own,el,hx,hd,rfl,a2,S,a1,h,hc,rfl⟩:=hv.row (i:=i) oM;have U:(i:Int).toNat=i:=tN i;have X:=hc 0 oM;rw[Nat.add_zero]at X;rw[hd,List.any_cons]at u;rcases z:(Q3 y x:Bool)with _|_
 .simp only[z,bF,Bool.false_or]at u;refine J10 D f3 f5 b O S U h @wrap_small z ?_;exact i6 (I-1) oM ⟨i+1,oM,oM,D,f3,rfl,rfl,u⟩
 .simp only[z,if_true,Bool.true_or]at u;refine J9 D f3 f5 b O S U h z ?_;exact A6 ⟨rfl,.inr ⟨rfl,rfl,u.symm⟩⟩
theorem aw1(H0:d9)(lo:Nat)(W:Option Addr)(J:Nat)(l:List (Bool×Bool×ByteArray))(x:Bool×Bool×ByteArray)(hv:SlI H0 lo 3 (R1 soE) (.slice W l.length J) l)(hn:l.length<=1048576)(bx:Nat)(O:H0.get bx=cE (soE x) 1)(r:Int):
  ∀I e H2,(∃i:Nat,I=l.length-i/\i<=l.length/\e.get 0= .slice W l.length J/\e.get 3=pT bx/\e.get 5=iV i/\H2=H0/\ixG (fun y=>fo y x) (l.drop i) i=r)->
  u9 (LE prog O8 (.loop Pq) e H2) (fun o e H2=>H2=H0/\((o= .exit 0/\r= -1)\/(o= .ret/\e.get 4=iV r))):=by
 refine j7 _ _ ?_;rintro I e H2 ⟨i,hk,hi,D,f3,f5,hH,u⟩;subst hH;rcases b:decide ((i:Int)<l.length)with _|_
 .have E:=dF b;have:l.drop i=[]:=dN oM;rw[this,ixG]at u;refine J3 D f5 b ?_;exact l7 ⟨rfl,.inl ⟨rfl,u.symm⟩⟩
 have E:=dT b;obtain⟨y,nb,o,cs,own,el,hx,hd,rfl,a2,S,a1,h,hc,rfl⟩:=hv.row (i:=i) oM;have U:(i:Int).toNat=i:=tN i;have X:=hc 0 oM;rw[Nat.add_zero]at X;rw[hd,ixG]at u;rcases z:(fo y x:Bool)with _|_
 .simp only[z,bF,Bool.false_or]at u;refine J11 D f3 f5 @vm b O S U h @wrap_small z ?_;exact i6 (I-1) oM ⟨i+1,oM,oM,D,f3,rfl,rfl,u⟩
 .simp only[z,if_true,Bool.true_or]at u;refine J10 D f3 f5 @vm b O S U h z ?_;exact A6 ⟨rfl,.inr ⟨rfl,by rw[<-u];rfl⟩⟩
theorem Nc(H0:d9)(lo:Nat)(W:Option Addr)(J:Nat)(l:List (ByteArray))(x:ByteArray)(hv:SlI H0 lo 1 (R1 stE) (.slice W l.length J) l)(hn:l.length<=1048576)(r:Bool):
  ∀I e H2,(∃i:Nat,I=l.length-i/\i<=l.length/\e.get 0= .slice W l.length J/\e.get 1= .string x/\e.get 5=iV i/\H2=H0/\(l.drop i).any (fun y=>ci y x)=r)->
  u9 (LE prog O8 (.loop FX) e H2) (fun o e H2=>H2=H0/\((o= .exit 0/\r=false)\/(o= .ret/\e.get 4= .bool true/\r=true))):=by
 refine j7 _ _ ?_;rintro I e H2 ⟨i,hk,hi,z,f3,f5,X,h⟩;subst X;rcases b:decide ((i:Int)<l.length)with _|_
 .have E:=dF b;have:l.drop i=[]:=dN oM;rw[this,List.any_nil]at h;refine J3 z f5 b ?_;exact l7 ⟨rfl,.inl ⟨rfl,h.symm⟩⟩
 have E:=dT b;obtain⟨y,nb,o,cs,own,el,hx,hd,rfl,a2,O,a1,S,hc,rfl⟩:=hv.row (i:=i) oM;have U:(i:Int).toNat=i:=tN i;have D:=hc 0 oM;rw[Nat.add_zero]at D;rw[hd,List.any_cons]at h;rcases u:(ci y x:Bool)with _|_
 .simp only[u,bF,Bool.false_or]at h;refine J9 z f3 f5 b O U D @wrap_small u ?_;exact i6 (I-1) oM ⟨i+1,oM,oM,z,f3,rfl,rfl,h⟩
 .simp only[u,if_true,Bool.true_or]at h;refine J8 z f3 f5 b O U D u ?_;exact A6 ⟨rfl,.inr ⟨rfl,rfl,h.symm⟩⟩
theorem Nb(H0:d9)(lo:Nat)(W:Option Addr)(J:Nat)(l:List (Bool×Bool×ByteArray))(x:Bool×Bool×ByteArray)(hv:SlI H0 lo 3 (R1 soE) (.slice W l.length J) l)(hn:l.length<=1048576)(bx:Nat)(O:H0.get bx=cE (soE x) 1)(r:Int):
  ∀I e H2,(∃i:Nat,I=l.length-i/\i<=l.length/\e.get 0= .slice W l.length J/\e.get 3=pT bx/\e.get 7=iV l.length/\e.get 8=iV i/\H2=H0/\ixG (fun y=>fo x y) (l.drop i) i=r)->
  u9 (LE prog O8 (.loop FG) e H2) (fun o e H2=>H2=H0/\((o= .exit 0/\r= -1)\/(o= .ret/\e.get 4=iV r))):=by
 refine j7 _ _ ?_;rintro I e H2 ⟨i,hk,hi,D,f3,f7,f5,hH,u⟩;subst hH;rcases b:decide ((i:Int)<l.length)with _|_
 .have E:=dF b;have:l.drop i=[]:=dN oM;rw[this,ixG]at u;refine J3 f7 f5 b ?_;exact l7 ⟨rfl,.inl ⟨rfl,u.symm⟩⟩
 have E:=dT b;obtain⟨y,nb,o,cs,own,el,hx,hd,rfl,a2,S,a1,h,hc,rfl⟩:=hv.row (i:=i) oM;have U:(i:Int).toNat=i:=tN i;have X:=hc 0 oM;rw[Nat.add_zero]at X;rw[hd,ixG]at u;rcases z:(fo x y:Bool)with _|_
 .simp only[z,bF,Bool.false_or]at u;refine J12 D f3 f7 f5 @vm b O S U h @wrap_small z ?_;exact i6 (I-1) oM ⟨i+1,oM,oM,D,f3,f7,rfl,rfl,u⟩
 .simp only[z,if_true,Bool.true_or]at u;refine J11 D f3 f7 f5 @vm b O S U h z ?_;exact A6 ⟨rfl,.inr ⟨rfl,by rw[<-u];rfl⟩⟩
theorem Ep(H0:d9)(lo:Nat)(W:Option Addr)(J:Nat)(l:List (ByteArray))(x:ByteArray)(hv:SlI H0 lo 1 (R1 stE) (.slice W l.length J) l)(hn:l.length<=1048576)(r:Int):
  ∀I e H2,(∃i:Nat,I=l.length-i/\i<=l.length/\e.get 0= .slice W l.length J/\e.get 1= .string x/\e.get 7=iV l.length/\e.get 8=iV i/\H2=H0/\ixG (fun y=>ci x y) (l.drop i) i=r)->
  u9 (LE prog O8 (.loop Af) e H2) (fun o e H2=>H2=H0/\((o= .exit 0/\r= -1)\/(o= .ret/\e.get 4=iV r))):=by
 refine j7 _ _ ?_;rintro I e H2 ⟨i,hk,hi,D,f3,f7,f5,X,h⟩;subst X;rcases b:decide ((i:Int)<l.length)with _|_
 .have E:=dF b;have:l.drop i=[]:=dN oM;rw[this,ixG]at h;refine J3 f7 f5 b ?_;exact l7 ⟨rfl,.inl ⟨rfl,h.symm⟩⟩
 have E:=dT b;obtain⟨y,nb,o,cs,own,el,hx,hd,rfl,a2,O,a1,S,hc,rfl⟩:=hv.row (i:=i) oM;have U:(i:Int).toNat=i:=tN i;have z:=hc 0 oM;rw[Nat.add_zero]at z;rw[hd,ixG]at h;rcases u:(ci x y:Bool)with _|_
 .simp only[u,bF,Bool.false_or]at h;refine J10 D f3 f7 f5 b O U z @wrap_small u ?_;exact i6 (I-1) oM ⟨i+1,oM,oM,D,f3,f7,rfl,rfl,h⟩
 .simp only[u,if_true,Bool.true_or]at h;refine J9 D f3 f7 f5 b O U z u ?_;exact A6 ⟨rfl,.inr ⟨rfl,by rw[<-h];rfl⟩⟩
theorem Es(H0:d9)(lo:Nat)(W:Option Addr)(J:Nat)(l:List (ByteArray×ByteArray))(x:ByteArray×ByteArray)(hv:SlI H0 lo 2 (R1 nmE) (.slice W l.length J) l)(hn:l.length<=1048576)(bx:Nat)(O:H0.get bx=cE (nmE x) 1)(r:Int):
  ∀I e H2,(∃i:Nat,I=l.length-i/\i<=l.length/\e.get 0= .slice W l.length J/\e.get 3=pT bx/\e.get 7=iV l.length/\e.get 8=iV i/\H2=H0/\ixG (fun y=>Q3 x y) (l.drop i) i=r)->
  u9 (LE prog O8 (.loop AD) e H2) (fun o e H2=>H2=H0/\((o= .exit 0/\r= -1)\/(o= .ret/\e.get 4=iV r))):=by
 refine j7 _ _ ?_;rintro I e H2 ⟨i,hk,hi,D,f3,f7,f5,hH,u⟩;subst hH;rcases b:decide ((i:Int)<l.length)with _|_
 .have E:=dF b;have:l.drop i=[]:=dN oM;rw[this,ixG]at u;refine J3 f7 f5 b ?_;exact l7 ⟨rfl,.inl ⟨rfl,u.symm⟩⟩
 have E:=dT b;obtain⟨y,nb,o,cs,own,el,hx,hd,rfl,a2,S,a1,h,hc,rfl⟩:=hv.row (i:=i) oM;have U:(i:Int).toNat=i:=tN i;have X:=hc 0 oM;rw[Nat.add_zero]at X;rw[hd,ixG]at u;rcases z:(Q3 x y:Bool)with _|_
 .simp only[z,bF,Bool.false_or]at u;refine J11 D f3 f7 f5 b O S U h @wrap_small z ?_;exact i6 (I-1) oM ⟨i+1,oM,oM,D,f3,f7,rfl,rfl,u⟩
 .simp only[z,if_true,Bool.true_or]at u;refine J10 D f3 f7 f5 b O S U h z ?_;exact A6 ⟨rfl,.inr ⟨rfl,by rw[<-u];rfl⟩⟩
theorem DR(H:d9)(lo:Nat)(v:Value)(l:List (ByteArray×ByteArray))(x:ByteArray×ByteArray)(a1:lo<=H.next)(O:SlI H lo 2 (R1 nmE) v l)(hn:l.length<=1048576):CL prog O8 113 [v,.agg (nmE x).toArray] H=some (.bool (l.any (fun y=>Q3 y x)),none):=by
 obtain⟨va,S,rfl⟩:=O.slice;obtain⟨E,h,-,X,W⟩:=pushF H (bC (nmE x) 1);have J:H.next<=E.low:=by rw[h,O7];exact lR
 rw[j8 WD rfl _ sM];refine J1 h.symm ?_;refine l9 (F:=fun z=>u5 _ _ _ (u7 (inBlock 0 z) _)=_) (Er E lo va S l x (O.mono (fun j hj=>W.get j oM) lR iF) hn H.next X (l.any (fun y=>Q3 y x)) l.length _ _ ⟨0,rfl,oM,rfl,rfl,rfl,rfl,rfl⟩) ?_;rintro o e' H' ⟨I,⟨u,D⟩|⟨u,U,D⟩⟩
 .exact J3 u I D trivial
 .exact J4 u I U D trivial
theorem av7(H:d9)(lo:Nat)(v:Value)(l:List (Bool×Bool×ByteArray))(x:Bool×Bool×ByteArray)(X:lo<=H.next)(J:SlI H lo 3 (R1 soE) v l)(hn:l.length<=1048576):CL prog O8 20 [v,.agg (soE x).toArray] H=some (.int .i64 (ixG (fun y=>fo y x) l 0),none):=by
 obtain⟨va,O,rfl⟩:=J.slice;obtain⟨D,h,-,W,U⟩:=pushF H (bC (soE x) 1);have I:H.next<=D.low:=by rw[h,O7];exact lR
 rw[j8 az0 rfl _ sM];refine J1 h.symm ?_;refine l9 (F:=fun z=>u5 _ _ _ (u7 (inBlock 0 z) _)=_) (aw1 D lo va O l x (J.mono (fun j hj=>U.get j oM) lR iF) hn H.next W (ixG (fun y=>fo y x) l 0) l.length _ _ ⟨0,rfl,oM,rfl,rfl,rfl,rfl,rfl⟩) ?_;rintro o e' H' ⟨E,⟨u,hr⟩|⟨u,S⟩⟩
 .exact J3 u E hr trivial
 .exact J3 u E S trivial
theorem AL(H:d9)(lo:Nat)(v:Value)(l:List (Bool×Bool×ByteArray))(x:Bool×Bool×ByteArray)(X:lo<=H.next)(J:SlI H lo 3 (R1 soE) v l)(hn:l.length<=1048576):CL prog O8 39 [v,.agg (soE x).toArray] H=some (.int .i64 (ixG (fun y=>fo x y) l 0),none):=by
 obtain⟨va,O,rfl⟩:=J.slice;obtain⟨D,h,-,W,U⟩:=pushF H (bC (soE x) 1);have I:H.next<=D.low:=by rw[h,O7];exact lR
 rw[j8 ab6 rfl _ sM];refine J1 h.symm ?_;refine l9 (F:=fun z=>u5 _ _ _ (u7 (inBlock 0 z) _)=_) (Nb D lo va O l x (J.mono (fun j hj=>U.get j oM) lR iF) hn H.next W (ixG (fun y=>fo x y) l 0) l.length _ _ ⟨0,rfl,oM,rfl,rfl,rfl,rfl,rfl,rfl⟩) ?_;rintro o e' H' ⟨E,⟨u,hr⟩|⟨u,S⟩⟩
 .exact J3 u E hr trivial
 .exact J3 u E S trivial
theorem vy(H:d9)(lo:Nat)(v:Value)(l:List (ByteArray×ByteArray))(x:ByteArray×ByteArray)(X:lo<=H.next)(J:SlI H lo 2 (R1 nmE) v l)(hn:l.length<=1048576):CL prog O8 148 [v,.agg (nmE x).toArray] H=some (.int .i64 (ixG (fun y=>Q3 x y) l 0),none):=by
 obtain⟨va,O,rfl⟩:=J.slice;obtain⟨D,h,-,W,U⟩:=pushF H (bC (nmE x) 1);have I:H.next<=D.low:=by rw[h,O7];exact lR
 rw[j8 Xg rfl _ sM];refine J1 h.symm ?_;refine l9 (F:=fun z=>u5 _ _ _ (u7 (inBlock 0 z) _)=_) (Es D lo va O l x (J.mono (fun j hj=>U.get j oM) lR iF) hn H.next W (ixG (fun y=>Q3 x y) l 0) l.length _ _ ⟨0,rfl,oM,rfl,rfl,rfl,rfl,rfl,rfl⟩) ?_;rintro o e' H' ⟨E,⟨u,hr⟩|⟨u,S⟩⟩
 .exact J3 u E hr trivial
 .exact J3 u E S trivial
theorem tw(H:d9)(lo:Nat)(v:Value)(l:List (ByteArray))(x:ByteArray)(O:lo<=H.next)(E:SlI H lo 1 (R1 stE) v l)(S:l.length<=1048576):CL prog O8 65 [v,.string x] H=some (.bool (l.any (fun y=>ci y x)),none):=by
 obtain⟨U,I,rfl⟩:=E.slice;rw[j8 ad3 rfl _ sM];refine J1 aH ?_;refine l9 (F:=fun z=>u5 _ _ _ (u7 (inBlock 0 z) _)=_) (Nc ⟨H.bs,H.next⟩ lo U I l x (E.mono (fun _ _=>rfl) lR iF) S (l.any (fun y=>ci y x)) l.length _ _ ⟨0,rfl,oM,rfl,rfl,rfl,rfl,rfl⟩) ?_;rintro o e' H' ⟨D,⟨h,u⟩|⟨h,J,u⟩⟩
 .exact J3 h D u trivial
 .exact J4 h D J u trivial
theorem DQ(H:d9)(lo:Nat)(v:Value)(l:List (ByteArray))(x:ByteArray)(J:lo<=H.next)(D:SlI H lo 1 (R1 stE) v l)(O:l.length<=1048576):CL prog O8 102 [v,.string x] H=some (.int .i64 (ixG (fun y=>ci x y) l 0),none):=by
 obtain⟨U,E,rfl⟩:=D.slice;rw[j8 Ws rfl _ sM];refine J1 aH ?_;refine l9 (F:=fun z=>u5 _ _ _ (u7 (inBlock 0 z) _)=_) (Ep ⟨H.bs,H.next⟩ lo U E l x (D.mono (fun _ _=>rfl) lR iF) O (ixG (fun y=>ci x y) l 0) l.length _ _ ⟨0,rfl,oM,rfl,rfl,rfl,rfl,rfl,rfl⟩) ?_;rintro o e' H' ⟨u,⟨h,S⟩|⟨h,I⟩⟩
 .exact J3 h u S trivial
 .exact J3 h u I trivial
theorem AV(H:d9)(lo:Nat)(v:Value)(l:List (ByteArray))(x:ByteArray)(h:lo<=H.next)(D:SlI H lo 1 (R1 stE) v l)(z:l.length<=1048576):CL prog O8 80 [v,.string x] H=some (.bool (l.any fun y=>ci x y),none):=by
 have u:=DQ ⟨H.bs,H.next⟩ lo v l x h (D.mono (fun _ _=>rfl) lR iF) z;rw[j8 ae4 rfl _ sM,<-eU];exact J1 u trivial
theorem Xu(H:d9)(lo:Nat)(v:Value)(l:List (Bool×Bool×ByteArray))(x:Bool×Bool×ByteArray)(O:lo<=H.next)(W:SlI H lo 3 (R1 soE) v l)(S:l.length<=1048576):CL prog O8 85 [v,.agg (soE x).toArray] H=some (.bool (l.any fun y=>fo x y),none):=by
 obtain⟨z,h,-,J,D⟩:=pushF H (bC (soE x) 1);have E:H.next<=z.low:=by rw[h,O7];exact lR
 have U:=D.next;have I:=AL z lo v l x oM (W.mono (fun j X=>D.get j oM) lR iF) S;have u:ldC (some true) (some 3) 0 (soE x)=some (.agg (soE x).toArray):=rfl;rw[j8 ae8 rfl _ sM,<-eU];exact J4 h.symm J u I trivial
theorem MK(H:d9)(lo:Nat)(v:Value)(l:List (ByteArray×ByteArray))(x:ByteArray×ByteArray)(O:lo<=H.next)(W:SlI H lo 2 (R1 nmE) v l)(S:l.length<=1048576):CL prog O8 147 [v,.agg (nmE x).toArray] H=some (.bool (l.any fun y=>Q3 x y),none):=by
 obtain⟨z,h,-,J,D⟩:=pushF H (bC (nmE x) 1);have E:H.next<=z.low:=by rw[h,O7];exact lR
 have U:=D.next;have I:=vy z lo v l x oM (W.mono (fun j X=>D.get j oM) lR iF) S;have u:ldC (some true) (some 2) 0 (nmE x)=some (.agg (nmE x).toArray):=rfl;rw[j8 Xf rfl _ sM,<-eU];exact J4 h.symm J u I trivial
def py{α:Type}(p:Q->Bool)(g:Q->α)(eq:α->α->Bool)(acc:List α)(l:List Q):List α:=l.foldl (fun acc f=>if p f&& !acc.any (fun y=>eq y (g f)) then acc++[g f] else acc) acc
theorem iO{α:Type}(p:Q->Bool)(g:Q->α)(u:α->α->Bool)(h:List α)(x:Q)(l:List Q):py p g u h (x::l)=py p g u (if p x&& !h.any (fun y=>u y (g x)) then h++[g x] else h) l:=rfl
theorem aA3{α:Type}(p:Q->Bool)(g:Q->α)(u:α->α->Bool):∀(l:List Q)(h:List α),(py p g u h l).length<=h.length+l.length
 |[],h=>lR
 |x::l,h=>by
  rw[iO,List.length_cons];have:=aA3 p g u l (if p x&& !h.any (fun y=>u y (g x)) then h++[g x] else h);have z:(if p x&& !h.any (fun y=>u y (g x)) then h++[g x] else h).length<=h.length+1:=by split<;>simp
  omega
abbrev qNm(f:Q):ByteArray×ByteArray:=(f.sp,f.lc)
def bI(from_ to_:Int)(f:Q):Bool:=decide (from_<=f.op)&&decide (f.op<=to_)
def dv(op:Int)(n:ByteArray×ByteArray)(f:Q):Bool:=decide (f.op=op)&&Q3 (qNm f) n
theorem tZ(k:Nat)(E:d9)(lo:Nat)(b0:lo<=E.next)(va:Option Addr)(ca:Nat)(l:List Q)(hv:QsR E lo k true (.slice va l.length ca) l)(hn:l.length<=1000000)(a b:Int)(r:List (ByteArray×ByteArray)):
  ∀kk e H2,(∃(i:Nat)(h:List (ByteArray×ByteArray))(w:Value),kk=l.length-i/\i<=l.length/\h.length<=i/\e.get 0= .slice va l.length ca/\e.get 1=iV a/\e.get 2=iV b/\e.get 7=w/\e.get 8=iV i/\t7 H2 E.next 2 (R1 nmE) w h/\i4 E.next E H2/\py (bI a b) qNm Q3 h (l.drop i)=r)->
  u9 (LE prog O8 (.loop Gp) e H2) (fun o e H2=>o= .exit 0/\∃w,e.get 7=w/\t7 H2 E.next 2 (R1 nmE) w r/\i4 E.next E H2):=by
 refine j7 _ _ ?_;rintro kk e H2 ⟨i,h,w,hk,hi,a9,D,I,S,f7,f8,X,U,u⟩;have b5:=U.next;rcases O:decide ((i:Int)<l.length)with _|_
 .have a4:=dF O;have:l.drop i=[]:=dN oM;rw[this]at u;refine J3 D f8 O ?_;exact l7 ⟨rfl,w,f7,by rw[<-u];exact X,U⟩
 have a4:=dT O;obtain⟨x,nb,o,cs,own,el,hx,hd,rfl,b4,hg,a5,a7,hc,hR⟩:=SlI.row hv (i:=i) oM;have nt:(i:Int).toNat=i:=tN i;cases k with
 |zero=>exact hR.elim
 |succ k=>
 obtain⟨b6,a8,wa,a6,rfl,_⟩:=hR.filter;have z:=(U.get nb oM).trans hg;have W:=hc 0 (by simp [qSz]);rw[Nat.add_zero]at W;have c1:=vQ (j:=1) (m:=2) hc a5 (by simp [qSz]);simp only[qSz,if_true,List.drop_succ_cons,List.drop_zero,List.take_succ_cons,List.take_zero,List.getElem?_cons_zero]at W c1 z;rw[hd,iO]at u;have hh:=DR H2 H2.next w h (qNm x) lR X.sl oM;rcases J:decide (a<=x.op)with _|_
 .have hp:bI a b x=false:=by rw[bI,J];rfl
  rw[hp]at u;refine J9 D I f8 O z nt W J @wrap_small ?_;exact i6 (kk-1) oM ⟨i+1,h,w,oM,oM,oM,D,I,S,f7,rfl,X,U,u⟩
 rcases b2:decide (x.op<=b)with _|_
 .have hp:bI a b x=false:=by rw[bI,J,b2];rfl
  rw[hp]at u;refine J11 D I S f8 O z nt W J b2 @wrap_small ?_;exact i6 (kk-1) oM ⟨i+1,h,w,oM,oM,oM,D,I,S,f7,rfl,X,U,u⟩
 have hp:bI a b x=true:=by rw[bI,J,b2];rfl
 rw[hp]at u;rcases b3:h.any (fun y=>Q3 y (qNm x))with _|_
 .rw[b3]at u hh;obtain⟨v',h',H4,ha,a1,a2,a3⟩:=X.push1 (P:=prog) (t:=95) (by exact pJ.2.2.2.2.2.2) cr.1 cr.2.1 cr.2.2.1 oM oM (cs:=[.string x.sp,.string x.lc]) (a:=qNm x) rfl rfl oM oM;refine J16 D I S f7 f8 O z nt W c1 J b2 hh ha a1 @wrap_small ?_;refine i6 (kk-1) oM ⟨i+1,h++[qNm x],v',oM,oM,by simp;omega,D,I,S,rfl,rfl,a2,U.trans a3,u⟩
 .rw[b3]at u hh;refine J14 D I S f7 f8 O z nt W c1 J b2 hh @wrap_small ?_;exact i6 (kk-1) oM ⟨i+1,h,w,oM,oM,oM,D,I,S,f7,rfl,X,U,u⟩
def S9(a b:Int)(l:List Q):List (ByteArray×ByteArray):=py (bI a b) qNm Q3 [] l
theorem nP(H:d9)(lo k:Nat)(v:Value)(l:List Q)(a b:Int)(h:lo<=H.next)(E:QsR H lo k true v l)(S:l.length<=1000000):N5 (CL prog O8 87 [v,iV a,iV b] H) H 2 (R1 nmE) (S9 a b l):=by
 obtain⟨I,y,rfl⟩:=SlI.slice E;rw[j8 af0 rfl _ sM];refine J1 ty3 ?_;have u:QsR ⟨H.bs,H.next⟩ lo k true (.slice I l.length y) l:=E.mono (fun _ _=>rfl) lR;refine l9 (F:=fun z=>N5 (u5 _ _ _ (u7 (inBlock 0 z) _)) _ _ _ _) (tZ k ⟨H.bs,H.next⟩ lo h I y l u S a b (S9 a b l) l.length _ _ ⟨0,[],_,rfl,oM,by simp,rfl,rfl,rfl,rfl,rfl,t7.nil,i4.refl _ _,rfl⟩) ?_;rintro o e' W ⟨U,w,J,O,D⟩;refine J2 U J ?_;exact I4 O ((i4.start H).trans D) (D.low lR)
theorem sh(k:Nat)(H1:d9)(lo E:Nat)(b4:lo<=E)(b0:E<H1.next)(va:Option Addr)(ca:Nat)(l:List Q)(hv:QsR H1 lo k true (.slice va l.length ca) l)(hn:l.length<=1000000)(a:Int)(n:ByteArray×ByteArray)(hb:H1.get E=cE (nmE n) 1)(r:List ByteArray):
  ∀kk e H2,(∃(i:Nat)(h:List ByteArray)(w:Value),kk=l.length-i/\i<=l.length/\h.length<=i/\e.get 0= .slice va l.length ca/\e.get 1=iV a/\e.get 5=pT E/\e.get 7=w/\e.get 8=iV i/\t7 H2 (E+1) 1 (R1 stE) w h/\i4 (E+1) H1 H2/\py (dv a n) Q.vl ci h (l.drop i)=r)->
  u9 (LE prog O8 (.loop Gq) e H2) (fun o e H2=>o= .exit 0/\∃w,e.get 7=w/\t7 H2 (E+1) 1 (R1 stE) w r/\i4 (E+1) H1 H2):=by
 refine j7 _ _ ?_;rintro kk e H2 ⟨i,h,w,hk,hi,a9,I,J,f5,f7,f8,hO,O,z⟩;have b6:=O.next;have W:=(O.get E oM).trans hb;have u:ldC (some true) (some 2) 0 (nmE n)=some (.agg (nmE n).toArray):=rfl;rcases U:decide ((i:Int)<l.length)with _|_
 .have a4:=dF U;have:l.drop i=[]:=dN oM;rw[this]at z;refine J3 I f8 U ?_;exact l7 ⟨rfl,w,f7,by rw[<-z];exact hO,O⟩
 have a4:=dT U;obtain⟨x,nb,o,cs,own,el,hx,hd,rfl,b5,hg,a5,a7,hc,hR⟩:=SlI.row hv (i:=i) oM;have nt:(i:Int).toNat=i:=tN i;cases k with
 |zero=>exact hR.elim
 |succ k=>
 obtain⟨b7,a8,wa,a6,rfl,_⟩:=hR.filter;have D:=(O.get nb oM).trans hg;have X:=hc 0 (by simp [qSz]);rw[Nat.add_zero]at X;have c1:=vQ (j:=1) (m:=2) hc a5 (by simp [qSz]);have c3:=hc 3 (by simp [qSz]);simp only[qSz,if_true,List.drop_succ_cons,List.drop_zero,List.take_succ_cons,List.take_zero,List.getElem?_cons_zero,List.getElem?_cons_succ]at X c1 c3 D;rw[hd,iO]at z;have hh:=tw H2 H2.next w h x.vl lR hO.sl oM;rcases S:decide (x.op=a)with _|_
 .have hp:dv a n x=false:=by rw[dv,S];rfl
  rw[hp]at z;refine J9 I J f8 U D nt X S @wrap_small ?_;exact i6 (kk-1) oM ⟨i+1,h,w,oM,oM,oM,I,J,f5,f7,rfl,hO,O,z⟩
 rcases b2:(decide (x.sp=n.1)&&decide (x.lc=n.2))with _|_
 .have hp:dv a n x=false:=by rw[dv,S,Q3,b2];rfl
  rw[hp]at z;refine J14 I J f5 f8 U W u D nt X c1 S b2 @wrap_small ?_;exact i6 (kk-1) oM ⟨i+1,h,w,oM,oM,oM,I,J,f5,f7,rfl,hO,O,z⟩
 have hp:dv a n x=true:=by rw[dv,S,Q3,b2];rfl
 rw[hp]at z;rcases b3:h.any (fun y=>ci y x.vl)with _|_
 .rw[b3]at z hh;obtain⟨v',h',H4,ha,a1,a2,a3⟩:=hO.push1 (P:=prog) (t:=97) (by exact aH.2.2.2.2.2.2) ty9.1 ty9.2.1 ty9.2.2.1 oM oM (cs:=[.string x.vl]) (a:=x.vl) rfl rfl oM oM;refine J19 I J f5 f7 f8 U W u D nt X c1 c3 S b2 hh ha a1 @wrap_small ?_;refine i6 (kk-1) oM ⟨i+1,h++[x.vl],v',oM,oM,by simp;omega,I,J,f5,rfl,rfl,a2,O.trans a3,z⟩
 .rw[b3]at z hh;refine J17 I J f5 f7 f8 U W u D nt X c1 c3 S b2 hh @wrap_small ?_;exact i6 (kk-1) oM ⟨i+1,h,w,oM,oM,oM,I,J,f5,f7,rfl,hO,O,z⟩
def S7(a:Int)(n:ByteArray×ByteArray)(l:List Q):List ByteArray:=py (dv a n) Q.vl ci [] l
theorem lN(H:d9)(lo k:Nat)(v:Value)(l:List Q)(a:Int)(n:ByteArray×ByteArray)(E:lo<=H.next)(U:QsR H lo k true v l)(hn:l.length<=1000000):N5 (CL prog O8 88 [v,iV a,.agg (nmE n).toArray] H) H 1 (R1 stE) (S7 a n l):=by
 obtain⟨W,J,rfl⟩:=SlI.slice U;obtain⟨D,h,-,S,O⟩:=pushF H (bC (nmE n) 1);have y:H.next<=D.low:=by rw[h,O7];exact lR
 rw[j8 af1 rfl _ sM];refine J1 h.symm ?_;have I:QsR D lo k true (.slice W l.length J) l:=U.mono (fun j hj=>O.get j oM) lR;refine l9 (F:=fun z=>N5 (u5 _ _ _ (u7 (inBlock 0 z) _)) _ _ _ _) (sh k D lo H.next E (u6 S) W J l I hn a n S (S7 a n l) l.length _ _ ⟨0,[],_,rfl,oM,by simp,rfl,rfl,rfl,rfl,rfl,t7.nil,i4.refl _ _,rfl⟩) ?_;rintro o e' H3 ⟨ho,w,X,hO,u⟩;refine J2 ho X ?_;exact I4 (hO.weaken oM) (O.trans (u.weaken oM)) ((u.weaken oM).low y)
def dg1(n:Nat):ByteArray:=⟨#[UInt8.ofNat (48+n)]⟩
def dg(n:Nat):ByteArray:=if h:n<10 then dg1 n else dg (n / 10)++dg (n % 10)
termination_by n
decreasing_by all_goals omega
def dgV(l:List UInt8):Nat:=l.foldl (fun a b=>10*a+(b.toNat-48)) 0
theorem aX(a b:ByteArray):(a++b).data.toList=a.data.toList++b.data.toList:=by simp
theorem zV:∀n,dgV (dg n).data.toList=n:=by
 intro n;induction n using Nat.strongRecOn with
 |ind n E=>
  rw[dg];split
  .rename_i h;have:∀m:Fin 10,dgV (dg1 m.1).data.toList=m.1:=by decide
   exact this ⟨n,h⟩
  .rename_i h;have u:=E (n / 10) oM;have y:dg (n % 10)=dg1 (n % 10):=by rw[dg,dif_pos oM]
   have z:∀m:Fin 10,((UInt8.ofNat (48+m.1)).toNat-48)=m.1:=by decide
   rw[y,aX,dgV,List.foldl_append];rw[dgV]at u;rw[u];show 10*(n / 10)+((UInt8.ofNat (48+n % 10)).toNat-48)=n;have D:((UInt8.ofNat (48+n % 10)).toNat-48)=n % 10:=z ⟨n % 10,oM⟩;rw[D];omega
theorem oS{n m:Nat}(h:dg n=dg m):n=m:=by rw[<-zV n,h,zV]
theorem jN:∀n,(dg n).size<=n+1:=by
 intro n;induction n using Nat.strongRecOn with
 |ind n u=>
  rw[dg];split
  .show 1<=n+1;omega
  .rename_i h;have z:=u (n / 10) oM;have D:=u (n % 10) oM;have y:(dg (n % 10)).size=1:=by rw[dg,dif_pos oM];rfl
   rw[ByteArray.size_append,y];omega
theorem Ns{α:Type}(f:Nat->α)(I:∀i j,f i=f j->i=j):∀(l:List α)(u:List Nat),u.Nodup->(∀i∈u,f i∈l)->u.length<=l.length:=by
 intro l u;induction u generalizing l with
 |nil=>intro _ _;simp
 |cons n u J=>
  intro E D;obtain⟨s,t,rfl⟩:=List.append_of_mem (D n sM);have:=J (s++t) (List.nodup_cons.1 E).2 (fun i z=>by
   have h:=D i (by simp [z]);have y:i≠n:=fun q=>(List.nodup_cons.1 E).1 (q▸z);simp only[List.mem_append,List.mem_cons]at h ⊢;rcases h with h|h|h
   .exact .inl h
   .exact absurd (I _ _ h) y
   .exact .inr h)
  simp only[List.length_append,List.length_cons]at this ⊢;omega
def aA0(p:Nat->Bool):Nat->Nat->Nat
 |0,n=>n
 |k+1,n=>if p n then aA0 p k (n+1) else n
theorem bT(p:Nat->Bool):∀k n,(∃m,n<=m/\m<n+k/\p m=false)->p (aA0 p k n)=false/\aA0 p k n<n+k
 |0,n,h=>by obtain⟨m,z,D,_⟩:=h;omega
 |k+1,n,h=>by
  rw[aA0];split
  .rename_i y;obtain⟨m,z,D,u⟩:=h;have E:m≠n:=fun q=>by rw[q,y]at u;cases u
   have:=bT p k (n+1) ⟨m,oM,oM,u⟩;exact⟨this.1,oM⟩
  .rename_i y;exact⟨by simpa using y,oM⟩
theorem oW{α:Type}(f:Nat->α)(y:∀i j,f i=f j->i=j) (l:List α) (p:Nat->Bool) (D:∀i,p i=true->f i∈l):∃m,m<l.length+1/\p m=false:=by
 apply Classical.byContradiction;intro h;have u:∀i∈List.range (l.length+1),f i∈l:=fun i z=>D i (by
  cases E:p i with
  |true=>rfl
  |false=>exact absurd ⟨i,List.mem_range.1 z,E⟩ h)
 have:=Ns f y l _ List.nodup_range u;rw[List.length_range]at this;omega
theorem Db(n:Nat)(h:n<10):IntKind.wrap .u8 (48+(n:Int))=48+(n:Int):=by
 have:∀m:Fin 10,IntKind.wrap .u8 (48+(m.1:Int))=48+(m.1:Int):=by decide
 exact this ⟨n,h⟩
theorem zQ(H:d9)(b:Nat)(n:Int)(h:H.get b=cE [.int .u8 n] 1)(c:Nat):W8 prog H 81 9 (sL b 1 c)=some (.string ⟨#[UInt8.ofNat n.toNat]⟩,none):=by
 have:dl H 1 (sL b 1 c)=some [.int .u8 n]:=by simp [dl,h]
 simp only[W8,yP,ty9,ty5,this,Option.bind_some];rfl
theorem aB8:∀(n:Nat)(H:d9),n<=1000000->CL prog O8 89 [iV n] H=some (.string (dg n),none):=by
 intro n;induction n using Nat.strongRecOn with
 |ind n D=>
  intro H hn;rw[j8 af2 rfl _ sM];rcases b:decide ((n:Int)<10)with _|_
  .have O:=dF b;have I:=D (n / 10) oM;have J:=D (n % 10) oM;have W:((n:Int).tdiv 10)=((n / 10:Nat):Int):=by rw[Int.tdiv_eq_ediv_of_nonneg oM];omega
   have X:((n:Int).tmod 10)=((n % 10:Nat):Int):=by rw[Int.tmod_eq_emod_of_nonneg oM];omega
   have z1:=jN (n / 10);have z2:=jN (n % 10);have z:dg n=dg (n / 10)++dg (n % 10):=by rw[dg,dif_neg oM]
   have S:∀a:Int,E9 prog .quo 3 (.int .i64 a) (.int .i64 10)=some (.int .i64 (IntKind.wrap .i64 (a.tdiv 10))):=fun a=>pB 3 a 10 oM;have U:∀a:Int,E9 prog .rem 3 (.int .i64 a) (.int .i64 10)=some (.int .i64 (a.tmod 10)):=fun a=>CP 3 .i64 a 10 oM;have hs:=W7 (P:=prog) 9 (dg (n / 10)) (dg (n % 10)) oM;have u:∀H,CL prog O8 89 [iV ((n / 10:Nat):Int)] H=some (.string (dg (n / 10)),none):=fun H=>I H oM;have y:∀H,CL prog O8 89 [iV ((n % 10:Nat):Int)] H=some (.string (dg (n % 10)),none):=fun H=>J H oM;exact J10 b S U W X @wrap_small u y hs z trivial
  .have O:=dT b;have z:dg n=dg1 n:=by rw[dg,dif_pos oM]
   have w1:=Db n oM;have h:=zQ (d9.push ⟨H.bs,H.next⟩ (bC [.int .u8 (48+(n:Int))] 1)) H.next (48+n) i7 1;have E:(48+(n:Int)).toNat=48+n:=oM;rw[E]at h;simp(maxSteps:=20000000) -dsimp (disch:=first|omega|(simp only[rH]<;>omega)|fail) only[↓ai3,rQ,D8,sevalprocAttr,tyA,b,wrap_small,w1,h,z,dg1]
def V0(l:List ByteArray)(s:ByteArray):Bool:=l.any fun y=>ci y s
theorem kI{l:List ByteArray}{s:ByteArray}(h:V0 l s=true):s∈l:=by
 obtain⟨y,u,z⟩:=List.any_eq_true.1 h;have:=dT z;exact this▸u
def T7(l:List ByteArray):Nat:=aA0 (fun n=>V0 l (dg n)) (l.length+1) 0
theorem vK(l:List ByteArray):V0 l (dg (T7 l))=false/\T7 l<l.length+1:=by
 obtain⟨m,y,u⟩:=oW dg (fun i j=>oS) l (fun n=>V0 l (dg n)) (fun i h=>kI h);have:=bT (fun n=>V0 l (dg n)) (l.length+1) 0 ⟨m,oM,oM,u⟩;exact⟨this.1,by have:=this.2;rw[T7];omega⟩
theorem aY(p:Nat->Bool):∀k n,n<=aA0 p k n/\∀m,n<=m->m<aA0 p k n->p m=true
 |0,n=>⟨lR,fun m u h=>by rw[aA0]at h;omega⟩
 |k+1,n=>by
  rw[aA0];split
  .rename_i D;obtain⟨u,h⟩:=aY p k (n+1);exact⟨oM,fun m E y=>by
    by_cases z:m=n
    .rw[z];exact D
    .exact h m oM y⟩
  .exact⟨lR,fun m u h=>oM⟩
theorem mF(H0:d9)(lo:Nat)(D:lo<=H0.next)(v:Value)(l:List ByteArray)(hv:SlI H0 lo 1 (R1 stE) v l)(hn:l.length<=100000):
  ∀J e H2,(∃n:Nat,J=T7 l+1-n/\n<=T7 l/\e.get 0=v/\e.get 3=iV n/\H2=H0)->
  u9 (LE prog O8 (.loop FY) e H2) (fun o e H2=>H2=H0/\o= .exit 0/\e.get 3=iV (T7 l)):=by
 refine j7 _ _ ?_;rintro J e H2 ⟨n,hk,W,u,f3,S⟩;subst S;obtain⟨U,X⟩:=vK l;have z:=(aY (fun n=>V0 l (dg n)) (l.length+1) 0).2;have O:=aB8 n H2 oM;have h:=tw H2 lo v l (dg n) D hv oM;by_cases E:n=T7 l
 .have I:(l.any fun y=>ci y (dg n))=false:=by rw[E];exact U
  rw[I]at h;refine J4 u f3 O h ?_;exact l7 ⟨rfl,rfl,by rw[<-E];exact f3⟩
 .have I:(l.any fun y=>ci y (dg n))=true:=z n oM (by rw[T7]at E W;omega);rw[I]at h;refine J5 u f3 O h @wrap_small ?_;exact i6 (J-1) oM ⟨n+1,oM,oM,u,rfl,rfl⟩
theorem gW(H:d9)(lo:Nat)(v:Value)(l:List ByteArray)(h:lo<=H.next)(O:SlI H lo 1 (R1 stE) v l)(I:l.length<=100000):CL prog O8 66 [v] H=some (.string (dg (T7 l)),none):=by
 obtain⟨S,E⟩:=vK l;have D:∀H,CL prog O8 89 [iV (T7 l:Int)] H=some (.string (dg (T7 l)),none):=fun H=>aB8 (T7 l) H oM;rw[j8 ad4 rfl _ sM];refine J1 ty3 ?_;refine l9 (F:=fun z=>u5 _ _ _ (u7 (inBlock 0 z) _)=_) (mF ⟨H.bs,H.next⟩ lo h v l (O.mono (fun _ _=>rfl) lR iF) I (T7 l+1) _ _ ⟨0,rfl,oM,rfl,rfl,rfl⟩) ?_;rintro o e' H' ⟨y,J,u⟩;exact J4 J y u D trivial
def zS:ByteArray:=⟨#[122]⟩
def zN(n:Nat):ByteArray:=if n=0 then zS else zS++dg n
theorem al6(n:Nat):1<=(dg n).size:=by
 rw[dg];split
 .exact Nat.le_refl 1
 .rename_i h;have u:(dg (n % 10)).size=1:=by rw[dg,dif_pos oM];rfl
  rw[ByteArray.size_append,u];omega
theorem oE{a b c:ByteArray}(h:a++b=a++c):b=c:=by
 have u:(a++b).data.toList=(a++c).data.toList:=by rw[h]
 rw[aX,aX]at u;have y:=List.append_cancel_left u;obtain⟨b⟩:=b;obtain⟨c⟩:=c;have z:b=c:=Array.toList_inj.1 y;rw[z]
theorem NW(i j:Nat)(h:zN i=zN j):i=j:=by
 unfold zN at h;have hs:∀n,(zS++dg n).size≠zS.size:=fun n=>by have:=al6 n;rw[ByteArray.size_append];omega
 split at h<;>split at h
 .omega
 .exact absurd (congrArg ByteArray.size h).symm (hs _)
 .exact absurd (congrArg ByteArray.size h) (hs _)
 .exact oS (oE h)
def P0(l:List (ByteArray×ByteArray))(x:ByteArray×ByteArray):Bool:=l.any fun y=>Q3 y x
theorem zo{x y:ByteArray×ByteArray}:Q3 x y=true↔x=y:=by
 simp only[Q3,Bool.and_eq_true,decide_eq_true_eq];exact Prod.ext_iff.symm
theorem nj{l:List (ByteArray×ByteArray)}{x:ByteArray×ByteArray}(h:P0 l x=true):x∈l:=by
 obtain⟨y,u,z⟩:=List.any_eq_true.1 h;exact(zo.1 z)▸u
def zNm(n:Nat):ByteArray×ByteArray:=(eB,zN n)
def Q4(l:List (ByteArray×ByteArray)):Nat:=aA0 (fun n=>P0 l (zNm n)) (l.length+1) 0
theorem vN(l:List (ByteArray×ByteArray)):P0 l (zNm (Q4 l))=false/\Q4 l<l.length+1:=by
 obtain⟨m,y,u⟩:=oW zNm (fun i j h=>NW i j (congrArg Prod.snd h)) l (fun n=>P0 l (zNm n)) (fun i h=>nj h);have:=bT (fun n=>P0 l (zNm n)) (l.length+1) 0 ⟨m,oM,oM,u⟩;exact⟨this.1,by have:=this.2;rw[Q4];omega⟩
theorem BH(H0:d9)(lo:Nat)(U:Option Addr)(E:Nat)(l:List (ByteArray×ByteArray))(x:ByteArray×ByteArray)(hv:SlI H0 lo 2 (R1 nmE) (.slice U l.length E) l)(hn:l.length<=100000)(S:Nat)(hb:H0.get S=cE (nmE x) 1)(p2:Value)(W:Value)(r:Bool):
  ∀D e H2,(∃(i:Nat)(f:Bool),D=l.length-i/\i<=l.length/\e.get 0= .slice U l.length E/\e.get 2=p2/\e.get 3=W/\e.get 4=pT S/\e.get 5= .bool f/\e.get 6=iV i/\H2=H0/\(f||(l.drop i).any fun y=>Q3 y x)=r)->
  u9 (LE prog O8 (.loop AF) e H2) (fun o e H2=>H2=H0/\o= .exit 2/\e.get 0= .slice U l.length E/\e.get 2=p2/\e.get 3=W/\e.get 4=pT S/\e.get 5= .bool r):=by
 refine j7 _ _ ?_;rintro D e H2 ⟨i,f,hk,hi,h,I,f3,f4,f5,f6,X,u⟩;subst X;have O:ldC (some true) (some 2) 0 (nmE x)=some (.agg (nmE x).toArray):=rfl;rcases b:decide ((i:Int)<l.length)with _|_
 .have J:=dF b;have:l.drop i=[]:=dN oM;rw[this,List.any_nil,Bool.or_false]at u;refine J3 h f6 b ?_;exact l7 ⟨rfl,rfl,h,I,f3,f4,by rw[<-u];exact f5⟩
 have J:=dT b;obtain⟨y,nb,o,cs,own,el,hx,hd,rfl,a2,hg,a1,z,hc,rfl⟩:=hv.row (i:=i) oM;have nt:(i:Int).toNat=i:=tN i;rw[hd,List.any_cons,<-Bool.or_assoc]at u;rcases f with _|_
 .refine J11 h f4 f5 f6 b hb hg nt z O @wrap_small ?_;exact i6 (D-1) oM ⟨i+1,Q3 y x,oM,oM,h,I,f3,f4,rfl,rfl,rfl,by rw[<-u];rfl⟩
 .refine J5 h f5 f6 b @wrap_small ?_;exact i6 (D-1) oM ⟨i+1,true,oM,oM,h,I,f3,f4,rfl,rfl,rfl,by rw[<-u];rfl⟩
theorem ui(y:d9)(lo p2:Nat)(a4:lo<=p2)(a8:p2<y.next)(U:Option Addr)(I:Nat)(l:List (ByteArray×ByteArray))(hv:SlI y lo 2 (R1 nmE) (.slice U l.length I) l)(hn:l.length<=100000)(hb:y.get p2=cE [.string eB,.string eB] 1):
  ∀E e H2,(∃n:Nat,E=Q4 l+1-n/\n<=Q4 l/\e.get 0= .slice U l.length I/\e.get 2=pT p2/\e.get 3=iV n/\i4 (p2+1) y H2)->
  u9 (LE prog O8 (.loop FU) e H2) (fun o e H2=>o= .ret/\e.get 2=pT p2/\H2.get p2=some (.cells (nmE (zNm (Q4 l))) true 1)/\i4 p2 y H2):=by
 refine j7 _ _ ?_;rintro E e H2 ⟨n,hk,hi,f0,f2,f3,J⟩;obtain⟨hf,a5⟩:=vN l;have a1:=(aY (fun n=>P0 l (zNm n)) (l.length+1) 0).2;have a6:=J.next;have hd:=fun H=>aB8 n H oM;have a3:=jN n;have hs:=W7 (P:=prog) 9 ⟨#[122]⟩ (dg n) (by show 1+_<=_;omega);have key:∀(D:d9)(u:Env),i4 (p2+1) H2 D->D.get H2.next=some (.cells (nmE (zNm n)) true 1)->u.get 0= .slice U l.length I->u.get 2=pT p2->u.get 3=iV n->u.get 4=pT H2.next->u.get 5= .bool false->u.get 6=iV 0->
   u9 (inBlock 1 (u7 (inBlock 2 (LE prog O8 AF.loop u D)) (LE prog O8 (((E4.ops [⟨some 29,.move (.tmp 5),none⟩,⟨some 30,.unOp .not 4 (.tmp 29),none⟩]).seq FV).seq FW)))) (dy E (fun E e H2=>∃n:Nat,E=Q4 l+1-n/\n<=Q4 l/\e.get 0= .slice U l.length I/\e.get 2=pT p2/\e.get 3=iV n/\i4 (p2+1) y H2) (fun o e H2=>o= .ret/\e.get 2=pT p2/\H2.get p2=some (.cells (nmE (zNm (Q4 l))) true 1)/\i4 p2 y H2)):=by
  intro D u h S g0 g2 g3 g4 g5 g6;have a7:=h.next;have O:D.get p2=_:=(h.get p2 oM).trans ((J.get p2 oM).trans hb);refine l9 (F:=fun z=>u9 (inBlock 1 (u7 (inBlock 2 z) _)) _) (BH D lo U I l (zNm n) (hv.mono (fun j hj=>by rw[h.get j oM,J.get j oM]) lR iF) hn H2.next S _ _ (P0 l (zNm n)) l.length _ _ ⟨0,false,rfl,oM,g0,g2,g3,g4,g5,g6,rfl,rfl⟩) ?_;rintro o e4 H4 ⟨rfl,ho,k0,k2,k3,k4,W⟩;have a2:ldC (some true) (some 2) 0 (nmE (zNm n))=some (.agg (nmE (zNm n)).toArray):=rfl;by_cases hm:n=Q4 l
  .have hq:P0 l (zNm n)=false:=by rw[hm];exact hf
   rw[hq]at W;refine J7 ho k2 k4 W S a2 O ?_;refine A6 ⟨rfl,k2,?_,(J.weaken oM).trans ((h.weaken oM).trans (i4.put lR))⟩;rw[i8 (u6 O),hm]
  .have hq:P0 l (zNm n)=true:=a1 n oM (by rw[Q4]at hm hi;omega);rw[hq]at W;refine J4 ho k3 W @wrap_small ?_;exact i6 (E-1) oM ⟨n+1,oM,oM,k0,k2,rfl,J.trans h⟩
 by_cases h0:n=0
 .have X:decide ((0:Int)<n)=false:=decide_eq_false oM;refine J2 f3 X ?_;refine key _ _ ((i4.push oM).trans (i4.put oM)) ?_ f0 f2 f3 rfl rfl rfl;rw[i8 (by rw[i5];omega),zNm,zN,if_pos h0];rfl
 .have X:decide ((0:Int)<n)=true:=decide_eq_true oM;refine J4 f3 X hd hs ?_;refine key _ _ (((i4.push oM).trans (i4.put oM)).trans (i4.put oM)) ?_ f0 f2 f3 rfl rfl rfl;rw[i8 (by rw[j5,i5];omega),zNm,zN,if_neg h0];rfl
theorem yq(H:d9)(lo:Nat)(v:Value)(l:List (ByteArray×ByteArray))(E:lo<=H.next)(S:SlI H lo 2 (R1 nmE) v l)(hn:l.length<=100000):CL prog O8 64 [v] H=some (.agg (nmE (zNm (Q4 l))).toArray,none):=by
 obtain⟨va,U,rfl⟩:=S.slice;obtain⟨J,h,-,O,X⟩:=pushF H (bC [.string eB,.string eB] 1);have u:H.next<=J.low:=by rw[h,O7];exact lR
 rw[j8 ad2 rfl _ sM];refine J1 h.symm ?_;refine l9 (F:=fun z=>u5 _ _ _ (inBlock 0 z)=_) (ui J lo H.next E (u6 O) va U l (S.mono (fun j hj=>X.get j oM) lR iF) hn O (Q4 l+1) _ _ ⟨0,rfl,oM,rfl,rfl,rfl,i4.refl _ _⟩) ?_;rintro o e' H' ⟨ho,W,D,y⟩;have hl:=y.low u;have I:ldC (some true) (some 2) 0 (nmE (zNm (Q4 l)))=some (.agg (nmE (zNm (Q4 l))).toArray):=rfl;exact J4 ho W D I trivial
end Go.Proofs.YtofbhlhamfkljaaGreatDoor.Ve
namespace Go.Proofs.YtofbhlhamfkljaaGreatDoor.Ve
open Go Go.RowKit
def j9(w:Value)(b:Nat):Prop:=∃n c,w= .slice (some ⟨b,0,none⟩) n c
theorem A9(b:Nat):¬j9 (.slice none 0 0) b:=fun⟨_,_,h⟩=>by cases h
theorem I6{b u n c:Nat}:j9 (.slice (some ⟨b,0,none⟩) n c) u↔u=b:=⟨fun⟨_,_,h⟩=>by cases h;rfl,fun h=>⟨n,c,by rw[h]⟩⟩
def SlF(H:d9)(F:Nat->Prop)(sz:Nat){α:Type}(R:LV->α->Prop)(v:Value)(l:List α):Prop:=
 (v= .slice none 0 0/\l=[])\/
 ∃b o c,v= .slice (some ⟨b,o,none⟩) l.length c/\
  (l=[]\/∃cs own,F b/\H.get b=some (.cells cs own sz)/\o+l.length*sz<=cs.length/\∀(i:Nat) a,l[i]?=some a->R ((cs.drop (o+i*sz)).take sz) a)
section
variable{α:Type}{R R':List Value->α->Prop}{H H':d9}{F F':Nat->Prop}{lo sz:Nat}{v w:Value}{l l2:List α}
theorem SlI.slF(h:SlI H lo sz R v l):SlF H (· <lo) sz R v l:=h
theorem SlF.mono(h:SlF H F sz R v l)(J:∀j,F j->H'.get j=H.get j) (E:∀j,F j->F' j) (I:∀cs a,R cs a->R' cs a):SlF H' F' sz R' v l:=by
 rcases h with h|⟨b,o,c,S,h⟩
 .exact .inl h
 .refine .inr ⟨b,o,c,S,?_⟩;rcases h with h|⟨cs,own,u,y,z,D⟩
  .exact .inl h
  .exact .inr ⟨cs,own,E _ u,by rw[J b u];exact y,z,fun i a O=>I _ _ (D i a O)⟩
theorem SlF.sl(h:SlF H F sz R v l)(u:∀j,F j->j<lo):SlI H lo sz R v l:=h.mono (fun _ _=>rfl) u iF
theorem SlF.slice(h:SlF H F sz R v l):∃a c,v= .slice a l.length c:=by
 rcases h with⟨h,u⟩|⟨b,o,c,y,h⟩
 .exact⟨none,0,by rw[h,u];rfl⟩
 .exact⟨_,_,y⟩
theorem t7.frz(h:t7 H lo sz R w l)(I:∀b,j9 w b->F b):SlF H F sz R w l:=by
 obtain⟨cs,z,D⟩:=h;rcases z with⟨h,y,_⟩|⟨b,c,u,E,O,S⟩
 .exact .inl ⟨h,List.length_eq_zero_iff.1 y⟩
 .refine .inr ⟨b,0,c,u,.inr ⟨cs,true,I b ⟨_,_,u⟩,E,oM,fun i a J=>?_⟩⟩;rw[Nat.zero_add];exact D.2 i a J
theorem t7.lt(h:t7 H lo sz R w l){b:Nat}(E:j9 w b):lo<=b/\b<H.next:=by
 obtain⟨cs,u,O⟩:=h;obtain⟨n,c,rfl⟩:=E;rcases u with⟨h,_⟩|⟨I,J,y,z,D,S⟩
 .cases h
 .cases y;exact⟨D,u6 z⟩
theorem t7.same(h:t7 H lo sz R w l)(J:∀b,j9 w b->H'.get b=H.get b):t7 H' lo sz R w l:=by
 obtain⟨cs,y,z⟩:=h;refine⟨cs,?_,z⟩;rcases y with h|⟨b,c,u,D,E,I⟩
 .exact .inl h
 .exact .inr ⟨b,c,u,by rw[J b ⟨_,_,u⟩];exact D,E,I⟩
theorem CF{P:Program}{t e:TypeId}{bytes n m k:Nat}{z cs el:LV}{a:Option Addr}(ht:P.underlying t=some (.slice e))(hs:z9 P e=some sz)(D:A7 P e=some bytes)(X:B8 P e=some z)(h0:0<sz)(h1:0<bytes)
  (h:aP H lo sz v n cs) (hx:dl H sz (.slice a m k)=some el) (O:el.length=m*sz) (hr:(n+m)*bytes<=140737488355328) (y:lo<=H.next):
  Ret (fb P H [t,t] v (.slice a m k)) H fun v' H'=>aP H' lo sz v' (n+m) (cs++el)/\i4 lo H H'/\(∀j,j<H.next->¬j9 v j->H'.get j=H.get j)/\((v'=v/\H'=H)\/∀b,j9 v' b->H.next<=b):=by
 have J:I2 P t=some e:=by simp [I2,ht]
 have u:Z4 P H sz (some t) (.slice a m k)=some (m,el):=by
  simp only[Z4,Option.bind_some,ht,hx,Option.map_some]
 have I:¬(sz=0\/bytes=0):=oM;by_cases hm:m=0
 .subst hm;have he:el=[]:=List.length_eq_zero_iff.1 oM;subst he;rw[Nat.add_zero,List.append_nil];refine⟨v,none,H,?_,rfl,h,i4.refl _ _,fun _ _ _=>rfl,.inl ⟨rfl,rfl⟩⟩;rcases h with⟨rfl,rfl,rfl⟩|⟨b,c,rfl,hg,W,E⟩
  .simp [fb,J,hs,D,X,I,u,dr]
  .simp [fb,J,hs,D,X,I,u,dr]
 .rcases h with⟨rfl,rfl,rfl⟩|⟨b,c,rfl,hg,W,E⟩
  .refine⟨.slice (some ⟨H.next,0,none⟩) m (m+1),some (H.push (.cells el true sz)),_,?_,rfl,.inr ⟨H.next,_,by rw[Nat.zero_add],i7,y,by simpa using O⟩,i4.push y,fun j U _=>j6 U,.inr fun b D=>by rw[I6]at D;omega⟩;simp only[fb,List.head?_cons,Option.bind_some,J,hs,D,X,List.getElem?_cons_succ,List.getElem?_cons_zero,if_neg I,u];rw[if_neg hm,if_pos (by simpa using hr),dr]
  .have a1:=u6 hg;have S:((cs.drop 0).take (n*sz))=cs:=by rw[List.drop_zero,List.take_of_length_le oM]
   by_cases hc:c=n
   .refine⟨.slice (some ⟨H.next,0,none⟩) (n+m) (n+m+1),some (H.push (.cells (cs++el) true sz)),_,?_,rfl,.inr ⟨H.next,_,rfl,i7,y,by rw[List.length_append,E,O,Nat.add_mul]⟩,i4.push y,fun j U _=>j6 U,.inr fun b D=>by rw[I6]at D;omega⟩;simp only[fb,List.head?_cons,Option.bind_some,J,hs,D,X,List.getElem?_cons_succ,List.getElem?_cons_zero,if_neg I,u,hg,S];rw[if_neg hm,if_pos hr,if_pos (by simp;omega),if_pos hc,dr]
   .refine⟨.slice (some ⟨H.next,0,none⟩) (n+m) (n+m+1),some ((H.put b .dead).push (.cells (cs++el) true sz)),_,?_,rfl,.inr ⟨H.next,_,rfl,R2 ⟨by simp [j5],by simp [j5]⟩,y,by rw[List.length_append,E,O,Nat.add_mul]⟩,(i4.put W).trans (i4.push (by rw[j5];exact y)),fun j U hn=>?_,.inr fun b D=>by rw[I6]at D;omega⟩
    .simp only[fb,List.head?_cons,Option.bind_some,J,hs,D,X,List.getElem?_cons_succ,List.getElem?_cons_zero,if_neg I,u,hg,S];rw[if_neg hm,if_pos hr,if_pos (by simp;omega),if_neg hc,if_pos trivial,dr]
    .show((H.put b .dead).push (.cells (cs++el) true sz)).get j=H.get j;rw[j6 (by rw[j5];exact U),i9 (fun q=>hn (by rw[<-q];exact⟨_,_,rfl⟩))]
structure X7(lo:Nat)(w:Value)(H:d9)(v':Value)(H':d9):Prop where
 stay:i4 lo H H'
 but:∀j,j<H.next->¬j9 w j->H'.get j=H.get j
 new:∀b,j9 v' b->j9 w b\/H.next<=b
theorem X7.next{w v':Value}(h:X7 lo w H v' H'):H.next<=H'.next:=h.stay.next
theorem t7.appendF{P:Program}{t e:TypeId}{bytes:Nat}{z:LV}{x:Value}{n:Nat}(W:P.underlying t=some (.slice e))(hs:z9 P e=some sz)(u:A7 P e=some bytes)(hz:B8 P e=some z)(O:0<sz)(S:0<bytes)
  (h:t7 H lo sz R w l) (X:SlI H n sz R x l2) (U:(l.length+l2.length)*bytes<=140737488355328) (y:lo<=H.next):
  Ret (fb P H [t,t] w x) H fun v' H'=>t7 H' lo sz R v' (l++l2)/\X7 lo w H v' H':=by
 obtain⟨cs,k1,k2⟩:=h;obtain⟨a,c,el,rfl,q1,E⟩:=X.rows;obtain⟨v',J,I,r1,r2,r3,r4,r5,D⟩:=CF (m:=l2.length) W hs u hz O S k1 q1 E.1 U y;refine⟨v',J,I,r1,r2,⟨cs++el,by rw[List.length_append];exact r3,k2.append E⟩,r4,r5,fun b u=>?_⟩;rcases D with⟨rfl,_⟩|D
 .exact .inl u
 .exact .inr (D b u)
theorem t7.push1F{P:Program}{t e:TypeId}{bytes:Nat}{z cs:LV}{a:α}(ht:P.underlying t=some (.slice e))(hs:z9 P e=some sz)(y:A7 P e=some bytes)(hz:B8 P e=some z)(O:0<sz)(S:0<bytes)
  (h:t7 H lo sz R w l) (D:cs.length=sz) (W:R cs a) (hr:(l.length+1)*bytes<=140737488355328) (E:lo<=H.next):
  Ret (fb P (H.push (.cells cs true sz)) [t,t] w (.slice (some ⟨H.next,0,none⟩) 1 1)) (H.push (.cells cs true sz)) fun v' H'=>t7 H' lo sz R v' (l++[a])/\X7 lo w H v' H':=by
 have U:=t7.fresh (H:=H) (lo:=H.next) (l:=[a]) (n:=1) (c:=1) rfl lR (D2.one D W);have hn:(H.push (.cells cs true sz)).next=H.next+1:=i5;have u:i4 H.next H (H.push (.cells cs true sz)):=i4.push lR;obtain⟨v',J,H',r1,r2,r3,r4,r5,r6⟩:=(h.keep u).appendF ht hs y hz O S U.sl (by simpa using hr) oM;refine⟨v',J,H',r1,r2,r3,(u.weaken E).trans r4,fun j X I=>?_,fun b y=>?_⟩
 .rw[r5 j oM I,u.get j X]
 .rcases r6 b y with r|r
  .exact .inl r
  .exact .inr oM
end
end Go.Proofs.YtofbhlhamfkljaaGreatDoor.Ve
namespace Go.Proofs.YtofbhlhamfkljaaGreatDoor.Ve
open Go Go.RowKit
open Go.Proofs.Tryz (prog)
structure SpD where
 names:List (ByteArray×ByteArray)
 attrs:List (ByteArray×ByteArray)
 vals:List (List ByteArray)
 texts:List ByteArray
def spQ(q:Q):SpD:=⟨S9 4 4 (fsQ false q),S9 5 6 (fsQ false q),(S9 5 6 (fsQ false q)).map fun n=>S7 6 n (fsQ false q),S7 7 (eB,eB) (fsQ false q)⟩
def VlF(H:d9)(F:Nat->Prop)(cs:LV)(l:List ByteArray):Prop:=∃v,cs=[v]/\SlF H F 1 (R1 stE) v l
theorem VlF.mono{H H':d9}{F F':Nat->Prop}{cs:LV}{l:List ByteArray}(h:VlF H F cs l)(D:∀j,F j->H'.get j=H.get j) (z:∀j,F j->F' j):VlF H' F' cs l:=by
 obtain⟨v,u,y⟩:=h;exact⟨v,u,y.mono D z iF⟩
def SpR(H:d9)(lo:Nat)(cs:LV)(d:SpD):Prop:=∃v1 v2 v3 v4,cs=[v1,v2,v3,v4]/\SlI H lo 2 (R1 nmE) v1 d.names/\SlI H lo 2 (R1 nmE) v2 d.attrs/\SlI H lo 1 (VlF H (· <lo)) v3 d.vals/\SlI H lo 1 (R1 stE) v4 d.texts
theorem SpR.mono{H H':d9}{lo z:Nat}{cs:LV}{d:SpD}(h:SpR H lo cs d)(y:∀j,j<lo->H'.get j=H.get j) (u:lo<=z):SpR H' z cs d:=by
 obtain⟨S,U,W,X,D,E,I,J,O⟩:=h;exact⟨S,U,W,X,D,E.mono y u iF,I.mono y u iF,J.mono y u (fun _ _ h=>h.mono y (fun j hj=>oM)),O.mono y u iF⟩
theorem uJ(k:Nat)(H1:d9)(y:Nat)(d6:y<H1.next)(vf va v1 v4 p2:Value)(l:List Q)(u:List (ByteArray×ByteArray))(hl:l.length<=1000000)(ha:u.length<=1000000)(c7:QsR H1 y k true vf l)(a8:SlI H1 y 2 (R1 nmE) va u):
  ∀kk e H2,(∃(i:Nat)(w:Value)(F:Nat->Prop),kk=u.length-i/\i<=u.length/\e.get 2=p2/\e.get 3=vf/\e.get 4=pT y/\e.get 5=iV i/\H2.get y=cE [v1,va,w,v4] 1/\t7 H2 (y+1) 1 (VlF H2 F) w ((u.take i).map fun n=>S7 6 n l)/\(∀b,j9 w b->¬F b)/\(∀j,F j->y<j/\j<H2.next)/\i4 y H1 H2)->
  u9 (LE prog O8 (.loop FT) e H2) (fun o e H2=>o= .exit 0/\e.get 2=p2/\e.get 4=pT y/\∃(w:Value)(F:Nat->Prop),H2.get y=cE [v1,va,w,v4] 1/\t7 H2 (y+1) 1 (VlF H2 F) w (u.map fun n=>S7 6 n l)/\(∀j,F j->y<j/\j<H2.next)/\i4 y H1 H2):=by
 obtain⟨aa,ac,c9⟩:=a8.slice;subst c9;refine j7 _ _ ?_;rintro kk e H2 ⟨i,w,F,hk,hi,f2,f3,f4,f5,J,hO,c4,hF,hS⟩;have d2:=hS.next;have d0:([v1,.slice aa u.length ac,w,v4]:LV)[1]?=some (.slice aa u.length ac):=rfl;rcases b:decide ((i:Int)<u.length)with _|_
 .have b7:=dF b;have:u.take i=u:=List.take_of_length_le oM;rw[this]at hO;refine J4 f4 f5 J b ?_;exact l7 ⟨rfl,f2,f4,w,F,J,hO,hF,hS⟩
 have b7:=dT b;obtain⟨x,nb,o,cs,own,el,hx,hd,a9,c3,hg,d1,a7,hc,rfl⟩:=a8.row (i:=i) oM;subst a9;have nt:(i:Int).toNat=i:=tN i;have b9:=(hS.get nb c3).trans hg;have b0:QsR H2 y k true vf l:=c7.mono (fun j z=>hS.get j z) lR;obtain⟨v,h,H3,b8,c0,I,D⟩:=lN H2 y k vf l 6 x oM b0 hl;have d3:=D.next;have d5:y<H3.next:=oM;have U:H3.get y=cE [v1,.slice (some ⟨nb,o,none⟩) u.length ac,w,v4] 1:=(D.get y oM).trans J;obtain⟨F',E⟩:=eY (fun j=>F j\/j9 v j:Nat->Prop);have a2:∀j,F' j->y<j/\j<H3.next:=fun j z=>by
  rw[E]at z;rcases z with z|z
  .have:=hF j z;omega
  .have:=I.lt z;omega
 have b5:t7 H3 (y+1) 1 (VlF H3 F') w ((u.take i).map fun n=>S7 6 n l):=(hO.keep D).imp fun cs a h=>h.mono (fun j z=>D.get j (hF j z).2) (fun j z=>by rw[E];exact .inl z);have b1:∀b,j9 w b->¬F' b:=fun b S O=>by
  rw[E]at O;rcases O with O|O
  .exact c4 b S O
  .have h1:=hO.lt S;have h2:=I.lt O;omega
 have c8:VlF H3 F' [v] (S7 6 x l):=⟨v,rfl,I.frz fun b S=>by rw[E];exact .inr S⟩
 have a5:((u.take i).map fun n=>S7 6 n l).length=i:=by simp;omega
 obtain⟨v',h',H4,b6,a4,a3,hG⟩:=b5.push1F (P:=prog) (t:=96) (cs:=[v]) (a:=S7 6 x l) (by exact NR.2.2.2.2.2.2) aH.1 aH.2.1 aH.2.2.1 oM oM rfl c8 (by rw[a5];omega) oM;have d4:=hG.next;have W:H4.get y=cE [v1,.slice (some ⟨nb,o,none⟩) u.length ac,w,v4] 1:=(hG.stay.get y oM).trans U;have a6:=u6 W;obtain⟨wa,wc,d8⟩:=hO.slice;obtain⟨e1,e2,X⟩:=a3.slice;obtain⟨vv,e3,a1⟩:=I.slice;have b2:Value.oneCell' v'=true:=by rw[X];rfl
 have b3:Value.oneCell' v=true:=by rw[a1];rfl
 have cv:v.cells.toList=[v]:=by rw[a1];rfl
 have b4:v'.cells.toList=[v']:=by rw[X];rfl
 refine J19 f3 f4 f5 J b b9 nt a7 b8 c0 U b3 cv b6 a4 W b2 b4 @wrap_small ?_;have c6:(u.take (i+1)).map (fun n=>S7 6 n l)=((u.take i).map fun n=>S7 6 n l)++[S7 6 x l]:=by
  rw[List.take_add_one,hx];simp
 have c5:∀(B:Blk),i4 y H1 (H4.put y B):=fun B=>(hS.trans ((D.weaken oM).trans (hG.stay.weaken oM))).trans (i4.put lR);refine i6 (kk-1) oM ⟨i+1,v',F',oM,oM,f2,f3,f4,rfl,i8 a6,?_,fun b S O=>?_,fun j z=>?_,c5 _⟩
 .rw[c6];refine(a3.same fun b S=>i9 ?_).imp fun cs a h=>h.mono (fun j z=>?_) (fun _ h=>h)
  .have:=a3.lt S;omega
  .have:=a2 j z;rw[i9 oM,hG.but j oM (fun q=>b1 j q z)]
 .rcases hG.new b S with r|r
  .exact b1 b r O
  .have:=a2 b O;omega
 .have:=a2 j z;rw[j5];omega
theorem au{α:Type}{R:LV->α->Prop}{H:d9}{lo sz:Nat}{w:Value}{l:List α}(h:t7 H lo sz R w l)(y:na0 w=true):w=nS/\l=[]:=by
 obtain⟨cs,u,E⟩:=h;rcases u with⟨u,z,_⟩|⟨b,c,D,_⟩
 .exact⟨u,List.length_eq_zero_iff.1 z⟩
 .rw[D]at y;cases y
theorem ig{α:Type}(R:LV->α->Prop)(H:d9)(lo sz:Nat):SlI H lo sz R (nS) ([]:List α):= .inl ⟨rfl,rfl⟩
theorem yr(H:d9)(lo k:Nat)(cs:LV)(q:Q)(j0:lo<=H.next)(hr:QR H lo k false cs q)(h9:OkD false q)(hl:(fsQ false q).length<=100000):
  Ret (CL prog O8 63 [.agg cs.toArray] H) H fun w H1=>∃cs',w= .agg cs'.toArray/\SpR H1 H1.next cs' (spQ q)/\i4 H.next H H1:=by
 cases k with
 |zero=>exact hr.elim
 |succ k=>
 have d3:=hr;obtain⟨va,ca,wa,e6,rfl,h1,h2,h3,h4⟩:=hr.path;obtain⟨U,S⟩:=eY ([iV q.op,.slice va q.a.length ca,.slice wa q.b.length e6]:LV);obtain⟨H1,a5⟩:=eY ((d9.push ⟨H.bs,H.next⟩ (bC U 1)).push (bC [nS,nS,nS,nS] 1));have h8:(d9.push ⟨H.bs,H.next⟩ (bC U 1)).next=H.next+1:=by rw[i5];rfl
 have hS:i4 H.next H H1:=by rw[a5];exact(i4.first H _).trans (i4.push oM)
 have g5:H1.get H.next=cE U 1:=by rw[a5,j6 oM];exact i7
 have g6:H1.get (H.next+1)=cE [nS,nS,nS,nS] 1:=by rw[a5];exact R2 oM
 have d2:H.next<=H1.low:=by rw[a5,O7,O7];exact lR
 have j1:H1.next=H.next+2:=by rw[a5,i5,h8]
 have h6:ldC (some true) (some 3) 0 U=some (.agg U.toArray):=by rw[S];rfl
 rw[<-S]at d3 ⊢;have c5:U.all oC=true:=by rw[S];rfl
 obtain⟨vf,hf,Hf,g3,h0,f1,b2⟩:=(My (k+1)).1 H1 lo U q oM (d3.mono (fun j O=>hS.get j oM) lR) oM h9;have k3:=b2.next;have b4:QsR Hf Hf.next (k+1) true vf (fsQ false q):=f1.sl.mono (fun _ _=>rfl) lR fun cs x h=>h.mono (fun j O=>(b2.get j oM)) oM;obtain⟨v1,i1,Ha,f2,c8,a9,y⟩:=nP Hf Hf.next (k+1) vf (fsQ false q) 4 4 lR b4 oM;have j4:=y.next;obtain⟨W,i2,Hb,g0,c9,a6,D⟩:=nP Ha Hf.next (k+1) vf (fsQ false q) 5 6 oM (b4.mono (fun j O=>y.get j O) lR) oM;have k0:=D.next;obtain⟨v4,i3,Hc,g1,d0,b0,E⟩:=lN Hb Hf.next (k+1) vf (fsQ false q) 7 (eB,eB) oM (b4.mono (fun j O=>by rw[D.get j oM,y.get j O]) lR) oM;have k1:=E.next;obtain⟨a1,c1,e1⟩:=a9.slice;obtain⟨a2,c2,e2⟩:=a6.slice;obtain⟨a4,c4,e4⟩:=b0.slice;have e7:v1.cells.toList=[v1]:=by rw[e1];rfl
 have e8:W.cells.toList=[W]:=by rw[e2];rfl
 have e9:v4.cells.toList=[v4]:=by rw[e4];rfl
 have d6:Value.oneCell' v1=true:=by rw[e1];rfl
 have d8:Value.oneCell' W=true:=by rw[e2];rfl
 have e5:Value.oneCell' v4=true:=by rw[e4];rfl
 obtain⟨Hd,f0,k2,g9,J⟩:=pushP Hc (bC [nS,nS,nS,nS] 1) (bC [v1,W,nS,v4] 1);rw[j8 ad1 rfl _ sM];refine J19 c5 a5.symm g5 h6 g3 h0 f2 c8 g0 c9 g1 d0 e7 e8 e9 d6 d8 e5 f0.symm ?_;have b8:t7 Hd Hf.next 2 (R1 nmE) v1 (S9 4 4 (fsQ false q)):=((a9.keep D).keep E).keep J;have b6:t7 Hd Ha.next 2 (R1 nmE) W (S9 5 6 (fsQ false q)):=(a6.keep E).keep J;have b9:t7 Hd Hb.next 1 (R1 stE) v4 (S7 7 (eB,eB) (fsQ false q)):=b0.keep J;have k4:∀{sz:Nat}{α:Type}{R:LV->α->Prop}{lo:Nat}{w:Value}{l:List α}(H:d9),t7 H lo sz R w l->H.next<=Hc.next->SlI H Hc.next sz R w l:=fun H h h7=>h.sl.mono (fun _ _=>rfl) h7 iF;have d5:QsR Hd Hc.next (k+1) true vf (fsQ false q):=b4.mono (fun j O=>by rw[J.get j oM,E.get j oM,D.get j oM,y.get j O]) oM;have c6:(S9 5 6 (fsQ false q)).length<=1000000:=by have:=aA3 (bI 5 6) qNm Q3 (fsQ false q) [];rw[S9];simp at this;omega
 have d4:SlI Hd Hc.next 2 (R1 nmE) W (S9 5 6 (fsQ false q)):=b6.frz fun b u=>oN (a6.lt u);refine l9 (F:=fun z=>Ret (u5 _ _ _ (u7 (inBlock 0 z) _)) _ _) (uJ (k+1) Hd Hc.next oM vf W v1 v4 _ (fsQ false q) (S9 5 6 (fsQ false q)) oM c6 d5 d4 (S9 5 6 (fsQ false q)).length _ _ ⟨0,nS,fun _=>False,rfl,oM,rfl,rfl,rfl,rfl,g9,t7.nil,fun b u=>(A9 b u).elim,fun j O=>O.elim,i4.refl _ _⟩) ?_;rintro o e' H5 ⟨ho,g2,g4,w,F,g7,b1,hF,I⟩;have j2:=I.next;have c7:H5.get (H.next+1)=cE [nS,nS,nS,nS] 1:=by
  rw[I.get _ oM,J.get _ oM,E.get _ oM,D.get _ oM,y.get _ oM,b2.get _ oM];exact g6
 obtain⟨a3,c3,e3⟩:=b1.slice;have i0:Value.oneCell' w=true:=by rw[e3];rfl
 have d1:ldC (some true) (some 4) 0 [v1,W,w,v4]=some (.agg [v1,W,w,v4].toArray):=rfl;obtain⟨X,a8⟩:=eY (H5.put (H.next+1) (bC [v1,W,w,v4] 1));have g8:X.get (H.next+1)=cE [v1,W,w,v4] 1:=by rw[a8];exact i8 oM
 have j3:X.next=H5.next:=by rw[a8,j5]
 have c0:i4 (H.next+1) H5 X:=by rw[a8];exact i4.put lR
 have b7:i4 H.next H X:=(((((((hS.trans (b2.weaken oM)).trans (y.weaken oM)).trans (D.weaken oM)).trans (E.weaken oM)).trans (J.weaken oM)).trans (I.weaken oM)).trans (c0.weaken oM))
 have h5:H.next<=X.low:=((((((b2.weaken (show H.next<=H1.next from oM)).trans (y.weaken oM)).trans (D.weaken oM)).trans (E.weaken oM)).trans (J.weaken oM)).trans (I.weaken oM)).trans (c0.weaken oM) |>.low d2
 have a7:∀b,H.next+1<b->X.get b=H5.get b:=fun b u=>by rw[a8];exact i9 oM
 refine J12 ho g2 g4 g7 d1 c7 d6 d8 i0 e5 a8.symm g8 ?_;refine ce (fun hc=>?_) ?_
 .simp only[List.all_cons,List.all_nil,Bool.and_true,Bool.and_eq_true]at hc;obtain⟨z1,z2⟩:=au a9 hc.1;obtain⟨z3,z4⟩:=au a6 hc.2.1;obtain⟨z5,z6⟩:=au b1 hc.2.2.1;obtain⟨z7,z8⟩:=au b0 hc.2.2.2;refine⟨[v1,W,w,v4],rfl,⟨v1,W,w,v4,rfl,?_,?_,?_,?_⟩,i4.refl _ _⟩
  .rw[z1,spQ,z2];exact ig ..
  .rw[z3,spQ,z4];exact ig ..
  .rw[z5,spQ,z6];exact ig ..
  .rw[z7,spQ,z8];exact ig ..
 .have b5:∀{sz:Nat}{α:Type}{R:LV->α->Prop}{v:Value}{l:List α}(n:Nat),SlI X n sz R v l->SlI ⟨X.bs,min H.low X.low⟩ n sz R v l:=fun n h=>SlI.mono h (fun _ _=>rfl) lR iF;have b3:d9.next ⟨X.bs,min H.low X.low⟩=X.next:=rfl;refine⟨[v1,W,w,v4],rfl,⟨v1,W,w,v4,rfl,b5 _ ?_,b5 _ ?_,b5 _ ?_,b5 _ ?_⟩,b7.ret h5⟩
  .exact(b8.same fun b u=>by have:=a9.lt u;rw[a7 b oM,I.get b oM]).frz fun b u=>by have:=a9.lt u;rw[b3];omega
  .exact(b6.same fun b u=>by have:=a6.lt u;rw[a7 b oM,I.get b oM]).frz fun b u=>by have:=a6.lt u;rw[b3];omega
  .refine SlF.mono ((b1.same (H':=X) fun b u=>by have:=b1.lt u;rw[a7 b oM]).frz (F:=fun j=>j<X.next) fun b u=>by have:=b1.lt u;omega) (fun _ _=>rfl) (fun j O=>O) fun cs a h=>h.mono (fun j O=>?_) fun j O=>?_
   .have:=hF j O;exact a7 j oM
   .have:=hF j O;rw[b3];omega
  .exact(b9.same fun b u=>by have:=b0.lt u;rw[a7 b oM,I.get b oM]).frz fun b u=>by have:=b0.lt u;rw[b3];omega
structure PrD where
 st:Int
 sa:Int
 en:Int
 ed:List (Int×Int×Int×Int)
 ts:List Q
def PrD.edge(p:PrD)(f t k x:Int):PrD:={p with ed:=p.ed++[(f,t,k,x)]}
mutual
def C5:Q->PrD->PrD×Int×Int
 | .mk o _ _ _ a b,p=>
  if o=4 then hU a p
  else if o=5 then(((L5 a p.st {p with st:=p.st+1} []).2.foldl (fun m x=>m.edge x (L5 a p.st {p with st:=p.st+1} []).1.st 0 0) {(L5 a p.st {p with st:=p.st+1} []).1 with st:=(L5 a p.st {p with st:=p.st+1} []).1.st+1}),p.st,(L5 a p.st {p with st:=p.st+1} []).1.st)
  else if o=6 then(((aC3 a {p with st:=p.st+1}).1.edge p.st (aC3 a {p with st:=p.st+1}).2.1 0 0).edge (aC3 a {p with st:=p.st+1}).2.2 p.st 0 0,p.st,p.st)
  else(({p with st:=p.st+2,ts:=if o=7 then p.ts++b else p.ts}:PrD).edge p.st (p.st+1) (if o=2 then 1 else if o=3 then 2 else if o=7 then 3 else 0) (if o=7 then(p.ts.length:Int) else 0),p.st,p.st+1)
def hU:List Q->PrD->PrD×Int×Int
 |[],p=>(p,0,0)
 |x::l,p=>cP l (C5 x p)
def cP:List Q->PrD×Int×Int->PrD×Int×Int
 |[],x=>x
 |q::l,x=>cP l ((C5 q x.1).1.edge x.2.2 (C5 q x.1).2.1 0 0,x.2.1,(C5 q x.1).2.2)
def L5:List Q->Int->PrD->List Int->PrD×List Int
 |[],_,p,es=>(p,es)
 |x::l,n,p,es=>L5 l n ((C5 x p).1.edge n (C5 x p).2.1 0 0) (es++[(C5 x p).2.2])
def aC3:List Q->PrD->PrD×Int×Int
 |[],p=>(p,0,0)
 |x::_,p=>C5 x p
end
mutual
def nQ:Q->Nat
 | .mk _ _ _ _ a b=>1+nL a+nL b
def nL:List Q->Nat
 |[]=>0
 |x::l=>nQ x+nL l
end
theorem dE(q:Q):nQ q=1+nL q.a+nL q.b:=by cases q;rw[nQ];rfl
theorem pt:∀l:List Q,l.length<=nL l
 |[]=>Nat.zero_le _
 |x::l=>by
  have:=pt l;have h:=dE x;rw[nL,List.length_cons];omega
def X9(n c:Nat)(p r:PrD):Prop:=p.st<=r.st/\r.st<=p.st+2*n/\r.ed.length+c<=p.ed.length+4*n/\r.ts.length<=p.ts.length+n
theorem N8(p:PrD)(f t k x:Int):(p.edge f t k x).ed.length=p.ed.length+1:=by simp [PrD.edge]
theorem U4(p:PrD)(f t k x:Int):(p.edge f t k x).st=p.st:=rfl
theorem bS(p:PrD)(f t k x:Int):(p.edge f t k x).ts=p.ts:=rfl
theorem iB(e:Int):∀(l:List Int)(p:PrD),(l.foldl (fun m x=>m.edge x e 0 0) p).st=p.st/\(l.foldl (fun m x=>m.edge x e 0 0) p).ts=p.ts/\(l.foldl (fun m x=>m.edge x e 0 0) p).ed.length=p.ed.length+l.length
 |[],p=>⟨rfl,rfl,rfl⟩
 |x::l,p=>by
  obtain⟨h,u,y⟩:=iB e l (p.edge x e 0 0);rw[List.foldl_cons];refine⟨h,u,?_⟩;rw[y,N8,List.length_cons];omega
mutual
theorem E8:∀(q:Q)(p:PrD),X9 (nQ q) 2 p (C5 q p).1
 | .mk o s c v a b,p=>by
  rw[C5,nQ];have hb:=pt b;split
  .have:=uH a p;unfold X9 at*;omega
  .split
   .obtain⟨h1,h2⟩:=bA a p.st {p with st:=p.st+1} [];obtain⟨k1,k2,k3⟩:=iB (L5 a p.st {p with st:=p.st+1} []).1.st (L5 a p.st {p with st:=p.st+1} []).2 {(L5 a p.st {p with st:=p.st+1} []).1 with st:=(L5 a p.st {p with st:=p.st+1} []).1.st+1};unfold X9 at*;simp only[List.length_nil]at h2;rw[k1,k2,k3];simp only at h1 ⊢;omega
   .split
    .have h:=ug a {p with st:=p.st+1};unfold X9 at*;simp only[N8,U4,bS];simp only at h;omega
    .unfold X9;simp only[N8,U4,bS];split
     .rw[List.length_append];omega
     .omega
theorem uH:∀(l:List Q)(p:PrD),X9 (nL l) 0 p (hU l p).1
 |[],p=>by rw[hU];unfold X9;simp [nL]
 |x::l,p=>by
  rw[hU,nL];have h1:=E8 x p;have h2:=lU l (C5 x p);unfold X9 at*;omega
theorem lU:∀(l:List Q)(x:PrD×Int×Int),X9 (nL l) l.length x.1 (cP l x).1
 |[],x=>by rw[cP];unfold X9;simp [nL]
 |q::l,x=>by
  rw[cP,nL];have h1:=E8 q x.1;have h2:=lU l ((C5 q x.1).1.edge x.2.2 (C5 q x.1).2.1 0 0,x.2.1,(C5 q x.1).2.2);unfold X9 at*;simp only[N8,U4,bS]at h2;rw[List.length_cons];omega
theorem bA:∀(l:List Q)(n:Int)(p:PrD)(es:List Int),X9 (nL l) l.length p (L5 l n p es).1/\(L5 l n p es).2.length=es.length+l.length
 |[],n,p,es=>by rw[L5];unfold X9;simp [nL]
 |x::l,n,p,es=>by
  rw[L5,nL];have h1:=E8 x p;obtain⟨h2,h3⟩:=bA l n ((C5 x p).1.edge n (C5 x p).2.1 0 0) (es++[(C5 x p).2.2]);unfold X9 at*;simp only[N8,U4,bS]at h2;rw[List.length_append]at h3;simp only[List.length_cons,List.length_nil]at h3 ⊢;omega
theorem ug:∀(l:List Q)(p:PrD),X9 (nL l) 0 p (aC3 l p).1
 |[],p=>by rw[aC3];unfold X9;simp [nL]
 |x::l,p=>by
  rw[aC3,nL];have h1:=E8 x p;unfold X9 at*;omega
end
def PrF(H:d9)(F:Nat->Prop)(Rt:LV->Q->Prop)(cs:LV)(p:PrD):Prop:=∃ve vt,cs=[iV p.st,iV p.sa,iV p.en,ve,vt]/\SlF H F 4 (R1 edE) ve p.ed/\SlF H F 6 Rt vt p.ts
theorem PrF.mono{H H':d9}{F F':Nat->Prop}{y u:LV->Q->Prop}{cs:LV}{p:PrD}(h:PrF H F y cs p)(z:∀j,F j->H'.get j=H.get j) (D:∀j,F j->F' j) (O:∀cs a,y cs a->u cs a):PrF H' F' u cs p:=by
 obtain⟨S,U,E,I,J⟩:=h;exact⟨S,U,E,I.mono z D iF,J.mono z D O⟩
abbrev P5(F:Nat->Prop)(H H1:d9):Nat->Prop:=fun j=>F j\/(H.next<=j/\j<H1.next)
theorem cK(H:d9)(F:Nat->Prop)(Rt:LV->Q->Prop)(b3:LV)(p:PrD)(f t k x:Int)(hF:∀j,F j->j<H.next) (hp:PrF H F Rt b3 p) (he:p.ed.length<=1000000):
  Ret (CL prog O8 114 [.agg b3.toArray,iV f,iV t,iV k,iV x] H) H fun w I=>∃cs',w= .agg cs'.toArray/\PrF I (P5 F H I) Rt cs' (p.edge f t k x)/\i4 H.next H I:=by
 obtain⟨ve,vt,rfl,h1,h2⟩:=hp;obtain⟨ea,ec,rfl⟩:=h1.slice;obtain⟨ta,tc,rfl⟩:=h2.slice;obtain⟨D,z⟩:=eY ([iV p.st,iV p.sa,iV p.en,.slice ea p.ed.length ec,.slice ta p.ts.length tc]:LV);obtain⟨Z,hZ⟩:=eY ([iV 0,iV 0,iV 0,nS,nS]:LV);obtain⟨I,O⟩:=eY ((d9.push ⟨H.bs,H.next⟩ (bC D 1)).push (bC Z 1));have d1:(d9.push ⟨H.bs,H.next⟩ (bC D 1)).next=H.next+1:=by rw[i5];rfl
 have hS:i4 H.next H I:=by rw[O];exact(i4.first H _).trans (i4.push oM)
 have a2:I.get H.next=cE D 1:=by rw[O,j6 oM];exact i7
 have c7:I.get (H.next+1)=cE Z 1:=by rw[O];exact R2 oM
 have b1:H.next<=I.low:=by rw[O,O7,O7];exact lR
 have d4:I.next=H.next+2:=by rw[O,i5,d1]
 obtain⟨H2,a3,d5,-,E⟩:=pushE I (bC [] 4);have b6:t7 H2 I.next 4 (R1 edE) (sL I.next 0 0) ([]:List (Int×Int×Int×Int)):=by rw[a3];exact t7.fresh rfl lR D2.nil
 have b5:SlI H2 H.next 4 (R1 edE) (.slice ea p.ed.length ec) p.ed:=SlF.sl (h1.mono (fun j hj=>by have:=hF j hj;rw[E.get j oM,hS.get j oM]) (fun _ h=>h) iF) hF;obtain⟨v3,h3,H3,b9,a9,b7,J⟩:=b6.appendF (P:=prog) (t:=30) (by exact Fp.2.2.2.2.2.2) mL.1 mL.2.1 mL.2.2.1 oM oM b5 (by simp;omega) oM;have d6:=J.next;obtain⟨v4,h4,H4,c0,b0,X,U⟩:=b7.push1F (P:=prog) (t:=30) (cs:=edE (f,t,k,x)) (a:=(f,t,k,x)) (by exact Fp.2.2.2.2.2.2) mL.1 mL.2.1 mL.2.2.1 oM oM rfl rfl (by simp;omega) oM;have d8:=U.next;have c5:H4.get H.next=cE D 1:=by rw[U.stay.get _ oM,J.stay.get _ oM,E.get _ oM];exact a2
 have d3:H3.get H.next=cE D 1:=by rw[J.stay.get _ oM,E.get _ oM];exact a2
 have a8:H2.get H.next=cE D 1:=by rw[E.get _ oM];exact a2
 have c6:H4.get (H.next+1)=cE Z 1:=by rw[U.stay.get _ oM,J.stay.get _ oM,E.get _ oM];exact c7
 obtain⟨a4,c4,e4⟩:=X.slice;have b2:Value.oneCell' v4=true:=by rw[e4];rfl
 have b4:v4.cells.toList=[v4]:=by rw[e4];rfl
 obtain⟨u,y⟩:=eY ([iV p.st,iV p.sa,iV p.en,v4,.slice ta p.ts.length tc]:LV);obtain⟨W,S⟩:=eY ((H4.put H.next (bC u 1)).put (H.next+1) (bC u 1));have d2:splice D 3 [v4]=u:=by rw[z,y];rfl
 have c3:D[3]?=some (.slice ea p.ed.length ec):=by rw[z];rfl
 have l5:D.length=5:=by rw[z];rfl
 have d0:ldC (some true) (some 5) 0 u=some (.agg u.toArray):=by rw[y];rfl
 have b8:splice Z 0 u=u:=by rw[hZ,y];rfl
 have lz:Z.length=5:=by rw[hZ];rfl
 have l2:u.length=5:=by rw[y];rfl
 have a7:D.all oC=true:=by rw[z];rfl
 have a1:u.all oC=true:=by rw[y];simp [b2];exact⟨rfl,rfl,rfl,rfl⟩
 rw[j8 WE rfl _ sM,<-z];have c8:W.get (H.next+1)=cE u 1:=by rw[S];exact i8 (by rw[j5];omega)
 have a6:i4 H.next H W:=by rw[S];exact((((hS.trans (E.weaken oM)).trans (J.stay.weaken oM)).trans (U.stay.weaken oM)).trans (i4.put lR)).trans (i4.put oM)
 have c9:H.next<=W.low:=by rw[S,A4,A4];have:=(((E.weaken (show H.next<=I.next from oM)).trans (J.stay.weaken oM)).trans (U.stay.weaken oM)).low b1;omega
 have e3:B8 prog 32=some Z:=by rw[hZ];exact mK.2.2.1
 refine J23 a7 hZ.symm O.symm a3.symm a8 c3 b9 a9 c0 b0 c5 c6 l5 b2 b4 d2 d0 l2 lz a1 b8 S.symm c8 ?_;refine ce (fun hc=>?_) ?_
 .rw[y]at hc;simp only[List.all_cons,Bool.and_eq_true]at hc;have:=(au X hc.2.2.2.1).2;simp at this
 .have e2:d9.next ⟨W.bs,min H.low W.low⟩=W.next:=rfl;have e1:W.next=H4.next:=by rw[S,j5,j5]
  have a5:t7 W I.next 4 (R1 edE) v4 (p.ed++[(f,t,k,x)]):=by
   have:=X.same (H':=W) fun b hb=>by have:=X.lt hb;rw[S,i9 oM,i9 oM]
   simpa using this
  refine⟨u,rfl,⟨v4,.slice ta p.ts.length tc,y,?_,?_⟩,a6.ret c9⟩
  .exact SlF.mono (a5.frz (F:=fun j=>H.next<=j/\j<W.next) fun b hb=>by have:=a5.lt hb;omega) (fun _ _=>rfl) (fun j hj=> .inr hj) iF
  .exact SlF.mono (H:=H) h2 (fun j hj=>(a6.get j (hF j hj))) (fun j hj=> .inl hj) iF
abbrev se(s e:Int):LV:=[iV s,iV e]
def iq(n:Nat)(p:PrD):Prop:=0<=p.st/\p.st+2*n<=1000000/\p.ed.length+4*n<=900000/\p.ts.length+n<=900000
def vW(H:d9)(F:Nat->Prop)(Rt:LV->Q->Prop)(r:PrD×Int×Int)(w:Value)(H1:d9):Prop:=∃cs',w= .agg (cs'++se r.2.1 r.2.2).toArray/\PrF H1 (P5 F H H1) Rt cs' r.1/\i4 H.next H H1
def jY(K k:Nat):Prop:=∀(H:d9)(lo:Nat)(F:Nat->Prop)(Rt:LV->Q->Prop)(cs pcs:LV)(q:Q)(p:PrD),lo<=H.next->(∀j,F j->j<H.next)->QR H lo k false cs q->
 (∀k' el x,k'<=K->QR H lo k' true el x->Rt el x)->PrF H F Rt pcs p->OkD false q->iq (nQ q) p->Ret (CL prog O8 90 [.agg pcs.toArray,.agg cs.toArray] H) H (vW H F Rt (C5 q p))
theorem vA(H:d9)(A B C:LV):∃h,h=((d9.push ⟨H.bs,H.next⟩ (bC A 1)).push (bC B 1)).push (bC C 1)/\i4 H.next H h/\h.get H.next=cE A 1/\h.get (H.next+1)=cE B 1/\h.get (H.next+2)=cE C 1/\H.next<=h.low/\h.next=H.next+3:=by
 have u:(d9.push ⟨H.bs,H.next⟩ (bC A 1)).next=H.next+1:=by rw[i5];rfl
 have y:((d9.push ⟨H.bs,H.next⟩ (bC A 1)).push (bC B 1)).next=H.next+2:=by rw[i5,u]
 refine⟨_,rfl,((i4.first H _).trans (i4.push oM)).trans (i4.push oM),?_,?_,?_,?_,?_⟩
 .rw[j6 oM,j6 oM];exact i7
 .rw[j6 oM];exact R2 oM
 .exact R2 oM
 .rw[O7,O7,O7];exact lR
 .rw[i5,y]
abbrev z7:LV:=[iV 0,iV 0,iV 0,nS,nS,iV 0,iV 0]
theorem ak8(q:Q)(p:PrD)(h:q.op≠4)(u:q.op≠5)(y:q.op≠6):C5 q p=(({p with st:=p.st+2,ts:=if q.op=7 then p.ts++q.b else p.ts}:PrD).edge p.st (p.st+1) (if q.op=2 then 1 else if q.op=3 then 2 else if q.op=7 then 3 else 0) (if q.op=7 then(p.ts.length:Int) else 0),p.st,p.st+1):=by
 cases q;simp only[Q.op]at h u y;rw[C5,if_neg h,if_neg u,if_neg y];rfl
theorem E1{H:d9}{F:Nat->Prop}{E:LV->Q->Prop}{cs:LV}{p:PrD}(h:PrF H F E cs p):∃u y z D,cs=[iV p.st,iV p.sa,iV p.en,.slice u p.ed.length y,.slice z p.ts.length D]/\SlF H F 4 (R1 edE) (.slice u p.ed.length y) p.ed/\SlF H F 6 E (.slice z p.ts.length D) p.ts:=by
 obtain⟨O,S,rfl,I,J⟩:=h;obtain⟨u,y,rfl⟩:=I.slice;obtain⟨z,D,rfl⟩:=J.slice;exact⟨u,y,z,D,rfl,I,J⟩
theorem bX{α:Type}{R:LV->α->Prop}{H H':d9}{F F':Nat->Prop}{sz:Nat}{v:Value}{l:List α}(h:SlF H F sz R v l)(u:na0 v=true):SlF H' F' sz R v l:=by
 rcases h with h|⟨b,o,c,y,_⟩
 .exact .inl h
 .rw[y]at u;cases u
theorem cT{H H':d9}{F:Nat->Prop}{y:LV->Q->Prop}{cs':LV}{r:PrD×Int×Int}(S:PrF H' (P5 F H H') y cs' r.1)(J:i4 H.next H H')(O:H.next<=H'.low){c:Bool}(u:c=true->(cs'++se r.2.1 r.2.2).all na0=true):
  Ret (some (br c (.agg (cs'++se r.2.1 r.2.2).toArray,none) (.agg (cs'++se r.2.1 r.2.2).toArray,some ⟨H'.bs,min H.low H'.low⟩))) H (vW H F y r):=by
 obtain⟨E,I,rfl,z,D⟩:=S;refine ce (fun h=>?_) ⟨_,rfl,⟨E,I,rfl,z,D⟩,J.ret O⟩;have h:=u h;simp only[List.cons_append,List.nil_append,List.all_cons,Bool.and_eq_true]at h;exact⟨_,rfl,⟨E,I,rfl,bX z h.2.2.2.1,bX D h.2.2.2.2.1⟩,i4.refl _ _⟩
theorem nf(F:Nat->Prop)(Rt:LV->Q->Prop){H Hx:d9}(b:Nat)(z:LV)(h:PrD)(f t y D s e:Int)(zz:LV)(a8:h.ed.length<=1000000)(hF:∀j,F j->j<Hx.next) (a9:PrF Hx F Rt z h) (hz:Hx.get b=cE zz 1) (hb:¬F b):
  ∃h5 S J na E O nb I W,CL prog O8 114 [.agg z.toArray,iV f,iV t,iV y,iV D] Hx=dr (.agg #[iV h.st,iV h.sa,iV h.en,.slice J na E,.slice O nb I]) h5/\h5.getD Hx=S/\S.get b=cE zz 1/\
   W=S.put b (bC ([iV h.st,iV h.sa,iV h.en,.slice J na E,.slice O nb I]++se s e) 1)/\W.get b=cE ([iV h.st,iV h.sa,iV h.en,.slice J na E,.slice O nb I]++se s e) 1/\
   i4 Hx.next Hx S/\W.next=S.next/\PrF W (P5 F Hx W) Rt [iV h.st,iV h.sa,iV h.en,.slice J na E,.slice O nb I] (h.edge f t y D):=by
 obtain⟨v5,a5,S,a7,X,b2,rfl,a1,U⟩:=cK Hx F Rt z h f t y D hF a9 a8;have b4:=U.next;obtain⟨a3,a4,b0,b1,rfl,b3,b5⟩:=E1 a1;have a6:=u6 hz;have a2:S.get b=cE zz 1:=(U.get _ a6).trans hz;refine⟨a5,S,a3,_,a4,b0,_,b1,_,a7,X,a2,rfl,i8 oM,U,by rw[j5],?_⟩;refine a1.mono (fun j u=>i9 fun q=>?_) (fun j u=>?_) iF
 .subst q;rcases u with u|u
  .exact hb u
  .omega
 .rcases u with u|u
  .exact .inl u
  .exact .inr ⟨u.1,by rw[j5];exact u.2⟩
theorem zd(K k:Nat)(hk:k<=K)(q:Q)(h4:q.op≠4)(h5:q.op≠5)(h6:q.op≠6)(H:d9)(lo:Nat)(F:Nat->Prop)(Rt:LV->Q->Prop)(cs h8:LV)(p:PrD)(o0:lo<=H.next)(hF:∀j,F j->j<H.next) (hr:QR H lo (k+1) false cs q)
  (l1:∀k' el x,k'<=K->QR H lo k' true el x->Rt el x) (hp:PrF H F Rt h8 p) (m3:OkD false q) (g2:iq (nQ q) p):
  Ret (CL prog O8 90 [.agg h8.toArray,.agg cs.toArray] H) H (vW H F Rt (C5 q p)):=by
 obtain⟨f0,f1,f2,f3⟩:=g2;have o9:=dE q;obtain⟨_,_,o1,_,n0⟩:=m3.parts;have o7:=(dk n0).2.2.1;simp only[bF]at o7;obtain⟨va,ca,wa,e5,rfl,h1,h2,h3,k1⟩:=hr.path;obtain⟨ea,ec,ta,tc,rfl,he,ht⟩:=E1 hp;rw[ak8 q p h4 h5 h6];obtain⟨b6,z⟩:=eY ([iV p.st,iV p.sa,iV p.en,.slice ea p.ed.length ec,.slice ta p.ts.length tc]:LV);obtain⟨U,D⟩:=eY ([iV q.op,.slice va q.a.length ca,.slice wa q.b.length e5]:LV);obtain⟨H1,b8,hS,b9,b3,m0,c8,o5⟩:=vA H b6 U z7;have a1:b6.all oC=true:=by rw[z];rfl
 have a2:U.all oC=true:=by rw[D];rfl
 have r0:b6[0]?=some (.int .i64 p.st):=by rw[z];rfl
 have q0:U[0]?=some (.int .i64 q.op):=by rw[D];rfl
 have q2:U[2]?=some (.slice wa q.b.length e5):=by rw[D];rfl
 have lr:b6.length=5:=by rw[z];rfl
 obtain⟨u,J⟩:=eY ([iV (p.st+2),iV p.sa,iV p.en,.slice ea p.ed.length ec,.slice ta p.ts.length tc]:LV);have c0:splice b6 0 [iV (p.st+2)]=u:=by rw[z,J];rfl
 have n2:u[4]?=some (.slice ta p.ts.length tc):=by rw[J];rfl
 have m9:u.length=5:=by rw[J];rfl
 obtain⟨H2,a3⟩:=eY (H1.put H.next (bC u 1));have d8:i4 H.next H1 H2:=by rw[a3];exact i4.put lR
 have o6:H2.next=H1.next:=by rw[a3,j5]
 have a6:H2.get H.next=cE u 1:=by rw[a3];exact i8 oM
 have b1:H2.get (H.next+1)=cE U 1:=by rw[a3,i9 oM];exact b3
 have e8:H2.get (H.next+2)=cE z7 1:=by rw[a3,i9 oM];exact m0
 have c4:decide (q.op=4)=false:=decide_eq_false h4;have c5:decide (q.op=5)=false:=decide_eq_false h5;have c6:decide (q.op=6)=false:=decide_eq_false h6;have e1:ldC (some true) (some 5) 0 u=some (.agg u.toArray):=by rw[J];rfl
 have X:i4 H.next H H2:=hS.trans d8;have e9:∀i,¬F (H.next+i):=fun i q=>oN (hF _ q);by_cases h7:q.op=7
 .have c7:decide (q.op=7)=true:=decide_eq_true h7;have c2:decide (q.op=2)=false:=decide_eq_false oM;have c3:decide (q.op=3)=false:=decide_eq_false oM;rw[if_pos h7,if_neg oM,if_neg oM,if_pos h7,if_pos h7];have l6:=o7.1 h7;obtain⟨x,nb,o,n7,own,el,hx,hd,rfl,o4,g8,m2,c9,hR⟩:=h2.row (i:=0) oM;have l8:q.b=[x]:=by
   obtain⟨y,hy⟩:=List.length_eq_one_iff.1 l6;rw[hy]at hx ⊢;simpa using hx
  simp only[qSz,if_true,Nat.zero_mul,Nat.add_zero]at c9 g8 m2;have d3:H2.get nb=_:=(X.get nb oM).trans g8;obtain⟨K1,g0,p0,-,b2⟩:=pushE H2 (bC [] 6);have k8:t7 K1 H2.next 6 Rt (sL H2.next 0 0) ([]:List Q):=by rw[g0];exact t7.fresh rfl lR D2.nil
  have m7:SlI K1 H.next 6 Rt (.slice ta p.ts.length tc) p.ts:=SlF.sl (ht.mono (fun j E=>by have:=hF j E;rw[b2.get j oM,X.get j this]) (fun _ h=>h) iF) hF;obtain⟨v3,n8,H3,l3,g3,k9,d4⟩:=k8.appendF (P:=prog) (t:=23) (by exact pI.2.2.2.2.2.2) aW.1 aW.2.1 aW.2.2.1 oM oM m7 (by simp;omega) oM;have n3:=d4.next;obtain⟨v4,k1,H4,l4,g4,d6,d5⟩:=k9.push1F (P:=prog) (t:=23) (cs:=el) (a:=x) (by exact pI.2.2.2.2.2.2) aW.1 aW.2.1 aW.2.2.1 oM oM hR.len (l1 k el x hk hR) (by simp;omega) oM;have n4:=d5.next;have k3:∀j,j<H2.next->H3.get j=H2.get j:=fun j E=>by rw[d4.stay.get j oM,b2.get j E]
  have k4:∀j,j<H2.next->H4.get j=H2.get j:=fun j E=>by rw[d5.stay.get j oM,k3 j E]
  have h9:K1.get H.next=cE u 1:=(b2.get _ oM).trans a6;have i0:K1.get (H.next+1)=cE U 1:=(b2.get _ oM).trans b1;have i1:=(b2.get nb oM).trans d3;have i2:H3.get H.next=cE u 1:=(k3 _ oM).trans a6;have i3:H3.get (H.next+1)=cE U 1:=(k3 _ oM).trans b1;have j0:=(k3 nb oM).trans d3;have j1:H4.get H.next=cE u 1:=(k4 _ oM).trans a6;have j2:H4.get (H.next+2)=cE z7 1:=(k4 _ oM).trans e8;obtain⟨a4,n6,e4⟩:=d6.slice;have n1:Value.oneCell' v4=true:=by rw[e4];rfl
  have k0:v4.cells.toList=[v4]:=by rw[e4];rfl
  obtain⟨S,b0⟩:=eY ([iV (p.st+2),iV p.sa,iV p.en,.slice ea p.ed.length ec,v4]:LV);have h0:splice u 4 [v4]=S:=by rw[J,b0];rfl
  have m8:ldC (some true) (some 5) 0 S=some (.agg S.toArray):=by rw[b0];rfl
  obtain⟨I,a7⟩:=eY (H4.put H.next (bC S 1));have n5:I.next=H4.next:=by rw[a7,j5]
  have g5:I.get H.next=cE S 1:=by rw[a7];exact i8 oM
  have j3:I.get (H.next+2)=cE z7 1:=by rw[a7,i9 oM];exact j2
  have k5:∀j,j<H.next->I.get j=H.get j:=fun j E=>by rw[a7,i9 oM,k4 j oM,X.get j E]
  have g1:t7 I H2.next 6 Rt v4 (p.ts++[x]):=by
   have:=d6.same (H':=I) fun b hb=>by have:=d6.lt hb;rw[a7,i9 oM]
   simpa using this
  have m5:PrF I (P5 F H2 I) Rt S {p with st:=p.st+2,ts:=p.ts++q.b}:=by
   refine⟨_,_,b0,he.mono (fun j E=>k5 j (hF j E)) (fun _ h=> .inl h) iF,?_⟩;rw[l8];exact SlF.mono (g1.frz (F:=fun j=>H2.next<=j/\j<I.next) fun b hb=>by have:=g1.lt hb;omega) (fun _ _=>rfl) (fun j E=> .inr E) iF
  have k2:∀j,P5 F H2 I j->j<I.next:=by
   rintro j (E|E)
   .have:=hF j E;omega
   .exact E.2
  have k6:¬P5 F H2 I (H.next+2):=by
   rintro(q|q)
   .exact e9 2 q
   .omega
  obtain⟨n9,H6,e2,na,d0,e3,p3,d1,H7,a8,O,b5,e7,g7,W,o8,m6⟩:=nf (P5 F H2 I) Rt (H:=H) (Hx:=I) (H.next+2) S {p with st:=p.st+2,ts:=p.ts++q.b} p.st (p.st+1) 3 p.ts.length p.st (p.st+1) z7 (by show p.ed.length<=_;omega) k2 m5 j3 k6;have s5:i4 H.next H1 I:=(((d8.trans (b2.weaken oM)).trans (d4.stay.weaken oM)).trans (d5.stay.weaken oM)).trans (by rw[a7];exact i4.put lR);have s7:i4 H.next H1 H7:=(s5.trans (W.weaken oM)).trans (by rw[e7];exact i4.put oM);have k7:∀j,P5 (P5 F H2 I) I H7 j->P5 F H H7 j:=by
   have:=W.next;rintro j ((E|E)|E)
   .exact .inl E
   .exact .inr ⟨oM,oM⟩
   .exact .inr ⟨oM,E.2⟩
  have q3:PrF H7 (P5 F H H7) Rt _ _:=m6.mono (fun _ _=>rfl) k7 iF;have m1:=s7.low c8;simp only[List.cons_append,List.nil_append]at e7 g7;rw[j8 tC rfl _ sM,<-z,<-D];have l5:el.all oC=true:=by
   cases k with
   |zero=>exact hR.elim
   |succ k=>obtain⟨_,_,_,_,rfl,_⟩:=hR.filter;rfl
  have j4:bsA prog (some 86) H3 1 [(0,.agg el.toArray)]=some (sL H3.next 1 1,H3.push (bC el 6)):=by
   cases k with
   |zero=>exact hR.elim
   |succ k=>
    obtain⟨_,_,_,_,rfl,_⟩:=hR.filter;simp only[C7,aW,C8];rfl
  refine J30 a1 a2 b8.symm b9 b3 r0 q0 q2 lr c0 a3.symm a6 (aI b1 c4) (aI c5 c6) (aI c7 c2) (aI c3 n2) (aI @wrap_small g0.symm) (aI d3 h9) (aI i0 i1) (aI c9 l3) (aI g3 i2) (aI i3 j0) (aI j4 l4) (aI g4 j1) (aI m9 n1) (aI k0 h0) (aI a7.symm g5) (aI m8 a8) (aI O b5) (aI e7.symm g7) ?_;exact cT (r:=(_,p.st,p.st+1)) q3 (hS.trans s7) m1 (fun h=>by simpa only[List.cons_append,List.nil_append,List.all_cons,List.all_nil,gO,Bool.true_and,Bool.and_true] using h)
 .have c7:decide (q.op=7)=false:=decide_eq_false h7;simp only[if_neg h7];have m4:PrF H2 F Rt u {p with st:=p.st+2}:=⟨_,_,J,he.mono (fun j E=>X.get j (hF j E)) (fun _ h=>h) iF,ht.mono (fun j E=>X.get j (hF j E)) (fun _ h=>h) iF⟩
  have ed:=fun a5=>nf F Rt (H:=H) (H.next+2) u {p with st:=p.st+2} p.st (p.st+1) a5 0 p.st (p.st+1) z7 (by show p.ed.length<=_;omega) (fun j E=>by have:=hF j E;omega) m4 e8 (e9 2);have d2:∀(a5:Int)(I H6:d9)(b7:LV),H6=I.put (H.next+2) (.cells (b7++se p.st (p.st+1)) true 1)->i4 H2.next H2 I->PrF H6 (P5 F H2 H6) Rt b7 (({p with st:=p.st+2}:PrD).edge p.st (p.st+1) a5 0)->i4 H.next H H6/\H.next<=H6.low/\PrF H6 (P5 F H H6) Rt b7 (({p with st:=p.st+2}:PrD).edge p.st (p.st+1) a5 0):=by
   intro a5 I H6 b7 e6 W a9;have s6:i4 H.next H2 H6:=(W.weaken oM).trans (by rw[e6];exact i4.put oM);exact⟨X.trans s6,(d8.trans s6).low c8,a9.mono (fun _ _=>rfl) (fun j E=>E.imp id fun h=>⟨oM,h.2⟩) iF⟩
  by_cases o2:q.op=2
  .have c2:decide (q.op=2)=true:=decide_eq_true o2;have c3:decide (q.op=3)=false:=decide_eq_false oM;rw[if_pos o2];obtain⟨h5,I,e2,na,d0,e3,nb,d1,H6,a8,O,b5,e6,g6,W,g9,a9⟩:=ed 1;obtain⟨q1,b4,q3⟩:=d2 1 I H6 _ e6 W a9;simp only[List.cons_append,List.nil_append]at e6 g6;rw[j8 tC rfl _ sM,<-z,<-D];refine J25 a1 a2 b8.symm b9 b3 r0 q0 lr c0 a3.symm a6 b1 c4 c5 c6 c7 c2 c3 @wrap_small e1 a8 O b5 e6.symm g6 ?_;exact cT (r:=(_,p.st,p.st+1)) q3 q1 b4 (fun h=>by simpa only[List.cons_append,List.nil_append,List.all_cons,List.all_nil,gO,Bool.true_and,Bool.and_true] using h)
  .have c2:decide (q.op=2)=false:=decide_eq_false o2;rw[if_neg o2];by_cases o3:q.op=3
   .have c3:decide (q.op=3)=true:=decide_eq_true o3;rw[if_pos o3];obtain⟨h5,I,e2,na,d0,e3,nb,d1,H6,a8,O,b5,e6,g6,W,g9,a9⟩:=ed 2;obtain⟨q1,b4,q3⟩:=d2 2 I H6 _ e6 W a9;simp only[List.cons_append,List.nil_append]at e6 g6;rw[j8 tC rfl _ sM,<-z,<-D];refine J25 a1 a2 b8.symm b9 b3 r0 q0 lr c0 a3.symm a6 b1 c4 c5 c6 c7 c2 c3 @wrap_small e1 a8 O b5 e6.symm g6 ?_;exact cT (r:=(_,p.st,p.st+1)) q3 q1 b4 (fun h=>by simpa only[List.cons_append,List.nil_append,List.all_cons,List.all_nil,gO,Bool.true_and,Bool.and_true] using h)
   .have c3:decide (q.op=3)=false:=decide_eq_false o3;rw[if_neg o3];obtain⟨h5,I,e2,na,d0,e3,nb,d1,H6,a8,O,b5,e6,g6,W,g9,a9⟩:=ed 0;obtain⟨q1,b4,q3⟩:=d2 0 I H6 _ e6 W a9;simp only[List.cons_append,List.nil_append]at e6 g6;rw[j8 tC rfl _ sM,<-z,<-D];refine J25 a1 a2 b8.symm b9 b3 r0 q0 lr c0 a3.symm a6 b1 c4 c5 c6 c7 c2 c3 @wrap_small e1 a8 O b5 e6.symm g6 ?_;exact cT (r:=(_,p.st,p.st+1)) q3 q1 b4 (fun h=>by simpa only[List.cons_append,List.nil_append,List.all_cons,List.all_nil,gO,Bool.true_and,Bool.and_true] using h)
end Go.Proofs.YtofbhlhamfkljaaGreatDoor.Ve
