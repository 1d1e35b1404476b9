/- A part of the claim: the evaluator and the contracts. Conditions: none here. -/
import Derived.Test.YtofbhlhamfkljaaGreatDoorPb
import Derived.Test.YtofbhlhamfkljaaGreatDoorProg
import Derived.KernelRfl
import Derived.Test.YtofbhlhamfkljaaGreatDoorCards
import Derived.Test.YtofbhlhamfkljaaGreatDoorTie
import Derived.WalkKit
import Derived.ProofKit
import Derived.OpenShut
import Derived.JoinedCond
import Derived.ChangeOld
import Derived.Below
import Derived.Deep.DeepHandedRow
import Derived.Lib.LaidTab
namespace Go.Proofs.YtofbhlhamfkljaaGreatDoor.Ve
open Go Ab
open Go.Proofs.Tryz (prog)
set_option linter.unusedVariables false
set_option linter.unusedSimpArgs false
set_option maxRecDepth 1000000
set_option maxHeartbeats 0
abbrev aa1:=cS (cO [M 8 2,N 9 (bk .eql 40 8 0 40),M 10 9,Y 10 11 (fa 39 1 2),Y 10 12 (ld' 36 11),Y 10 13 (ln 12 36),Y 10 14 (bk .eql 3 13 3 3),N 15 (pa 10 14),M 16 15,Y 16 17 (fa 39 1 2),Y 16 18 (ld' 36 17),Y 16 19 (.indexAddr 36 (T 18) (K 1)),Y 16 20 (ld' 59 19),Y 16 21 (.build 59 #[(0,B1)]),Y 16 22 (bo .eql 59 20 21 59),N 23 (pa 16 22),M 24 23,Y 24 25 (fa 39 1 2),Y 24 26 (ld' 36 25),Y 24 27 (.indexAddr 36 (T 26) (K 2)),Y 24 28 (fa 59 27 1),Y 24 29 (ld' 4 28),N 30 (pa 24 29),M 31 30,Y 31 32 (ld' 39 1),Y 31 33 (cf 14 #[T 32,K 1] #[39,3]),Y 31 34 (ln 33 35),Y 31 35 (bk .eql 3 34 2 3),N 36 (pa 31 35),M 37 36,Y 37 38 (ld' 39 1),Y 37 39 (.build 59 #[]),Y 37 40 (c2 17 38 39 39 59),Y 37 41 (bk .eql 3 40 0 3),N 42 (pa 37 41),M 43 42,Y 43 44 (ld' 39 1),Y 43 45 (.build 51 {toList:=[(0,K 2),(3,.const (.string ⟨#[120]⟩))]}),Y 43 46 (cf 18 #[T 44,T 45,K 0,K 2] #[39,51,3,3]),Y 43 47 (bk .eql 3 46 (-1) 3),N 48 (pa 43 47),A 0 48]) .ret
abbrev aa2:=cS (cO [N 4 (.build 25 #[(0,K 1)]),N 5 (c1 11 4 25),M 3 5,N 6 (ex 3 0),N 7 (ex 3 1),N 1 (.alloc 39),V (st' 39 1 6),A 2 7]) aa1
abbrev f9:=cS (cO [N 0 (.assign B0)]) aa2
theorem fn9:fnL prog 9=some (f9,49,[ResultVar.tmp 0]):=kR
abbrev Om:=cS (cO [L 3 25 1,N 4 (c1 29 3 25),M 5 4,Y 5 6 (ld' 25 1),Y 5 7 (c1 30 6 25),N 8 (pa 5 7),A 2 8]) .ret
abbrev f10:=cS (cO [N 1 (bx 25 0),N 2 (.assign B0)]) Om
theorem aa3:fnL prog 10=some (f10,9,[ResultVar.tmp 2]):=kR
abbrev On:=cC (T 14) (cS (cO [N 15 (.build 39 #[]),M 16 5,V (st' 39 2 15),A 3 16]) .ret) .skip
abbrev Oo:=cC (T 32) (cS (cO [N 33 (.build 39 #[]),V (st' 39 2 33),N 3 (ak 13)]) .ret) .skip
abbrev Oq:=cO [M 28 7,N 29 (bk .add 3 28 1 3),A 7 29]
abbrev Ot:=cS (cB 1 (cS (cO [M 30 7,N 31 (c2 34 6 30 75 3),N 32 (nt' 4 31)]) Oo)) Oq
abbrev Fv:=cS (cS (cO [M 26 7,N 27 (c2 33 6 26 75 3)]) (cC (T 27) .skip (.exit 0))) Ot
abbrev Ou:=cS (cO [L 34 39 6,V (st' 39 2 34),N 3 (ak 0)]) .ret
abbrev Ov:=cS (cO [L 17 25 1,N 18 (c1 32 17 25),M 19 4,N 20 (.build 59 #[]),N 21 (.buildSlice 36 1 #[(0,T 20)]),N 22 (.buildSlice 29 1 #[(0,K 0)]),N 23 (.build 56 #[]),N 24 (.buildSlice 37 1 #[(0,T 23)]),N 25 (.build 39 #[(0,T 18),(1,T 19),(2,T 21),(3,T 22),(4,T 24)]),N 6 (.alloc 39),V (st' 39 6 25)]) (cS (cS (cO [N 7 (ak 1)]) (cW 0 Fv)) Ou)
abbrev Ow:=cS (cS (cO [M 13 5,N 14 (bk .neq 40 13 0 40)]) On) Ov
abbrev Ox:=cS (cO [L 9 25 1,N 10 (c1 31 9 25),M 8 10,N 11 (ex 8 0),N 12 (ex 8 1),A 4 11,A 5 12]) Ow
abbrev f11:=cS (cO [N 1 (bx 25 0),N 2 (.alloc 39),N 3 (ak 0)]) Ox
theorem aa4:fnL prog 11=some (f11,35,[ResultVar.cell 2 39,ResultVar.tmp 3]):=kR
abbrev OC:=cC (T 20) (cS (cO [N 21 (.build 39 #[]),M 22 5,V (st' 39 2 21),A 3 22]) .ret) .skip
abbrev OD:=cC (T 119) (cS (cO [N 120 (.build 39 #[]),V (st' 39 2 120),N 3 (ak 13)]) .ret) .skip
abbrev OE:=cS (cO [F 133 39 6 4,L 134 37 133,M 135 12,M 136 10,M 137 11,N 138 (.build 56 #[(0,T 135),(1,T 136),(2,T 137)]),N 139 (.buildSlice 37 1 #[(0,T 138)]),N 140 (ap 134 139 37 37),F 141 39 6 4,V (st' 37 141 140)]) (cO [M 142 8,A 7 142])
abbrev OF:=cS (cO [F 127 39 6 3,L 128 29 127,M 129 8,N 130 (.buildSlice 29 1 #[(0,T 129)]),N 131 (ap 128 130 29 29),F 132 39 6 3,V (st' 29 132 131)]) OE
abbrev OG:=cS (cO [F 121 39 6 2,L 122 36 121,L 123 59 13,N 124 (.buildSlice 36 1 #[(0,T 123)]),N 125 (ap 122 124 36 36),F 126 39 6 2,V (st' 36 126 125)]) OF
abbrev OH:=cS (cS (cO [F 112 39 6 2,L 113 36 112,N 114 (ln 113 36),N 115 (bk .gtr 3 114 24 3),M 116 115,Z 116 117 (mv 8),Z 116 118 (bk .gtr 3 117 200 3),N 119 (po 116 118)]) OD) OG
abbrev OI:=cS (cS (cO [F 107 39 6 2,L 108 36 107,L 109 59 13,N 110 (c2 20 108 109 36 59),N 111 (bk .geq 3 110 0 3)]) (cC (T 111) (.exit 7) .skip)) OH
abbrev OJ:=cS (.mix [m0 (F 90 39 6 0),m1 (L 91 34 90),m0 (M 92 4),m0 (M 93 12),m0 (N 94 (ia 35 92 93)),m1 (L 95 51 94),m0 (F 96 39 6 2),m1 (L 97 36 96),m0 (M 98 10),m0 (N 99 (ia 36 97 98)),m1 (L 100 59 99),m0 (F 101 39 6 2),m1 (L 102 36 101),m0 (M 103 11),m0 (N 104 (ia 36 102 103)),m1 (L 105 59 104),m3 (N 106 (cf 21 #[T 91,T 95,T 100,T 105] #[34,51,59,59])) 0 2,m4 (N 13 (.alloc 59)) 0 2,m4 (V (st' 59 13 106)) 2 3]) OI
abbrev OK:=cO [M 70 12,N 71 (bk .add 3 70 1 3),A 12 71]
abbrev OL:=cS (cB 7 (cS (cS (cO [M 72 4,M 73 12,N 74 (ia 35 72 73),F 75 51 74 0,L 76 3 75,N 77 (bk .eql 3 76 2 3),M 78 77,Y 78 79 (mv 10),Y 78 80 (bk .neq 3 79 0 3),Y 78 81 (mv 80),Z 81 82 (fa 39 6 2),Z 81 83 (ld' 36 82),Z 81 84 (mv 11),Z 81 85 (ia 36 83 84),Z 81 86 (fa 59 85 1),Z 81 87 (ld' 4 86),Y 78 88 (po 81 87),N 89 (pa 78 88)]) (cC (T 89) (.exit 7) .skip)) OJ)) OK
abbrev Oy:=cS (cS (cO [M 66 12,M 67 4,N 68 (ln 67 35),N 69 (bo .lss 3 66 68 3)]) (cC (T 69) .skip (.exit 6))) OL
abbrev JI:=cO [M 50 11,N 51 (bk .add 3 50 1 3),A 11 51]
abbrev JJ:=cS (cB 5 (cS (cS (.draw [(F 52 39 6 3,false),(L 53 29 52,false),(M 54 10,false),(N 55 (ia 29 53 54),false),(L 56 3 55,false),(F 57 39 6 3,false),(L 58 29 57,false),(M 59 11,false),(N 60 (ia 29 58 59),false),(L 61 3 60,false),(N 62 (bo .add 3 56 61 3),false),(N 63 (bk .add 3 62 1 3),false),(M 64 8,false),(N 65 (bo .neq 3 63 64 3),true)]) (cC (T 65) (.exit 5) .skip)) (cS (cO [N 12 (ak 0)]) (cW 6 Oy)))) JI
abbrev Oz:=cS (cS (cO [M 47 11,M 48 9,N 49 (bo .lss 3 47 48 3)]) (cC (T 49) .skip (.exit 4))) JJ
abbrev JK:=cO [M 45 10,N 46 (bk .add 3 45 1 3),A 10 46]
abbrev OA:=cS (cS (cO [M 42 10,M 43 9,N 44 (bo .lss 3 42 43 3)]) (cC (T 44) .skip (.exit 2))) (cS (cB 3 (cS (cO [N 11 (ak 0)]) (cW 4 Oz))) JK)
abbrev JL:=cO [M 37 8,N 38 (bk .add 3 37 1 3),A 8 38]
abbrev JM:=cS (cB 1 (cS (cO [F 39 39 6 2,L 40 36 39,N 41 (ln 40 36),A 9 41]) (cS (cO [N 10 (ak 0)]) (cW 2 OA)))) JL
abbrev OB:=cS (cS (cO [M 32 8,M 33 7,N 34 (.binOp .mul 3 (K 2) (T 33) 3),N 35 (bk .add 3 34 1 3),N 36 (bo .leq 3 32 35 3)]) (cC (T 36) .skip (.exit 0))) JM
abbrev JN:=cS (cO [L 143 39 6,V (st' 39 2 143),N 3 (ak 0)]) .ret
abbrev JO:=cS (cO [N 7 (ak 0)]) (cS (cS (cO [N 8 (ak 1)]) (cW 0 OB)) JN)
abbrev JP:=cS (cO [L 23 25 1,N 24 (c1 36 23 25),M 25 4,N 26 (.build 59 #[]),N 27 (.buildSlice 36 1 #[(0,T 26)]),N 28 (.buildSlice 29 1 #[(0,K 0)]),N 29 (.build 56 #[]),N 30 (.buildSlice 37 1 #[(0,T 29)]),N 31 (.build 39 #[(0,T 24),(1,T 25),(2,T 27),(3,T 28),(4,T 30)]),N 6 (.alloc 39),V (st' 39 6 31)]) JO
abbrev JQ:=cS (cS (cO [M 19 5,N 20 (bk .neq 3 19 0 3)]) OC) JP
abbrev JR:=cS (cO [L 15 25 1,N 16 (c1 35 15 25),M 14 16,N 17 (ex 14 0),N 18 (ex 14 1),A 4 17,A 5 18]) JQ
abbrev f12:=cS (cO [N 1 (bx 25 0),N 2 (.alloc 39),N 3 (ak 0)]) JR
abbrev ON:=cO [M 45 5,N 46 (bk .add 3 45 1 3),A 5 46]
abbrev OO:=cS (cB 1 (cS (.draw [(F 47 39 2 2,false),(L 48 36 47,false),(M 49 5,false),(N 50 (ia 36 48 49),false),(L 51 59 50,false),(F 52 39 3 2,false),(L 53 36 52,false),(M 54 5,false),(N 55 (ia 36 53 54),false),(L 56 59 55,false),(N 57 (bo .neq 59 51 56 59),false),(M 58 57,false),(Z 58 59 (fa 39 2 3),false),(Z 58 60 (ld' 29 59),false),(Z 58 61 (mv 5),false),(Z 58 62 (ia 29 60 61),false),(Z 58 63 (ld' 3 62),false),(Z 58 64 (fa 39 3 3),false),(Z 58 65 (ld' 29 64),false),(Z 58 66 (mv 5),false),(Z 58 67 (ia 29 65 66),false),(Z 58 68 (ld' 3 67),false),(Z 58 69 (bo .neq 3 63 68 3),false),(N 70 (po 58 69),false),(M 71 70,false),(Z 71 72 (fa 39 2 4),false),(Z 71 73 (ld' 37 72),false),(Z 71 74 (mv 5),false),(Z 71 75 (ia 37 73 74),false),(Z 71 76 (ld' 56 75),false),(Z 71 77 (fa 39 3 4),false),(Z 71 78 (ld' 37 77),false),(Z 71 79 (mv 5),false),(Z 71 80 (ia 37 78 79),false),(Z 71 81 (ld' 56 80),false),(Z 71 82 (bo .neq 56 76 81 56),true),(N 83 (po 71 82),true)]) (cC (T 83) (cS (cO [N 4 (.assign B0)]) .ret) .skip))) ON
abbrev OM:=cS (cS (cO [M 40 5,F 41 39 2 2,L 42 36 41,N 43 (ln 42 36),N 44 (bo .lss 3 40 43 3)]) (cC (T 44) .skip (.exit 0))) OO
abbrev OP:=cS (cS (cO [N 5 (ak 0)]) (cW 0 OM)) (cS (cO [N 4 (.assign B1)]) .ret)
abbrev OQ:=cS (cS (cO [F 6 39 2 2,L 7 36 6,N 8 (ln 7 36),F 9 39 3 2,L 10 36 9,N 11 (ln 10 36),N 12 (bo .neq 3 8 11 3),M 13 12,Z 13 14 (fa 39 2 3),Z 13 15 (ld' 29 14),Z 13 16 (ln 15 29),Z 13 17 (fa 39 3 3),Z 13 18 (ld' 29 17),Z 13 19 (ln 18 29),Z 13 20 (bo .neq 3 16 19 3),N 21 (po 13 20),M 22 21,Z 22 23 (fa 39 2 4),Z 22 24 (ld' 37 23),Z 22 25 (ln 24 37),Z 22 26 (fa 39 3 4),Z 22 27 (ld' 37 26),Z 22 28 (ln 27 37),Z 22 29 (bo .neq 3 25 28 3),N 30 (po 22 29),M 31 30,Z 31 32 (fa 39 2 1),Z 31 33 (ld' 35 32),Z 31 34 (ln 33 35),Z 31 35 (fa 39 3 1),Z 31 36 (ld' 35 35),Z 31 37 (ln 36 35),Z 31 38 (bo .neq 3 34 37 3),N 39 (po 31 38)]) (cC (T 39) (cS (cO [N 4 (.assign B0)]) .ret) .skip)) OP
abbrev f13:=cS (cO [N 2 (bx 39 0),N 3 (bx 39 1),N 4 (.assign B0)]) OQ
abbrev OS:=cC (T 36) (cO [M 37 7,L 38 39 2,F 39 56 5 1,L 40 3 39,N 41 (c2 14 38 40 39 3),N 42 (ap 37 41 35 35),N 43 (.build 51 #[(0,K 3)]),N 44 (.buildSlice 35 1 #[(0,T 43)]),N 45 (ap 42 44 35 35),A 7 45]) .skip
abbrev OT:=cS (cO [M 46 7,L 47 39 2,F 48 56 5 2,L 49 3 48,N 50 (c2 14 47 49 39 3),N 51 (ap 46 50 35 35),A 4 51]) .ret
abbrev OU:=cS (cS (cO [F 34 51 6 0,L 35 3 34,N 36 (bk .eql 3 35 1 3)]) OS) OT
abbrev OV:=cS (cO [L 32 51 6,N 33 (.buildSlice 35 1 #[(0,T 32)]),A 7 33]) OU
abbrev OW:=cS (cO [F 28 51 6 2,L 29 49 28,N 30 (c1 37 29 49),F 31 51 6 2,V (st' 49 31 30)]) OV
abbrev OX:=cS (cO [F 22 39 2 1,L 23 35 22,F 24 56 5 0,L 25 3 24,N 26 (ia 35 23 25),L 27 51 26,N 6 (.alloc 51),V (st' 51 6 27)]) OW
abbrev OY:=cS (cO [F 17 39 2 4,L 18 37 17,M 19 1,N 20 (ia 37 18 19),L 21 56 20,N 5 (.alloc 56),V (st' 56 5 21)]) OX
abbrev OZ:=cS (cS (cO [M 8 1,N 9 (bk .leq 3 8 0 3),M 10 9,Z 10 11 (mv 1),Z 10 12 (fa 39 2 2),Z 10 13 (ld' 36 12),Z 10 14 (ln 13 36),Z 10 15 (bo .geq 3 11 14 3),N 16 (po 10 15)]) (cC (T 16) (cS (cO [N 4 (.assign S0)]) .ret) .skip)) OY
abbrev f14:=cS (cO [N 2 (bx 39 0),N 4 (.assign S0)]) OZ
theorem aa5:fnL prog 14=some (f14,52,[ResultVar.tmp 4]):=kR
abbrev Pb:=cO [M 15 5,N 16 (bk .add 3 15 1 3),A 5 16]
abbrev Pc:=cS (cB 1 (cS (.draw [(M 17 0,false),(M 18 5,false),(N 19 (ia 35 17 18),false),(L 20 51 19,false),(M 21 1,false),(M 22 5,false),(N 23 (ia 35 21 22),false),(L 24 51 23,false),(N 25 (c2 38 20 24 51 51),true),(N 26 (nt' 4 25),true)]) (cC (T 26) (cS (cO [N 4 (.assign B0)]) .ret) .skip))) Pb
abbrev Pa:=cS (cS (cO [M 11 5,M 12 0,N 13 (ln 12 35),N 14 (bo .lss 3 11 13 3)]) (cC (T 14) .skip (.exit 0))) Pc
abbrev Pd:=cS (cS (cO [N 5 (ak 0)]) (cW 0 Pa)) (cS (cO [N 4 (.assign B1)]) .ret)
abbrev Pe:=cS (cS (cO [M 6 0,N 7 (ln 6 35),M 8 1,N 9 (ln 8 35),N 10 (bo .neq 3 7 9 3)]) (cC (T 10) (cS (cO [N 4 (.assign B0)]) .ret) .skip)) Pd
abbrev f15:=cS (cO [N 4 (.assign B0)]) Pe
abbrev Pf:=cO [M 41 6,N 42 (.build 51 #[(0,K 3)]),N 43 (.buildSlice 35 1 #[(0,T 42)]),N 44 (ap 41 43 35 35),A 6 44]
abbrev Pg:=cC (T 30) (cS (.mix [m2 (M 31 6) 0 1,m1 (L 32 39 2),m0 (F 33 39 2 4),m1 (L 34 37 33),m0 (M 35 1),m0 (N 36 (ia 37 34 35)),m0 (F 37 56 36 1),m1 (L 38 3 37),m3 (N 39 (c2 16 32 38 39 3)) 0 1,m3 (N 40 (ap 31 39 35 35)) 1 2,m2 (A 6 40) 2 2]) Pf) .skip
abbrev Ph:=cS (.mix [m2 (M 45 6) 0 1,m1 (L 46 39 2),m0 (F 47 39 2 4),m1 (L 48 37 47),m0 (M 49 1),m0 (N 50 (ia 37 48 49)),m0 (F 51 56 50 2),m1 (L 52 3 51),m3 (N 53 (c2 16 46 52 39 3)) 0 1,m3 (N 54 (ap 45 53 35 35)) 1 2,m2 (A 4 54) 2 2]) .ret
abbrev Pi:=cS (cS (cO [F 28 51 5 0,L 29 3 28,N 30 (bk .eql 3 29 1 3)]) Pg) Ph
abbrev Pj:=cS (cO [L 26 51 5,N 27 (.buildSlice 35 1 #[(0,T 26)]),A 6 27]) Pi
abbrev Pk:=cS (.mix [m2 (F 16 39 2 1) 0 1,⟨L 17 35 16,false,true,0,1⟩,m2 (F 18 39 2 4) 0 1,⟨L 19 37 18,false,true,0,1⟩,m2 (M 20 1) 0 1,m2 (N 21 (ia 37 19 20)) 0 1,m2 (F 22 56 21 0) 0 1,⟨L 23 3 22,false,true,0,1⟩,m2 (N 24 (ia 35 17 23)) 0 1,⟨L 25 51 24,false,true,0,1⟩,m4 (N 5 (.alloc 51)) 0 1,m4 (V (st' 51 5 25)) 1 2]) Pj
abbrev Pl:=cS (cS (cO [M 7 1,N 8 (bk .leq 3 7 0 3),M 9 8,Z 9 10 (mv 1),Z 9 11 (fa 39 2 4),Z 9 12 (ld' 37 11),Z 9 13 (ln 12 37),Z 9 14 (bo .geq 3 10 13 3),N 15 (po 9 14)]) (cC (T 15) (cS (cO [N 4 (.assign S0)]) .ret) .skip)) Pk
abbrev f16:=cS (cO [N 2 (bx 39 0),N 4 (.assign S0)]) Pl
abbrev Pm:=cS (cO [F 5 39 2 2,L 6 36 5,L 7 59 3,N 8 (c2 39 6 7 36 59),A 4 8]) .ret
abbrev f17:=cS (cO [N 2 (bx 39 0),N 3 (bx 59 1),N 4 (ak 0)]) Pm
theorem aa6:fnL prog 17=some (f17,9,[ResultVar.tmp 4]):=kR
abbrev Pn:=cS (.mix [⟨L 14 39 4,false,true,0,1⟩,m0 (F 15 39 4 0),m1 (L 16 34 15),m1 (L 17 51 5),m0 (F 18 39 4 2),m1 (L 19 36 18),m0 (M 20 2),m0 (N 21 (ia 36 19 20)),m1 (L 22 59 21),m0 (F 23 39 4 2),m1 (L 24 36 23),m0 (M 25 3),m0 (N 26 (ia 36 24 25)),m1 (L 27 59 26),m3 (N 28 (cf 41 #[T 16,T 17,T 22,T 27] #[34,51,59,59])) 0 1,m3 (N 29 (c2 17 14 28 39 59)) 1 2,m2 (A 8 29) 2 2]) .ret
abbrev Po:=cS (cS (cO [L 9 51 5,M 10 2,M 11 3,N 12 (cf 40 #[T 4,T 9,T 10,T 11] #[75,51,3,3]),N 13 (nt' 4 12)]) (cC (T 13) (cS (cO [N 8 (ak (-1))]) .ret) .skip)) Pn
abbrev f18:=cS (cO [N 4 (bx 39 0),N 5 (bx 51 1),N 8 (ak 0)]) Po
theorem aa7:fnL prog 18=some (f18,30,[ResultVar.tmp 8]):=kR
abbrev Pp:=cS (cO [L 3 51 1,N 4 (c1 42 3 51),M 5 4,Y 5 6 (fa 51 1 0),Y 5 7 (ld' 3 6),Y 5 8 (bk .neq 3 7 3 3),N 9 (pa 5 8),M 10 9,Y 10 11 (ld' 51 1),Y 10 12 (.buildSlice 35 1 #[(0,T 11)]),Y 10 13 (c1 25 12 35),N 14 (pa 10 13),A 2 14]) .ret
abbrev f19:=cS (cO [N 1 (bx 51 0),N 2 (.assign B0)]) Pp
abbrev Pr:=cO [M 10 5,N 11 (bk .add 3 10 1 3),A 5 11]
abbrev Ps:=cS (cB 1 (cS (.draw [(M 12 0,false),(M 13 5,false),(N 14 (ia 36 12 13),false),(L 15 59 14,false),(L 16 59 3,false),(N 17 (bo .eql 59 15 16 59),true)]) (cC (T 17) (cS (cO [M 18 5,A 4 18]) .ret) .skip))) Pr
abbrev Pq:=cS (cS (cO [M 6 5,M 7 0,N 8 (ln 7 36),N 9 (bo .lss 3 6 8 3)]) (cC (T 9) .skip (.exit 0))) Ps
abbrev Pt:=cS (cS (cO [N 5 (ak 0)]) (cW 0 Pq)) (cS (cO [N 4 (ak (-1))]) .ret)
abbrev f20:=cS (cO [N 3 (bx 59 1),N 4 (ak 0)]) Pt
abbrev Py:=cO [M 39 13,N 40 (bk .add 3 39 1 3),A 13 40]
abbrev Pz:=cS (cB 3 (.mix [m2 (M 41 12) 0 2,m1 (L 42 34 4),m0 (F 43 32 11 4),m1 (L 44 23 43),m0 (M 45 13),m0 (N 46 (ia 23 44 45)),m1 (L 47 86 46),m1 (L 48 51 5),m0 (M 49 9),m3 (N 50 (cf 44 #[T 42,T 47,T 48,T 49] #[34,86,51,81])) 0 1,m4 (N 51 (.buildSlice 83 1 #[(0,T 50)])) 1 2,m3 (N 52 (ap 41 51 83 83)) 2 3,m2 (A 12 52) 3 3])) Py
abbrev Pu:=cS (cS (cO [M 34 13,F 35 32 11 4,L 36 23 35,N 37 (ln 36 23),N 38 (bo .lss 3 34 37 3)]) (cC (T 38) .skip (.exit 2))) Pz
abbrev PA:=cS (.mix [m0 (M 81 15),m0 (F 82 89 18 0),m1 (L 83 3 82),m0 (N 84 (ia 83 81 83)),m1 (L 85 4 84),m0 (M 86 85),m0 (Y 86 87 (fa 89 18 2)),m1 (Y 86 88 (ld' 3 87)),m0 (Y 86 89 (bk .eql 3 88 1 3)),m0 (Y 86 90 (mv 89)),m1 (Y 90 91 (ld' 59 6)),m0 (Y 90 92 (fa 34 4 2)),m1 (Y 90 93 (ld' 29 92)),m0 (Y 90 94 (mv 10)),m0 (Y 90 95 (ia 29 93 94)),m1 (Y 90 96 (ld' 3 95)),m0 (Y 90 97 (fa 89 18 1)),m1 (Y 90 98 (ld' 3 97)),m0 (Y 90 99 (bo .add 3 96 98 3)),m3 (Y 90 100 (c2 46 91 99 59 3)) 0 1,m2 (Y 86 101 (pa 90 100)) 1 1,m2 (Y 86 102 (mv 101)) 1 1,m2 (Z 102 103 (fa 89 18 2)) 1 1,⟨Z 102 104 (ld' 3 103),false,true,1,1⟩,m2 (Z 102 105 (bk .eql 3 104 2 3)) 1 1,m2 (Z 102 106 (mv 105)) 1 1,⟨Y 106 107 (ld' 59 7),false,true,1,1⟩,m2 (Y 106 108 (fa 34 4 2)) 1 1,⟨Y 106 109 (ld' 29 108),false,true,1,1⟩,m2 (Y 106 110 (mv 10)) 1 1,m2 (Y 106 111 (ia 29 109 110)) 1 1,⟨Y 106 112 (ld' 3 111),false,true,1,1⟩,m2 (Y 106 113 (fa 89 18 1)) 1 1,⟨Y 106 114 (ld' 3 113),false,true,1,1⟩,m2 (Y 106 115 (bo .add 3 112 114 3)) 1 1,m3 (Y 106 116 (c2 46 107 115 59 3)) 1 2,m2 (Z 102 117 (pa 106 116)) 2 2,m2 (Y 86 118 (po 102 117)) 2 2,m2 (N 119 (pa 86 118)) 2 2]) (cC (T 119) (cO [N 16 (.assign B1)]) .skip)
abbrev PB:=cO [M 74 17,N 75 (bk .add 3 74 1 3),A 17 75]
abbrev PC:=cS (cB 7 (cS (cO [F 76 32 11 3,L 77 30 76,M 78 17,N 79 (ia 30 77 78),L 80 89 79,N 18 (.alloc 89),V (st' 89 18 80)]) PA)) PB
abbrev Pv:=cS (cS (cO [M 69 17,F 70 32 11 3,L 71 30 70,N 72 (ln 71 30),N 73 (bo .lss 3 69 72 3)]) (cC (T 73) .skip (.exit 6))) PC
abbrev PD:=cC (T 120) (cO [M 121 9,F 122 34 4 2,L 123 29 122,M 124 10,N 125 (ia 29 123 124),L 126 3 125,M 127 14,N 128 (bo .add 3 126 127 3),N 129 (ia 81 121 128),V (.store 5 (T 129) (.const (.int .u8 1)))]) .skip
abbrev PF:=cS (cS (cO [N 17 (ak 0)]) (cW 6 Pv)) (cS (cO [M 120 16]) PD)
abbrev PG:=cS (cO [M 64 15,F 65 32 11 2,L 66 3 65,N 67 (ia 83 64 66),L 68 4 67,A 16 68]) PF
abbrev PH:=cO [M 57 14,N 58 (bk .add 3 57 1 3),A 14 58]
abbrev PI:=cS (cB 5 (cS (cO [L 59 32 11,M 60 14,N 61 (.buildSlice 29 1 #[(0,T 60)]),M 62 12,N 63 (cf 45 #[T 59,T 61,T 62] #[32,29,83]),A 15 63]) PG)) PH
abbrev Pw:=cS (cS (cO [M 53 14,F 54 32 11 0,L 55 3 54,N 56 (bo .lss 3 53 55 3)]) (cC (T 56) .skip (.exit 4))) PI
abbrev Lp:=cS (cS (cO [N 13 (ak 0)]) (cW 2 Pu)) (cS (cO [N 14 (ak 0)]) (cW 4 Pw))
abbrev Lq:=cO [M 27 10,N 28 (bk .add 3 27 1 3),A 10 28]
abbrev Lr:=cS (cB 1 (cS (cO [F 29 34 4 1,L 30 28 29,M 31 10,N 32 (ia 28 30 31),L 33 32 32,N 11 (.alloc 32),V (st' 32 11 33)]) (cS (cO [N 12 (.assign S0)]) Lp))) Lq
abbrev Px:=cS (cS (cO [M 22 10,F 23 34 4 1,L 24 28 23,N 25 (ln 24 28),N 26 (bo .lss 3 22 25 3)]) (cC (T 26) .skip (.exit 0))) Lr
abbrev Ls:=cS (cO [F 130 51 5 0,L 131 3 130,N 132 (bk .eql 3 131 2 3),M 133 9,N 134 (.convert 81 9 (T 133)),N 135 (.build 59 #[(0,B1),(1,T 132),(2,T 134)]),V (st' 59 8 135)]) .ret
abbrev Lt:=cS (cO [L 19 34 4,N 20 (c1 43 19 34),N 21 (.makeSlice 81 (T 20) (T 20)),A 9 21]) (cS (cS (cO [N 10 (ak 0)]) (cW 0 Px)) Ls)
abbrev f21:=cS (cO [N 4 (bx 34 0),N 5 (bx 51 1),N 6 (bx 59 2),N 7 (bx 59 3),N 8 (.alloc 59)]) Lt
abbrev PJ:=cS (cO [L 7 51 4,M 8 2,N 9 (cf 40 #[T 3,T 7,K 0,T 8] #[75,51,3,3]),A 6 9]) .ret
abbrev f22:=cS (cO [N 3 (bx 39 0),N 4 (bx 51 1),N 6 (.assign B0)]) PJ
abbrev PK:=cS (cO [M 9 3,N 10 (.build 51 #[(0,K 3)]),N 11 (.buildSlice 35 1 #[(0,T 10)]),N 12 (ap 9 11 35 35),A 2 12]) .ret
abbrev PL:=cS (cO [N 4 (.build 48 {toList:=[(1,.const (.string ⟨#[114,111,111,116]⟩))]}),N 5 (.build 51 #[(0,K 1),(1,T 4)]),N 6 (.buildSlice 35 1 #[(0,T 5)]),M 7 0,N 8 (ap 6 7 35 35),A 3 8]) PK
abbrev f23:=cS (cO [N 2 (.assign S0)]) PL
abbrev PN:=cC (T 37) (cS (cO [M 38 7,N 39 (.build 59 #[]),N 40 (.buildSlice 36 1 #[(0,T 39)]),N 41 (ap 38 40 36 36),A 7 41]) (.exit 1)) .skip
abbrev PO:=cO [M 56 9,N 57 (bk .sub 3 56 1 3),A 9 57]
abbrev PP:=cS (cO [M 53 7,M 54 9,N 55 (.slice 36 (T 53) none (some (T 54)) none),A 7 55]) PO
abbrev PQ:=cC (T 48) (cS (cO [M 49 7,M 50 9,N 51 (ia 36 49 50),L 52 59 51,V (st' 59 10 52)]) PP) .skip
abbrev PR:=cO [M 74 7,M 75 9,M 76 5,M 77 6,N 78 (ia 36 76 77),L 79 59 78,N 80 (ia 36 74 75),V (st' 59 80 79)]
abbrev PS:=cS (.mix [m2 (M 60 5) 0 1,m2 (M 61 6) 0 1,m1 (L 62 34 2),m0 (M 63 1),m0 (M 64 8),m0 (N 65 (ia 35 63 64)),m1 (L 66 51 65),m1 (L 67 59 10),m0 (M 68 7),m0 (M 69 9),m0 (N 70 (ia 36 68 69)),m1 (L 71 59 70),m3 (N 72 (cf 41 #[T 62,T 66,T 67,T 71] #[34,51,59,59])) 0 1,m2 (N 73 (ia 36 60 61)) 1 1,m4 (V (st' 59 73 72)) 1 2]) PR
abbrev PT:=cS (cO [M 58 6,N 59 (bk .sub 3 58 1 3),A 6 59]) PS
abbrev PU:=cS (cS (cO [M 43 1,M 44 8,N 45 (ia 35 43 44),F 46 51 45 0,L 47 3 46,N 48 (bk .eql 3 47 1 3)]) PQ) PT
abbrev PV:=cS (cO [N 42 (.build 59 #[]),N 10 (.alloc 59),V (st' 59 10 42)]) PU
abbrev PX:=cS (cS (cO [M 32 1,M 33 8,N 34 (ia 35 32 33),F 35 51 34 0,L 36 3 35,N 37 (bk .eql 3 36 3 3)]) PN) PV
abbrev Lu:=cO [M 27 8,N 28 (bk .sub 3 27 1 3),A 8 28]
abbrev Lv:=cS (cB 1 (cS (cO [M 29 7,N 30 (ln 29 36),N 31 (bk .sub 3 30 1 3),A 9 31]) PX)) Lu
abbrev PM:=cS (cS (cO [M 25 8,N 26 (bk .geq 3 25 0 3)]) (cC (T 26) .skip (.exit 0))) Lv
abbrev Lw:=cS (cS (cO [M 22 1,N 23 (ln 22 35),N 24 (bk .sub 3 23 1 3),A 8 24]) (cW 0 PM)) (cS (cO [M 81 5,A 4 81]) .ret)
abbrev Lx:=cS (cO [N 20 (.build 59 #[]),N 21 (.buildSlice 36 1 #[(0,T 20)]),A 7 21]) Lw
abbrev Ly:=cS (cO [M 18 5,N 19 (ln 18 36),A 6 19]) Lx
abbrev Lz:=cS (cO [M 14 1,N 15 (c1 48 14 35),N 16 (ln 15 29),N 17 (.makeSlice 36 (T 16) (T 16)),A 5 17]) Ly
abbrev LA:=cS (cS (cO [M 11 1,N 12 (c1 47 11 35),N 13 (nt' 4 12)]) (cC (T 13) (cS (cO [N 4 (.assign S0)]) .ret) .skip)) Lz
abbrev f24:=cS (cO [N 2 (bx 34 0),N 4 (.assign S0)]) LA
abbrev Qa:=cO [M 65 5,N 66 (bk .add 3 65 1 3),A 5 66]
abbrev Qb:=cS (cB 3 (cS (cO [M 67 0,M 68 4,N 69 (ia 35 67 68),F 70 51 69 2,L 71 49 70,M 72 5,N 73 (ia 49 71 72),F 74 53 73 1,L 75 9 74,N 76 (ln 75 9),N 77 (bk .gtr 3 76 300 3),M 78 77,Z 78 79 (mv 0),Z 78 80 (mv 4),Z 78 81 (ia 35 79 80),Z 78 82 (fa 51 81 2),Z 78 83 (ld' 49 82),Z 78 84 (mv 5),Z 78 85 (ia 49 83 84),Z 78 86 (fa 53 85 0),Z 78 87 (fa 48 86 1),Z 78 88 (ld' 9 87),Z 78 89 (ln 88 9),Z 78 90 (bk .gtr 3 89 100 3),N 91 (po 78 90),M 92 91,Z 92 93 (mv 0),Z 92 94 (mv 4),Z 92 95 (ia 35 93 94),Z 92 96 (fa 51 95 2),Z 92 97 (ld' 49 96),Z 92 98 (mv 5),Z 92 99 (ia 49 97 98),Z 92 100 (fa 53 99 0),Z 92 101 (fa 48 100 0),Z 92 102 (ld' 9 101),Z 92 103 (ln 102 9),Z 92 104 (bk .gtr 3 103 100 3),N 105 (po 92 104)]) (cC (T 105) (cS (cO [N 2 (.assign B0)]) .ret) .skip))) Qa
abbrev PY:=cS (cS (cO [M 53 5,M 54 0,M 55 4,N 56 (ia 35 54 55),F 57 51 56 2,L 58 49 57,N 59 (ln 58 49),N 60 (bo .lss 3 53 59 3),M 61 60,Y 61 62 (mv 5),Y 61 63 (bk .lss 3 62 100 3),N 64 (pa 61 63)]) (cC (T 64) .skip (.exit 2))) Qb
abbrev Qc:=cS (cS (cO [M 26 0,M 27 4,N 28 (ia 35 26 27),F 29 51 28 3,L 30 9 29,N 31 (ln 30 9),N 32 (bk .gtr 3 31 300 3),M 33 32,Z 33 34 (mv 0),Z 33 35 (mv 4),Z 33 36 (ia 35 34 35),Z 33 37 (fa 51 36 1),Z 33 38 (fa 48 37 1),Z 33 39 (ld' 9 38),Z 33 40 (ln 39 9),Z 33 41 (bk .gtr 3 40 100 3),N 42 (po 33 41),M 43 42,Z 43 44 (mv 0),Z 43 45 (mv 4),Z 43 46 (ia 35 44 45),Z 43 47 (fa 51 46 1),Z 43 48 (fa 48 47 0),Z 43 49 (ld' 9 48),Z 43 50 (ln 49 9),Z 43 51 (bk .gtr 3 50 100 3),N 52 (po 43 51)]) (cC (T 52) (cS (cO [N 2 (.assign B0)]) .ret) .skip)) (cS (cO [N 5 (ak 0)]) (cW 2 PY))
abbrev Qd:=cO [M 16 4,N 17 (bk .add 3 16 1 3),A 4 17]
abbrev Qe:=cS (cB 1 (cS (cO [M 18 3,M 19 0,M 20 4,N 21 (ia 35 19 20),F 22 51 21 2,L 23 49 22,N 24 (ln 23 49),N 25 (bo .add 3 18 24 3),A 3 25]) Qc)) Qd
abbrev PZ:=cS (cS (cO [M 8 4,M 9 0,N 10 (ln 9 35),N 11 (bo .lss 3 8 10 3),M 12 11,Y 12 13 (mv 3),Y 12 14 (bk .leq 3 13 400 3),N 15 (pa 12 14)]) (cC (T 15) .skip (.exit 0))) Qe
abbrev Qf:=cS (cO [M 106 3,N 107 (bk .leq 3 106 400 3),A 2 107]) .ret
abbrev Qg:=cS (cO [M 6 0,N 7 (ln 6 35),A 3 7]) (cS (cS (cO [N 4 (ak 0)]) (cW 0 PZ)) Qf)
abbrev f25:=cS (cO [N 2 (.assign B0)]) Qg
abbrev Qh:=cS (cO [M 3 0,N 4 (ln 3 35),N 5 (bk .gtr 3 4 0 3),M 6 5,Y 6 7 (mv 0),Y 6 8 (c1 49 7 35),Y 6 9 (bk .eql 3 8 0 3),N 10 (pa 6 9),A 2 10]) .ret
abbrev f26:=cS (cO [N 2 (.assign B0)]) Qh
abbrev Qi:=cS (cO [L 3 25 1,N 4 (c1 50 3 25),N 5 (bk .leq 3 4 64 3),M 6 5,Y 6 7 (ld' 25 1),Y 6 8 (cf 51 #[T 7,K 16] #[25,3]),N 9 (pa 6 8),A 2 9]) .ret
abbrev f29:=cS (cO [N 1 (bx 25 0),N 2 (.assign B0)]) Qi
theorem aa8:fnL prog 29=some (f29,10,[ResultVar.tmp 2]):=kR
abbrev Qj:=cS (cO [L 13 34 3,N 14 (c1 43 13 34),N 15 (bk .leq 3 14 24 3),M 16 15,Y 16 17 (fa 34 3 3),Y 16 18 (fa 32 17 0),Y 16 19 (ld' 3 18),Y 16 20 (bk .leq 3 19 24 3),N 21 (pa 16 20),M 22 21,Y 22 23 (mv 5),Y 22 24 (bk .neq 3 23 0 3),Y 22 25 (mv 24),Z 25 26 (mv 4),Z 25 27 (ln 26 35),Z 25 28 (bk .leq 3 27 14 3),Y 22 29 (po 25 28),N 30 (pa 22 29),A 2 30]) .ret
abbrev Qk:=cS (cO [L 9 25 1,N 10 (c1 35 9 25),M 8 10,N 11 (ex 8 0),N 12 (ex 8 1),A 4 11,A 5 12]) Qj
abbrev Ql:=cS (cO [L 6 25 1,N 7 (c1 36 6 25),N 3 (.alloc 34),V (st' 34 3 7)]) Qk
abbrev f30:=cS (cO [N 1 (bx 25 0),N 2 (.assign B0)]) Ql
theorem aa9:fnL prog 30=some (f30,31,[ResultVar.tmp 2]):=kR
abbrev Qm:=cC (T 16) (cS (cO [N 2 (.assign S0),N 3 (ak 13)]) .ret) .skip
abbrev Qn:=cO [L 30 102 6,L 31 48 8,N 32 (.build 51 #[(0,K 1),(1,T 31)]),N 33 (cv (T 30) #[T 32,K 0] #[51,3])]
abbrev Qo:=cS (cB 1 (cS (cO [N 28 (ia 95 24 26),L 29 48 28,N 8 (.alloc 48),V (st' 48 8 29)]) Qn)) (cO [N 34 (bk .add 3 26 1 3),M 26 34])
abbrev Fw:=cS (cO [N 27 (bo .lss 3 26 25 3)]) (cS (cC (T 27) .skip (.exit 0)) Qo)
abbrev Qp:=cO [L 47 35 5,M 48 10,N 49 (.build 51 #[(0,K 2),(3,T 48)]),N 50 (.buildSlice 35 1 #[(0,T 49)]),N 51 (ap 47 50 35 35),V (st' 35 5 51)]
abbrev Qq:=cS (cB 3 (cS (cO [N 45 (ia 97 41 43),L 46 9 45,A 10 46]) Qp)) (cO [N 52 (bk .add 3 43 1 3),M 43 52])
abbrev Fx:=cS (cO [N 44 (bo .lss 3 43 42 3)]) (cS (cC (T 44) .skip (.exit 2)) Qq)
abbrev Qr:=cS (cO [L 53 35 5,A 2 53,N 3 (ak 0)]) .ret
abbrev Qs:=cS (cS (.mix [m2 (F 35 99 4 3) 0 2,⟨L 36 97 35,false,true,0,2⟩,m0 (F 37 99 4 3),m1 (L 38 97 37),m3 (N 39 (cf 56 #[T 38,.const (.string ByteArray.empty),S0] #[97,9,97])) 0 1,m4 (N 40 (.buildSlice 97 1 #[(0,T 39)])) 1 2,m3 (N 41 (ap 36 40 97 97)) 2 3,⟨N 42 (ln 41 97),false,true,3,3⟩,m2 (N 43 (.move (K 0))) 0 3]) (cW 2 Fx)) Qr
abbrev Qt:=cS (cS (.mix [m2 (F 18 99 4 0) 0 2,⟨L 19 95 18,false,true,0,2⟩,m0 (F 20 99 4 0),m1 (L 21 95 20),m3 (N 22 (c1 57 21 95)) 0 1,m4 (N 23 (.buildSlice 95 1 #[(0,T 22)])) 1 2,m3 (N 24 (ap 19 23 95 95)) 2 3,⟨N 25 (ln 24 95),false,true,3,3⟩,m2 (N 26 (.move (K 0))) 0 3]) (cW 0 Fw)) Qs
abbrev Qu:=cS (cO [N 17 (.makeFunc (Fn.func 54) #[] #[T 4,T 5,T 6]),V (st' 102 6 17)]) Qt
abbrev Qv:=cS (cS (cO [L 14 99 4,N 15 (c1 53 14 99),N 16 (bk .gtr 3 15 24 3)]) Qm) (cS (cO [N 5 (.alloc 35)]) (cS (cO [N 6 (.alloc 102)]) Qu))
abbrev LB:=cS (cO [L 11 25 1,N 12 (.buildSlice 22 1 #[(0,T 11)]),N 13 (c1 52 12 22),N 4 (.alloc 99),V (st' 99 4 13)]) Qv
abbrev f31:=cS (cO [N 1 (bx 25 0),N 2 (.assign S0),N 3 (ak 0)]) LB
theorem ab0:fnL prog 31=some (f31,54,[ResultVar.tmp 2,ResultVar.tmp 3]):=kR
abbrev Qw:=cO [M 37 5,F 38 32 8 0,L 39 3 38,N 40 (bo .add 3 37 39 3),A 5 40]
abbrev Qx:=cS (.mix [m2 (F 25 34 4 1) 0 1,⟨L 26 28 25,false,true,0,1⟩,m1 (L 27 32 8),m4 (N 28 (.buildSlice 28 1 #[(0,T 27)])) 0 1,m3 (N 29 (ap 26 28 28 28)) 1 3,m2 (F 30 34 4 2) 0 3,⟨L 31 29 30,false,true,0,3⟩,m2 (M 32 5) 0 2,m4 (N 33 (.buildSlice 29 1 #[(0,T 32)])) 0 3,m3 (N 34 (ap 31 33 29 29)) 3 4,m2 (F 35 34 4 1) 2 4,m4 (V (st' 28 35 29)) 4 5,m2 (F 36 34 4 2) 5 5,m4 (V (st' 29 36 34)) 5 6]) Qw
abbrev Qy:=cS (cO [L 23 25 7,N 24 (c1 59 23 25),N 8 (.alloc 32),V (st' 32 8 24)]) Qx
abbrev Qz:=cS (cB 1 (cS (cO [N 21 (ia 22 17 19),L 22 25 21,N 7 (.alloc 25),V (st' 25 7 22)]) Qy)) (cO [N 41 (bk .add 3 19 1 3),M 19 41])
abbrev Fy:=cS (cO [N 20 (bo .lss 3 19 18 3)]) (cS (cC (T 20) .skip (.exit 0)) Qz)
abbrev QA:=cS (cS (cO [F 16 107 3 0,L 17 22 16,N 18 (ln 17 22),N 19 (.move (K 0))]) (cW 0 Fy)) (cS (cO [L 42 34 4,V (st' 34 2 42)]) .ret)
abbrev QB:=cS (.mix [m2 (F 11 107 3 0) 0 2,⟨L 12 22 11,false,true,0,2⟩,m1 (L 13 25 1),m3 (N 14 (c1 59 13 25)) 0 2,m2 (N 15 (.build 34 #[(0,T 12),(3,T 14)])) 1 2,m4 (N 4 (.alloc 34)) 0 2,m4 (V (st' 34 4 15)) 2 3]) (cS (cO [N 5 (ak 0)]) QA)
abbrev QC:=cS (cO [L 9 25 1,N 10 (c2 58 3 9 107 25)]) QB
abbrev f32:=cS (cO [N 1 (bx 25 0),N 2 (.alloc 34)]) (cS (cO [N 3 (.alloc 107)]) QC)
theorem ab1:fnL prog 32=some (f32,43,[ResultVar.cell 2 34]):=kR
abbrev QD:=cS (cO [M 5 0,N 6 (nc 5),F 7 39 6 3,L 8 29 7,N 9 (c1 60 8 29),N 10 (.binOp .mul 3 (K 2) (T 9) 3),N 11 (bk .add 3 10 1 3),M 12 1,N 13 (bo .geq 3 11 12 3),A 4 13]) .ret
abbrev f33:=cS (cO [N 4 (.assign B0)]) QD
theorem ab2:fnL prog 33=some (f33,14,[ResultVar.tmp 4]):=kR
abbrev QI:=cC (T 55) (cO [M 56 10,M 57 10,N 58 (c1 66 57 97),N 59 (.buildSlice 97 1 #[(0,T 58)]),N 60 (ap 56 59 97 97),A 10 60]) (cO [M 61 10,N 62 (.buildSlice 97 1 #[(0,.const (.string ByteArray.empty))]),N 63 (ap 61 62 97 97),A 10 63])
abbrev QJ:=cO [M 104 11,L 105 51 14,N 106 (.buildSlice 35 1 #[(0,T 105)]),N 107 (ap 104 106 35 35),A 11 107]
abbrev QK:=cS (.mix [m4 (N 87 (.buildSlice 49 0 #[])) 0 1,m2 (F 88 51 14 2) 0 1,⟨L 89 49 88,false,true,0,1⟩,m3 (N 90 (ap 87 89 49 49)) 1 3,m2 (F 91 115 4 1) 0 2,⟨L 92 95 91,false,true,0,2⟩,m2 (M 93 9) 0 2,m2 (N 94 (ia 95 92 93)) 0 2,⟨L 95 48 94,false,true,0,2⟩,m2 (M 96 10) 0 2,m2 (M 97 13) 0 2,m2 (N 98 (ia 97 96 97)) 0 2,⟨L 99 9 98,false,true,0,2⟩,m2 (N 100 (.build 53 #[(0,T 95),(1,T 99)])) 0 2,m4 (N 101 (.buildSlice 49 1 #[(0,T 100)])) 0 3,m3 (N 102 (ap 90 101 49 49)) 3 4,m2 (F 103 51 14 2) 4 4,m4 (V (st' 49 103 102)) 4 5]) QJ
abbrev QL:=cO [M 81 13,N 82 (bk .add 3 81 1 3),A 13 82]
abbrev QM:=cS (cB 7 (cS (cO [M 83 8,M 84 12,N 85 (ia 35 83 84),L 86 51 85,N 14 (.alloc 51),V (st' 51 14 86)]) QK)) QL
abbrev FA:=cS (cS (cO [M 77 13,M 78 10,N 79 (ln 78 97),N 80 (bo .lss 3 77 79 3)]) (cC (T 80) .skip (.exit 6))) QM
abbrev QN:=cO [M 68 12,N 69 (bk .add 3 68 1 3),A 12 69]
abbrev QO:=cS (cB 5 (cS (cO [M 70 11,M 71 8,M 72 12,N 73 (ia 35 71 72),L 74 51 73,N 75 (.buildSlice 35 1 #[(0,T 74)]),N 76 (ap 70 75 35 35),A 11 76]) (cS (cO [N 13 (ak 0)]) (cW 6 FA)))) QN
abbrev FB:=cS (cS (cO [M 64 12,M 65 8,N 66 (ln 65 35),N 67 (bo .lss 3 64 66 3)]) (cC (T 67) .skip (.exit 4))) QO
abbrev QP:=cC (T 111) (cS (cO [N 2 (.assign S0),N 3 (ak 13)]) .ret) .skip
abbrev QQ:=cS (cO [M 109 8,N 110 (ln 109 35),N 111 (bk .gtr 3 110 24 3)]) QP
abbrev QS:=cS (cS (cO [N 12 (ak 0)]) (cW 4 FB)) (cS (cO [M 108 11,A 8 108]) QQ)
abbrev LC:=cS (cS (cO [M 54 10,N 55 (cf 65 #[T 54,.const (.string ByteArray.empty)] #[97,9])]) QI) (cS (cO [N 11 (.assign S0)]) QS)
abbrev LD:=cO [M 45 9,N 46 (bk .add 3 45 1 3),A 9 46]
abbrev LF:=cS (cB 3 (cS (cO [N 47 (.buildSlice 97 0 #[]),F 48 115 4 2,L 49 96 48,M 50 9,N 51 (ia 96 49 50),L 52 97 51,N 53 (ap 47 52 97 97),A 10 53]) LC)) LD
abbrev FC:=cS (cS (cO [M 40 9,F 41 115 4 1,L 42 95 41,N 43 (ln 42 95),N 44 (bo .lss 3 40 43 3)]) (cC (T 44) .skip (.exit 2))) LF
abbrev LG:=cO [M 112 5,M 113 8,N 114 (ap 112 113 35 35),A 5 114]
abbrev LH:=cO [M 32 7,N 33 (bk .add 3 32 1 3),A 7 33]
abbrev LI:=cS (cB 1 (cS (cO [M 34 6,M 35 7,N 36 (ia 95 34 35),L 37 48 36,N 38 (.build 51 #[(0,K 1),(1,T 37)]),N 39 (.buildSlice 35 1 #[(0,T 38)]),A 8 39]) (cS (cS (cO [N 9 (ak 0)]) (cW 2 FC)) LG))) LH
abbrev FD:=cS (cS (cO [M 28 7,M 29 6,N 30 (ln 29 95),N 31 (bo .lss 3 28 30 3)]) (cC (T 31) .skip (.exit 0))) LI
abbrev LJ:=cO [M 128 16,N 129 (bk .add 3 128 1 3),A 16 129]
abbrev LK:=cS (cB 9 (cO [M 130 5,M 131 15,M 132 16,N 133 (ia 97 131 132),L 134 9 133,N 135 (.build 51 #[(0,K 2),(3,T 134)]),N 136 (.buildSlice 35 1 #[(0,T 135)]),N 137 (ap 130 136 35 35),A 5 137])) LJ
abbrev FE:=cS (cS (cO [M 124 16,M 125 15,N 126 (ln 125 97),N 127 (bo .lss 3 124 126 3)]) (cC (T 127) .skip (.exit 8))) LK
abbrev LL:=cC (T 140) (cS (cO [N 2 (.assign S0),N 3 (ak 13)]) .ret) .skip
abbrev LM:=cS (cO [M 141 5,A 2 141,N 3 (ak 0)]) .ret
abbrev LN:=cS (cS (cO [M 138 5,N 139 (ln 138 35),N 140 (bk .gtr 3 139 24 3)]) LL) LM
abbrev LO:=cS (.mix [m4 (N 115 (.buildSlice 97 0 #[])) 0 1,m2 (F 116 115 4 3) 0 1,⟨L 117 97 116,false,true,0,1⟩,m3 (N 118 (ap 115 117 97 97)) 1 2,m2 (F 119 115 4 3) 0 2,⟨L 120 97 119,false,true,0,2⟩,m3 (N 121 (c1 66 120 97)) 2 3,m4 (N 122 (.buildSlice 97 1 #[(0,T 121)])) 3 4,m3 (N 123 (ap 118 122 97 97)) 4 5,m2 (A 15 123) 5 5]) (cS (cS (cO [N 16 (ak 0)]) (cW 8 FE)) LN)
abbrev LP:=cS (.mix [m4 (N 19 (.buildSlice 95 0 #[])) 0 1,m2 (F 20 115 4 0) 0 1,⟨L 21 95 20,false,true,0,1⟩,m3 (N 22 (ap 19 21 95 95)) 1 2,m2 (F 23 115 4 0) 0 2,⟨L 24 95 23,false,true,0,2⟩,m3 (N 25 (c1 64 24 95)) 2 3,m4 (N 26 (.buildSlice 95 1 #[(0,T 25)])) 3 4,m3 (N 27 (ap 22 26 95 95)) 4 5,m2 (A 6 27) 5 5]) (cS (cS (cO [N 7 (ak 0)]) (cW 0 FD)) LO)
abbrev LQ:=cS (cO [L 17 25 1,N 18 (c1 63 17 25),N 4 (.alloc 115),V (st' 115 4 18)]) (cS (cO [N 5 (.assign S0)]) LP)
abbrev f35:=cS (cO [N 1 (bx 25 0),N 2 (.assign S0),N 3 (ak 0)]) LQ
theorem ab3:fnL prog 35=some (f35,142,[ResultVar.tmp 2,ResultVar.tmp 3]):=kR
abbrev QT:=cO [M 52 5,F 53 32 7 0,L 54 3 53,N 55 (bo .add 3 52 54 3),A 5 55]
abbrev QU:=cS (cO [F 46 34 3 2,L 47 29 46,M 48 5,N 49 (.buildSlice 29 1 #[(0,T 48)]),N 50 (ap 47 49 29 29),F 51 34 3 2,V (st' 29 51 50)]) QT
abbrev QV:=cS (cO [F 40 34 3 1,L 41 28 40,L 42 32 7,N 43 (.buildSlice 28 1 #[(0,T 42)]),N 44 (ap 41 43 28 28),F 45 34 3 1,V (st' 28 45 44)]) QU
abbrev QW:=cS (.mix [m2 (F 31 34 3 0) 0 1,⟨L 32 22 31,false,true,0,1⟩,m0 (M 33 4),m0 (M 34 6),m0 (N 35 (ia 22 33 34)),m1 (L 36 25 35),m4 (N 37 (.buildSlice 22 1 #[(0,T 36)])) 0 1,m3 (N 38 (ap 32 37 22 22)) 1 2,m2 (F 39 34 3 0) 2 2,m4 (V (st' 22 39 38)) 2 3]) QV
abbrev QX:=cS (cO [M 26 4,M 27 6,N 28 (ia 22 26 27),L 29 25 28,N 30 (c1 67 29 25),N 7 (.alloc 32),V (st' 32 7 30)]) QW
abbrev QY:=cO [M 17 6,N 18 (bk .add 3 17 1 3),A 6 18]
abbrev QZ:=cS (cB 1 (cS (cS (.draw [(L 19 34 3,false),(M 20 4,false),(M 21 6,false),(N 22 (ia 22 20 21),false),(L 23 25 22,false),(N 24 (c2 69 19 23 34 25),true),(N 25 (bk .geq 3 24 0 3),true)]) (cC (T 25) (.exit 1) .skip)) QX)) QY
abbrev FF:=cS (cS (cO [M 13 6,M 14 4,N 15 (ln 14 22),N 16 (bo .lss 3 13 15 3)]) (cC (T 16) .skip (.exit 0))) QZ
abbrev Ra:=cS (cS (cO [N 6 (ak 0)]) (cW 0 FF)) (cS (cO [L 56 34 3,V (st' 34 2 56)]) .ret)
abbrev Rb:=cS (cO [L 11 25 1,N 12 (c1 68 11 25),A 4 12]) (cS (cO [N 5 (ak 0)]) Ra)
abbrev Rc:=cS (cO [L 8 25 1,N 9 (c1 67 8 25),N 10 (.build 34 #[(3,T 9)]),N 3 (.alloc 34),V (st' 34 3 10)]) Rb
abbrev f36:=cS (cO [N 1 (bx 25 0),N 2 (.alloc 34)]) Rc
theorem ab4:fnL prog 36=some (f36,57,[ResultVar.cell 2 34]):=kR
abbrev Re:=cS (cO [N 5 (.buildSlice 49 0 #[]),M 6 0,N 7 (ap 5 6 49 49),A 2 7]) .ret
abbrev Rf:=cS (cS (cO [M 3 0,N 4 (.binOp .eql 49 (T 3) S0 49)]) (cC (T 4) (cS (cO [N 2 (.assign S0)]) .ret) .skip)) Re
abbrev f37:=cS (cO [N 2 (.assign S0)]) Rf
theorem ab5:fnL prog 37=some (f37,8,[ResultVar.tmp 2]):=kR
abbrev Rg:=cS (.draw [(L 11 59 3,false),(M 12 0,false),(M 13 5,false),(N 14 (ia 36 12 13),false),(L 15 59 14,false),(N 16 (bo .eql 59 11 15 59),true)]) (cC (T 16) (cS (cO [M 17 5,A 4 17]) .ret) .skip)
abbrev Rh:=cS (cB 1 (cS (cO [M 10 8,A 5 10]) Rg)) (cO [N 18 (bk .add 3 8 1 3),M 8 18])
abbrev FG:=cS (cO [N 9 (bo .lss 3 8 7 3)]) (cS (cC (T 9) .skip (.exit 0)) Rh)
abbrev Ri:=cS (cS (cO [M 6 0,N 7 (ln 6 36),N 8 (.move (K 0))]) (cW 0 FG)) (cS (cO [N 4 (ak (-1))]) .ret)
abbrev f39:=cS (cO [N 3 (bx 59 1),N 4 (ak 0)]) Ri
theorem ab6:fnL prog 39=some (f39,19,[ResultVar.tmp 4]):=kR
abbrev Rj:=cS (cO [M 13 0,M 14 2,N 15 (c2 70 13 14 75 3),M 16 15,Y 16 17 (mv 0),Y 16 18 (mv 3),Y 16 19 (c2 70 17 18 75 3),N 20 (pa 16 19),M 21 20,Y 21 22 (mv 9),Y 21 23 (nt' 4 22),Y 21 24 (mv 23),Z 24 25 (mv 2),Z 24 26 (bk .eql 3 25 0 3),Z 24 27 (mv 26),Y 27 28 (mv 0),Y 27 29 (nc 28),Y 27 30 (fa 39 29 2),Y 27 31 (ld' 36 30),Y 27 32 (mv 3),Y 27 33 (ia 36 31 32),Y 27 34 (fa 59 33 1),Y 27 35 (ld' 4 34),Y 27 36 (nt' 4 35),Z 24 37 (pa 27 36),Y 21 38 (po 24 37),N 39 (pa 21 38),A 8 39]) .ret
abbrev Rk:=cS (cO [F 10 51 5 0,L 11 3 10,N 12 (bk .eql 3 11 2 3),A 9 12]) Rj
abbrev f40:=cS (cO [N 5 (bx 51 1),N 8 (.assign B0)]) Rk
theorem ab7:fnL prog 40=some (f40,40,[ResultVar.tmp 8]):=kR
abbrev Rl:=cO [M 26 9,M 27 10,N 28 (c2 72 26 27 121 3)]
abbrev Rm:=cS (cB 1 (cS (cO [M 25 23,A 10 25]) Rl)) (cO [N 29 (bk .add 3 23 1 3),M 23 29])
abbrev FH:=cS (cO [N 24 (bo .lss 3 23 22 3)]) (cS (cC (T 24) .skip (.exit 0)) Rm)
abbrev Rn:=cS (.draw [(F 30 51 5 0,false),(L 31 3 30,false),(N 32 (bk .eql 3 31 2 3),false),(M 33 9,false),(N 34 (nc 33),false),(F 35 123 34 4,false),(L 36 81 35,false),(N 37 (.convert 81 9 (T 36)),false),(N 38 (.build 59 #[(0,B1),(1,T 32),(2,T 37)]),true),(V (st' 59 8 38),true)]) .ret
abbrev Ro:=cS (cS (cO [F 20 34 4 1,L 21 28 20,N 22 (ln 21 28),N 23 (.move (K 0))]) (cW 0 FH)) Rn
abbrev Rq:=cS (.mix [⟨L 11 34 4,false,true,0,2⟩,⟨L 12 51 5,false,true,0,2⟩,⟨L 13 59 6,false,true,0,2⟩,⟨L 14 59 7,false,true,0,2⟩,m1 (L 15 34 4),m3 (N 16 (c1 71 15 34)) 0 1,m4 (N 17 (.makeSlice 81 (T 16) (T 16))) 1 2,m2 (N 18 (.build 123 #[(0,T 11),(1,T 12),(2,T 13),(3,T 14),(4,T 17)])) 2 2,m4 (N 19 (bx 123 18)) 2 3,m2 (A 9 19) 3 3]) Ro
abbrev f41:=cS (cO [N 4 (bx 34 0),N 5 (bx 51 1),N 6 (bx 59 2),N 7 (bx 59 3),N 8 (.alloc 59)]) Rq
theorem ab8:fnL prog 41=some (f41,39,[ResultVar.cell 8 59]):=kR
abbrev Ru:=cC (T 18) (cS (cO [M 19 3,M 20 19,Y 20 21 (fa 51 1 3),Y 20 22 (ld' 9 21),Y 20 23 (.binOp .neq 9 (T 22) (.const (.string ByteArray.empty)) 9),N 24 (pa 20 23),M 25 24,Y 25 26 (fa 51 1 3),Y 25 27 (ld' 9 26),Y 25 28 (c1 73 27 9),N 29 (pa 25 28),A 2 29]) .ret) .skip
abbrev Rv:=cC (T 32) (cS (cO [M 33 3,M 34 33,Y 34 35 (fa 51 1 3),Y 34 36 (ld' 9 35),Y 34 37 (.binOp .eql 9 (T 36) (.const (.string ByteArray.empty)) 9),N 38 (pa 34 37),A 2 38]) .ret) .skip
abbrev Rx:=cO [M 87 5,N 88 (bk .add 3 87 1 3),A 5 88]
abbrev Ry:=cS (cB 3 (cS (.draw [(F 89 51 1 2,false),(L 90 49 89,false),(M 91 5,false),(N 92 (ia 49 90 91),false),(F 93 53 92 0,false),(L 94 48 93,false),(F 95 51 1 2,false),(L 96 49 95,false),(M 97 4,false),(N 98 (ia 49 96 97),false),(F 99 53 98 0,false),(L 100 48 99,false),(N 101 (bo .eql 48 94 100 48),true)]) (cC (T 101) (cS (cO [N 2 (.assign B0)]) .ret) .skip))) Rx
abbrev Rr:=cS (cS (cO [M 84 5,M 85 4,N 86 (bo .lss 3 84 85 3)]) (cC (T 86) .skip (.exit 2))) Ry
abbrev Rz:=cO [M 64 4,N 65 (bk .add 3 64 1 3),A 4 65]
abbrev RA:=cS (cB 1 (cS (cS (cO [F 66 51 1 2,L 67 49 66,M 68 4,N 69 (ia 49 67 68),F 70 53 69 0,L 71 48 70,N 72 (c1 74 71 48),N 73 (nt' 4 72),M 74 73,Z 74 75 (fa 51 1 2),Z 74 76 (ld' 49 75),Z 74 77 (mv 4),Z 74 78 (ia 49 76 77),Z 74 79 (fa 53 78 1),Z 74 80 (ld' 9 79),Z 74 81 (c1 73 80 9),Z 74 82 (nt' 4 81),N 83 (po 74 82)]) (cC (T 83) (cS (cO [N 2 (.assign B0)]) .ret) .skip)) (cS (cO [N 5 (ak 0)]) (cW 2 Rr)))) Rz
abbrev Rs:=cS (cS (cO [M 59 4,F 60 51 1 2,L 61 49 60,N 62 (ln 61 49),N 63 (bo .lss 3 59 62 3)]) (cC (T 63) .skip (.exit 0))) RA
abbrev RB:=cS (cS (cO [N 4 (ak 0)]) (cW 0 Rs)) (cS (cO [N 2 (.assign B1)]) .ret)
abbrev RC:=cS (cS (cO [F 39 51 1 0,L 40 3 39,N 41 (bk .neq 3 40 1 3),M 42 41,Z 42 43 (fa 51 1 3),Z 42 44 (ld' 9 43),Z 42 45 (.binOp .neq 9 (T 44) (.const (.string ByteArray.empty)) 9),N 46 (po 42 45),M 47 46,Z 47 48 (fa 51 1 1),Z 47 49 (ld' 48 48),Z 47 50 (c1 74 49 48),Z 47 51 (nt' 4 50),N 52 (po 47 51),M 53 52,Z 53 54 (fa 51 1 2),Z 53 55 (ld' 49 54),Z 53 56 (ln 55 49),Z 53 57 (bk .gtr 3 56 32 3),N 58 (po 53 57)]) (cC (T 58) (cS (cO [N 2 (.assign B0)]) .ret) .skip)) RB
abbrev RD:=cS (cS (cO [F 30 51 1 0,L 31 3 30,N 32 (bk .eql 3 31 3 3)]) Rv) RC
abbrev RE:=cS (cS (cO [F 16 51 1 0,L 17 3 16,N 18 (bk .eql 3 17 2 3)]) Ru) RD
abbrev LR:=cS (cO [F 6 51 1 1,L 7 48 6,N 8 (.build 48 #[]),N 9 (bo .eql 48 7 8 48),M 10 9,Y 10 11 (fa 51 1 2),Y 10 12 (ld' 49 11),Y 10 13 (ln 12 49),Y 10 14 (bk .eql 3 13 0 3),N 15 (pa 10 14),A 3 15]) RE
abbrev f42:=cS (cO [N 1 (bx 51 0),N 2 (.assign B0)]) LR
abbrev RF:=cO [M 10 4,N 11 (bk .add 3 10 1 3),A 4 11]
abbrev RG:=cS (cB 1 (cO [M 12 3,F 13 34 1 1,L 14 28 13,M 15 4,N 16 (ia 28 14 15),F 17 32 16 0,L 18 3 17,N 19 (bo .add 3 12 18 3),A 3 19])) RF
abbrev FI:=cS (cS (cO [M 5 4,F 6 34 1 1,L 7 28 6,N 8 (ln 7 28),N 9 (bo .lss 3 5 8 3)]) (cC (T 9) .skip (.exit 0))) RG
abbrev RH:=cS (cS (cO [N 4 (ak 0)]) (cW 0 FI)) (cS (cO [M 20 3,A 2 20]) .ret)
abbrev f43:=cS (cO [N 1 (bx 34 0),N 2 (ak 0)]) (cS (cO [N 3 (ak 0)]) RH)
theorem ab9:fnL prog 43=some (f43,21,[ResultVar.tmp 2]):=kR
abbrev RJ:=cS (cO [L 3 25 1,N 4 (cf 77 #[T 3,K 64] #[25,3]),A 2 4]) .ret
abbrev f50:=cS (cO [N 1 (bx 25 0),N 2 (ak 0)]) RJ
theorem ac0:fnL prog 50=some (f50,5,[ResultVar.tmp 2]):=kR
abbrev RK:=cC (T 27) (cS (cO [N 5 (ak 2)]) (cO [N 6 (ak 64)])) .skip
abbrev RL:=cC (T 30) (cS (cO [N 5 (ak 1)]) (cO [N 6 (ak 1)])) .skip
abbrev RM:=cO [M 64 7,N 65 (bk .add 3 64 1 3),A 7 65]
abbrev RN:=cS (cB 1 (cS (cO [F 66 25 2 1,L 67 22 66,M 68 7,N 69 (ia 22 67 68),L 70 25 69,M 71 1,N 72 (bk .sub 3 71 1 3),N 73 (c2 51 70 72 25 3),N 74 (nt' 4 73)]) (cC (T 74) (cS (cO [N 4 (.assign B0)]) .ret) .skip))) RM
abbrev FJ:=cS (cS (cO [M 59 7,F 60 25 2 1,L 61 22 60,N 62 (ln 61 22),N 63 (bo .lss 3 59 62 3)]) (cC (T 63) .skip (.exit 0))) RN
abbrev RO:=cS (cO [F 75 25 2 2,L 76 23 75,N 77 (ln 76 23),N 78 (bk .eql 3 77 0 3),M 79 78,Z 79 80 (fa 25 2 2),Z 79 81 (ld' 23 80),Z 79 82 (.indexAddr 23 (T 81) (K 0)),Z 79 83 (ld' 86 82),Z 79 84 (mv 1),Z 79 85 (bk .sub 3 84 1 3),Z 79 86 (c2 78 83 85 86 3),N 87 (po 79 86),A 4 87]) .ret
abbrev RP:=cS (cS (cO [F 31 25 2 1,L 32 22 31,N 33 (ln 32 22),M 34 5,N 35 (bo .lss 3 33 34 3),M 36 35,Z 36 37 (fa 25 2 1),Z 36 38 (ld' 22 37),Z 36 39 (ln 38 22),Z 36 40 (mv 6),Z 36 41 (bo .gtr 3 39 40 3),N 42 (po 36 41),M 43 42,Z 43 44 (fa 25 2 0),Z 43 45 (ld' 3 44),Z 43 46 (bk .eql 3 45 7 3),Z 43 47 (fa 25 2 2),Z 43 48 (ld' 23 47),Z 43 49 (ln 48 23),Z 43 50 (bk .eql 3 49 1 3),Z 43 51 (bo .neq 4 46 50 4),N 52 (po 43 51),M 53 52,Z 53 54 (fa 25 2 2),Z 53 55 (ld' 23 54),Z 53 56 (ln 55 23),Z 53 57 (bk .gtr 3 56 1 3),N 58 (po 53 57)]) (cC (T 58) (cS (cO [N 4 (.assign B0)]) .ret) .skip)) (cS (cS (cO [N 7 (ak 0)]) (cW 0 FJ)) RO)
def DM:E4:=RP
abbrev RQ:=cS (cS (cO [F 28 25 2 0,L 29 3 28,N 30 (bk .eql 3 29 6 3)]) RL) DM
abbrev RR:=cS (cS (cO [F 20 25 2 0,L 21 3 20,N 22 (bk .eql 3 21 4 3),M 23 22,Z 23 24 (fa 25 2 0),Z 23 25 (ld' 3 24),Z 23 26 (bk .eql 3 25 5 3),N 27 (po 23 26)]) RK) RQ
abbrev RS:=cS (cO [N 5 (ak 0)]) (cS (cO [N 6 (ak 0)]) RR)
abbrev RT:=cS (cS (cO [M 8 1,N 9 (bk .eql 3 8 0 3),M 10 9,Z 10 11 (fa 25 2 0),Z 10 12 (ld' 3 11),Z 10 13 (bk .lss 3 12 1 3),N 14 (po 10 13),M 15 14,Z 15 16 (fa 25 2 0),Z 15 17 (ld' 3 16),Z 15 18 (bk .gtr 3 17 7 3),N 19 (po 15 18)]) (cC (T 19) (cS (cO [N 4 (.assign B0)]) .ret) .skip)) RS
abbrev f51:=cS (cO [N 2 (bx 25 0),N 4 (.assign B0)]) RT
theorem Xl:fnL prog 51=some (f51,88,[ResultVar.tmp 4]):=kR
abbrev RU:=cO [L 12 25 5,N 13 (c2 79 3 12 130 25)]
abbrev RV:=cS (cB 1 (cS (cO [N 10 (ia 22 6 8),L 11 25 10,N 5 (.alloc 25),V (st' 25 5 11)]) RU)) (cO [N 14 (bk .add 3 8 1 3),M 8 14])
abbrev FK:=cS (cO [N 9 (bo .lss 3 8 7 3)]) (cS (cC (T 9) .skip (.exit 0)) RV)
abbrev RX:=cS (cO [F 15 130 3 0,L 16 99 15,V (st' 99 2 16)]) .ret
abbrev RY:=cS (cS (cO [M 6 0,N 7 (ln 6 22),N 8 (.move (K 0))]) (cW 0 FK)) RX
abbrev f52:=cS (cO [N 2 (.alloc 99)]) (cS (cO [N 3 (.alloc 130)]) RY)
theorem ac1:fnL prog 52=some (f52,17,[ResultVar.cell 2 99]):=kR
abbrev RZ:=cO [M 17 3,M 18 5,N 19 (ln 18 97),N 20 (bk .add 3 19 2 3),N 21 (bo .mul 3 17 20 3),N 22 (bi .min #[T 21,K 25] #[3,3]),A 3 22]
abbrev Sa:=cS (cB 1 (cS (cO [N 15 (ia 96 11 13),L 16 97 15,A 5 16]) RZ)) (cO [N 23 (bk .add 3 13 1 3),M 13 23])
abbrev FL:=cS (cO [N 14 (bo .lss 3 13 12 3)]) (cS (cC (T 14) .skip (.exit 0)) Sa)
abbrev Sb:=cS (cO [M 24 3,F 25 99 1 3,L 26 97 25,N 27 (ln 26 97),N 28 (bo .add 3 24 27 3),N 29 (bk .add 3 28 1 3),A 2 29]) .ret
abbrev Sc:=cS (cS (cO [F 10 99 1 2,L 11 96 10,N 12 (ln 11 96),N 13 (.move (K 0))]) (cW 0 FL)) Sb
abbrev Sd:=cS (cO [F 6 99 1 0,L 7 95 6,N 8 (ln 7 95),N 9 (bk .add 3 8 1 3),A 3 9]) Sc
abbrev f53:=cS (cO [N 1 (bx 99 0),N 2 (ak 0)]) Sd
theorem ac2:fnL prog 53=some (f53,30,[ResultVar.tmp 2]):=kR
abbrev Se:=cC (T 15) (cS (cO [L 16 35 3,L 17 51 5,N 18 (.buildSlice 35 1 #[(0,T 17)]),N 19 (ap 16 18 35 35),V (st' 35 3 19)]) .ret) .skip
abbrev Sf:=cO [L 60 102 4,L 61 51 10,M 62 1,N 63 (bk .add 3 62 1 3),N 64 (cv (T 60) #[T 61,T 63] #[51,3])]
abbrev Sg:=cS (.mix [m0 (F 47 51 5 2),m1 (L 48 49 47),m3 (N 49 (c1 37 48 49)) 0 2,m2 (F 50 99 2 1) 0 1,⟨L 51 95 50,false,true,0,1⟩,m2 (M 52 1) 0 1,m2 (N 53 (ia 95 51 52)) 0 1,⟨L 54 48 53,false,true,0,1⟩,m2 (M 55 9) 0 1,m2 (N 56 (.build 53 #[(0,T 54),(1,T 55)])) 0 1,m4 (N 57 (.buildSlice 49 1 #[(0,T 56)])) 0 2,m3 (N 58 (ap 49 57 49 49)) 2 3,m2 (F 59 51 10 2) 3 3,m4 (V (st' 49 59 58)) 3 4]) Sf
abbrev Sh:=cS (cO [L 46 51 5,N 10 (.alloc 51),V (st' 51 10 46)]) Sg
abbrev Si:=cS (cB 1 (cS (cO [N 44 (ia 97 40 42),L 45 9 44,A 9 45]) Sh)) (cO [N 65 (bk .add 3 42 1 3),M 42 65])
abbrev FM:=cS (cO [N 43 (bo .lss 3 42 41 3)]) (cS (cC (T 43) .skip (.exit 0)) Si)
abbrev Sj:=cS (cO [M 40 7,N 41 (ln 40 97),N 42 (.move (K 0))]) (cW 0 FM)
abbrev Sk:=cS (.mix [m0 (F 25 99 2 2),m1 (L 26 96 25),m0 (M 27 1),m0 (N 28 (ia 96 26 27)),m1 (L 29 97 28),m3 (N 30 (c1 55 29 97)) 0 2,m2 (F 31 99 2 2) 0 2,⟨L 32 96 31,false,true,0,2⟩,m2 (M 33 1) 0 2,m2 (N 34 (ia 96 32 33)) 0 2,⟨L 35 97 34,false,true,0,2⟩,m4 (N 36 (.buildSlice 97 1 #[(0,.const (.string ByteArray.empty))])) 0 2,m3 (N 37 (cf 56 #[T 35,.const (.string ByteArray.empty),T 36] #[97,9,97])) 2 3,m4 (N 38 (.buildSlice 97 1 #[(0,T 37)])) 3 4,m3 (N 39 (ap 30 38 97 97)) 4 5,m2 (A 7 39) 5 5]) Sj
abbrev Sn:=cS (cO [L 20 102 4,L 21 51 5,M 22 1,N 23 (bk .add 3 22 1 3),N 24 (cv (T 20) #[T 21,T 23] #[51,3])]) Sk
abbrev So:=cS (cS (cO [M 11 1,F 12 99 2 1,L 13 95 12,N 14 (ln 13 95),N 15 (bo .eql 3 11 14 3)]) Se) Sn
abbrev f54:=cS (cO [N 5 (bx 51 0)]) So
theorem Xm:fnL prog 54=some (f54,66,[]):=kR
abbrev Sp:=cS (cO [N 5 (.buildSlice 97 0 #[]),M 6 0,N 7 (ap 5 6 97 97),A 2 7]) .ret
abbrev Sq:=cS (cS (cO [M 3 0,N 4 (.binOp .eql 97 (T 3) S0 97)]) (cC (T 4) (cS (cO [N 2 (.assign S0)]) .ret) .skip)) Sp
abbrev f55:=cS (cO [N 2 (.assign S0)]) Sq
theorem ac3:fnL prog 55=some (f55,8,[ResultVar.tmp 2]):=kR
abbrev Sr:=cS (cO [M 17 0,M 18 8,N 19 (c2 80 17 18 97 9),N 20 (nt' 4 19)]) (cC (T 20) (cS (cO [M 21 8,A 6 21]) .ret) .skip)
abbrev Ss:=cS (cB 1 (cS (cO [N 15 (ia 97 11 13),L 16 9 15,A 8 16]) Sr)) (cO [N 22 (bk .add 3 13 1 3),M 13 22])
abbrev FN:=cS (cO [N 14 (bo .lss 3 13 12 3)]) (cS (cC (T 14) .skip (.exit 0)) Ss)
abbrev Su:=cS (cO [M 29 0,M 30 10,N 31 (c2 80 29 30 97 9),N 32 (nt' 4 31)]) (cC (T 32) (cS (cO [M 33 10,A 6 33]) .ret) .skip)
abbrev Sv:=cO [M 23 9,N 24 (bk .add 3 23 1 3),A 9 24]
abbrev FO:=cS (cB 3 (cS (cO [M 25 1,M 26 9,N 27 (c1 81 26 3),N 28 (bo .add 9 25 27 9),A 10 28]) Su)) Sv
abbrev Sw:=cS (cS (cO [M 11 2,N 12 (ln 11 97),N 13 (.move (K 0))]) (cW 0 FN)) (cS (cO [N 9 (ak 0)]) (cW 2 FO))
abbrev f56:=cS (cO [N 6 (.assign (.const (.string ByteArray.empty)))]) Sw
theorem ac4:fnL prog 56=some (f56,34,[ResultVar.tmp 6]):=kR
abbrev Sx:=cC (T 14) (cO [M 15 3,F 16 48 5 1,L 17 9 16,N 18 (.buildSlice 97 1 #[(0,T 17)]),N 19 (ap 15 18 97 97),A 3 19]) .skip
abbrev Sy:=cS (cO [F 12 48 5 0,L 13 9 12,N 14 (.binOp .eql 9 (T 13) (.const (.string ByteArray.empty)) 9)]) Sx
abbrev Sz:=cS (cB 1 (cS (cO [N 10 (ia 95 6 8),L 11 48 10,N 5 (.alloc 48),V (st' 48 5 11)]) Sy)) (cO [N 20 (bk .add 3 8 1 3),M 8 20])
abbrev FP:=cS (cO [N 9 (bo .lss 3 8 7 3)]) (cS (cC (T 9) .skip (.exit 0)) Sz)
abbrev SA:=cS (cO [M 24 3,N 25 (.buildSlice 97 1 {toList:=[(0,.const (.string ⟨#[122]⟩))]}),⟨some 26,.call ⟨.value (.func 56),{toList:=[T 24,.const (.string ⟨#[122]⟩),T 25]},#[97,9,97]⟩,none⟩,N 27 (.build 48 #[(1,T 26)]),V (st' 48 2 27)]) .ret
abbrev SB:=cS (cO [M 21 3,N 22 (.buildSlice 97 1 {toList:=[(0,.const (.string ⟨#[122,48]⟩))]}),N 23 (ap 21 22 97 97),A 3 23]) SA
abbrev SC:=cS (cS (cO [M 6 0,N 7 (ln 6 95),N 8 (.move (K 0))]) (cW 0 FP)) SB
abbrev f57:=cS (cO [N 2 (.alloc 48)]) (cS (cO [N 3 (.assign S0)]) SC)
theorem ac5:fnL prog 57=some (f57,28,[ResultVar.cell 2 48]):=kR
abbrev SD:=cO [M 15 0,L 16 25 5,N 17 (c2 58 15 16 132 25)]
abbrev SE:=cS (cB 1 (cS (cO [N 13 (ia 22 9 11),L 14 25 13,N 5 (.alloc 25),V (st' 25 5 14)]) SD)) (cO [N 18 (bk .add 3 11 1 3),M 11 18])
abbrev FQ:=cS (cO [N 12 (bo .lss 3 11 10 3)]) (cS (cC (T 12) .skip (.exit 0)) SE)
abbrev SF:=cO [M 26 0,L 27 86 7,N 28 (c2 82 26 27 132 86)]
abbrev SG:=cS (cB 3 (cS (cO [N 24 (ia 23 20 22),L 25 86 24,N 7 (.alloc 86),V (st' 86 7 25)]) SF)) (cO [N 29 (bk .add 3 22 1 3),M 22 29])
abbrev FR:=cS (cO [N 23 (bo .lss 3 22 21 3)]) (cS (cC (T 23) .skip (.exit 2)) SG)
abbrev SH:=cS (cO [F 19 25 3 2,L 20 23 19,N 21 (ln 20 23),N 22 (.move (K 0))]) (cW 2 FR)
abbrev SI:=cS (cS (cO [F 8 25 3 1,L 9 22 8,N 10 (ln 9 22),N 11 (.move (K 0))]) (cW 0 FQ)) SH
abbrev f58:=cS (cO [N 3 (bx 25 1)]) SI
theorem ac6:fnL prog 58=some (f58,30,[]):=kR
abbrev SJ:=cS (cO [F 13 135 3 0,L 14 32 13,V (st' 32 2 14)]) .ret
abbrev SK:=cS (cO [L 5 25 1,N 6 (c2 83 3 5 135 25),M 4 6,N 7 (ex 4 0),N 8 (ex 4 1),F 9 135 3 0,F 10 32 9 1,V (st' 3 10 7),F 11 135 3 0,F 12 32 11 2,V (st' 3 12 8)]) SJ
abbrev f59:=cS (cO [N 1 (bx 25 0),N 2 (.alloc 32)]) (cS (cO [N 3 (.alloc 135)]) SK)
theorem ac7:fnL prog 59=some (f59,15,[ResultVar.cell 2 32]):=kR
abbrev f61:=cS (cO [N 2 (bx 75 0),N 3 (bx 3 1),N 4 (.assign (.const .nilFunc))]) (cS (cO [N 5 (.makeFunc (Fn.func 84) #[] #[T 2,T 3]),A 4 5]) .ret)
theorem ac9:fnL prog 61=some (f61,6,[ResultVar.tmp 4]):=kR
abbrev SS:=cS (.mix [m2 (M 25 0) 0 6,m2 (M 26 0) 0 7,m2 (M 27 0) 0 8,m2 (M 28 0) 0 1,m2 (N 29 (nc 28)) 0 1,m2 (F 30 39 29 2) 0 1,⟨L 31 36 30,false,true,0,1⟩,m1 (L 32 59 5),m4 (N 33 (.buildSlice 36 1 #[(0,T 32)])) 0 1,m3 (N 34 (ap 31 33 36 36)) 1 3,m2 (M 35 0) 0 3,m2 (N 36 (nc 35)) 0 3,m2 (F 37 39 36 3) 0 3,⟨L 38 29 37,false,true,0,3⟩,m2 (M 39 2) 0 2,m4 (N 40 (.buildSlice 29 1 #[(0,T 39)])) 0 3,m3 (N 41 (ap 38 40 29 29)) 3 5,m2 (M 42 0) 0 5,m2 (N 43 (nc 42)) 0 5,m2 (F 44 39 43 4) 0 5,⟨L 45 37 44,false,true,0,5⟩,⟨L 46 56 7,false,true,0,4⟩,m4 (N 47 (.buildSlice 37 1 #[(0,T 46)])) 0 5,m3 (N 48 (ap 45 47 37 37)) 5 6,m2 (N 49 (nc 25)) 6 6,m2 (F 50 39 49 2) 6 6,m4 (V (st' 36 50 34)) 6 7,m2 (N 51 (nc 26)) 7 7,m2 (F 52 39 51 3) 7 7,m4 (V (st' 29 52 41)) 7 8,m2 (N 53 (nc 27)) 8 8,m2 (F 54 39 53 4) 8 8,m4 (V (st' 37 54 48)) 8 9]) (cS (cO [N 8 (.assign B1)]) .ret)
abbrev ST:=cS (cS (cO [M 15 0,N 16 (nc 15),F 17 39 16 2,L 18 36 17,N 19 (ln 18 36),N 20 (bk .gtr 3 19 24 3),M 21 20,Z 21 22 (mv 2),Z 21 23 (bk .gtr 3 22 200 3),N 24 (po 21 23)]) (cC (T 24) (cS (cO [N 8 (.assign B0)]) .ret) .skip)) SS
abbrev SU:=cS (cS (.draw [(M 9 0,false),(N 10 (nc 9),false),(F 11 39 10 2,false),(L 12 36 11,false),(L 13 59 5,false),(N 14 (c2 85 12 13 36 59),true)]) (cC (T 14) (cS (cO [N 8 (.assign B1)]) .ret) .skip)) ST
abbrev f62:=cS (cO [N 5 (bx 59 1),N 7 (bx 56 3),N 8 (.assign B0)]) SU
theorem ad0:fnL prog 62=some (f62,55,[ResultVar.tmp 8]):=kR
abbrev SV:=cO [M 21 5,N 22 (bk .add 3 21 1 3),A 5 22]
abbrev SW:=cS (cB 1 (.mix [m2 (F 23 115 4 2) 0 2,⟨L 24 96 23,false,true,0,2⟩,m0 (M 25 3),m0 (F 26 115 4 1),m1 (L 27 95 26),m0 (M 28 5),m0 (N 29 (ia 95 27 28)),m1 (L 30 48 29),m3 (N 31 (cf 88 #[T 25,K 6,T 30] #[23,3,48])) 0 1,m4 (N 32 (.buildSlice 96 1 #[(0,T 31)])) 1 2,m3 (N 33 (ap 24 32 96 96)) 2 3,m2 (F 34 115 4 2) 3 3,m4 (V (st' 96 34 33)) 3 4])) SV
abbrev FT:=cS (cS (cO [M 16 5,F 17 115 4 1,L 18 95 17,N 19 (ln 18 95),N 20 (bo .lss 3 16 19 3)]) (cC (T 20) .skip (.exit 0))) SW
abbrev SX:=cS (cS (cO [N 5 (ak 0)]) (cW 0 FT)) (cS (cO [L 35 115 4,V (st' 115 2 35)]) .ret)
abbrev SY:=cS (cO [M 8 3,N 9 (cf 87 #[T 8,K 4,K 4] #[23,3,3]),M 10 3,N 11 (cf 87 #[T 10,K 5,K 6] #[23,3,3]),M 12 3,N 13 (.build 48 #[]),N 14 (cf 88 #[T 12,K 7,T 13] #[23,3,48]),N 15 (.build 115 #[(0,T 9),(1,T 11),(3,T 14)]),N 4 (.alloc 115),V (st' 115 4 15)]) SX
abbrev SZ:=cS (cO [L 6 25 1,N 7 (c1 86 6 25),A 3 7]) SY
abbrev f63:=cS (cO [N 1 (bx 25 0),N 2 (.alloc 115)]) SZ
theorem ad1:fnL prog 63=some (f63,36,[ResultVar.cell 2 115]):=kR
abbrev Ta:=cC (T 9) (cO [M 10 3,N 11 (c1 89 10 3),N 12 (.binOp .add 9 (.const (.string ⟨#[122]⟩)) (T 11) 9),F 13 48 4 1,V (st' 9 13 12)]) .skip
abbrev Tb:=cO [M 18 6,N 19 (bk .add 3 18 1 3),A 6 19]
abbrev Tc:=cS (cB 3 (.draw [(M 20 5,false),(M 21 20,false),(Z 21 22 (mv 0),false),(Z 21 23 (mv 6),false),(Z 21 24 (ia 95 22 23),false),(Z 21 25 (ld' 48 24),false),(Z 21 26 (ld' 48 4),false),(Z 21 27 (bo .eql 48 25 26 48),true),(N 28 (po 21 27),true),(A 5 28,true)])) Tb
abbrev AF:=cS (cS (cO [M 14 6,M 15 0,N 16 (ln 15 95),N 17 (bo .lss 3 14 16 3)]) (cC (T 17) .skip (.exit 2))) Tc
abbrev FV:=cC (T 30) (cS (cO [L 31 48 4,V (st' 48 2 31)]) .ret) .skip
abbrev FW:=cO [M 32 3,N 33 (bk .add 3 32 1 3),A 3 33]
abbrev Td:=cS (cS (cO [N 6 (ak 0)]) (cW 2 AF)) (cS (cS (cO [M 29 5,N 30 (nt' 4 29)]) FV) FW)
abbrev Te:=cS (cS (cO [M 8 3,N 9 (bk .gtr 3 8 0 3)]) Ta) (cS (cO [N 5 (.assign B0)]) Td)
abbrev FU:=cB 1 (cS (cO [N 7 (.build 48 {toList:=[(1,.const (.string ⟨#[122]⟩))]}),N 4 (.alloc 48),V (st' 48 4 7)]) Te)
abbrev f64:=cS (cO [N 2 (.alloc 48)]) (cS (cO [N 3 (ak 0)]) (cW 0 FU))
theorem ad2:fnL prog 64=some (f64,34,[ResultVar.cell 2 48]):=kR
abbrev Tf:=cO [M 10 5,N 11 (bk .add 3 10 1 3),A 5 11]
abbrev Tg:=cS (cB 1 (cS (cO [M 12 0,M 13 5,N 14 (ia 97 12 13),L 15 9 14,M 16 1,N 17 (bo .eql 9 15 16 9)]) (cC (T 17) (cS (cO [N 4 (.assign B1)]) .ret) .skip))) Tf
abbrev FX:=cS (cS (cO [M 6 5,M 7 0,N 8 (ln 7 97),N 9 (bo .lss 3 6 8 3)]) (cC (T 9) .skip (.exit 0))) Tg
abbrev Th:=cS (cS (cO [N 5 (ak 0)]) (cW 0 FX)) (cS (cO [N 4 (.assign B0)]) .ret)
abbrev f65:=cS (cO [N 4 (.assign B0)]) Th
theorem ad3:fnL prog 65=some (f65,18,[ResultVar.tmp 4]):=kR
abbrev Ti:=cB 1 (cO [M 8 3,N 9 (bk .add 3 8 1 3),A 3 9])
abbrev FY:=cS (cS (cO [M 4 0,M 5 3,N 6 (c1 89 5 3),N 7 (c2 65 4 6 97 9)]) (cC (T 7) .skip (.exit 0))) Ti
abbrev Tj:=cS (cO [M 10 3,N 11 (c1 89 10 3),A 2 11]) .ret
abbrev f66:=cS (cO [N 2 (.assign (.const (.string ByteArray.empty)))]) (cS (cO [N 3 (ak 0)]) (cS (cW 0 FY) Tj))
theorem ad4:fnL prog 66=some (f66,12,[ResultVar.tmp 2]):=kR
abbrev Tk:=cS (cO [F 15 144 3 0,L 16 32 15,V (st' 32 2 16)]) .ret
abbrev Tl:=cS (cO [F 11 144 3 2,L 12 3 11,F 13 144 3 0,F 14 32 13 2,V (st' 3 14 12)]) Tk
abbrev Tm:=cS (cO [F 7 144 3 1,L 8 3 7,F 9 144 3 0,F 10 32 9 1,V (st' 3 10 8)]) Tl
abbrev Tn:=cS (cO [N 4 (.build 32 #[]),L 5 25 1,N 6 (c2 90 4 5 32 25),N 3 (.alloc 144),V (st' 144 3 6)]) Tm
abbrev f67:=cS (cO [N 1 (bx 25 0),N 2 (.alloc 32)]) Tn
theorem ad5:fnL prog 67=some (f67,17,[ResultVar.cell 2 32]):=kR
abbrev To:=cO [M 11 4,N 12 (bk .add 3 11 1 3),A 4 12]
abbrev Tp:=cS (cB 1 (cO [M 13 3,F 14 25 1 1,L 15 22 14,M 16 4,N 17 (ia 22 15 16),L 18 25 17,N 19 (c1 68 18 25),N 20 (ap 13 19 22 22),A 3 20])) To
abbrev FZ:=cS (cS (cO [M 6 4,F 7 25 1 1,L 8 22 7,N 9 (ln 8 22),N 10 (bo .lss 3 6 9 3)]) (cC (T 10) .skip (.exit 0))) Tp
abbrev Tq:=cO [M 26 5,N 27 (bk .add 3 26 1 3),A 5 27]
abbrev Ts:=cS (cB 3 (cO [M 28 3,F 29 25 1 2,L 30 23 29,M 31 5,N 32 (ia 23 30 31),L 33 86 32,N 34 (c1 91 33 86),N 35 (ap 28 34 22 22),A 3 35])) Tq
abbrev Ga:=cS (cS (cO [M 21 5,F 22 25 1 2,L 23 23 22,N 24 (ln 23 23),N 25 (bo .lss 3 21 24 3)]) (cC (T 25) .skip (.exit 2))) Ts
abbrev Tt:=cS (cS (cO [N 5 (ak 0)]) (cW 2 Ga)) (cS (cO [M 36 3,A 2 36]) .ret)
abbrev Tu:=cS (cO [N 3 (.assign S0)]) (cS (cS (cO [N 4 (ak 0)]) (cW 0 FZ)) Tt)
abbrev f68:=cS (cO [N 1 (bx 25 0),N 2 (.assign S0)]) Tu
theorem ad6:fnL prog 68=some (f68,37,[ResultVar.tmp 2]):=kR
abbrev Tv:=cO [M 11 5,N 12 (bk .add 3 11 1 3),A 5 12]
abbrev Tw:=cS (cB 1 (cS (.draw [(F 13 34 2 0,false),(L 14 22 13,false),(M 15 5,false),(N 16 (ia 22 14 15),false),(L 17 25 16,false),(L 18 25 3,false),(N 19 (c2 92 17 18 25 25),true)]) (cC (T 19) (cS (cO [M 20 5,A 4 20]) .ret) .skip))) Tv
abbrev Gb:=cS (cS (cO [M 6 5,F 7 34 2 0,L 8 22 7,N 9 (ln 8 22),N 10 (bo .lss 3 6 9 3)]) (cC (T 10) .skip (.exit 0))) Tw
abbrev Tx:=cS (cS (cO [N 5 (ak 0)]) (cW 0 Gb)) (cS (cO [N 4 (ak (-1))]) .ret)
abbrev f69:=cS (cO [N 2 (bx 34 0),N 3 (bx 25 1),N 4 (ak 0)]) Tx
theorem ad7:fnL prog 69=some (f69,21,[ResultVar.tmp 4]):=kR
abbrev Tz:=cS (cO [M 5 1,N 6 (bk .geq 3 5 0 3),M 7 6,Y 7 8 (mv 1),Y 7 9 (mv 0),Y 7 10 (nc 9),Y 7 11 (fa 39 10 2),Y 7 12 (ld' 36 11),Y 7 13 (ln 12 36),Y 7 14 (bo .lss 3 8 13 3),N 15 (pa 7 14),A 4 15]) .ret
abbrev f70:=cS (cO [N 4 (.assign B0)]) Tz
theorem ad8:fnL prog 70=some (f70,16,[ResultVar.tmp 4]):=kR
abbrev TA:=cO [M 13 3,F 14 32 5 0,L 15 3 14,N 16 (bo .add 3 13 15 3),A 3 16]
abbrev TB:=cS (cB 1 (cS (cO [N 11 (ia 28 7 9),L 12 32 11,N 5 (.alloc 32),V (st' 32 5 12)]) TA)) (cO [N 17 (bk .add 3 9 1 3),M 9 17])
abbrev Gc:=cS (cO [N 10 (bo .lss 3 9 8 3)]) (cS (cC (T 10) .skip (.exit 0)) TB)
abbrev TC:=cS (cS (cO [F 6 34 1 1,L 7 28 6,N 8 (ln 7 28),N 9 (.move (K 0))]) (cW 0 Gc)) (cS (cO [M 18 3,A 2 18]) .ret)
abbrev f71:=cS (cO [N 1 (bx 34 0),N 2 (ak 0)]) (cS (cO [N 3 (ak 0)]) TC)
theorem ad9:fnL prog 71=some (f71,19,[ResultVar.tmp 2]):=kR
abbrev TD:=cC (T 74) (cS (.draw [(M 75 0,false),(N 76 (nc 75),false),(F 77 123 76 4,false),(L 78 81 77,false),(M 79 5,false),(F 80 89 9 0,false),(L 81 3 80,false),(N 82 (bo .add 3 79 81 3),false),(N 83 (ia 81 78 82),true),(V (.store 5 (T 83) (.const (.int .u8 1))),true)]) (cO [N 7 (.assign B1)])) .skip
abbrev TE:=cS (.draw [(M 57 0,false),(N 58 (nc 57),false),(F 59 123 58 4,false),(L 60 81 59,false),(M 61 5,false),(F 62 89 9 0,false),(L 63 3 62,false),(N 64 (bo .add 3 61 63 3),false),(N 65 (ia 81 60 64),false),(L 66 5 65,false),(N 67 (.binOp .eql 5 (T 66) (.const (.int .u8 0)) 5),false),(M 68 67,false),(Y 68 69 (mv 0),false),(Y 68 70 (mv 5),false),(Y 68 71 (ld' 89 9),false),(Y 68 72 (mv 6),false),(Y 68 73 (cf 94 #[T 69,T 70,T 71,T 72] #[121,3,89,83]),true),(N 74 (pa 68 73),true)]) TD
abbrev TF:=cS (cB 3 (cS (cO [N 55 (ia 30 51 53),L 56 89 55,N 9 (.alloc 89),V (st' 89 9 56)]) TE)) (cO [N 84 (bk .add 3 53 1 3),M 53 84])
abbrev Gd:=cS (cO [N 54 (bo .lss 3 53 52 3)]) (cS (cC (T 54) .skip (.exit 2)) TF)
abbrev TG:=cS (cO [F 50 32 4 3,L 51 30 50,N 52 (ln 51 30),N 53 (.move (K 0))]) (cW 2 Gd)
abbrev AG:=cS (cS (cO [M 49 7]) (cC (T 49) .skip (.exit 0))) (cB 1 (cS (cO [N 7 (.assign B0)]) TG))
abbrev TH:=cS (.draw [(M 40 0,false),(N 41 (nc 40),false),(F 42 123 41 4,false),(L 43 81 42,false),(M 44 5,false),(F 45 32 4 2,false),(L 46 3 45,false),(N 47 (bo .add 3 44 46 3),false),(N 48 (ia 81 43 47),true),(V (.store 5 (T 48) (.const (.int .u8 1))),true)]) (cS (cO [N 7 (.assign B1)]) (cW 0 AG))
abbrev TI:=cS (.draw [(M 26 0,false),(N 27 (nc 26),false),(F 28 123 27 0,false),(L 29 34 28,false),(L 30 32 4,false),(M 31 0,false),(N 32 (nc 31),false),(F 33 123 32 1,false),(L 34 51 33,false),(M 35 0,false),(N 36 (nc 35),false),(F 37 123 36 4,false),(L 38 81 37,false),(N 39 (cf 93 #[T 29,T 30,T 34,T 38] #[34,32,51,81]),true),(A 6 39,true)]) TH
abbrev f72:=cS (.mix [m2 (M 10 0) 0 1,m2 (N 11 (nc 10)) 0 1,m2 (F 12 123 11 0) 0 1,m2 (F 13 34 12 1) 0 1,⟨L 14 28 13,false,true,0,1⟩,m2 (M 15 1) 0 1,m2 (N 16 (ia 28 14 15)) 0 1,⟨L 17 32 16,false,true,0,1⟩,m2 (M 18 0) 0 2,m2 (N 19 (nc 18)) 0 2,m2 (F 20 123 19 0) 0 2,m2 (F 21 34 20 2) 0 2,⟨L 22 29 21,false,true,0,2⟩,m2 (M 23 1) 0 2,m2 (N 24 (ia 29 22 23)) 0 2,⟨L 25 3 24,false,true,0,2⟩,m4 (N 4 (.alloc 32)) 0 1,m4 (V (st' 32 4 17)) 1 2,m2 (A 5 25) 2 2]) TI
theorem ae0:fnL prog 72=some (f72,85,[]):=kR
abbrev TJ:=cO [M 17 6,N 18 (bk .add 3 17 1 3),A 6 18]
abbrev TK:=cS (cB 1 (cS (cO [M 19 3,M 20 6,N 21 (ia 150 19 20),L 22 21 21,N 23 (.convert 21 3 (T 22)),N 24 (c1 96 23 3),N 25 (nt' 4 24)]) (cC (T 25) (cS (cO [N 2 (.assign B0)]) .ret) .skip))) TJ
abbrev Ge:=cS (cS (cO [M 13 6,M 14 3,N 15 (ln 14 150),N 16 (bo .lss 3 13 15 3)]) (cC (T 16) .skip (.exit 0))) TK
abbrev TL:=cS (cO [M 26 5,N 27 (bk .eql 3 26 0 3),A 2 27]) .ret
abbrev TM:=cS (cO [M 8 0,N 9 (c1 95 8 9),M 7 9,N 10 (ex 7 0),N 11 (ex 7 1),N 12 (ex 7 2),A 3 10,A 4 11,A 5 12]) (cS (cS (cO [N 6 (ak 0)]) (cW 0 Ge)) TL)
abbrev f73:=cS (cO [N 2 (.assign B0)]) TM
theorem ae1:fnL prog 73=some (f73,28,[ResultVar.tmp 2]):=kR
abbrev TN:=cO [M 18 6,N 19 (bk .add 3 18 1 3),A 6 19]
abbrev TO:=cS (cB 1 (cO [M 20 5,F 21 25 2 1,L 22 22 21,M 23 6,N 24 (ia 22 22 23),L 25 25 24,M 26 1,M 27 5,N 28 (bo .sub 3 26 27 3),N 29 (c2 77 25 28 25 3),N 30 (bo .add 3 20 29 3),A 5 30])) TN
abbrev Gf:=cS (cS (cO [M 8 6,F 9 25 2 1,L 10 22 9,N 11 (ln 10 22),N 12 (bo .lss 3 8 11 3),M 13 12,Y 13 14 (mv 5),Y 13 15 (mv 1),Y 13 16 (bo .leq 3 14 15 3),N 17 (pa 13 16)]) (cC (T 17) .skip (.exit 0))) TO
abbrev TP:=cO [M 41 7,N 42 (bk .add 3 41 1 3),A 7 42]
abbrev TQ:=cS (cB 3 (cO [M 43 5,F 44 25 2 2,L 45 23 44,M 46 7,N 47 (ia 23 45 46),L 48 86 47,M 49 1,M 50 5,N 51 (bo .sub 3 49 50 3),N 52 (c2 99 48 51 86 3),N 53 (bo .add 3 43 52 3),A 5 53])) TP
abbrev Gg:=cS (cS (cO [M 31 7,F 32 25 2 2,L 33 23 32,N 34 (ln 33 23),N 35 (bo .lss 3 31 34 3),M 36 35,Y 36 37 (mv 5),Y 36 38 (mv 1),Y 36 39 (bo .leq 3 37 38 3),N 40 (pa 36 39)]) (cC (T 40) .skip (.exit 2))) TQ
abbrev TR:=cS (cS (cO [N 7 (ak 0)]) (cW 2 Gg)) (cS (cO [M 54 5,A 4 54]) .ret)
abbrev TS:=cS (cO [N 5 (ak 1)]) (cS (cS (cO [N 6 (ak 0)]) (cW 0 Gf)) TR)
abbrev f77:=cS (cO [N 2 (bx 25 0),N 4 (ak 0)]) TS
theorem ae2:fnL prog 77=some (f77,55,[ResultVar.tmp 4]):=kR
abbrev TT:=cC (T 78) (cS (cO [N 7 (ak 1)]) (cO [N 8 (ak 1)])) .skip
abbrev TU:=cC (T 86) (cS (cO [N 7 (ak 2)]) (cO [N 8 (ak 64)])) .skip
abbrev TV:=cO [M 120 9,N 121 (bk .add 3 120 1 3),A 9 121]
abbrev TW:=cS (cB 1 (cS (cO [F 122 86 2 3,L 123 23 122,M 124 9,N 125 (ia 23 123 124),L 126 86 125,M 127 1,N 128 (bk .sub 3 127 1 3),N 129 (c2 78 126 128 86 3),N 130 (nt' 4 129)]) (cC (T 130) (cS (cO [N 4 (.assign B0)]) .ret) .skip))) TV
abbrev Gh:=cS (cS (cO [M 115 9,F 116 86 2 3,L 117 23 116,N 118 (ln 117 23),N 119 (bo .lss 3 115 118 3)]) (cC (T 119) .skip (.exit 0))) TW
abbrev TX:=cS (cO [F 131 86 2 4,L 132 22 131,N 133 (ln 132 22),N 134 (bk .eql 3 133 0 3),M 135 134,Z 135 136 (fa 86 2 4),Z 135 137 (ld' 22 136),Z 135 138 (.indexAddr 22 (T 137) (K 0)),Z 135 139 (ld' 25 138),Z 135 140 (mv 1),Z 135 141 (bk .sub 3 140 1 3),Z 135 142 (c2 51 139 141 25 3),N 143 (po 135 142),A 4 143]) .ret
abbrev TY:=cS (cS (cO [F 87 86 2 3,L 88 23 87,N 89 (ln 88 23),M 90 7,N 91 (bo .lss 3 89 90 3),M 92 91,Z 92 93 (fa 86 2 3),Z 92 94 (ld' 23 93),Z 92 95 (ln 94 23),Z 92 96 (mv 8),Z 92 97 (bo .gtr 3 95 96 3),N 98 (po 92 97),M 99 98,Z 99 100 (fa 86 2 0),Z 99 101 (ld' 3 100),Z 99 102 (bk .eql 3 101 11 3),Z 99 103 (fa 86 2 4),Z 99 104 (ld' 22 103),Z 99 105 (ln 104 22),Z 99 106 (bk .eql 3 105 1 3),Z 99 107 (bo .neq 4 102 106 4),N 108 (po 99 107),M 109 108,Z 109 110 (fa 86 2 4),Z 109 111 (ld' 22 110),Z 109 112 (ln 111 22),Z 109 113 (bk .gtr 3 112 1 3),N 114 (po 109 113)]) (cC (T 114) (cS (cO [N 4 (.assign B0)]) .ret) .skip)) (cS (cS (cO [N 9 (ak 0)]) (cW 0 Gh)) TX)
def DN:E4:=TY
abbrev TZ:=cS (cS (cO [F 79 86 2 0,L 80 3 79,N 81 (bk .eql 3 80 9 3),M 82 81,Z 82 83 (fa 86 2 0),Z 82 84 (ld' 3 83),Z 82 85 (bk .eql 3 84 10 3),N 86 (po 82 85)]) TU) DN
abbrev Ua:=cS (cS (cO [F 76 86 2 0,L 77 3 76,N 78 (bk .eql 3 77 8 3)]) TT) TZ
abbrev Ub:=cS (cO [N 7 (ak 0)]) (cS (cO [N 8 (ak 0)]) Ua)
def AI:E4:=Ub
abbrev Uc:=cS (cS (cO [M 53 6,N 54 (nt' 4 53),M 55 54,Y 55 56 (fa 86 2 2),Y 55 57 (ld' 9 56),Y 55 58 (.binOp .neq 9 (T 57) (.const (.string ByteArray.empty)) 9),N 59 (pa 55 58),M 60 59,Z 60 61 (fa 86 2 0),Z 60 62 (ld' 3 61),Z 60 63 (bk .eql 3 62 7 3),Z 60 64 (mv 63),Y 64 65 (fa 86 2 2),Y 64 66 (ld' 9 65),Y 64 67 (.binOp .eql 9 (T 66) (.const (.string ByteArray.empty)) 9),Z 60 68 (pa 64 67),N 69 (po 60 68),M 70 69,Z 70 71 (fa 86 2 2),Z 70 72 (ld' 9 71),Z 70 73 (c1 73 72 9),Z 70 74 (nt' 4 73),N 75 (po 70 74)]) (cC (T 75) (cS (cO [N 4 (.assign B0)]) .ret) .skip)) AI
def qx:E4:=Uc
abbrev LS:=cS (cS (cO [M 38 5,F 39 86 2 1,L 40 48 39,N 41 (.build 48 #[]),N 42 (bo .neq 48 40 41 48),N 43 (bo .neq 4 38 42 4),M 44 43,Z 44 45 (mv 5),Z 44 46 (mv 45),Y 46 47 (fa 86 2 1),Y 46 48 (ld' 48 47),Y 46 49 (c1 100 48 48),Y 46 50 (nt' 4 49),Z 44 51 (pa 46 50),N 52 (po 44 51)]) (cC (T 52) (cS (cO [N 4 (.assign B0)]) .ret) .skip)) qx
def AH:E4:=LS
abbrev LT:=cS (cO [F 30 86 2 0,L 31 3 30,N 32 (bk .eql 3 31 6 3),M 33 32,Z 33 34 (fa 86 2 0),Z 33 35 (ld' 3 34),Z 33 36 (bk .eql 3 35 7 3),N 37 (po 33 36),A 6 37]) AH
abbrev LU:=cS (cO [F 22 86 2 0,L 23 3 22,N 24 (bk .geq 3 23 4 3),M 25 24,Y 25 26 (fa 86 2 0),Y 25 27 (ld' 3 26),Y 25 28 (bk .leq 3 27 6 3),N 29 (pa 25 28),A 5 29]) LT
abbrev LW:=cS (cS (cO [M 10 1,N 11 (bk .eql 3 10 0 3),M 12 11,Z 12 13 (fa 86 2 0),Z 12 14 (ld' 3 13),Z 12 15 (bk .lss 3 14 1 3),N 16 (po 12 15),M 17 16,Z 17 18 (fa 86 2 0),Z 17 19 (ld' 3 18),Z 17 20 (bk .gtr 3 19 11 3),N 21 (po 17 20)]) (cC (T 21) (cS (cO [N 4 (.assign B0)]) .ret) .skip)) LU
abbrev f78:=cS (cO [N 2 (bx 86 0),N 4 (.assign B0)]) LW
theorem Xn:fnL prog 78=some (f78,144,[ResultVar.tmp 4]):=kR
abbrev Ud:=cO [M 15 0,L 16 25 5,N 17 (c2 79 15 16 155 25)]
abbrev Ue:=cS (cB 1 (cS (cO [N 13 (ia 22 9 11),L 14 25 13,N 5 (.alloc 25),V (st' 25 5 14)]) Ud)) (cO [N 18 (bk .add 3 11 1 3),M 11 18])
abbrev Gi:=cS (cO [N 12 (bo .lss 3 11 10 3)]) (cS (cC (T 12) .skip (.exit 0)) Ue)
abbrev Uf:=cO [M 26 0,L 27 86 7,N 28 (c2 101 26 27 155 86)]
abbrev Ug:=cS (cB 3 (cS (cO [N 24 (ia 23 20 22),L 25 86 24,N 7 (.alloc 86),V (st' 86 7 25)]) Uf)) (cO [N 29 (bk .add 3 22 1 3),M 22 29])
abbrev Gj:=cS (cO [N 23 (bo .lss 3 22 21 3)]) (cS (cC (T 23) .skip (.exit 2)) Ug)
abbrev Uh:=cS (cO [F 19 25 3 2,L 20 23 19,N 21 (ln 20 23),N 22 (.move (K 0))]) (cW 2 Gj)
abbrev Ui:=cS (cS (cO [F 8 25 3 1,L 9 22 8,N 10 (ln 9 22),N 11 (.move (K 0))]) (cW 0 Gi)) Uh
abbrev f79:=cS (cO [N 3 (bx 25 1)]) Ui
theorem ae3:fnL prog 79=some (f79,30,[]):=kR
abbrev Um:=cS (cO [M 5 0,M 6 1,N 7 (c2 102 5 6 97 9),N 8 (bk .geq 3 7 0 3),A 4 8]) .ret
abbrev f80:=cS (cO [N 4 (.assign B0)]) Um
theorem ae4:fnL prog 80=some (f80,9,[ResultVar.tmp 4]):=kR
abbrev Un:=cS (cO [M 3 0,N 4 (c1 103 3 3),A 2 4]) .ret
abbrev f81:=cS (cO [N 2 (.assign (.const (.string ByteArray.empty)))]) Un
theorem ae5:fnL prog 81=some (f81,5,[ResultVar.tmp 2]):=kR
abbrev Ux:=cS (cO [M 60 6,M 61 6,A 4 60,A 5 61]) .ret
abbrev Uy:=cS (cO [M 56 0,M 57 8,M 58 6,N 59 (cf 111 #[T 56,T 57,T 58] #[158,3,3])]) Ux
abbrev Uz:=cS (cO [M 52 0,M 53 6,M 54 7,N 55 (cf 111 #[T 52,T 53,T 54] #[158,3,3])]) Uy
abbrev UA:=cS (cO [M 44 0,F 45 25 3 1,L 46 22 45,N 47 (.indexAddr 22 (T 46) (K 0)),L 48 25 47,N 49 (c2 83 44 48 158 25),M 43 49,N 50 (ex 43 0),N 51 (ex 43 1),A 7 50,A 8 51]) Uz
abbrev UB:=cS (cO [M 76 0,M 77 0,N 78 (nc 77),F 79 135 78 0,F 80 32 79 4,L 81 23 80,N 82 (ln 81 23),N 83 (bk .sub 3 82 1 3),N 84 (cf 107 #[T 76,K 3,T 83] #[158,3,3]),N 85 (ex 84 0),N 86 (ex 84 1),A 4 85,A 5 86]) .ret
abbrev UC:=cC (T 62) (cS (.mix [m2 (M 64 0) 0 1,m0 (M 65 0),m0 (N 66 (nc 65)),m0 (F 67 135 66 0),m0 (F 68 32 67 4),m1 (L 69 23 68),m0 (F 70 25 3 2),m1 (L 71 23 70),m3 (N 72 (ap 69 71 23 23)) 0 1,m2 (N 73 (nc 64)) 1 1,m2 (F 74 135 73 0) 1 1,m2 (F 75 32 74 4) 1 1,m4 (V (st' 23 75 72)) 1 2]) UB) .skip
abbrev UD:=cC (T 39) (cS (cO [M 41 0,N 42 (c1 110 41 158),A 6 42]) UA) (cS (cO [N 63 (bk .eql 3 10 7 3),A 62 63]) UC)
abbrev UE:=cC (T 31) (cS (cO [M 33 0,F 34 25 3 1,L 35 22 34,N 36 (c2 109 33 35 158 22),N 37 (ex 36 0),N 38 (ex 36 1),A 4 37,A 5 38]) .ret) (cS (cO [N 40 (bk .eql 3 10 6 3),A 39 40]) UD)
abbrev UF:=cC (T 23) (cS (cO [M 25 0,F 26 25 3 1,L 27 22 26,N 28 (c2 108 25 27 158 22),N 29 (ex 28 0),N 30 (ex 28 1),A 4 29,A 5 30]) .ret) (cS (cO [N 32 (bk .eql 3 10 5 3),A 31 32]) UE)
abbrev UG:=cC (T 17) (cS (cO [M 19 0,N 20 (cf 107 #[T 19,K 2,K 0] #[158,3,3]),N 21 (ex 20 0),N 22 (ex 20 1),A 4 21,A 5 22]) .ret) (cS (cO [N 24 (bk .eql 3 10 4 3),A 23 24]) UF)
abbrev LX:=cC (T 11) (cS (cO [M 13 0,N 14 (cf 107 #[T 13,K 1,K 0] #[158,3,3]),N 15 (ex 14 0),N 16 (ex 14 1),A 4 15,A 5 16]) .ret) (cS (cO [N 18 (bk .eql 3 10 3 3),A 17 18]) UG)
abbrev LY:=cB 0 (cS (cO [N 12 (bk .eql 3 10 2 3),A 11 12]) LX)
abbrev LZ:=cS (cO [M 87 0,N 88 (cf 107 #[T 87,K 0,K 0] #[158,3,3]),N 89 (ex 88 0),N 90 (ex 88 1),A 4 89,A 5 90]) .ret
abbrev f83:=cS (cO [N 3 (bx 25 1),N 4 (ak 0),N 5 (ak 0)]) (cS (cS (cO [F 9 25 3 0,L 10 3 9]) LY) LZ)
theorem ae7:fnL prog 83=some (f83,91,[ResultVar.tmp 4,ResultVar.tmp 5]):=kR
abbrev UJ:=cS (.draw [(L 20 75 1,false),(N 21 (nc 20),false),(F 22 39 21 3,false),(L 23 29 22,false),(M 24 5,false),(N 25 (ia 29 23 24),false),(L 26 3 25,false),(L 27 75 1,false),(N 28 (nc 27),false),(F 29 39 28 3,false),(L 30 29 29,false),(M 31 6,false),(N 32 (ia 29 30 31),false),(L 33 3 32,false),(N 34 (bo .add 3 26 33 3),false),(N 35 (bk .add 3 34 1 3),false),(L 36 3 2,false),(N 37 (bo .eql 3 35 36 3),false),(M 38 37,false),(Y 38 39 (mv 0),false),(Y 38 40 (mv 5),false),(Y 38 41 (mv 6),false),(Y 38 42 (cv (T 39) #[T 40,T 41] #[3,3]),true),(Y 38 43 (nt' 4 42),true),(N 44 (pa 38 43),true)]) (cC (T 44) .ret .skip)
abbrev UK:=cS (cB 3 (cS (cO [M 19 17,A 6 19]) UJ)) (cO [N 45 (bk .add 3 17 1 3),M 17 45])
abbrev UH:=cS (cO [N 18 (bo .lss 3 17 16 3)]) (cS (cC (T 18) .skip (.exit 2)) UK)
abbrev UL:=cS (cB 1 (cS (cO [M 15 13,A 5 15]) (cS (cO [M 16 4,N 17 (.move (K 0))]) (cW 2 UH)))) (cO [N 46 (bk .add 3 13 1 3),M 13 46])
abbrev UI:=cS (cO [N 14 (bo .lss 3 13 12 3)]) (cS (cC (T 14) .skip (.exit 0)) UL)
abbrev f84:=cS (cO [L 7 75 1,N 8 (nc 7),F 9 39 8 2,L 10 36 9,N 11 (ln 10 36),A 4 11]) (cS (cO [M 12 4,N 13 (.move (K 0))]) (cW 0 UI))
abbrev UM:=cS (cO [M 5 0,L 6 59 3,N 7 (c2 39 5 6 36 59),N 8 (bk .geq 3 7 0 3),A 4 8]) .ret
abbrev f85:=cS (cO [N 3 (bx 59 1),N 4 (.assign B0)]) UM
theorem ae8:fnL prog 85=some (f85,9,[ResultVar.tmp 4]):=kR
abbrev UN:=cO [M 11 4,N 12 (bk .add 3 11 1 3),A 4 12]
abbrev UO:=cS (cB 1 (cO [M 13 3,F 14 25 1 1,L 15 22 14,M 16 4,N 17 (ia 22 15 16),L 18 25 17,N 19 (c1 86 18 25),N 20 (ap 13 19 23 23),A 3 20])) UN
abbrev Gm:=cS (cS (cO [M 6 4,F 7 25 1 1,L 8 22 7,N 9 (ln 8 22),N 10 (bo .lss 3 6 9 3)]) (cC (T 10) .skip (.exit 0))) UO
abbrev UP:=cO [M 26 5,N 27 (bk .add 3 26 1 3),A 5 27]
abbrev UQ:=cS (cB 3 (cO [M 28 3,F 29 25 1 2,L 30 23 29,M 31 5,N 32 (ia 23 30 31),L 33 86 32,N 34 (c1 112 33 86),N 35 (ap 28 34 23 23),A 3 35])) UP
abbrev Gn:=cS (cS (cO [M 21 5,F 22 25 1 2,L 23 23 22,N 24 (ln 23 23),N 25 (bo .lss 3 21 24 3)]) (cC (T 25) .skip (.exit 2))) UQ
abbrev UR:=cS (cS (cO [N 5 (ak 0)]) (cW 2 Gn)) (cS (cO [M 36 3,A 2 36]) .ret)
abbrev US:=cS (cO [N 3 (.assign S0)]) (cS (cS (cO [N 4 (ak 0)]) (cW 0 Gm)) UR)
abbrev f86:=cS (cO [N 1 (bx 25 0),N 2 (.assign S0)]) US
theorem ae9:fnL prog 86=some (f86,37,[ResultVar.tmp 2]):=kR
abbrev UT:=cC (T 40) (cO [M 41 7,M 42 0,M 43 8,N 44 (ia 23 42 43),F 45 86 44 1,L 46 48 45,N 47 (.buildSlice 95 1 #[(0,T 46)]),N 48 (ap 41 47 95 95),A 7 48]) .skip
abbrev UU:=cO [M 13 8,N 14 (bk .add 3 13 1 3),A 8 14]
abbrev UV:=cS (cB 1 (cS (cO [M 15 0,M 16 8,N 17 (ia 23 15 16),F 18 86 17 0,L 19 3 18,M 20 1,N 21 (bo .geq 3 19 20 3),M 22 21,Y 22 23 (mv 0),Y 22 24 (mv 8),Y 22 25 (ia 23 23 24),Y 22 26 (fa 86 25 0),Y 22 27 (ld' 3 26),Y 22 28 (mv 2),Y 22 29 (bo .leq 3 27 28 3),N 30 (pa 22 29),M 31 30,Y 31 32 (mv 7),Y 31 33 (mv 0),Y 31 34 (mv 8),Y 31 35 (ia 23 33 34),Y 31 36 (fa 86 35 1),Y 31 37 (ld' 48 36),Y 31 38 (c2 113 32 37 95 48),Y 31 39 (nt' 4 38),N 40 (pa 31 39)]) UT)) UU
abbrev Gp:=cS (cS (cO [M 9 8,M 10 0,N 11 (ln 10 23),N 12 (bo .lss 3 9 11 3)]) (cC (T 12) .skip (.exit 0))) UV
abbrev UW:=cS (cS (cO [N 8 (ak 0)]) (cW 0 Gp)) (cS (cO [M 49 7,A 6 49]) .ret)
abbrev f87:=cS (cO [N 6 (.assign S0)]) (cS (cO [N 7 (.assign S0)]) UW)
theorem af0:fnL prog 87=some (f87,50,[ResultVar.tmp 6]):=kR
abbrev UX:=cC (T 40) (cO [M 41 7,M 42 0,M 43 8,N 44 (ia 23 42 43),F 45 86 44 2,L 46 9 45,N 47 (.buildSlice 97 1 #[(0,T 46)]),N 48 (ap 41 47 97 97),A 7 48]) .skip
abbrev UY:=cO [M 13 8,N 14 (bk .add 3 13 1 3),A 8 14]
abbrev UZ:=cS (cB 1 (cS (.draw [(M 15 0,false),(M 16 8,false),(N 17 (ia 23 15 16),false),(F 18 86 17 0,false),(L 19 3 18,false),(M 20 1,false),(N 21 (bo .eql 3 19 20 3),false),(M 22 21,false),(Y 22 23 (mv 0),false),(Y 22 24 (mv 8),false),(Y 22 25 (ia 23 23 24),false),(Y 22 26 (fa 86 25 1),false),(Y 22 27 (ld' 48 26),false),(Y 22 28 (ld' 48 5),false),(Y 22 29 (bo .eql 48 27 28 48),false),(N 30 (pa 22 29),false),(M 31 30,false),(Y 31 32 (mv 7),false),(Y 31 33 (mv 0),false),(Y 31 34 (mv 8),false),(Y 31 35 (ia 23 33 34),false),(Y 31 36 (fa 86 35 2),false),(Y 31 37 (ld' 9 36),false),(Y 31 38 (c2 65 32 37 97 9),true),(Y 31 39 (nt' 4 38),true),(N 40 (pa 31 39),true)]) UX)) UY
abbrev Gq:=cS (cS (cO [M 9 8,M 10 0,N 11 (ln 10 23),N 12 (bo .lss 3 9 11 3)]) (cC (T 12) .skip (.exit 0))) UZ
abbrev Va:=cS (cS (cO [N 8 (ak 0)]) (cW 0 Gq)) (cS (cO [M 49 7,A 6 49]) .ret)
abbrev f88:=cS (cO [N 5 (bx 48 2),N 6 (.assign S0)]) (cS (cO [N 7 (.assign S0)]) Va)
theorem af1:fnL prog 88=some (f88,50,[ResultVar.tmp 6]):=kR
abbrev Vb:=cC (T 4) (cS (cO [M 5 0,N 6 (.binOp .add 3 (K 48) (T 5) 3),N 7 (.convert 3 5 (T 6)),N 8 (.buildSlice 81 1 #[(0,T 7)]),N 9 (.convert 81 9 (T 8)),A 2 9]) .ret) .skip
abbrev Vc:=cS (cO [M 10 0,N 11 (bk .quo 3 10 10 3),N 12 (c1 89 11 3),M 13 0,N 14 (bk .rem 3 13 10 3),N 15 (c1 89 14 3),N 16 (bo .add 9 12 15 9),A 2 16]) .ret
abbrev Vd:=cS (cS (cO [M 3 0,N 4 (bk .lss 3 3 10 3)]) Vb) Vc
abbrev f89:=cS (cO [N 2 (.assign (.const (.string ByteArray.empty)))]) Vd
theorem af2:fnL prog 89=some (f89,17,[ResultVar.tmp 2]):=kR
abbrev Vm:E4:= .mix [m0 (F 46 144 9 0),m1 (L 47 32 46),m0 (F 48 144 6 2),m1 (L 49 3 48),m0 (F 50 144 9 1),m1 (L 51 3 50),m3 (N 52 (cf 114 #[T 47,T 49,T 51,K 0,K 0] #[32,3,3,3,3])) 0 1,m2 (M 53 7) 0 1,m2 (F 54 144 9 2) 0 1,⟨L 55 3 54,false,true,0,1⟩,m2 (N 56 (.build 144 #[(0,T 52),(1,T 53),(2,T 55)])) 1 1,m4 (V (st' 144 6 56)) 1 2]
abbrev Vn:=cO [M 36 8,N 37 (bk .add 3 36 1 3),A 8 37]
abbrev Vo:=cS (cB 1 (cS (.mix [m0 (F 38 144 6 0),m1 (L 39 32 38),m0 (F 40 25 3 1),m1 (L 41 22 40),m0 (M 42 8),m0 (N 43 (ia 22 41 42)),m1 (L 44 25 43),m3 (N 45 (c2 90 39 44 32 25)) 0 2,m4 (N 9 (.alloc 144)) 0 2,m4 (V (st' 144 9 45)) 2 3]) Vm)) Vn
abbrev Gr:=cS (cS (cO [M 31 8,F 32 25 3 1,L 33 22 32,N 34 (ln 33 22),N 35 (bo .lss 3 31 34 3)]) (cC (T 35) .skip (.exit 0))) Vo
abbrev Vp:=cS (cS (cO [N 8 (ak 1)]) (cW 0 Gr)) (cS (cO [L 57 144 6,V (st' 144 4 57)]) .ret)
abbrev Vq:=cS (cO [F 29 144 6 1,L 30 3 29,A 7 30]) Vp
abbrev Vr:=cC (T 22) (cS (.mix [m1 (L 23 32 2),m0 (F 24 25 3 1),m1 (L 25 22 24),m0 (N 26 (.indexAddr 22 (T 25) (K 0))),m1 (L 27 25 26),m3 (N 28 (c2 90 23 27 32 25)) 0 2,m4 (N 6 (.alloc 144)) 0 2,m4 (V (st' 144 6 28)) 2 3]) Vq) .skip
abbrev Vs:=cO [M 84 10,F 85 144 12 2,L 86 3 85,N 87 (.buildSlice 29 1 #[(0,T 86)]),N 88 (ap 84 87 29 29),A 10 88]
abbrev Vt:=cS (cO [F 78 144 12 0,L 79 32 78,M 80 5,F 81 144 12 1,L 82 3 81,N 83 (cf 114 #[T 79,T 80,T 82,K 0,K 0] #[32,3,3,3,3]),V (st' 32 2 83)]) Vs
abbrev Vu:=cO [M 69 11,N 70 (bk .add 3 69 1 3),A 11 70]
abbrev Vv:=cS (cB 3 (cS (.mix [m1 (L 71 32 2),m0 (F 72 25 3 1),m1 (L 73 22 72),m0 (M 74 11),m0 (N 75 (ia 22 73 74)),m1 (L 76 25 75),m3 (N 77 (c2 90 71 76 32 25)) 0 2,m4 (N 12 (.alloc 144)) 0 2,m4 (V (st' 144 12 77)) 2 3]) Vt)) Vu
abbrev Gs:=cS (cS (cO [M 64 11,F 65 25 3 1,L 66 22 65,N 67 (ln 66 22),N 68 (bo .lss 3 64 67 3)]) (cC (T 68) .skip (.exit 2))) Vv
abbrev Ma:=cO [M 99 14,N 100 (bk .add 3 99 1 3),A 14 100]
abbrev Mb:=cS (cB 5 (.mix [m1 (L 101 32 2),m0 (M 102 10),m0 (M 103 14),m0 (N 104 (ia 29 102 103)),m1 (L 105 3 104),m0 (M 106 13),m3 (N 107 (cf 114 #[T 101,T 105,T 106,K 0,K 0] #[32,3,3,3,3])) 0 1,m4 (V (st' 32 2 107)) 1 2])) Ma
abbrev Gt:=cS (cS (cO [M 95 14,M 96 10,N 97 (ln 96 29),N 98 (bo .lss 3 95 97 3)]) (cC (T 98) .skip (.exit 4))) Mb
abbrev Mc:=cS (cO [L 108 32 2,M 109 5,M 110 13,N 111 (.build 144 #[(0,T 108),(1,T 109),(2,T 110)]),V (st' 144 4 111)]) .ret
abbrev Md:=cS (cO [F 91 32 2 0,L 92 3 91,N 93 (bk .add 3 92 1 3),F 94 32 2 0,V (st' 3 94 93)]) (cS (cS (cO [N 14 (ak 0)]) (cW 4 Gt)) Mc)
abbrev Me:=cS (cO [F 89 32 2 0,L 90 3 89,A 13 90]) Md
abbrev Mf:=cS (cO [N 10 (.assign S0)]) (cS (cS (cO [N 11 (ak 0)]) (cW 2 Gs)) Me)
abbrev Mg:=cC (T 60) (cS (cO [M 61 5,N 62 (bk .add 3 61 1 3),F 63 32 2 0,V (st' 3 63 62)]) Mf) .skip
abbrev Mh:=cS (cO [L 134 32 2,M 135 5,M 136 5,N 137 (.build 144 #[(0,T 134),(1,T 135),(2,T 136)]),V (st' 144 4 137)]) .ret
abbrev Mi:=cS (.mix [m0 (F 124 144 15 0),m1 (L 125 32 124),m0 (M 126 5),m0 (F 127 144 15 1),m1 (L 128 3 127),m3 (N 129 (cf 114 #[T 125,T 126,T 128,K 0,K 0] #[32,3,3,3,3])) 0 1,m2 (F 130 144 15 2) 0 1,⟨L 131 3 130,false,true,0,1⟩,m2 (M 132 5) 0 1,m3 (N 133 (cf 114 #[T 129,T 131,T 132,K 0,K 0] #[32,3,3,3,3])) 1 2,m4 (V (st' 32 2 133)) 2 3]) Mh
abbrev Mj:=cS (.mix [m1 (L 118 32 2),m0 (F 119 25 3 1),m1 (L 120 22 119),m0 (N 121 (.indexAddr 22 (T 120) (K 0))),m1 (L 122 25 121),m3 (N 123 (c2 90 118 122 32 25)) 0 2,m4 (N 15 (.alloc 144)) 0 2,m4 (V (st' 144 15 123)) 2 3]) Mi
abbrev Mk:=cC (T 114) (cS (cO [M 115 5,N 116 (bk .add 3 115 1 3),F 117 32 2 0,V (st' 3 117 116)]) Mj) .skip
abbrev Ml:E4:= .mix [m4 (N 153 (.buildSlice 23 0 #[])) 0 1,m2 (F 154 32 2 4) 0 1,⟨L 155 23 154,false,true,0,1⟩,m3 (N 156 (ap 153 155 23 23)) 1 3,m2 (F 157 25 3 2) 0 2,⟨L 158 23 157,false,true,0,2⟩,m2 (N 159 (.indexAddr 23 (T 158) (K 0))) 0 2,⟨L 160 86 159,false,true,0,2⟩,m4 (N 161 (.buildSlice 23 1 #[(0,T 160)])) 0 3,m3 (N 162 (ap 156 161 23 23)) 3 4,m2 (F 163 32 2 4) 4 4,m4 (V (st' 23 163 162)) 4 5]
abbrev Mm:=cS (cO [F 150 32 2 4,L 151 23 150,N 152 (ln 151 23),A 17 152]) Ml
abbrev Mn:=cS (cO [L 164 32 2,M 165 5,M 166 5,N 167 (bk .add 3 166 1 3),M 168 16,M 169 17,N 170 (cf 114 #[T 164,T 165,T 167,T 168,T 169] #[32,3,3,3,3]),M 171 5,M 172 5,N 173 (bk .add 3 172 1 3),N 174 (.build 144 #[(0,T 170),(1,T 171),(2,T 173)]),V (st' 144 4 174)]) .ret
abbrev Mo:=cS (cS (cO [F 147 25 3 0,L 148 3 147,N 149 (bk .eql 3 148 7 3)]) (cC (T 149) (cS (cO [N 16 (ak 3)]) Mm) .skip)) Mn
abbrev Mp:=cS (cS (cO [F 144 25 3 0,L 145 3 144,N 146 (bk .eql 3 145 3 3)]) (cC (T 146) (cO [N 16 (ak 2)]) .skip)) Mo
abbrev Mq:=cS (cS (cO [F 141 25 3 0,L 142 3 141,N 143 (bk .eql 3 142 2 3)]) (cC (T 143) (cO [N 16 (ak 1)]) .skip)) Mp
abbrev Mr:=cS (cO [N 16 (ak 0)]) (cS (cO [N 17 (ak 0)]) Mq)
abbrev Ms:=cS (cO [M 138 5,N 139 (bk .add 3 138 2 3),F 140 32 2 0,V (st' 3 140 139)]) Mr
abbrev Mt:=cS (cS (cO [F 112 25 3 0,L 113 3 112,N 114 (bk .eql 3 113 6 3)]) Mk) Ms
abbrev Mu:=cS (cS (cO [F 58 25 3 0,L 59 3 58,N 60 (bk .eql 3 59 5 3)]) Mg) Mt
abbrev Mv:=cS (cS (cO [F 20 25 3 0,L 21 3 20,N 22 (bk .eql 3 21 4 3)]) Vr) Mu
abbrev Mw:=cS (cO [F 18 32 2 0,L 19 3 18,A 5 19]) Mv
abbrev f90:=cS (cO [N 2 (bx 32 0),N 3 (bx 25 1),N 4 (.alloc 144)]) Mw
theorem tC:fnL prog 90=some (f90,175,[ResultVar.cell 4 144]):=kR
abbrev Vw:=cO [M 10 4,N 11 (bk .add 3 10 1 3),A 4 11]
abbrev Vx:=cS (cB 1 (cO [M 12 3,F 13 86 1 3,L 14 23 13,M 15 4,N 16 (ia 23 14 15),L 17 86 16,N 18 (c1 91 17 86),N 19 (ap 12 18 22 22),A 3 19])) Vw
abbrev Gu:=cS (cS (cO [M 5 4,F 6 86 1 3,L 7 23 6,N 8 (ln 7 23),N 9 (bo .lss 3 5 8 3)]) (cC (T 9) .skip (.exit 0))) Vx
abbrev Vy:=cO [M 30 3,F 31 86 1 4,L 32 22 31,N 33 (.indexAddr 22 (T 32) (K 0)),L 34 25 33,N 35 (.buildSlice 22 1 #[(0,T 34)]),N 36 (ap 30 35 22 22),A 3 36]
abbrev Vz:=cC (T 22) (cS (cO [M 23 3,F 24 86 1 4,L 25 22 24,N 26 (.indexAddr 22 (T 25) (K 0)),L 27 25 26,N 28 (c1 68 27 25),N 29 (ap 23 28 22 22),A 3 29]) Vy) .skip
abbrev VA:=cS (cS (cO [F 20 86 1 0,L 21 3 20,N 22 (bk .eql 3 21 11 3)]) Vz) (cS (cO [M 37 3,A 2 37]) .ret)
abbrev VB:=cS (cO [N 3 (.assign S0)]) (cS (cS (cO [N 4 (ak 0)]) (cW 0 Gu)) VA)
abbrev f91:=cS (cO [N 1 (bx 86 0),N 2 (.assign S0)]) VB
theorem af3:fnL prog 91=some (f91,38,[ResultVar.tmp 2]):=kR
abbrev VC:=cO [M 35 5,N 36 (bk .add 3 35 1 3),A 5 36]
abbrev VD:=cS (cB 1 (cS (.draw [(F 37 25 2 1,false),(L 38 22 37,false),(M 39 5,false),(N 40 (ia 22 38 39),false),(L 41 25 40,false),(F 42 25 3 1,false),(L 43 22 42,false),(M 44 5,false),(N 45 (ia 22 43 44),false),(L 46 25 45,false),(N 47 (c2 92 41 46 25 25),true),(N 48 (nt' 4 47),true)]) (cC (T 48) (cS (cO [N 4 (.assign B0)]) .ret) .skip))) VC
abbrev Gv:=cS (cS (cO [M 30 5,F 31 25 2 1,L 32 22 31,N 33 (ln 32 22),N 34 (bo .lss 3 30 33 3)]) (cC (T 34) .skip (.exit 0))) VD
abbrev VE:=cO [M 54 6,N 55 (bk .add 3 54 1 3),A 6 55]
abbrev VF:=cS (cB 3 (cS (.draw [(F 56 25 2 2,false),(L 57 23 56,false),(M 58 6,false),(N 59 (ia 23 57 58),false),(L 60 86 59,false),(F 61 25 3 2,false),(L 62 23 61,false),(M 63 6,false),(N 64 (ia 23 62 63),false),(L 65 86 64,false),(N 66 (c2 115 60 65 86 86),true),(N 67 (nt' 4 66),true)]) (cC (T 67) (cS (cO [N 4 (.assign B0)]) .ret) .skip))) VE
abbrev Gw:=cS (cS (cO [M 49 6,F 50 25 2 2,L 51 23 50,N 52 (ln 51 23),N 53 (bo .lss 3 49 52 3)]) (cC (T 53) .skip (.exit 2))) VF
abbrev VG:=cS (cS (cO [N 6 (ak 0)]) (cW 2 Gw)) (cS (cO [N 4 (.assign B1)]) .ret)
abbrev VH:=cS (cS (cO [F 7 25 2 0,L 8 3 7,F 9 25 3 0,L 10 3 9,N 11 (bo .neq 3 8 10 3),M 12 11,Z 12 13 (fa 25 2 1),Z 12 14 (ld' 22 13),Z 12 15 (ln 14 22),Z 12 16 (fa 25 3 1),Z 12 17 (ld' 22 16),Z 12 18 (ln 17 22),Z 12 19 (bo .neq 3 15 18 3),N 20 (po 12 19),M 21 20,Z 21 22 (fa 25 2 2),Z 21 23 (ld' 23 22),Z 21 24 (ln 23 23),Z 21 25 (fa 25 3 2),Z 21 26 (ld' 23 25),Z 21 27 (ln 26 23),Z 21 28 (bo .neq 3 24 27 3),N 29 (po 21 28)]) (cC (T 29) (cS (cO [N 4 (.assign B0)]) .ret) .skip)) (cS (cS (cO [N 5 (ak 0)]) (cW 0 Gv)) VG)
abbrev f92:=cS (cO [N 2 (bx 25 0),N 3 (bx 25 1),N 4 (.assign B0)]) VH
theorem af4:fnL prog 92=some (f92,68,[ResultVar.tmp 4]):=kR
abbrev VI:=cO [M 25 10,M 26 9,L 27 86 12,N 28 (c2 116 26 27 167 86),N 29 (.buildSlice 83 1 #[(0,T 28)]),N 30 (ap 25 29 83 83),A 10 30]
abbrev VJ:=cS (cB 1 (cS (cO [N 23 (ia 23 19 21),L 24 86 23,N 12 (.alloc 86),V (st' 86 12 24)]) VI)) (cO [N 31 (bk .add 3 21 1 3),M 21 31])
abbrev Gx:=cS (cO [N 22 (bo .lss 3 21 20 3)]) (cS (cC (T 22) .skip (.exit 0)) VJ)
abbrev VK:=cS (cS (cO [F 18 32 5 4,L 19 23 18,N 20 (ln 19 23),N 21 (.move (K 0))]) (cW 0 Gx)) (cS (cO [M 32 10,A 8 32]) .ret)
abbrev VL:=cS (cO [L 13 34 4,L 14 51 6,M 15 3,N 16 (.build 169 #[(0,T 13),(1,T 14),(2,T 15)]),N 17 (bx 169 16),A 9 17]) (cS (cO [N 10 (.assign S0)]) VK)
abbrev f93:=cS (cO [N 4 (bx 34 0),N 5 (bx 32 1),N 6 (bx 51 2),N 8 (.assign S0)]) VL
theorem Xo:fnL prog 93=some (f93,33,[ResultVar.tmp 8]):=kR
abbrev VM:=cC (T 32) (cS (cO [M 34 3,F 35 89 6 3,L 36 3 35,N 37 (ia 83 34 36),L 38 4 37,M 39 38,Y 39 40 (mv 0),Y 39 41 (nc 40),Y 39 42 (fa 123 41 4),Y 39 43 (ld' 81 42),Y 39 44 (mv 9),Y 39 45 (ia 81 43 44),Y 39 46 (ld' 5 45),Y 39 47 (.binOp .eql 5 (T 46) (.const (.int .u8 1)) 5),N 48 (pa 39 47),A 8 48]) .ret) .skip
abbrev VN:=cC (T 24) (cS (cO [M 26 0,N 27 (nc 26),F 28 123 27 3,L 29 59 28,M 30 9,N 31 (c2 117 29 30 59 3),A 8 31]) .ret) (cS (cO [N 33 (bk .eql 3 15 3 3),A 32 33]) VM)
abbrev VO:=cC (T 16) (cS (cO [M 18 0,N 19 (nc 18),F 20 123 19 2,L 21 59 20,M 22 9,N 23 (c2 117 21 22 59 3),A 8 23]) .ret) (cS (cO [N 25 (bk .eql 3 15 2 3),A 24 25]) VN)
abbrev VP:=cB 0 (cS (cO [N 17 (bk .eql 3 15 1 3),A 16 17]) VO)
abbrev VQ:=cS (cO [M 49 0,N 50 (nc 49),F 51 123 50 4,L 52 81 51,M 53 9,N 54 (ia 81 52 53),L 55 5 54,N 56 (.binOp .eql 5 (T 55) (.const (.int .u8 1)) 5),A 8 56]) .ret
abbrev VS:=cS (cO [M 10 1,F 11 89 6 1,L 12 3 11,N 13 (bo .add 3 10 12 3),A 9 13]) (cS (cS (cO [F 14 89 6 2,L 15 3 14]) VP) VQ)
abbrev f94:=cS (cO [N 6 (bx 89 2),N 8 (.assign B0)]) VS
theorem af5:fnL prog 94=some (f94,57,[ResultVar.tmp 8]):=kR
abbrev VT:=cC (T 22) (cS (cO [M 23 5,M 24 6,M 25 9,A 2 23,A 3 24,A 4 25]) .ret) .skip
abbrev VU:=cO [M 31 6,M 32 8,N 33 (bo .add 3 31 32 3),A 6 33]
abbrev VV:=cS (cO [M 26 5,M 27 7,N 28 (.convert 3 21 (T 27)),N 29 (.buildSlice 150 1 #[(0,T 28)]),N 30 (ap 26 29 150 150),A 5 30]) VU
abbrev VW:=cS (cS (cO [M 21 9,N 22 (bk .neq 3 21 0 3)]) VT) VV
abbrev VX:=cB 1 (cS (cO [M 15 0,M 16 6,N 17 (c2 118 15 16 9 3),M 14 17,N 18 (ex 14 0),N 19 (ex 14 1),N 20 (ex 14 2),A 7 18,A 8 19,A 9 20]) VW)
abbrev Gy:=cS (cS (cO [M 10 6,M 11 0,N 12 (ln 11 9),N 13 (bo .lss 3 10 12 3)]) (cC (T 13) .skip (.exit 0))) VX
abbrev VY:=cS (cO [M 34 5,M 35 6,A 2 34,A 3 35,N 4 (ak 0)]) .ret
abbrev VZ:=cS (cO [N 5 (.assign S0)]) (cS (cO [N 6 (ak 0)]) (cS (cW 0 Gy) VY))
abbrev f95:=cS (cO [N 2 (.assign S0),N 3 (ak 0),N 4 (ak 0)]) VZ
theorem af6:fnL prog 95=some (f95,36,[ResultVar.tmp 2,ResultVar.tmp 3,ResultVar.tmp 4]):=kR
abbrev Wa:=cC (T 4) (cS (cO [M 5 0,N 6 (c1 119 5 3),A 2 6]) .ret) .skip
abbrev Wb:=cS (cO [M 21 0,N 22 (bk .leq 3 21 1114111 3),A 2 22]) .ret
abbrev Wc:=cS (cS (cO [M 7 0,N 8 (bk .geq 3 7 55296 3),M 9 8,Y 9 10 (mv 0),Y 9 11 (bk .lss 3 10 57344 3),N 12 (pa 9 11),M 13 12,Z 13 14 (mv 0),Z 13 15 (bk .eql 3 14 65534 3),N 16 (po 13 15),M 17 16,Z 17 18 (mv 0),Z 17 19 (bk .eql 3 18 65535 3),N 20 (po 17 19)]) (cC (T 20) (cS (cO [N 2 (.assign B0)]) .ret) .skip)) Wb
abbrev Wd:=cS (cS (cO [M 3 0,N 4 (bk .lss 3 3 32 3)]) Wa) Wc
abbrev f96:=cS (cO [N 2 (.assign B0)]) Wd
theorem af7:fnL prog 96=some (f96,23,[ResultVar.tmp 2]):=kR
abbrev We:=cO [M 22 4,N 23 (bk .add 3 22 1 3),A 4 23]
abbrev Wf:=cS (cB 1 (cS (cO [M 24 3,M 25 4,N 26 (ia 150 24 25),L 27 21 26,N 28 (.convert 21 3 (T 27)),N 29 (c1 121 28 3),N 30 (nt' 4 29)]) (cC (T 30) (cS (cO [N 2 (.assign B0)]) .ret) .skip))) We
abbrev Gz:=cS (cS (cO [M 18 4,M 19 3,N 20 (ln 19 150),N 21 (bo .lss 3 18 20 3)]) (cC (T 21) .skip (.exit 0))) Wf
abbrev Wg:=cS (cS (cO [N 4 (ak 0)]) (cW 0 Gz)) (cS (cO [N 2 (.assign B1)]) .ret)
abbrev Wh:=cS (cS (cO [M 7 3,N 8 (ln 7 150),N 9 (bk .eql 3 8 0 3),M 10 9,Z 10 11 (mv 3),Z 10 12 (.indexAddr 150 (T 11) (K 0)),Z 10 13 (ld' 21 12),Z 10 14 (.convert 21 3 (T 13)),Z 10 15 (c1 120 14 3),Z 10 16 (nt' 4 15),N 17 (po 10 16)]) (cC (T 17) (cS (cO [N 2 (.assign B0)]) .ret) .skip)) Wg
abbrev Wi:=cS (cO [M 5 0,N 6 (.convert 9 150 (T 5)),A 3 6]) Wh
abbrev f97:=cS (cO [N 2 (.assign B0)]) Wi
theorem af8:fnL prog 97=some (f97,31,[ResultVar.tmp 2]):=kR
abbrev Wj:=cO [M 18 6,N 19 (bk .add 3 18 1 3),A 6 19]
abbrev Wk:=cS (cB 1 (cO [M 20 5,F 21 86 2 3,L 22 23 21,M 23 6,N 24 (ia 23 22 23),L 25 86 24,M 26 1,M 27 5,N 28 (bo .sub 3 26 27 3),N 29 (c2 99 25 28 86 3),N 30 (bo .add 3 20 29 3),A 5 30])) Wj
abbrev GB:=cS (cS (cO [M 8 6,F 9 86 2 3,L 10 23 9,N 11 (ln 10 23),N 12 (bo .lss 3 8 11 3),M 13 12,Y 13 14 (mv 5),Y 13 15 (mv 1),Y 13 16 (bo .leq 3 14 15 3),N 17 (pa 13 16)]) (cC (T 17) .skip (.exit 0))) Wk
abbrev Wl:=cO [M 41 7,N 42 (bk .add 3 41 1 3),A 7 42]
abbrev Wm:=cS (cB 3 (cO [M 43 5,F 44 86 2 4,L 45 22 44,M 46 7,N 47 (ia 22 45 46),L 48 25 47,M 49 1,M 50 5,N 51 (bo .sub 3 49 50 3),N 52 (c2 77 48 51 25 3),N 53 (bo .add 3 43 52 3),A 5 53])) Wl
abbrev GC:=cS (cS (cO [M 31 7,F 32 86 2 4,L 33 22 32,N 34 (ln 33 22),N 35 (bo .lss 3 31 34 3),M 36 35,Y 36 37 (mv 5),Y 36 38 (mv 1),Y 36 39 (bo .leq 3 37 38 3),N 40 (pa 36 39)]) (cC (T 40) .skip (.exit 2))) Wm
abbrev Wn:=cS (cS (cO [N 7 (ak 0)]) (cW 2 GC)) (cS (cO [M 54 5,A 4 54]) .ret)
abbrev Wo:=cS (cO [N 5 (ak 1)]) (cS (cS (cO [N 6 (ak 0)]) (cW 0 GB)) Wn)
abbrev f99:=cS (cO [N 2 (bx 86 0),N 4 (ak 0)]) Wo
theorem af9:fnL prog 99=some (f99,55,[ResultVar.tmp 4]):=kR
abbrev Ht:=cS (cO [F 3 48 1 0,L 4 9 3,N 5 (.binOp .neq 9 (T 4) (.const (.string ⟨#[104,116,116,112,58,47,47,119,119,119,46,119,51,46,111,114,103,47,50,48,48,48,47,120,109,108,110,115,47]⟩)) 9),M 6 5,Y 6 7 (fa 48 1 1),Y 6 8 (ld' 9 7),Y 6 9 (c1 97 8 9),N 10 (pa 6 9),M 11 10,Y 11 12 (fa 48 1 1),Y 11 13 (ld' 9 12),Y 11 14 (c1 73 13 9),N 15 (pa 11 14),M 16 15,Y 16 17 (fa 48 1 0),Y 16 18 (ld' 9 17),Y 16 19 (c1 73 18 9),N 20 (pa 16 19),M 21 20,Y 21 22 (fa 48 1 0),Y 21 23 (ld' 9 22),⟨some 24,.call ⟨.value (.func 125),{toList:=[T 23,K 0,.const (.string ⟨#[123]⟩)]},#[9,3,9]⟩,some (21,true)⟩,Y 21 25 (bk .lss 3 24 0 3),N 26 (pa 21 25),M 27 26,Y 27 28 (fa 48 1 0),Y 27 29 (ld' 9 28),⟨some 30,.call ⟨.value (.func 125),{toList:=[T 29,K 0,.const (.string ⟨#[125]⟩)]},#[9,3,9]⟩,some (27,true)⟩,Y 27 31 (bk .lss 3 30 0 3),N 32 (pa 27 31),A 2 32]) .ret
abbrev Yb:=cS (cO [N 1 (bx 48 0),N 2 (.assign B0)]) Ht
theorem Wq:fnL prog 100=some (Yb,33,[ResultVar.tmp 2]):=kR
abbrev Hu:E4:= .mix [m2 (M 37 0) 0 1,m2 (N 38 (nc 37)) 0 1,m2 (F 39 130 38 0) 0 1,m2 (F 40 99 39 2) 0 1,⟨L 41 96 40,false,true,0,1⟩,m2 (M 42 4) 0 1,m0 (M 43 0),m0 (N 44 (nc 43)),m0 (F 45 130 44 0),m0 (F 46 99 45 2),m1 (L 47 96 46),m0 (M 48 4),m0 (N 49 (ia 96 47 48)),m1 (L 50 97 49),m0 (F 51 86 3 2),m1 (L 52 9 51),m3 (N 53 (c2 128 50 52 97 9)) 0 1,m2 (N 54 (ia 96 41 42)) 1 1,m4 (V (st' 97 54 53)) 1 2]
abbrev Hv:=cC (T 55) (.mix [m2 (M 57 0) 0 1,m0 (M 58 0),m0 (N 59 (nc 58)),m0 (F 60 130 59 0),m0 (F 61 99 60 3),m1 (L 62 97 61),m0 (F 63 86 3 2),m1 (L 64 9 63),m3 (N 65 (c2 128 62 64 97 9)) 0 1,m2 (N 66 (nc 57)) 1 1,m2 (F 67 130 66 0) 1 1,m2 (F 68 99 67 3) 1 1,m4 (V (st' 97 68 65)) 1 2]) .skip
abbrev Hw:=cC (T 31) (cS (cO [M 33 0,F 34 86 3 1,L 35 48 34,N 36 (c2 127 33 35 155 48),A 4 36]) Hu) (cS (cO [N 56 (bk .eql 3 10 7 3),A 55 56]) Hv)
abbrev Hy:=cC (T 25) (cO [M 27 0,F 28 86 3 1,L 29 48 28,N 30 (c2 127 27 29 155 48)]) (cS (cO [N 32 (bk .eql 3 10 6 3),A 31 32]) Hw)
abbrev Hz:=cC (T 11) (.mix [m2 (M 13 0) 0 1,m0 (M 14 0),m0 (N 15 (nc 14)),m0 (F 16 130 15 0),m0 (F 17 99 16 0),m1 (L 18 95 17),m0 (F 19 86 3 1),m1 (L 20 48 19),m3 (N 21 (c2 126 18 20 95 48)) 0 1,m2 (N 22 (nc 13)) 1 1,m2 (F 23 130 22 0) 1 1,m2 (F 24 99 23 0) 1 1,m4 (V (st' 95 24 21)) 1 2]) (cS (cO [N 26 (bk .eql 3 10 5 3),A 25 26]) Hy)
def to:=cB 0 (cS (cO [N 12 (bk .eql 3 10 4 3),A 11 12]) Hz)
abbrev HE:=cO [M 76 0,L 77 86 6,N 78 (c2 101 76 77 155 86)]
abbrev HF:=cS (cB 2 (cS (cO [N 74 (ia 23 70 72),L 75 86 74,N 6 (.alloc 86),V (st' 86 6 75)]) HE)) (cO [N 79 (bk .add 3 72 1 3),M 72 79])
abbrev Ad:=cS (cO [N 73 (bo .lss 3 72 71 3)]) (cS (cC (T 73) .skip (.exit 1)) HF)
abbrev HG:=cO [M 87 0,L 88 25 8,N 89 (c2 79 87 88 155 25)]
abbrev HH:=cS (cB 4 (cS (cO [N 85 (ia 22 81 83),L 86 25 85,N 8 (.alloc 25),V (st' 25 8 86)]) HG)) (cO [N 90 (bk .add 3 83 1 3),M 83 90])
abbrev Ae:=cS (cO [N 84 (bo .lss 3 83 82 3)]) (cS (cC (T 84) .skip (.exit 3)) HH)
abbrev Dh:=cS (cO [F 80 86 3 4,L 81 22 80,N 82 (ln 81 22),N 83 (.move (K 0))]) (cW 3 Ae)
abbrev Di:=cS (cS (cO [F 69 86 3 3,L 70 23 69,N 71 (ln 70 23),N 72 (.move (K 0))]) (cW 1 Ad)) Dh
abbrev Yc:=cS (cO [N 3 (bx 86 1)]) (cS (cS (cO [F 9 86 3 0,L 10 3 9]) to) Di)
theorem Wr:fnL prog 101=some (Yc,91,[]):=kR
abbrev HI:=cS (cO [M 11 1,M 12 0,M 13 5,N 14 (ia 97 12 13),L 15 9 14,N 16 (bo .eql 9 11 15 9)]) (cC (T 16) (cS (cO [M 17 5,A 4 17]) .ret) .skip)
abbrev HJ:=cS (cB 1 (cS (cO [M 10 8,A 5 10]) HI)) (cO [N 18 (bk .add 3 8 1 3),M 8 18])
abbrev Af:=cS (cO [N 9 (bo .lss 3 8 7 3)]) (cS (cC (T 9) .skip (.exit 0)) HJ)
abbrev HK:=cS (cS (cO [M 6 0,N 7 (ln 6 97),N 8 (.move (K 0))]) (cW 0 Af)) (cS (cO [N 4 (ak (-1))]) .ret)
abbrev Yd:=cS (cO [N 4 (ak 0)]) HK
theorem Ws:fnL prog 102=some (Yd,19,[ResultVar.tmp 4]):=kR
abbrev HL:=cS (cO [M 3 0,N 4 (cf 129 #[T 3,K 10] #[2,3]),A 2 4]) .ret
abbrev Ye:=cS (cO [N 2 (.assign (.const (.string ByteArray.empty)))]) HL
theorem Wt:fnL prog 103=some (Ye,5,[ResultVar.tmp 2]):=kR
abbrev HM:=cS (cO [M 5 0,M 6 1,N 7 (c2 130 5 6 22 27),N 8 (bk .geq 3 7 0 3),A 4 8]) .ret
abbrev Yf:=cS (cO [N 4 (.assign B0)]) HM
theorem Wu:fnL prog 104=some (Yf,9,[ResultVar.tmp 4]):=kR
abbrev HN:=cS (cO [L 4 25 1,L 5 25 2,N 6 (c2 106 4 5 25 25),A 3 6]) .ret
abbrev Yg:=cS (cO [N 2 (bx 25 0),N 3 (.assign B0)]) HN
theorem Wv:fnL prog 105=some (Yg,7,[ResultVar.tmp 3]):=kR
abbrev HO:=cS (cO [F 5 25 2 0,L 6 3 5,F 7 25 3 0,L 8 3 7,N 9 (bo .eql 3 6 8 3),M 10 9,Y 10 11 (fa 25 2 1),Y 10 12 (ld' 22 11),Y 10 13 (fa 25 3 1),Y 10 14 (ld' 22 13),Y 10 15 (cf 131 #[T 12,T 14,.func 106] #[22,22,147]),N 16 (pa 10 15),M 17 16,Y 17 18 (fa 25 2 2),Y 17 19 (ld' 23 18),Y 17 20 (fa 25 3 2),Y 17 21 (ld' 23 20),Y 17 22 (cf 132 #[T 19,T 21,.func 133] #[23,23,166]),N 23 (pa 17 22),A 4 23]) .ret
abbrev Yh:=cS (cO [N 2 (bx 25 0),N 3 (bx 25 1),N 4 (.assign B0)]) HO
theorem Ww:fnL prog 106=some (Yh,24,[ResultVar.tmp 4]):=kR
abbrev HP:=cS (cO [M 22 8,M 23 9,A 6 22,A 7 23]) .ret
abbrev HQ:=cS (cO [M 14 0,M 15 8,M 16 9,M 17 1,M 18 2,N 19 (.build 89 #[(0,T 15),(1,T 16),(2,T 17),(3,T 18)]),N 20 (.buildSlice 30 1 #[(0,T 19)]),N 21 (c2 134 14 20 158 30)]) HP
abbrev HR:=cS (cO [M 10 0,N 11 (c1 110 10 158),M 12 0,N 13 (c1 110 12 158),A 8 11,A 9 13]) HQ
abbrev Yi:=cS (cO [N 6 (ak 0),N 7 (ak 0)]) HR
theorem Wx:fnL prog 107=some (Yi,24,[ResultVar.tmp 6,ResultVar.tmp 7]):=kR
abbrev HS:=cS (cO [M 33 0,M 34 7,M 35 10,N 36 (cf 111 #[T 33,T 34,T 35] #[158,3,3])]) (cO [M 37 11,A 7 37])
abbrev HT:=cS (cO [M 28 0,L 29 25 9,N 30 (c2 83 28 29 158 25),M 27 30,N 31 (ex 27 0),N 32 (ex 27 1),A 10 31,A 11 32]) HS
abbrev HU:=cS (cB 1 (cS (cO [N 25 (ia 22 21 23),L 26 25 25,N 9 (.alloc 25),V (st' 25 9 26)]) HT)) (cO [N 38 (bk .add 3 23 1 3),M 23 38])
abbrev Ag:=cS (cO [N 24 (bo .lss 3 23 22 3)]) (cS (cC (T 24) .skip (.exit 0)) HU)
abbrev HV:=cS (cO [M 39 6,M 40 7,A 4 39,A 5 40]) .ret
abbrev HW:=cS (cS (cO [M 20 1,N 21 (.slice 22 (T 20) (some (K 1)) none none),N 22 (ln 21 22),N 23 (.move (K 0))]) (cW 0 Ag)) HV
abbrev HX:=cS (cO [M 13 0,M 14 1,N 15 (.indexAddr 22 (T 14) (K 0)),L 16 25 15,N 17 (c2 83 13 16 158 25),M 12 17,N 18 (ex 12 0),N 19 (ex 12 1),A 6 18,A 7 19]) HW
abbrev Yj:=cS (cO [N 4 (ak 0),N 5 (ak 0)]) HX
theorem Wy:fnL prog 108=some (Yj,41,[ResultVar.tmp 4,ResultVar.tmp 5]):=kR
abbrev HY:=cO [M 33 7,M 34 11,N 35 (.buildSlice 29 1 #[(0,T 34)]),N 36 (ap 33 35 29 29),A 7 36]
abbrev HZ:=cS (cO [M 29 0,M 30 6,M 31 10,N 32 (cf 111 #[T 29,T 30,T 31] #[158,3,3])]) HY
abbrev Ia:=cS (cO [M 24 0,L 25 25 9,N 26 (c2 83 24 25 158 25),M 23 26,N 27 (ex 23 0),N 28 (ex 23 1),A 10 27,A 11 28]) HZ
abbrev Ib:=cS (cB 1 (cS (cO [N 21 (ia 22 17 19),L 22 25 21,N 9 (.alloc 25),V (st' 25 9 22)]) Ia)) (cO [N 37 (bk .add 3 19 1 3),M 19 37])
abbrev Ah:=cS (cO [N 20 (bo .lss 3 19 18 3)]) (cS (cC (T 20) .skip (.exit 0)) Ib)
abbrev Ic:=cO [M 46 0,M 47 14,M 48 12,N 49 (cf 111 #[T 46,T 47,T 48] #[158,3,3])]
abbrev Ie:=cS (cB 3 (cS (cO [N 44 (ia 29 40 42),L 45 3 44,A 14 45]) Ic)) (cO [N 50 (bk .add 3 42 1 3),M 42 50])
abbrev Ai:=cS (cO [N 43 (bo .lss 3 42 41 3)]) (cS (cC (T 43) .skip (.exit 2)) Ie)
abbrev Ig:=cS (cO [M 51 6,M 52 12,A 4 51,A 5 52]) .ret
abbrev Ih:=cS (cS (cO [M 40 7,N 41 (ln 40 29),N 42 (.move (K 0))]) (cW 2 Ai)) Ig
abbrev Ii:=cS (cO [M 38 0,N 39 (c1 110 38 158),A 12 39]) Ih
abbrev Ij:=cS (cS (cO [M 17 1,N 18 (ln 17 22),N 19 (.move (K 0))]) (cW 0 Ah)) Ii
abbrev Dj:=cS (cO [M 15 0,N 16 (c1 110 15 158),A 6 16]) (cS (cO [N 7 (.assign S0)]) Ij)
abbrev Yk:=cS (cO [N 4 (ak 0),N 5 (ak 0)]) Dj
theorem Wz:fnL prog 109=some (Yk,53,[ResultVar.tmp 4,ResultVar.tmp 5]):=kR
abbrev Ik:=cS (cO [M 12 0,N 13 (nc 12),F 14 135 13 0,F 15 32 14 0,L 16 3 15,N 17 (bk .sub 3 16 1 3),A 2 17]) .ret
abbrev Il:=cS (cO [M 3 0,N 4 (nc 3),F 5 135 4 0,F 6 32 5 0,L 7 3 6,N 8 (bk .add 3 7 1 3),N 9 (nc 3),F 10 135 9 0,F 11 32 10 0,V (st' 3 11 8)]) Ik
abbrev Yl:=cS (cO [N 2 (ak 0)]) Il
theorem WA:fnL prog 110=some (Yl,18,[ResultVar.tmp 2]):=kR
abbrev Ym:=cO [M 6 0,M 7 1,M 8 2,N 9 (.build 89 #[(0,T 7),(1,T 8)]),N 10 (.buildSlice 30 1 #[(0,T 9)]),N 11 (c2 134 6 10 158 30)]
theorem WB:fnL prog 111=some (Ym,12,[]):=kR
abbrev Im:=cO [M 13 4,N 14 (bk .add 3 13 1 3),A 4 14]
abbrev Io:=cS (cB 1 (cO [M 15 3,F 16 86 1 3,L 17 23 16,M 18 4,N 19 (ia 23 17 18),L 20 86 19,N 21 (c1 112 20 86),N 22 (ap 15 21 23 23),A 3 22])) Im
abbrev Aj:=cS (cS (cO [M 8 4,F 9 86 1 3,L 10 23 9,N 11 (ln 10 23),N 12 (bo .lss 3 8 11 3)]) (cC (T 12) .skip (.exit 0))) Io
abbrev Ip:=cO [M 28 5,N 29 (bk .add 3 28 1 3),A 5 29]
abbrev Iq:=cS (cB 3 (cO [M 30 3,F 31 86 1 4,L 32 22 31,M 33 5,N 34 (ia 22 32 33),L 35 25 34,N 36 (c1 86 35 25),N 37 (ap 30 36 23 23),A 3 37])) Ip
abbrev Ak:=cS (cS (cO [M 23 5,F 24 86 1 4,L 25 22 24,N 26 (ln 25 22),N 27 (bo .lss 3 23 26 3)]) (cC (T 27) .skip (.exit 2))) Iq
abbrev Ir:=cS (cS (cO [N 5 (ak 0)]) (cW 2 Ak)) (cS (cO [M 38 3,A 2 38]) .ret)
abbrev Is:=cS (cO [L 6 86 1,N 7 (.buildSlice 23 1 #[(0,T 6)]),A 3 7]) (cS (cS (cO [N 4 (ak 0)]) (cW 0 Aj)) Ir)
abbrev Yn:=cS (cO [N 1 (bx 86 0),N 2 (.assign S0)]) Is
theorem WC:fnL prog 112=some (Yn,39,[ResultVar.tmp 2]):=kR
abbrev It:=cO [M 10 5,N 11 (bk .add 3 10 1 3),A 5 11]
abbrev Iu:=cS (cB 1 (cS (.draw [(M 12 0,false),(M 13 5,false),(N 14 (ia 95 12 13),false),(L 15 48 14,false),(L 16 48 3,false),(N 17 (bo .eql 48 15 16 48),true)]) (cC (T 17) (cS (cO [N 4 (.assign B1)]) .ret) .skip))) It
abbrev Al:=cS (cS (cO [M 6 5,M 7 0,N 8 (ln 7 95),N 9 (bo .lss 3 6 8 3)]) (cC (T 9) .skip (.exit 0))) Iu
abbrev Iv:=cS (cS (cO [N 5 (ak 0)]) (cW 0 Al)) (cS (cO [N 4 (.assign B0)]) .ret)
abbrev Yo:=cS (cO [N 3 (bx 48 1),N 4 (.assign B0)]) Iv
theorem WD:fnL prog 113=some (Yo,18,[ResultVar.tmp 4]):=kR
abbrev Iw:=cS (cO [N 11 (.buildSlice 30 0 #[]),F 12 32 5 3,L 13 30 12,N 14 (ap 11 13 30 30),M 15 1,M 16 2,M 17 3,M 18 4,N 19 (.build 89 #[(0,T 15),(1,T 16),(2,T 17),(3,T 18)]),N 20 (.buildSlice 30 1 #[(0,T 19)]),N 21 (ap 14 20 30 30),F 22 32 5 3,V (st' 30 22 21)]) (cS (cO [L 23 32 5,V (st' 32 10 23)]) .ret)
abbrev Yp:=cS (cO [N 5 (bx 32 0),N 10 (.alloc 32)]) Iw
theorem WE:fnL prog 114=some (Yp,24,[ResultVar.cell 10 32]):=kR
abbrev Ix:=cO [M 49 5,N 50 (bk .add 3 49 1 3),A 5 50]
abbrev Iy:=cS (cB 1 (cS (.draw [(F 51 86 2 3,false),(L 52 23 51,false),(M 53 5,false),(N 54 (ia 23 52 53),false),(L 55 86 54,false),(F 56 86 3 3,false),(L 57 23 56,false),(M 58 5,false),(N 59 (ia 23 57 58),false),(L 60 86 59,false),(N 61 (c2 115 55 60 86 86),true),(N 62 (nt' 4 61),true)]) (cC (T 62) (cS (cO [N 4 (.assign B0)]) .ret) .skip))) Ix
abbrev Am:=cS (cS (cO [M 44 5,F 45 86 2 3,L 46 23 45,N 47 (ln 46 23),N 48 (bo .lss 3 44 47 3)]) (cC (T 48) .skip (.exit 0))) Iy
abbrev Iz:=cO [M 68 6,N 69 (bk .add 3 68 1 3),A 6 69]
abbrev IA:=cS (cB 3 (cS (.draw [(F 70 86 2 4,false),(L 71 22 70,false),(M 72 6,false),(N 73 (ia 22 71 72),false),(L 74 25 73,false),(F 75 86 3 4,false),(L 76 22 75,false),(M 77 6,false),(N 78 (ia 22 76 77),false),(L 79 25 78,false),(N 80 (c2 92 74 79 25 25),true),(N 81 (nt' 4 80),true)]) (cC (T 81) (cS (cO [N 4 (.assign B0)]) .ret) .skip))) Iz
abbrev An:=cS (cS (cO [M 63 6,F 64 86 2 4,L 65 22 64,N 66 (ln 65 22),N 67 (bo .lss 3 63 66 3)]) (cC (T 67) .skip (.exit 2))) IA
abbrev IB:=cS (cS (cO [N 6 (ak 0)]) (cW 2 An)) (cS (cO [N 4 (.assign B1)]) .ret)
abbrev IC:=cS (cS (cO [F 7 86 2 0,L 8 3 7,F 9 86 3 0,L 10 3 9,N 11 (bo .neq 3 8 10 3),M 12 11,Z 12 13 (fa 86 2 1),Z 12 14 (ld' 48 13),Z 12 15 (fa 86 3 1),Z 12 16 (ld' 48 15),Z 12 17 (bo .neq 48 14 16 48),N 18 (po 12 17),M 19 18,Z 19 20 (fa 86 2 2),Z 19 21 (ld' 9 20),Z 19 22 (fa 86 3 2),Z 19 23 (ld' 9 22),Z 19 24 (bo .neq 9 21 23 9),N 25 (po 19 24),M 26 25,Z 26 27 (fa 86 2 3),Z 26 28 (ld' 23 27),Z 26 29 (ln 28 23),Z 26 30 (fa 86 3 3),Z 26 31 (ld' 23 30),Z 26 32 (ln 31 23),Z 26 33 (bo .neq 3 29 32 3),N 34 (po 26 33),M 35 34,Z 35 36 (fa 86 2 4),Z 35 37 (ld' 22 36),Z 35 38 (ln 37 22),Z 35 39 (fa 86 3 4),Z 35 40 (ld' 22 39),Z 35 41 (ln 40 22),Z 35 42 (bo .neq 3 38 41 3),N 43 (po 35 42)]) (cC (T 43) (cS (cO [N 4 (.assign B0)]) .ret) .skip)) (cS (cS (cO [N 5 (ak 0)]) (cW 0 Am)) IB)
abbrev Yq:=cS (cO [N 2 (bx 86 0),N 3 (bx 86 1),N 4 (.assign B0)]) IC
theorem WF:fnL prog 115=some (Yq,82,[ResultVar.tmp 4]):=kR
abbrev IE:=cS (cO [M 59 9,M 60 59,Y 60 61 (mv 8),Y 60 62 (fa 86 3 2),Y 60 63 (ld' 9 62),Y 60 64 (bo .eql 9 61 63 9),N 65 (pa 60 64),A 4 65]) .ret
abbrev IG:=cC (T 80) .skip (cO [N 82 (bk .eql 3 17 9 3),A 80 82])
abbrev IH:=cC (T 92) (cS (cO [F 94 86 3 3,L 95 23 94,M 96 0,N 97 (.makeFunc (Fn.func 116) #[T 96] #[]),N 98 (c2 136 95 97 23 170),A 4 98]) .ret) .skip
abbrev II:=cC (T 80) (cS (.draw [(F 83 86 3 3,false),(L 84 23 83,false),(M 85 0,false),(N 86 (.makeFunc (Fn.func 137) #[T 85] #[]),false),(N 87 (c2 136 84 86 23 170),false),(F 88 86 3 0,false),(L 89 3 88,false),(N 90 (bk .eql 3 89 8 3),false),(N 91 (bo .eql 4 87 90 4),true),(A 4 91,true)]) .ret) (cS (cO [N 93 (bk .eql 3 17 10 3),A 92 93]) IH)
abbrev IJ:=cC (T 66) (cS (.draw [(M 68 5,false),(N 69 (nt' 4 68),false),(M 70 69,false),(Y 70 71 (mv 0),false),(Y 70 72 (nc 71),false),(Y 70 73 (fa 169 72 1),false),(Y 70 74 (fa 51 73 3),false),(Y 70 75 (ld' 9 74),false),(Y 70 76 (fa 86 3 2),false),(Y 70 77 (ld' 9 76),false),(Y 70 78 (bo .eql 9 75 77 9),true),(N 79 (pa 70 78),true),(A 4 79,true)]) .ret) (cS (cS (cO [N 81 (bk .eql 3 17 8 3),A 80 81]) IG) II)
abbrev IK:=cC (T 50) (cS (cO [M 53 0,F 54 86 3 1,L 55 48 54,N 56 (c2 135 53 55 167 48),M 52 56,N 57 (ex 52 0),N 58 (ex 52 1),A 8 57,A 9 58]) IE) (cS (cO [N 67 (bk .eql 3 17 7 3),A 66 67]) IJ)
abbrev IL:=cC (T 40) (cS (cO [M 43 0,F 44 86 3 1,L 45 48 44,N 46 (c2 135 43 45 167 48),M 42 46,N 47 (ex 42 0),N 48 (ex 42 1),A 6 47,A 7 48]) (cS (cO [M 49 7,A 4 49]) .ret)) (cS (cO [N 51 (bk .eql 3 17 6 3),A 50 51]) IK)
abbrev IM:=cC (T 27) (cS (.draw [(M 29 5,false),(M 30 29,false),(Y 30 31 (mv 0),false),(Y 30 32 (nc 31),false),(Y 30 33 (fa 169 32 1),false),(Y 30 34 (fa 51 33 1),false),(Y 30 35 (ld' 48 34),false),(Y 30 36 (fa 86 3 1),false),(Y 30 37 (ld' 48 36),false),(Y 30 38 (bo .eql 48 35 37 48),true),(N 39 (pa 30 38),true),(A 4 39,true)]) .ret) (cS (cO [N 41 (bk .eql 3 17 5 3),A 40 41]) IL)
abbrev IO:=cC (T 23) (cS (cO [M 25 5,N 26 (nt' 4 25),A 4 26]) .ret) (cS (cO [N 28 (bk .eql 3 17 4 3),A 27 28]) IM)
abbrev IP:=cC (T 20) (cS (cO [M 22 5,A 4 22]) .ret) (cS (cO [N 24 (bk .eql 3 17 3 3),A 23 24]) IO)
abbrev Dk:=cC (T 18) (cS (cO [N 4 (.assign B1)]) .ret) (cS (cO [N 21 (bk .eql 3 17 2 3),A 20 21]) IP)
abbrev Dl:=cB 0 (cS (cO [N 19 (bk .eql 3 17 1 3),A 18 19]) Dk)
abbrev Dm:=cS (cO [F 99 86 3 4,L 100 22 99,M 101 0,N 102 (.makeFunc (Fn.func 138) #[T 101] #[]),N 103 (c2 104 100 102 22 27),A 4 103]) .ret
abbrev Dn:=cS (cO [M 10 0,N 11 (nc 10),F 12 169 11 1,F 13 51 12 0,L 14 3 13,N 15 (bk .eql 3 14 1 3),A 5 15]) (cS (cS (cO [F 16 86 3 0,L 17 3 16]) Dl) Dm)
abbrev Yr:=cS (cO [N 3 (bx 86 1),N 4 (.assign B0)]) Dn
theorem WG:fnL prog 116=some (Yr,104,[ResultVar.tmp 4]):=kR
abbrev IQ:=cS (cO [F 5 59 2 0,L 6 4 5,M 7 6,Y 7 8 (fa 59 2 2),Y 7 9 (ld' 9 8),Y 7 10 (mv 1),Y 7 11 (.index 9 (T 9) (T 10)),Y 7 12 (.binOp .eql 5 (T 11) (.const (.int .u8 1)) 5),N 13 (pa 7 12),A 4 13]) .ret
abbrev Ys:=cS (cO [N 2 (bx 59 0),N 4 (.assign B0)]) IQ
theorem WH:fnL prog 117=some (Ys,14,[ResultVar.tmp 4]):=kR
abbrev IR:=cC (T 17) (cS (cO [N 4 (ak 0),N 5 (ak 0),N 6 (ak 7)]) .ret) .skip
abbrev IS:=cC (T 35) (cO [M 36 0,M 37 1,M 38 7,N 39 (cf 139 #[T 36,T 37,T 38] #[9,3,3]),A 8 39]) .skip
abbrev IT:=cC (T 51) (cS (cO [M 52 8,M 53 7,A 4 52,A 5 53,N 6 (ak 0)]) .ret) .skip
abbrev IU:=cS (cO [M 42 9,N 43 (ln 42 81),M 44 7,N 45 (bo .eql 3 43 44 3),M 46 45,Y 46 47 (mv 0),Y 46 48 (mv 1),Y 46 49 (mv 9),Y 46 50 (cf 141 #[T 47,T 48,T 49] #[9,3,81]),N 51 (pa 46 50)]) IT
abbrev IV:=cS (cO [M 40 8,N 41 (c1 140 40 3),A 9 41]) IU
def Aq:E4:=IV
abbrev IW:=cS (cS (cO [M 34 7,N 35 (bk .gtr 3 34 1 3)]) IS) Aq
abbrev Ap:=cO [M 28 7,N 29 (bk .add 3 28 1 3),A 7 29]
abbrev IX:=cS (cB 1 (cS (cO [M 30 0,M 31 1,N 32 (.index 9 (T 30) (T 31)),N 33 (.convert 5 3 (T 32)),A 8 33]) IW)) Ap
abbrev Ao:=cS (cS (cO [M 18 7,N 19 (bk .leq 3 18 4 3),M 20 19,Y 20 21 (mv 1),Y 20 22 (mv 7),Y 20 23 (bo .add 3 21 22 3),Y 20 24 (mv 0),Y 20 25 (ln 24 9),Y 20 26 (bo .leq 3 23 25 3),N 27 (pa 20 26)]) (cC (T 27) .skip (.exit 0))) IX
abbrev IY:=cC (T 56) (cS (cO [N 4 (ak 0),N 5 (ak 0),N 6 (ak 7)]) .ret) .skip
abbrev IZ:=cS (cO [N 4 (ak 0),N 5 (ak 0),N 6 (ak 2)]) .ret
abbrev Dp:=cS (cS (cO [M 54 0,M 55 1,N 56 (c2 142 54 55 9 3)]) IY) IZ
abbrev Dq:=cS (cS (cO [M 10 1,N 11 (bk .lss 3 10 0 3),M 12 11,Z 12 13 (mv 1),Z 12 14 (mv 0),Z 12 15 (ln 14 9),Z 12 16 (bo .geq 3 13 15 3),N 17 (po 12 16)]) IR) (cS (cS (cO [N 7 (ak 1)]) (cW 0 Ao)) Dp)
abbrev Yt:=cS (cO [N 4 (ak 0),N 5 (ak 0),N 6 (ak 0)]) Dq
theorem WI:fnL prog 118=some (Yt,57,[ResultVar.tmp 4,ResultVar.tmp 5,ResultVar.tmp 6]):=kR
abbrev Ja:=cS (cO [M 3 0,N 4 (bk .eql 3 3 9 3),M 5 4,Z 5 6 (mv 0),Z 5 7 (bk .eql 3 6 10 3),N 8 (po 5 7),M 9 8,Z 9 10 (mv 0),Z 9 11 (bk .eql 3 10 13 3),N 12 (po 9 11),M 13 12,Z 13 14 (mv 0),Z 13 15 (bk .eql 3 14 32 3),N 16 (po 13 15),A 2 16]) .ret
abbrev Yu:=cS (cO [N 2 (.assign B0)]) Ja
theorem WJ:fnL prog 119=some (Yu,17,[ResultVar.tmp 2]):=kR
abbrev Jb:=cC (T 10) (cS (cO [M 11 0,N 12 (bk .leq 3 11 90 3),M 13 12,Z 13 14 (mv 0),Z 13 15 (bk .eql 3 14 95 3),N 16 (po 13 15),M 17 16,Z 17 18 (mv 0),Z 17 19 (bk .geq 3 18 97 3),Z 17 20 (mv 19),Y 20 21 (mv 0),Y 20 22 (bk .leq 3 21 122 3),Z 17 23 (pa 20 22),N 24 (po 17 23),A 2 24]) .ret) .skip
abbrev Jc:=cC (T 46) (cS (cO [M 47 0,N 48 (bk .eql 3 47 8204 3),M 49 48,Z 49 50 (mv 0),Z 49 51 (bk .eql 3 50 8205 3),N 52 (po 49 51),A 2 52]) .ret) .skip
abbrev Jd:=cS (cO [M 69 0,N 70 (bk .leq 3 69 65533 3),M 71 70,Z 71 72 (mv 0),Z 71 73 (bk .geq 3 72 65536 3),N 74 (po 71 73),A 2 74]) .ret
abbrev Je:=cS (cS (cO [M 67 0,N 68 (bk .lss 3 67 65008 3)]) (cC (T 68) (cS (cO [N 2 (.assign B0)]) .ret) .skip)) Jd
abbrev Jf:=cS (cS (cO [M 65 0,N 66 (bk .lss 3 65 64976 3)]) (cC (T 66) (cS (cO [N 2 (.assign B1)]) .ret) .skip)) Je
abbrev Jg:=cS (cS (cO [M 63 0,N 64 (bk .lss 3 63 63744 3)]) (cC (T 64) (cS (cO [N 2 (.assign B0)]) .ret) .skip)) Jf
abbrev Jh:=cS (cS (cO [M 61 0,N 62 (bk .lss 3 61 55296 3)]) (cC (T 62) (cS (cO [N 2 (.assign B1)]) .ret) .skip)) Jg
abbrev Ji:=cS (cS (cO [M 59 0,N 60 (bk .lss 3 59 12289 3)]) (cC (T 60) (cS (cO [N 2 (.assign B0)]) .ret) .skip)) Jh
abbrev Jj:=cS (cS (cO [M 57 0,N 58 (bk .lss 3 57 12272 3)]) (cC (T 58) (cS (cO [N 2 (.assign B1)]) .ret) .skip)) Ji
abbrev Jk:=cS (cS (cO [M 55 0,N 56 (bk .lss 3 55 11264 3)]) (cC (T 56) (cS (cO [N 2 (.assign B0)]) .ret) .skip)) Jj
abbrev Dr:=cS (cS (cO [M 53 0,N 54 (bk .lss 3 53 8592 3)]) (cC (T 54) (cS (cO [N 2 (.assign B1)]) .ret) .skip)) Jk
abbrev Ds:=cS (cS (cO [M 45 0,N 46 (bk .lss 3 45 8304 3)]) Jc) Dr
abbrev Dt:=cS (cS (cO [M 43 0,N 44 (bk .lss 3 43 8192 3)]) (cC (T 44) (cS (cO [N 2 (.assign B1)]) .ret) .skip)) Ds
abbrev Du:=cS (cS (cO [M 37 0,N 38 (bk .lss 3 37 880 3),M 39 38,Z 39 40 (mv 0),Z 39 41 (bk .eql 3 40 894 3),N 42 (po 39 41)]) (cC (T 42) (cS (cO [N 2 (.assign B0)]) .ret) .skip)) Dt
abbrev Dv:=cS (cS (cO [M 35 0,N 36 (bk .lss 3 35 768 3)]) (cC (T 36) (cS (cO [N 2 (.assign B1)]) .ret) .skip)) Du
abbrev Dw:=cS (cS (cO [M 25 0,N 26 (bk .lss 3 25 192 3),M 27 26,Z 27 28 (mv 0),Z 27 29 (bk .eql 3 28 215 3),N 30 (po 27 29),M 31 30,Z 31 32 (mv 0),Z 31 33 (bk .eql 3 32 247 3),N 34 (po 31 33)]) (cC (T 34) (cS (cO [N 2 (.assign B0)]) .ret) .skip)) Dv
abbrev Dx:=cS (cS (cO [M 9 0,N 10 (bk .lss 3 9 128 3)]) Jb) Dw
abbrev Dy:=cS (cS (cO [M 3 0,N 4 (bk .lss 3 3 65 3),M 5 4,Z 5 6 (mv 0),Z 5 7 (bk .gtr 3 6 983039 3),N 8 (po 5 7)]) (cC (T 8) (cS (cO [N 2 (.assign B0)]) .ret) .skip)) Dx
abbrev Yv:=cS (cO [N 2 (.assign B0)]) Dy
theorem WK:fnL prog 120=some (Yv,75,[ResultVar.tmp 2]):=kR
abbrev Jl:=cS (cO [M 3 0,N 4 (c1 120 3 3),M 5 4,Z 5 6 (mv 0),Z 5 7 (bk .eql 3 6 45 3),N 8 (po 5 7),M 9 8,Z 9 10 (mv 0),Z 9 11 (bk .eql 3 10 46 3),N 12 (po 9 11),M 13 12,Z 13 14 (mv 0),Z 13 15 (bk .geq 3 14 48 3),Z 13 16 (mv 15),Y 16 17 (mv 0),Y 16 18 (bk .leq 3 17 57 3),Z 13 19 (pa 16 18),N 20 (po 13 19),M 21 20,Z 21 22 (mv 0),Z 21 23 (bk .eql 3 22 183 3),N 24 (po 21 23),M 25 24,Z 25 26 (mv 0),Z 25 27 (bk .geq 3 26 768 3),Z 25 28 (mv 27),Y 28 29 (mv 0),Y 28 30 (bk .leq 3 29 879 3),Z 25 31 (pa 28 30),N 32 (po 25 31),M 33 32,Z 33 34 (mv 0),Z 33 35 (bk .eql 3 34 8255 3),N 36 (po 33 35),M 37 36,Z 37 38 (mv 0),Z 37 39 (bk .eql 3 38 8256 3),N 40 (po 37 39),A 2 40]) .ret
abbrev Yw:=cS (cO [N 2 (.assign B0)]) Jl
theorem WL:fnL prog 121=some (Yw,41,[ResultVar.tmp 2]):=kR
abbrev Jm:=cO [M 16 7,N 17 (bk .add 3 16 1 3),A 7 17]
abbrev Jn:=cS (cB 1 (cS (cO [M 18 0,M 19 7,M 20 7,M 21 2,N 22 (ln 21 9),N 23 (bo .add 3 20 22 3),N 24 (.slice 9 (T 18) (some (T 19)) (some (T 23)) none),M 25 2,N 26 (bo .eql 9 24 25 9)]) (cC (T 26) (cS (cO [M 27 7,A 6 27]) .ret) .skip))) Jm
abbrev Ar:=cS (cS (cO [M 9 7,M 10 2,N 11 (ln 10 9),N 12 (bo .add 3 9 11 3),M 13 0,N 14 (ln 13 9),N 15 (bo .leq 3 12 14 3)]) (cC (T 15) .skip (.exit 0))) Jn
abbrev Jo:=cS (cS (cO [M 8 1,A 7 8]) (cW 0 Ar)) (cS (cO [N 6 (ak (-1))]) .ret)
abbrev Yx:=cS (cO [N 6 (ak 0)]) Jo
theorem WM:fnL prog 125=some (Yx,28,[ResultVar.tmp 6]):=kR
abbrev Jp:=cS (cO [M 9 0,L 10 48 3,N 11 (.buildSlice 95 1 #[(0,T 10)]),N 12 (ap 9 11 95 95),A 4 12]) .ret
abbrev Jq:=cS (cS (cO [M 5 0,L 6 48 3,N 7 (c2 147 5 6 95 48)]) (cC (T 7) (cS (cO [M 8 0,A 4 8]) .ret) .skip)) Jp
abbrev Yy:=cS (cO [N 3 (bx 48 1),N 4 (.assign S0)]) Jq
theorem WN:fnL prog 126=some (Yy,13,[ResultVar.tmp 4]):=kR
abbrev Jr:=cS (cO [M 13 5,N 14 (bk .geq 3 13 0 3)]) (cC (T 14) (cS (cO [M 15 5,A 4 15]) .ret) .skip)
abbrev Js:=cS (cO [M 39 0,N 40 (nc 39),F 41 130 40 0,F 42 99 41 1,L 43 95 42,N 44 (ln 43 95),N 45 (bk .sub 3 44 1 3),A 4 45]) .ret
abbrev Jt:=cS (.mix [m2 (M 16 0) 0 4,m2 (M 17 0) 0 5,m2 (M 18 0) 0 1,m2 (N 19 (nc 18)) 0 1,m2 (F 20 130 19 0) 0 1,m2 (F 21 99 20 1) 0 1,⟨L 22 95 21,false,true,0,1⟩,m1 (L 23 48 3),m4 (N 24 (.buildSlice 95 1 #[(0,T 23)])) 0 1,m3 (N 25 (ap 22 24 95 95)) 1 3,m2 (M 26 0) 0 3,m2 (N 27 (nc 26)) 0 3,m2 (F 28 130 27 0) 0 3,m2 (F 29 99 28 2) 0 3,⟨L 30 96 29,false,true,0,3⟩,m4 (N 31 (.buildSlice 96 1 #[(0,S0)])) 0 3,m3 (N 32 (ap 30 31 96 96)) 3 4,m2 (N 33 (nc 16)) 4 4,m2 (F 34 130 33 0) 4 4,m2 (F 35 99 34 1) 4 4,m4 (V (st' 95 35 25)) 4 5,m2 (N 36 (nc 17)) 5 5,m2 (F 37 130 36 0) 5 5,m2 (F 38 99 37 2) 5 5,m4 (V (st' 96 38 32)) 5 6]) Js
abbrev Ju:=cS (cS (.draw [(M 6 0,false),(N 7 (nc 6),false),(F 8 130 7 0,false),(F 9 99 8 1,false),(L 10 95 9,false),(L 11 48 3,false),(N 12 (c2 148 10 11 95 48),true),(A 5 12,true)]) Jr) Jt
abbrev Yz:=cS (cO [N 3 (bx 48 1),N 4 (ak 0)]) Ju
theorem WO:fnL prog 127=some (Yz,46,[ResultVar.tmp 4]):=kR
abbrev Jv:=cS (cO [M 9 0,M 10 1,N 11 (.buildSlice 97 1 #[(0,T 10)]),N 12 (ap 9 11 97 97),A 4 12]) .ret
abbrev Jw:=cS (cS (cO [M 5 0,M 6 1,N 7 (c2 80 5 6 97 9)]) (cC (T 7) (cS (cO [M 8 0,A 4 8]) .ret) .skip)) Jv
abbrev YA:=cS (cO [N 4 (.assign S0)]) Jw
theorem WP:fnL prog 128=some (YA,13,[ResultVar.tmp 4]):=kR
abbrev Jy:=cC (T 17) (cS (cO [M 18 0,N 19 (c1 149 18 3),A 4 19]) .ret) .skip
abbrev Jz:=cC (T 23) (cO [M 24 6,N 25 (.unOp .neg 197 (T 24)),A 6 25]) .skip
abbrev JA:=cS (cO [M 36 7,N 37 (.binOp .add 3 (K 1) (T 36) 3),N 38 (.slice 196 (T 5) none (some (T 37)) none),N 39 (.convert 81 9 (T 38)),A 4 39]) .ret
abbrev JB:=cC (T 34) (cS (cO [N 35 (.indexAddr 196 (T 5) (K 0)),V (.store 5 (T 35) (.const (.int .u8 45)))]) JA) .skip
abbrev JC:=cS (cO [M 40 7,N 41 (.binOp .add 3 (K 1) (T 40) 3),N 42 (.slice 196 (T 5) (some (K 1)) (some (T 41)) none),N 43 (.convert 81 9 (T 42)),A 4 43]) .ret
abbrev JD:=cS (cS (cO [M 33 0,N 34 (bk .lss 2 33 0 2)]) JB) JC
abbrev JE:=cS (cO [M 28 7,N 29 (.binOp .add 3 (K 1) (T 28) 3),N 30 (.slice 196 (T 5) (some (K 1)) (some (T 29)) none),M 31 6,N 32 (c2 151 30 31 81 197)]) JD
abbrev JF:=cS (cO [M 26 6,N 27 (c1 150 26 197),A 7 27]) JE
abbrev JG:=cS (cS (cO [M 22 0,N 23 (bk .lss 2 22 0 2)]) Jz) JF
abbrev JH:=cS (cO [M 20 0,N 21 (.convert 2 197 (T 20)),A 6 21]) JG
abbrev Dz:=cC (T 11) (cS (cS (cO [M 12 0,N 13 (.binOp .leq 2 (K 0) (T 12) 2),M 14 13,Y 14 15 (mv 0),Y 14 16 (bk .lss 2 15 100 2),N 17 (pa 14 16)]) Jy) (cS (cO [N 5 (.alloc 196)]) JH)) .skip
abbrev DA:=cS (cO [M 45 0,N 46 (.convert 2 197 (T 45)),M 47 1,M 48 0,N 49 (bk .lss 2 48 0 2),N 50 (cf 152 #[S0,T 46,T 47,T 49,B0] #[81,197,3,4,4]),M 44 50,N 51 (ex 44 0),N 52 (ex 44 1),A 8 51,A 9 52]) (cS (cO [M 53 9,A 4 53]) .ret)
abbrev DB:=cS (cS (cO [M 10 1,N 11 (bk .eql 3 10 10 3)]) Dz) DA
abbrev YB:=cS (cO [N 4 (.assign (.const (.string ByteArray.empty)))]) DB
theorem WQ:fnL prog 129=some (YB,54,[ResultVar.tmp 4]):=kR
abbrev JS:=cS (cO [M 11 1,M 12 0,M 13 5,N 14 (ia 22 12 13),L 15 25 14,N 16 (cv (T 11) #[T 15] #[25])]) (cC (T 16) (cS (cO [M 17 5,A 4 17]) .ret) .skip)
abbrev JT:=cS (cB 1 (cS (cO [M 10 8,A 5 10]) JS)) (cO [N 18 (bk .add 3 8 1 3),M 8 18])
abbrev Au:=cS (cO [N 9 (bo .lss 3 8 7 3)]) (cS (cC (T 9) .skip (.exit 0)) JT)
abbrev JU:=cS (cS (cO [M 6 0,N 7 (ln 6 22),N 8 (.move (K 0))]) (cW 0 Au)) (cS (cO [N 4 (ak (-1))]) .ret)
abbrev YC:=cS (cO [N 4 (ak 0)]) JU
theorem WS:fnL prog 130=some (YC,19,[ResultVar.tmp 4]):=kR
abbrev JV:=cS (cO [M 26 2,L 27 25 8,L 28 25 9,N 29 (cv (T 26) #[T 27,T 28] #[25,25]),N 30 (nt' 4 29)]) (cC (T 30) (cS (cO [N 6 (.assign B0)]) .ret) .skip)
abbrev JW:=cS (cO [M 22 1,M 23 7,N 24 (ia 22 22 23),L 25 25 24,N 9 (.alloc 25),V (st' 25 9 25)]) JV
abbrev JX:=cS (cB 1 (cS (cO [M 19 17,N 20 (ia 22 15 17),L 21 25 20,N 8 (.alloc 25),A 7 19,V (st' 25 8 21)]) JW)) (cO [N 31 (bk .add 3 17 1 3),M 17 31])
abbrev Av:=cS (cO [N 18 (bo .lss 3 17 16 3)]) (cS (cC (T 18) .skip (.exit 0)) JX)
abbrev JY:=cS (cS (cO [M 15 0,N 16 (ln 15 22),N 17 (.move (K 0))]) (cW 0 Av)) (cS (cO [N 6 (.assign B1)]) .ret)
abbrev JZ:=cS (cS (cO [M 10 0,N 11 (ln 10 22),M 12 1,N 13 (ln 12 22),N 14 (bo .neq 3 11 13 3)]) (cC (T 14) (cS (cO [N 6 (.assign B0)]) .ret) .skip)) JY
abbrev YD:=cS (cO [N 6 (.assign B0)]) JZ
theorem WT:fnL prog 131=some (YD,32,[ResultVar.tmp 6]):=kR
abbrev Ka:=cS (cO [M 26 2,L 27 86 8,L 28 86 9,N 29 (cv (T 26) #[T 27,T 28] #[86,86]),N 30 (nt' 4 29)]) (cC (T 30) (cS (cO [N 6 (.assign B0)]) .ret) .skip)
abbrev Kg:=cS (cO [M 22 1,M 23 7,N 24 (ia 23 22 23),L 25 86 24,N 9 (.alloc 86),V (st' 86 9 25)]) Ka
abbrev Kh:=cS (cB 1 (cS (cO [M 19 17,N 20 (ia 23 15 17),L 21 86 20,N 8 (.alloc 86),A 7 19,V (st' 86 8 21)]) Kg)) (cO [N 31 (bk .add 3 17 1 3),M 17 31])
abbrev Aw:=cS (cO [N 18 (bo .lss 3 17 16 3)]) (cS (cC (T 18) .skip (.exit 0)) Kh)
abbrev Ki:=cS (cS (cO [M 15 0,N 16 (ln 15 23),N 17 (.move (K 0))]) (cW 0 Aw)) (cS (cO [N 6 (.assign B1)]) .ret)
abbrev Kj:=cS (cS (cO [M 10 0,N 11 (ln 10 23),M 12 1,N 13 (ln 12 23),N 14 (bo .neq 3 11 13 3)]) (cC (T 14) (cS (cO [N 6 (.assign B0)]) .ret) .skip)) Ki
abbrev YE:=cS (cO [N 6 (.assign B0)]) Kj
theorem WU:fnL prog 132=some (YE,32,[ResultVar.tmp 6]):=kR
abbrev Kk:=cS (cO [F 5 86 2 0,L 6 3 5,F 7 86 3 0,L 8 3 7,N 9 (bo .eql 3 6 8 3),M 10 9,Y 10 11 (fa 86 2 1),Y 10 12 (ld' 48 11),Y 10 13 (fa 86 3 1),Y 10 14 (ld' 48 13),Y 10 15 (bo .eql 48 12 14 48),N 16 (pa 10 15),M 17 16,Y 17 18 (fa 86 2 2),Y 17 19 (ld' 9 18),Y 17 20 (fa 86 3 2),Y 17 21 (ld' 9 20),Y 17 22 (bo .eql 9 19 21 9),N 23 (pa 17 22),M 24 23,Y 24 25 (fa 86 2 3),Y 24 26 (ld' 23 25),Y 24 27 (fa 86 3 3),Y 24 28 (ld' 23 27),Y 24 29 (cf 132 #[T 26,T 28,.func 133] #[23,23,166]),N 30 (pa 24 29),M 31 30,Y 31 32 (fa 86 2 4),Y 31 33 (ld' 22 32),Y 31 34 (fa 86 3 4),Y 31 35 (ld' 22 34),Y 31 36 (cf 131 #[T 33,T 35,.func 106] #[22,22,147]),N 37 (pa 31 36),A 4 37]) .ret
abbrev YF:=cS (cO [N 2 (bx 86 0),N 3 (bx 86 1),N 4 (.assign B0)]) Kk
theorem WV:fnL prog 133=some (YF,38,[ResultVar.tmp 4]):=kR
abbrev YG:=cO [M 4 0,M 5 0,N 6 (nc 5),F 7 135 6 0,F 8 32 7 3,L 9 30 8,M 10 1,N 11 (ap 9 10 30 30),N 12 (nc 4),F 13 135 12 0,F 14 32 13 3,V (st' 30 14 11)]
theorem WW:fnL prog 134=some (YG,15,[]):=kR
abbrev Kl:=cC (T 21) (cS (.draw [(F 22 53 7 1,false),(L 23 9 22,false),(M 24 0,false),(N 25 (nc 24),false),(F 26 169 25 1,false),(F 27 51 26 0,false),(L 28 3 27,false),(N 29 (bk .eql 3 28 1 3),false),(A 4 23,false),(A 5 29,true)]) .ret) .skip
abbrev Km:=cS (cO [F 18 53 7 0,L 19 48 18,L 20 48 3,N 21 (bo .eql 48 19 20 48)]) Kl
abbrev Kn:=cS (cB 1 (cS (cO [N 16 (ia 49 12 14),L 17 53 16,N 7 (.alloc 53),V (st' 53 7 17)]) Km)) (cO [N 30 (bk .add 3 14 1 3),M 14 30])
abbrev Ax:=cS (cO [N 15 (bo .lss 3 14 13 3)]) (cS (cC (T 15) .skip (.exit 0)) Kn)
abbrev Ko:=cS (cO [N 4 (.assign (.const (.string ByteArray.empty))),N 5 (.assign B0)]) .ret
abbrev Kp:=cS (cS (cO [M 8 0,N 9 (nc 8),F 10 169 9 1,F 11 51 10 2,L 12 49 11,N 13 (ln 12 49),N 14 (.move (K 0))]) (cW 0 Ax)) Ko
abbrev YH:=cS (cO [N 3 (bx 48 1),N 4 (.assign (.const (.string ByteArray.empty))),N 5 (.assign B0)]) Kp
theorem WX:fnL prog 135=some (YH,31,[ResultVar.tmp 4,ResultVar.tmp 5]):=kR
abbrev Kq:=cS (cO [M 5 0,M 6 1,N 7 (c2 153 5 6 23 170),N 8 (bk .geq 3 7 0 3),A 4 8]) .ret
abbrev YI:=cS (cO [N 4 (.assign B0)]) Kq
theorem WY:fnL prog 136=some (YI,9,[ResultVar.tmp 4]):=kR
abbrev Kr:=cS (cO [M 5 0,L 6 86 3,N 7 (c2 116 5 6 167 86),N 8 (nt' 4 7),A 4 8]) .ret
abbrev YJ:=cS (cO [N 3 (bx 86 1),N 4 (.assign B0)]) Kr
theorem WZ:fnL prog 137=some (YJ,9,[ResultVar.tmp 4]):=kR
abbrev Kt:=cS (.draw [(M 12 5,false),(N 13 (bk .geq 3 12 0 3),false),(M 14 13,false),(Y 14 15 (mv 0),false),(Y 14 16 (nc 15),false),(Y 14 17 (fa 169 16 2),false),(Y 14 18 (ld' 81 17),false),(Y 14 19 (mv 0),false),(Y 14 20 (nc 19),false),(Y 14 21 (fa 169 20 0),false),(Y 14 22 (fa 34 21 2),false),(Y 14 23 (ld' 29 22),false),(Y 14 24 (mv 5),false),(Y 14 25 (ia 29 23 24),false),(Y 14 26 (ld' 3 25),false),(Y 14 27 (mv 0),false),(Y 14 28 (nc 27),false),(Y 14 29 (fa 169 28 0),false),(Y 14 30 (fa 34 29 1),false),(Y 14 31 (ld' 28 30),false),(Y 14 32 (mv 5),false),(Y 14 33 (ia 28 31 32),false),(Y 14 34 (fa 32 33 1),false),(Y 14 35 (ld' 3 34),false),(Y 14 36 (bo .add 3 26 35 3),false),(Y 14 37 (ia 81 18 36),true),(Y 14 38 (ld' 5 37),true),(Y 14 39 (.binOp .eql 5 (T 38) (.const (.int .u8 1)) 5),true),(N 40 (pa 14 39),true),(A 4 40,true)]) .ret
abbrev Ku:=cS (.draw [(M 6 0,false),(N 7 (nc 6),false),(F 8 169 7 0,false),(L 9 34 8,false),(L 10 25 3,false),(N 11 (c2 154 9 10 34 25),true),(A 5 11,true)]) Kt
abbrev YK:=cS (cO [N 3 (bx 25 1),N 4 (.assign B0)]) Ku
theorem Xa:fnL prog 138=some (YK,41,[ResultVar.tmp 4]):=kR
abbrev Kw:=cC (T 26) (cO [M 27 9,N 28 (bk .sub 3 27 192 3),A 9 28]) .skip
abbrev Kx:=cC (T 34) (cO [M 35 9,N 36 (bk .sub 3 35 224 3),A 9 36]) .skip
abbrev Ky:=cC (T 42) (cO [M 43 9,N 44 (bk .sub 3 43 240 3),A 9 44]) .skip
abbrev Kz:=cC (T 46) (cO [M 47 9,N 48 (bk .sub 3 47 128 3),A 9 48]) .skip
abbrev KA:=cO [M 49 7,N 50 (bk .mul 3 49 64 3),M 51 9,N 52 (bo .add 3 50 51 3),A 7 52]
abbrev KB:=cS (cS (cO [M 45 8,N 46 (bk .gtr 3 45 0 3)]) Kz) KA
abbrev KC:=cS (cS (cO [M 37 8,N 38 (bk .eql 3 37 0 3),M 39 38,Y 39 40 (mv 2),Y 39 41 (bk .eql 3 40 4 3),N 42 (pa 39 41)]) Ky) KB
abbrev KD:=cS (cS (cO [M 29 8,N 30 (bk .eql 3 29 0 3),M 31 30,Y 31 32 (mv 2),Y 31 33 (bk .eql 3 32 3 3),N 34 (pa 31 33)]) Kx) KC
abbrev KE:=cS (cS (cO [M 21 8,N 22 (bk .eql 3 21 0 3),M 23 22,Y 23 24 (mv 2),Y 23 25 (bk .eql 3 24 2 3),N 26 (pa 23 25)]) Kw) KD
abbrev KF:=cO [M 13 8,N 14 (bk .add 3 13 1 3),A 8 14]
abbrev DC:=cS (cB 1 (cS (cO [M 15 0,M 16 1,M 17 8,N 18 (bo .add 3 16 17 3),N 19 (.index 9 (T 15) (T 18)),N 20 (.convert 5 3 (T 19)),A 9 20]) KE)) KF
abbrev Kv:=cS (cS (cO [M 10 8,M 11 2,N 12 (bo .lss 3 10 11 3)]) (cC (T 12) .skip (.exit 0))) DC
abbrev DD:=cS (cS (cO [N 8 (ak 0)]) (cW 0 Kv)) (cS (cO [M 53 7,A 6 53]) .ret)
abbrev YL:=cS (cO [N 6 (ak 0)]) (cS (cO [N 7 (ak 0)]) DD)
theorem Xb:fnL prog 139=some (YL,54,[ResultVar.tmp 6]):=kR
abbrev KG:=cC (T 18) (cS (cO [M 19 0,N 20 (.convert 3 5 (T 19)),N 21 (.buildSlice 81 1 #[(0,T 20)]),A 2 21]) .ret) .skip
abbrev KH:=cC (T 23) (cS (cO [M 24 0,N 25 (bk .quo 3 24 64 3),N 26 (.binOp .add 3 (K 192) (T 25) 3),N 27 (.convert 3 5 (T 26)),M 28 0,N 29 (bk .rem 3 28 64 3),N 30 (.binOp .add 3 (K 128) (T 29) 3),N 31 (.convert 3 5 (T 30)),N 32 (.buildSlice 81 2 #[(0,T 27),(1,T 31)]),A 2 32]) .ret) .skip
abbrev KI:=cC (T 34) (cS (cO [M 35 0,N 36 (bk .quo 3 35 4096 3),N 37 (.binOp .add 3 (K 224) (T 36) 3),N 38 (.convert 3 5 (T 37)),M 39 0,N 40 (bk .quo 3 39 64 3),N 41 (bk .rem 3 40 64 3),N 42 (.binOp .add 3 (K 128) (T 41) 3),N 43 (.convert 3 5 (T 42)),M 44 0,N 45 (bk .rem 3 44 64 3),N 46 (.binOp .add 3 (K 128) (T 45) 3),N 47 (.convert 3 5 (T 46)),N 48 (.buildSlice 81 3 #[(0,T 38),(1,T 43),(2,T 47)]),A 2 48]) .ret) .skip
abbrev KJ:=cS (cO [M 49 0,N 50 (bk .quo 3 49 262144 3),N 51 (.binOp .add 3 (K 240) (T 50) 3),N 52 (.convert 3 5 (T 51)),M 53 0,N 54 (bk .quo 3 53 4096 3),N 55 (bk .rem 3 54 64 3),N 56 (.binOp .add 3 (K 128) (T 55) 3),N 57 (.convert 3 5 (T 56)),M 58 0,N 59 (bk .quo 3 58 64 3),N 60 (bk .rem 3 59 64 3),N 61 (.binOp .add 3 (K 128) (T 60) 3),N 62 (.convert 3 5 (T 61)),M 63 0,N 64 (bk .rem 3 63 64 3),N 65 (.binOp .add 3 (K 128) (T 64) 3),N 66 (.convert 3 5 (T 65)),N 67 (.buildSlice 81 4 #[(0,T 52),(1,T 57),(2,T 62),(3,T 66)]),A 2 67]) .ret
abbrev KK:=cS (cS (cO [M 33 0,N 34 (bk .lss 3 33 65536 3)]) KI) KJ
abbrev KL:=cS (cS (cO [M 22 0,N 23 (bk .lss 3 22 2048 3)]) KH) KK
abbrev KM:=cS (cS (cO [M 17 0,N 18 (bk .lss 3 17 128 3)]) KG) KL
abbrev KN:=cS (cS (cO [M 3 0,N 4 (bk .lss 3 3 0 3),M 5 4,Z 5 6 (mv 0),Z 5 7 (bk .gtr 3 6 1114111 3),N 8 (po 5 7),M 9 8,Z 9 10 (mv 0),Z 9 11 (bk .geq 3 10 55296 3),Z 9 12 (mv 11),Y 12 13 (mv 0),Y 12 14 (bk .leq 3 13 57343 3),Z 9 15 (pa 12 14),N 16 (po 9 15)]) (cC (T 16) (cS (cO [N 2 (.assign S0)]) .ret) .skip)) KM
abbrev YM:=cS (cO [N 2 (.assign S0)]) KN
theorem Xc:fnL prog 140=some (YM,68,[ResultVar.tmp 2]):=kR
abbrev KO:=cO [M 24 7,N 25 (bk .add 3 24 1 3),A 7 25]
abbrev KP:=cS (cB 1 (cS (.draw [(M 26 0,false),(M 27 1,false),(M 28 7,false),(N 29 (bo .add 3 27 28 3),false),(N 30 (.index 9 (T 26) (T 29)),false),(M 31 2,false),(M 32 7,false),(N 33 (ia 81 31 32),false),(L 34 5 33,false),(N 35 (bo .neq 5 30 34 5),true)]) (cC (T 35) (cS (cO [N 6 (.assign B0)]) .ret) .skip))) KO
abbrev Ay:=cS (cS (cO [M 20 7,M 21 2,N 22 (ln 21 81),N 23 (bo .lss 3 20 22 3)]) (cC (T 23) .skip (.exit 0))) KP
abbrev KQ:=cS (cS (cO [N 7 (ak 0)]) (cW 0 Ay)) (cS (cO [N 6 (.assign B1)]) .ret)
abbrev KR:=cS (cS (cO [M 8 2,N 9 (ln 8 81),N 10 (bk .eql 3 9 0 3),M 11 10,Z 11 12 (mv 1),Z 11 13 (mv 2),Z 11 14 (ln 13 81),Z 11 15 (bo .add 3 12 14 3),Z 11 16 (mv 0),Z 11 17 (ln 16 9),Z 11 18 (bo .gtr 3 15 17 3),N 19 (po 11 18)]) (cC (T 19) (cS (cO [N 6 (.assign B0)]) .ret) .skip)) KQ
abbrev YN:=cS (cO [N 6 (.assign B0)]) KR
theorem Xd:fnL prog 141=some (YN,36,[ResultVar.tmp 6]):=kR
abbrev KS:=cO [M 45 9,N 46 (.binOp .add 9 (T 45) (.const (.string ⟨#[191]⟩)) 9),A 9 46]
abbrev KT:=cB 3 (cS (cO [M 43 8,N 44 (.binOp .add 9 (T 43) (.const (.string ⟨#[128]⟩)) 9),A 8 44]) KS)
abbrev Az:=cS (cS (cO [M 39 8,N 40 (ln 39 9),M 41 6,N 42 (bo .lss 3 40 41 3)]) (cC (T 42) .skip (.exit 2))) KT
abbrev KU:=cO [M 56 13,N 57 (bk .add 3 56 1 3),A 13 57]
abbrev KV:=cS (cB 5 (cO [M 58 12,M 59 58,Y 59 60 (mv 0),Y 59 61 (mv 1),Y 59 62 (mv 13),Y 59 63 (bo .add 3 61 62 3),Y 59 64 (.index 9 (T 60) (T 63)),Y 59 65 (.binOp .geq 5 (T 64) (.const (.int .u8 128)) 5),N 66 (pa 59 65),M 67 66,Y 67 68 (mv 0),Y 67 69 (mv 1),Y 67 70 (mv 13),Y 67 71 (bo .add 3 69 70 3),Y 67 72 (.index 9 (T 68) (T 71)),Y 67 73 (.binOp .leq 5 (T 72) (.const (.int .u8 191)) 5),N 74 (pa 67 73),A 12 74])) KU
abbrev AA:=cS (cS (cO [M 53 13,M 54 5,N 55 (bo .lss 3 53 54 3)]) (cC (T 55) .skip (.exit 4))) KV
abbrev KW:=cS (cO [M 144 17,N 145 (ln 144 81),M 146 6,N 147 (bo .eql 3 145 146 3),M 148 147,Y 148 149 (mv 17),Y 148 150 (.convert 81 9 (T 149)),Y 148 151 (.binOp .add 9 (T 150) (.const (.string ⟨#[120]⟩)) 9),Y 148 152 (mv 7),Y 148 153 (.convert 9 81 (T 152)),Y 148 154 (cf 141 #[T 151,K 0,T 153] #[9,3,81]),N 155 (pa 148 154)]) (cC (T 155) (cS (cO [N 4 (.assign B1)]) .ret) .skip)
abbrev KX:=cS (cO [M 142 16,N 143 (c1 140 142 3),A 17 143]) KW
def vu:E4:=KX
abbrev KY:=cS (cS (cO [M 139 15,N 140 (bk .eql 3 139 63 3)]) (cC (T 140) (cO [M 141 11,A 16 141]) .skip)) vu
abbrev AC:=cO [M 129 15,N 130 (bk .add 3 129 1 3),A 15 130]
abbrev KZ:=cS (cB 7 (cS (cO [M 131 10,M 132 11,M 133 10,N 134 (bo .sub 3 132 133 3),N 135 (bk .quo 3 134 63 3),M 136 15,N 137 (bo .mul 3 135 136 3),N 138 (bo .add 3 131 137 3),A 16 138]) KY)) AC
abbrev tp:=cS (cS (cO [M 127 15,N 128 (bk .lss 3 127 64 3)]) (cC (T 128) .skip (.exit 6))) KZ
abbrev La:=cS (cS (cO [M 121 12,N 122 (nt' 4 121),M 123 122,Z 123 124 (mv 14),Z 123 125 (nt' 4 124),N 126 (po 123 125)]) (cC (T 126) (.exit 1) .skip)) (cS (cO [N 15 (ak 0)]) (cW 6 tp))
abbrev vr:=cS (cO [M 75 6,N 76 (bk .eql 3 75 2 3),M 77 76,Y 77 78 (mv 0),Y 77 79 (mv 1),Y 77 80 (.index 9 (T 78) (T 79)),Y 77 81 (.binOp .geq 5 (T 80) (.const (.int .u8 192)) 5),N 82 (pa 77 81),M 83 82,Y 83 84 (mv 0),Y 83 85 (mv 1),Y 83 86 (.index 9 (T 84) (T 85)),Y 83 87 (.binOp .lss 5 (T 86) (.const (.int .u8 224)) 5),N 88 (pa 83 87),M 89 88,Z 89 90 (mv 6),Z 89 91 (bk .eql 3 90 3 3),Z 89 92 (mv 91),Y 92 93 (mv 0),Y 92 94 (mv 1),Y 92 95 (.index 9 (T 93) (T 94)),Y 92 96 (.binOp .geq 5 (T 95) (.const (.int .u8 224)) 5),Z 89 97 (pa 92 96),Z 89 98 (mv 97),Y 98 99 (mv 0),Y 98 100 (mv 1),Y 98 101 (.index 9 (T 99) (T 100)),Y 98 102 (.binOp .lss 5 (T 101) (.const (.int .u8 240)) 5),Z 89 103 (pa 98 102),N 104 (po 89 103),M 105 104,Z 105 106 (mv 6),Z 105 107 (bk .eql 3 106 4 3),Z 105 108 (mv 107),Y 108 109 (mv 0),Y 108 110 (mv 1),Y 108 111 (.index 9 (T 109) (T 110)),Y 108 112 (.binOp .geq 5 (T 111) (.const (.int .u8 240)) 5),Z 105 113 (pa 108 112),Z 105 114 (mv 113),Y 114 115 (mv 0),Y 114 116 (mv 1),Y 114 117 (.index 9 (T 115) (T 116)),Y 114 118 (.binOp .lss 5 (T 117) (.const (.int .u8 248)) 5),Z 105 119 (pa 114 118),N 120 (po 105 119),A 14 120]) La
abbrev DE:=cS (cO [N 12 (.assign B1)]) (cS (cS (cO [N 13 (ak 1)]) (cW 4 AA)) vr)
abbrev DF:=cS (cO [M 50 9,M 51 6,N 52 (cf 139 #[T 50,K 0,T 51] #[9,3,3]),A 11 52]) DE
abbrev DG:=cS (cO [M 47 8,M 48 6,N 49 (cf 139 #[T 47,K 0,T 48] #[9,3,3]),A 10 49]) DF
abbrev DH:=cS (cO [M 37 7,A 8 37]) (cS (cO [M 38 7,A 9 38]) (cS (cW 2 Az) DG))
abbrev gt:=cO [M 32 6,N 33 (bk .add 3 32 1 3),A 6 33]
abbrev DI:=cS (cB 1 (cS (cO [M 34 0,M 35 1,N 36 (.slice 9 (T 34) (some (T 35)) none none),A 7 36]) DH)) gt
abbrev AB:=cS (cS (cO [M 30 6,N 31 (bk .leq 3 30 4 3)]) (cC (T 31) .skip (.exit 0))) DI
abbrev DJ:=cS (cS (cO [M 28 5,N 29 (bk .add 3 28 1 3),A 6 29]) (cW 0 AB)) (cS (cO [N 4 (.assign B0)]) .ret)
abbrev DK:=cS (cS (cO [M 22 5,N 23 (bk .lss 3 22 1 3),M 24 23,Z 24 25 (mv 5),Z 24 26 (bk .gtr 3 25 3 3),N 27 (po 24 26)]) (cC (T 27) (cS (cO [N 4 (.assign B0)]) .ret) .skip)) DJ
abbrev DL:=cS (cO [M 18 0,N 19 (ln 18 9),M 20 1,N 21 (bo .sub 3 19 20 3),A 5 21]) DK
abbrev YO:=cS (cO [N 4 (.assign B0)]) DL
theorem Xe:fnL prog 142=some (YO,156,[ResultVar.tmp 4]):=kR
abbrev Lb:=cS (cO [M 5 0,L 6 48 3,N 7 (c2 148 5 6 95 48),N 8 (bk .geq 3 7 0 3),A 4 8]) .ret
abbrev YP:=cS (cO [N 3 (bx 48 1),N 4 (.assign B0)]) Lb
theorem Xf:fnL prog 147=some (YP,9,[ResultVar.tmp 4]):=kR
abbrev Lc:=cS (.draw [(L 11 48 3,false),(M 12 0,false),(M 13 5,false),(N 14 (ia 95 12 13),false),(L 15 48 14,false),(N 16 (bo .eql 48 11 15 48),true)]) (cC (T 16) (cS (cO [M 17 5,A 4 17]) .ret) .skip)
abbrev Ld:=cS (cB 1 (cS (cO [M 10 8,A 5 10]) Lc)) (cO [N 18 (bk .add 3 8 1 3),M 8 18])
abbrev AD:=cS (cO [N 9 (bo .lss 3 8 7 3)]) (cS (cC (T 9) .skip (.exit 0)) Ld)
abbrev Lf:=cS (cS (cO [M 6 0,N 7 (ln 6 95),N 8 (.move (K 0))]) (cW 0 AD)) (cS (cO [N 4 (ak (-1))]) .ret)
abbrev YQ:=cS (cO [N 3 (bx 48 1),N 4 (ak 0)]) Lf
theorem Xg:fnL prog 148=some (YQ,19,[ResultVar.tmp 4]):=kR
abbrev Lj:=cS (cO [M 11 1,M 12 0,M 13 5,N 14 (ia 23 12 13),L 15 86 14,N 16 (cv (T 11) #[T 15] #[86])]) (cC (T 16) (cS (cO [M 17 5,A 4 17]) .ret) .skip)
abbrev Lk:=cS (cB 1 (cS (cO [M 10 8,A 5 10]) Lj)) (cO [N 18 (bk .add 3 8 1 3),M 8 18])
abbrev AE:=cS (cO [N 9 (bo .lss 3 8 7 3)]) (cS (cC (T 9) .skip (.exit 0)) Lk)
abbrev Ll:=cS (cS (cO [M 6 0,N 7 (ln 6 23),N 8 (.move (K 0))]) (cW 0 AE)) (cS (cO [N 4 (ak (-1))]) .ret)
abbrev YS:=cS (cO [N 4 (ak 0)]) Ll
theorem Xi:fnL prog 153=some (YS,19,[ResultVar.tmp 4]):=kR
abbrev Ln:=cS (cO [F 5 34 2 0,L 6 22 5,N 7 (.makeFunc (Fn.func 165) #[] #[T 3]),N 8 (c2 130 6 7 22 27),A 4 8]) .ret
abbrev YT:=cS (cO [N 2 (bx 34 0),N 3 (bx 25 1),N 4 (ak 0)]) Ln
theorem Xj:fnL prog 154=some (YT,9,[ResultVar.tmp 4]):=kR
abbrev Lo:=cS (cO [L 4 25 2,L 5 25 1,N 6 (c2 106 4 5 25 25),A 3 6]) .ret
abbrev YU:=cS (cO [N 2 (bx 25 0),N 3 (.assign B0)]) Lo
theorem Xk:fnL prog 165=some (YU,7,[ResultVar.tmp 3]):=kR
end Go.Proofs.YtofbhlhamfkljaaGreatDoor.Ve
namespace Go.Proofs.YtofbhlhamfkljaaGreatDoor.Ve
open Go Go.RowKit
open Go.Proofs.Tryz (prog)
set_option linter.unusedVariables false
set_option linter.unusedSimpArgs false
set_option maxRecDepth 1000000
set_option maxHeartbeats 0
theorem ty3:z9 prog 3=some 1∧A7 prog 3=some 8∧B8 prog 3=some [iV (0)]∧C2 prog 3=some (iV (0))∧E7 prog 3=some false∧eM prog 3=some [D1.int]∧prog.underlying 3=some (TypeDesc.int IntKind.i64):=⟨kR,kR,kR,kR,kR,kR,kR⟩
theorem ty4:z9 prog 4=some 1∧A7 prog 4=some 1∧B8 prog 4=some [Value.bool false]∧C2 prog 4=some (Value.bool false)∧E7 prog 4=some false∧eM prog 4=some [D1.bool]∧rY prog 4=true∧prog.underlying 4=some TypeDesc.bool:=⟨kR,kR,kR,kR,kR,kR,kR,kR⟩
theorem ty5:z9 prog 5=some 1∧A7 prog 5=some 1∧B8 prog 5=some [Value.int IntKind.u8 (0)]∧C2 prog 5=some (Value.int IntKind.u8 (0))∧E7 prog 5=some false∧eM prog 5=some [D1.int]∧prog.underlying 5=some (TypeDesc.int IntKind.u8):=⟨kR,kR,kR,kR,kR,kR,kR⟩
theorem ty9:z9 prog 9=some 1∧A7 prog 9=some 16∧B8 prog 9=some [Value.string eB]∧C2 prog 9=some (Value.string eB)∧E7 prog 9=some false∧eM prog 9=some [D1.str]∧prog.underlying 9=some TypeDesc.string:=⟨kR,kR,kR,kR,kR,kR,kR⟩
theorem Cn:z9 prog 21=some 1∧A7 prog 21=some 4∧B8 prog 21=some [Value.int IntKind.i32 (0)]∧C2 prog 21=some (Value.int IntKind.i32 (0))∧E7 prog 21=some false∧eM prog 21=some [D1.int]∧prog.underlying 21=some (TypeDesc.int IntKind.i32):=⟨kR,kR,kR,kR,kR,kR,kR⟩
theorem jL:z9 prog 22=some 1∧A7 prog 22=some 24∧B8 prog 22=some [nS]∧C2 prog 22=some (nS)∧E7 prog 22=some false∧I2 prog 22=some 25∧prog.underlying 22=some (TypeDesc.slice 25):=⟨kR,kR,kR,kR,kR,kR,kR⟩
theorem pI:z9 prog 23=some 1∧A7 prog 23=some 24∧B8 prog 23=some [nS]∧C2 prog 23=some (nS)∧E7 prog 23=some false∧I2 prog 23=some 86∧prog.underlying 23=some (TypeDesc.slice 86):=⟨kR,kR,kR,kR,kR,kR,kR⟩
theorem X8:z9 prog 25=some 3∧A7 prog 25=some 56∧B8 prog 25=some [iV (0),nS,nS]∧C2 prog 25=some (Value.agg #[iV (0),nS,nS])∧E7 prog 25=some true∧bL prog 25=some (Sum.inl [(0,1),(1,1),(2,1)])∧E0 prog 25 0=some (0,3)∧E0 prog 25 1=some (1,22)∧E0 prog 25 2=some (2,23):=⟨kR,kR,kR,kR,kR,kR,kR,kR,kR⟩
theorem NP:z9 prog 28=some 1∧A7 prog 28=some 24∧B8 prog 28=some [nS]∧C2 prog 28=some (nS)∧E7 prog 28=some false∧I2 prog 28=some 32∧prog.underlying 28=some (TypeDesc.slice 32):=⟨kR,kR,kR,kR,kR,kR,kR⟩
theorem yL:z9 prog 29=some 1∧A7 prog 29=some 24∧B8 prog 29=some [nS]∧C2 prog 29=some (nS)∧E7 prog 29=some false∧I2 prog 29=some 3∧prog.underlying 29=some (TypeDesc.slice 3):=⟨kR,kR,kR,kR,kR,kR,kR⟩
theorem Fp:z9 prog 30=some 1∧A7 prog 30=some 24∧B8 prog 30=some [nS]∧C2 prog 30=some (nS)∧E7 prog 30=some false∧I2 prog 30=some 89∧prog.underlying 30=some (TypeDesc.slice 89):=⟨kR,kR,kR,kR,kR,kR,kR⟩
theorem mK:z9 prog 32=some 5∧A7 prog 32=some 72∧B8 prog 32=some [iV (0),iV (0),iV (0),nS,nS]∧C2 prog 32=some (Value.agg #[iV (0),iV (0),iV (0),nS,nS])∧E7 prog 32=some true∧bL prog 32=some (Sum.inl [(0,1),(1,1),(2,1),(3,1),(4,1)])∧E0 prog 32 0=some (0,3)∧E0 prog 32 1=some (1,3)∧E0 prog 32 2=some (2,3)∧E0 prog 32 3=some (3,30)∧E0 prog 32 4=some (4,23):=⟨kR,kR,kR,kR,kR,kR,kR,kR,kR,kR,kR⟩
theorem ah9:z9 prog 34=some 8∧A7 prog 34=some 144∧B8 prog 34=some [nS,nS,nS,iV (0),iV (0),iV (0),nS,nS]∧C2 prog 34=some (Value.agg #[nS,nS,nS,iV (0),iV (0),iV (0),nS,nS])∧E7 prog 34=some true∧bL prog 34=some (Sum.inl [(0,1),(1,1),(2,1),(3,5)])∧E0 prog 34 0=some (0,22)∧E0 prog 34 1=some (1,28)∧E0 prog 34 2=some (2,29)∧E0 prog 34 3=some (3,32):=⟨kR,kR,kR,kR,kR,kR,kR,kR,kR,kR⟩
theorem uT:z9 prog 35=some 1∧A7 prog 35=some 24∧B8 prog 35=some [nS]∧C2 prog 35=some (nS)∧E7 prog 35=some false∧I2 prog 35=some 51∧prog.underlying 35=some (TypeDesc.slice 51):=⟨kR,kR,kR,kR,kR,kR,kR⟩
theorem NQ:z9 prog 36=some 1∧A7 prog 36=some 24∧B8 prog 36=some [nS]∧C2 prog 36=some (nS)∧E7 prog 36=some false∧I2 prog 36=some 59∧prog.underlying 36=some (TypeDesc.slice 59):=⟨kR,kR,kR,kR,kR,kR,kR⟩
theorem XW:z9 prog 37=some 1∧A7 prog 37=some 24∧B8 prog 37=some [nS]∧C2 prog 37=some (nS)∧E7 prog 37=some false∧I2 prog 37=some 56∧prog.underlying 37=some (TypeDesc.slice 56):=⟨kR,kR,kR,kR,kR,kR,kR⟩
theorem ai0:z9 prog 39=some 12∧A7 prog 39=some 240∧B8 prog 39=some [nS,nS,nS,iV (0),iV (0),iV (0),nS,nS,nS,nS,nS,nS]∧C2 prog 39=some (Value.agg #[nS,nS,nS,iV (0),iV (0),iV (0),nS,nS,nS,nS,nS,nS])∧E7 prog 39=some true∧bL prog 39=some (Sum.inl [(0,8),(8,1),(9,1),(10,1),(11,1)])∧E0 prog 39 0=some (0,34)∧E0 prog 39 1=some (8,35)∧E0 prog 39 2=some (9,36)∧E0 prog 39 3=some (10,29)∧E0 prog 39 4=some (11,37):=⟨kR,kR,kR,kR,kR,kR,kR,kR,kR,kR,kR⟩
theorem cr:z9 prog 48=some 2∧A7 prog 48=some 32∧B8 prog 48=some [Value.string eB,Value.string eB]∧C2 prog 48=some (Value.agg #[Value.string eB,Value.string eB])∧E7 prog 48=some true∧bL prog 48=some (Sum.inl [(0,1),(1,1)])∧eM prog 48=some [D1.str,D1.str]∧eN prog 48=some [D1.str,D1.str]∧E0 prog 48 0=some (0,9)∧E0 prog 48 1=some (1,9):=⟨kR,kR,kR,kR,kR,kR,kR,kR,kR,kR⟩
theorem yM:z9 prog 49=some 1∧A7 prog 49=some 24∧B8 prog 49=some [nS]∧C2 prog 49=some (nS)∧E7 prog 49=some false∧I2 prog 49=some 53∧prog.underlying 49=some (TypeDesc.slice 53):=⟨kR,kR,kR,kR,kR,kR,kR⟩
theorem aG:z9 prog 51=some 5∧A7 prog 51=some 80∧B8 prog 51=some [iV (0),Value.string eB,Value.string eB,nS,Value.string eB]∧C2 prog 51=some (Value.agg #[iV (0),Value.string eB,Value.string eB,nS,Value.string eB])∧E7 prog 51=some true∧bL prog 51=some (Sum.inl [(0,1),(1,2),(3,1),(4,1)])∧E0 prog 51 0=some (0,3)∧E0 prog 51 1=some (1,48)∧E0 prog 51 2=some (3,49)∧E0 prog 51 3=some (4,9):=⟨kR,kR,kR,kR,kR,kR,kR,kR,kR,kR⟩
theorem ik:z9 prog 53=some 3∧A7 prog 53=some 48∧B8 prog 53=some [Value.string eB,Value.string eB,Value.string eB]∧C2 prog 53=some (Value.agg #[Value.string eB,Value.string eB,Value.string eB])∧E7 prog 53=some true∧bL prog 53=some (Sum.inl [(0,2),(2,1)])∧eM prog 53=some [D1.str,D1.str,D1.str]∧eN prog 53=some [D1.str,D1.str,D1.str]∧E0 prog 53 0=some (0,48)∧E0 prog 53 1=some (2,9):=⟨kR,kR,kR,kR,kR,kR,kR,kR,kR,kR⟩
theorem yN:z9 prog 56=some 3∧A7 prog 56=some 24∧B8 prog 56=some [iV (0),iV (0),iV (0)]∧C2 prog 56=some (Value.agg #[iV (0),iV (0),iV (0)])∧E7 prog 56=some true∧bL prog 56=some (Sum.inl [(0,1),(1,1),(2,1)])∧eM prog 56=some [D1.int,D1.int,D1.int]∧eN prog 56=some [D1.int,D1.int,D1.int]∧E0 prog 56 0=some (0,3)∧E0 prog 56 1=some (1,3)∧E0 prog 56 2=some (2,3):=⟨kR,kR,kR,kR,kR,kR,kR,kR,kR,kR,kR⟩
theorem yO:z9 prog 59=some 3∧A7 prog 59=some 24∧B8 prog 59=some [Value.bool false,Value.bool false,Value.string eB]∧C2 prog 59=some (Value.agg #[Value.bool false,Value.bool false,Value.string eB])∧E7 prog 59=some true∧bL prog 59=some (Sum.inl [(0,1),(1,1),(2,1)])∧eM prog 59=some [D1.bool,D1.bool,D1.str]∧eN prog 59=some [D1.bool,D1.bool,D1.str]∧E0 prog 59 0=some (0,4)∧E0 prog 59 1=some (1,4)∧E0 prog 59 2=some (2,9):=⟨kR,kR,kR,kR,kR,kR,kR,kR,kR,kR,kR⟩
theorem XX:z9 prog 75=some 1∧A7 prog 75=some 8∧B8 prog 75=some [Value.pointer none]∧C2 prog 75=some (Value.pointer none)∧E7 prog 75=some false∧prog.underlying 75=some (TypeDesc.pointer 39):=⟨kR,kR,kR,kR,kR,kR⟩
theorem yP:z9 prog 81=some 1∧A7 prog 81=some 24∧B8 prog 81=some [nS]∧C2 prog 81=some (nS)∧E7 prog 81=some false∧I2 prog 81=some 5∧prog.underlying 81=some (TypeDesc.slice 5):=⟨kR,kR,kR,kR,kR,kR,kR⟩
theorem XY:z9 prog 83=some 1∧A7 prog 83=some 24∧B8 prog 83=some [nS]∧C2 prog 83=some (nS)∧E7 prog 83=some false∧I2 prog 83=some 4∧prog.underlying 83=some (TypeDesc.slice 4):=⟨kR,kR,kR,kR,kR,kR,kR⟩
theorem aW:z9 prog 86=some 6∧A7 prog 86=some 104∧B8 prog 86=some [iV (0),Value.string eB,Value.string eB,Value.string eB,nS,nS]∧C2 prog 86=some (Value.agg #[iV (0),Value.string eB,Value.string eB,Value.string eB,nS,nS])∧E7 prog 86=some true∧bL prog 86=some (Sum.inl [(0,1),(1,2),(3,1),(4,1),(5,1)])∧E0 prog 86 0=some (0,3)∧E0 prog 86 1=some (1,48)∧E0 prog 86 2=some (3,9)∧E0 prog 86 3=some (4,23)∧E0 prog 86 4=some (5,22):=⟨kR,kR,kR,kR,kR,kR,kR,kR,kR,kR,kR⟩
theorem mL:z9 prog 89=some 4∧A7 prog 89=some 32∧B8 prog 89=some [iV (0),iV (0),iV (0),iV (0)]∧C2 prog 89=some (Value.agg #[iV (0),iV (0),iV (0),iV (0)])∧E7 prog 89=some true∧bL prog 89=some (Sum.inl [(0,1),(1,1),(2,1),(3,1)])∧eM prog 89=some [D1.int,D1.int,D1.int,D1.int]∧eN prog 89=some [D1.int,D1.int,D1.int,D1.int]∧E0 prog 89 0=some (0,3)∧E0 prog 89 1=some (1,3)∧E0 prog 89 2=some (2,3)∧E0 prog 89 3=some (3,3):=⟨kR,kR,kR,kR,kR,kR,kR,kR,kR,kR,kR,kR⟩
theorem pJ:z9 prog 95=some 1∧A7 prog 95=some 24∧B8 prog 95=some [nS]∧C2 prog 95=some (nS)∧E7 prog 95=some false∧I2 prog 95=some 48∧prog.underlying 95=some (TypeDesc.slice 48):=⟨kR,kR,kR,kR,kR,kR,kR⟩
theorem NR:z9 prog 96=some 1∧A7 prog 96=some 24∧B8 prog 96=some [nS]∧C2 prog 96=some (nS)∧E7 prog 96=some false∧I2 prog 96=some 97∧prog.underlying 96=some (TypeDesc.slice 97):=⟨kR,kR,kR,kR,kR,kR,kR⟩
theorem aH:z9 prog 97=some 1∧A7 prog 97=some 24∧B8 prog 97=some [nS]∧C2 prog 97=some (nS)∧E7 prog 97=some false∧I2 prog 97=some 9∧prog.underlying 97=some (TypeDesc.slice 9):=⟨kR,kR,kR,kR,kR,kR,kR⟩
theorem ai1:z9 prog 99=some 4∧A7 prog 99=some 96∧B8 prog 99=some [nS,nS,nS,nS]∧C2 prog 99=some (Value.agg #[nS,nS,nS,nS])∧E7 prog 99=some true∧bL prog 99=some (Sum.inl [(0,1),(1,1),(2,1),(3,1)])∧E0 prog 99 0=some (0,95)∧E0 prog 99 1=some (1,95)∧E0 prog 99 2=some (2,96)∧E0 prog 99 3=some (3,97):=⟨kR,kR,kR,kR,kR,kR,kR,kR,kR,kR⟩
theorem XO:z9 prog 102=some 1∧A7 prog 102=some 8∧B8 prog 102=some [Value.nilFunc]∧C2 prog 102=some Value.nilFunc∧E7 prog 102=some false:=⟨kR,kR,kR,kR,kR⟩
theorem XP:z9 prog 107=some 1∧A7 prog 107=some 24∧B8 prog 107=some [nS]∧C2 prog 107=some (Value.agg #[nS])∧E7 prog 107=some true∧bL prog 107=some (Sum.inl [(0,1)])∧E0 prog 107 0=some (0,22):=⟨kR,kR,kR,kR,kR,kR,kR⟩
theorem XQ:z9 prog 115=some 4∧A7 prog 115=some 96∧B8 prog 115=some [nS,nS,nS,nS]∧C2 prog 115=some (Value.agg #[nS,nS,nS,nS])∧E7 prog 115=some true∧bL prog 115=some (Sum.inl [(0,1),(1,1),(2,1),(3,1)])∧E0 prog 115 0=some (0,95)∧E0 prog 115 1=some (1,95)∧E0 prog 115 2=some (2,96)∧E0 prog 115 3=some (3,97):=⟨kR,kR,kR,kR,kR,kR,kR,kR,kR,kR⟩
theorem XR:z9 prog 123=some 20∧A7 prog 123=some 296∧B8 prog 123=some [nS,nS,nS,iV (0),iV (0),iV (0),nS,nS,iV (0),Value.string eB,Value.string eB,nS,Value.string eB,Value.bool false,Value.bool false,Value.string eB,Value.bool false,Value.bool false,Value.string eB,nS]∧C2 prog 123=some (Value.agg #[nS,nS,nS,iV (0),iV (0),iV (0),nS,nS,iV (0),Value.string eB,Value.string eB,nS,Value.string eB,Value.bool false,Value.bool false,Value.string eB,Value.bool false,Value.bool false,Value.string eB,nS])∧E7 prog 123=some true∧bL prog 123=some (Sum.inl [(0,8),(8,5),(13,3),(16,3),(19,1)])∧E0 prog 123 0=some (0,34)∧E0 prog 123 1=some (8,51)∧E0 prog 123 2=some (13,59)∧E0 prog 123 3=some (16,59)∧E0 prog 123 4=some (19,81):=⟨kR,kR,kR,kR,kR,kR,kR,kR,kR,kR,kR⟩
theorem XS:z9 prog 130=some 4∧A7 prog 130=some 96∧B8 prog 130=some [nS,nS,nS,nS]∧C2 prog 130=some (Value.agg #[nS,nS,nS,nS])∧E7 prog 130=some true∧bL prog 130=some (Sum.inl [(0,4)])∧E0 prog 130 0=some (0,99):=⟨kR,kR,kR,kR,kR,kR,kR⟩
theorem XT:z9 prog 135=some 5∧A7 prog 135=some 72∧B8 prog 135=some [iV (0),iV (0),iV (0),nS,nS]∧C2 prog 135=some (Value.agg #[iV (0),iV (0),iV (0),nS,nS])∧E7 prog 135=some true∧bL prog 135=some (Sum.inl [(0,5)])∧E0 prog 135 0=some (0,32):=⟨kR,kR,kR,kR,kR,kR,kR⟩
theorem XU:z9 prog 144=some 7∧A7 prog 144=some 88∧B8 prog 144=some [iV (0),iV (0),iV (0),nS,nS,iV (0),iV (0)]∧C2 prog 144=some (Value.agg #[iV (0),iV (0),iV (0),nS,nS,iV (0),iV (0)])∧E7 prog 144=some true∧bL prog 144=some (Sum.inl [(0,5),(5,1),(6,1)])∧E0 prog 144 0=some (0,32)∧E0 prog 144 1=some (5,3)∧E0 prog 144 2=some (6,3):=⟨kR,kR,kR,kR,kR,kR,kR,kR,kR⟩
theorem Cm:z9 prog 150=some 1∧A7 prog 150=some 24∧B8 prog 150=some [nS]∧C2 prog 150=some (nS)∧E7 prog 150=some false∧I2 prog 150=some 21∧prog.underlying 150=some (TypeDesc.slice 21):=⟨kR,kR,kR,kR,kR,kR,kR⟩
theorem XV:z9 prog 169=some 14∧A7 prog 169=some 248∧B8 prog 169=some [nS,nS,nS,iV (0),iV (0),iV (0),nS,nS,iV (0),Value.string eB,Value.string eB,nS,Value.string eB,nS]∧C2 prog 169=some (Value.agg #[nS,nS,nS,iV (0),iV (0),iV (0),nS,nS,iV (0),Value.string eB,Value.string eB,nS,Value.string eB,nS])∧E7 prog 169=some true∧bL prog 169=some (Sum.inl [(0,8),(8,5),(13,1)])∧E0 prog 169 0=some (0,34)∧E0 prog 169 1=some (8,51)∧E0 prog 169 2=some (13,81):=⟨kR,kR,kR,kR,kR,kR,kR,kR,kR⟩
theorem anB:ai2 (aI @List.any_cons.{0} @List.any_nil.{0}):=stOf _
theorem tyA:ai2 (aI (aI (aI (aI (aI @ty3 @ty4) (aI @ty5 (aI @ty9 @Cn))) (aI (aI @jL @pI) (aI @X8 (aI @NP @yL)))) (aI (aI (aI @Fp @mK) (aI @ah9 (aI @uT @NQ))) (aI (aI @XW @ai0) (aI @cr (aI @yM @aG))))) (aI (aI (aI (aI @ik @yN) (aI @yO (aI @XX @yP))) (aI (aI @XY @aW) (aI @mL (aI @pJ @NR)))) (aI (aI (aI @aH @ai1) (aI @XO (aI @XP @XQ))) (aI (aI @XR (aI @XS @XT)) (aI @XU (aI @Cm @XV)))))):=stOf _
theorem J1{a p q:Prop}(a':a)(K:q)(Z:a→q→p:=by intro a;simp(maxSteps:=20000000) -dsimp (disch:=first|omega|(simp only[rH]<;>omega)|fail) only[↓ai3,rQ,D8,sevalprocAttr,tyA,a]<;>exact id):p:=Z a' K
theorem J2{a b p q:Prop}(a':a)(b':b)(K:q)(Z:a→b→q→p:=by intro a b;simp(maxSteps:=20000000) -dsimp (disch:=first|omega|(simp only[rH]<;>omega)|fail) only[↓ai3,rQ,D8,sevalprocAttr,tyA,a,b]<;>exact id):p:=Z a' b' K
theorem J3{a b c p q:Prop}(a':a)(b':b)(c':c)(K:q)(Z:a→b→c→q→p:=by intro a b c;simp(maxSteps:=20000000) -dsimp (disch:=first|omega|(simp only[rH]<;>omega)|fail) only[↓ai3,rQ,D8,sevalprocAttr,tyA,a,b,c]<;>exact id):p:=Z a' b' c' K
theorem J4{a b c d p q:Prop}(a':a)(b':b)(c':c)(d':d)(K:q)(Z:a→b→c→d→q→p:=by intro a b c d;simp(maxSteps:=20000000) -dsimp (disch:=first|omega|(simp only[rH]<;>omega)|fail) only[↓ai3,rQ,D8,sevalprocAttr,tyA,a,b,c,d]<;>exact id):p:=Z a' b' c' d' K
theorem J5{a b c d e p q:Prop}(a':a)(b':b)(c':c)(d':d)(e':e)(K:q)(Z:a→b→c→d→e→q→p:=by intro a b c d e;simp(maxSteps:=20000000) -dsimp (disch:=first|omega|(simp only[rH]<;>omega)|fail) only[↓ai3,rQ,D8,sevalprocAttr,tyA,a,b,c,d,e]<;>exact id):p:=Z a' b' c' d' e' K
theorem J6{a b c d e f p q:Prop}(a':a)(b':b)(c':c)(d':d)(e':e)(f':f)(K:q)(Z:a→b→c→d→e→f→q→p:=by intro a b c d e f;simp(maxSteps:=20000000) -dsimp (disch:=first|omega|(simp only[rH]<;>omega)|fail) only[↓ai3,rQ,D8,sevalprocAttr,tyA,a,b,c,d,e,f]<;>exact id):p:=Z a' b' c' d' e' f' K
theorem J7{a b c d e f g p q:Prop}(a':a)(b':b)(c':c)(d':d)(e':e)(f':f)(g':g)(K:q)(Z:a→b→c→d→e→f→g→q→p:=by intro a b c d e f g;simp(maxSteps:=20000000) -dsimp (disch:=first|omega|(simp only[rH]<;>omega)|fail) only[↓ai3,rQ,D8,sevalprocAttr,tyA,a,b,c,d,e,f,g]<;>exact id):p:=Z a' b' c' d' e' f' g' K
theorem J8{a b c d e f g h p q:Prop}(a':a)(b':b)(c':c)(d':d)(e':e)(f':f)(g':g)(h':h)(K:q)(Z:a→b→c→d→e→f→g→h→q→p:=by intro a b c d e f g h;simp(maxSteps:=20000000) -dsimp (disch:=first|omega|(simp only[rH]<;>omega)|fail) only[↓ai3,rQ,D8,sevalprocAttr,tyA,a,b,c,d,e,f,g,h]<;>exact id):p:=Z a' b' c' d' e' f' g' h' K
theorem J9{a b c d e f g h i p q:Prop}(a':a)(b':b)(c':c)(d':d)(e':e)(f':f)(g':g)(h':h)(i':i)(K:q)(Z:a→b→c→d→e→f→g→h→i→q→p:=by intro a b c d e f g h i;simp(maxSteps:=20000000) -dsimp (disch:=first|omega|(simp only[rH]<;>omega)|fail) only[↓ai3,rQ,D8,sevalprocAttr,tyA,a,b,c,d,e,f,g,h,i]<;>exact id):p:=Z a' b' c' d' e' f' g' h' i' K
theorem J10{a b c d e f g h i j p q:Prop}(a':a)(b':b)(c':c)(d':d)(e':e)(f':f)(g':g)(h':h)(i':i)(j':j)(K:q)(Z:a→b→c→d→e→f→g→h→i→j→q→p:=by intro a b c d e f g h i j;simp(maxSteps:=20000000) -dsimp (disch:=first|omega|(simp only[rH]<;>omega)|fail) only[↓ai3,rQ,D8,sevalprocAttr,tyA,a,b,c,d,e,f,g,h,i,j]<;>exact id):p:=Z a' b' c' d' e' f' g' h' i' j' K
theorem J11{a b c d e f g h i j k p q:Prop}(a':a)(b':b)(c':c)(d':d)(e':e)(f':f)(g':g)(h':h)(i':i)(j':j)(k':k)(K:q)(Z:a→b→c→d→e→f→g→h→i→j→k→q→p:=by intro a b c d e f g h i j k;simp(maxSteps:=20000000) -dsimp (disch:=first|omega|(simp only[rH]<;>omega)|fail) only[↓ai3,rQ,D8,sevalprocAttr,tyA,a,b,c,d,e,f,g,h,i,j,k]<;>exact id):p:=Z a' b' c' d' e' f' g' h' i' j' k' K
theorem J12{a b c d e f g h i j k l p q:Prop}(a':a)(b':b)(c':c)(d':d)(e':e)(f':f)(g':g)(h':h)(i':i)(j':j)(k':k)(l':l)(K:q)(Z:a→b→c→d→e→f→g→h→i→j→k→l→q→p:=by intro a b c d e f g h i j k l;simp(maxSteps:=20000000) -dsimp (disch:=first|omega|(simp only[rH]<;>omega)|fail) only[↓ai3,rQ,D8,sevalprocAttr,tyA,a,b,c,d,e,f,g,h,i,j,k,l]<;>exact id):p:=Z a' b' c' d' e' f' g' h' i' j' k' l' K
theorem J13{a b c d e f g h i j k l m p q:Prop}(a':a)(b':b)(c':c)(d':d)(e':e)(f':f)(g':g)(h':h)(i':i)(j':j)(k':k)(l':l)(m':m)(K:q)(Z:a→b→c→d→e→f→g→h→i→j→k→l→m→q→p:=by intro a b c d e f g h i j k l m;simp(maxSteps:=20000000) -dsimp (disch:=first|omega|(simp only[rH]<;>omega)|fail) only[↓ai3,rQ,D8,sevalprocAttr,tyA,a,b,c,d,e,f,g,h,i,j,k,l,m]<;>exact id):p:=Z a' b' c' d' e' f' g' h' i' j' k' l' m' K
theorem J14{a b c d e f g h i j k l m n p q:Prop}(a':a)(b':b)(c':c)(d':d)(e':e)(f':f)(g':g)(h':h)(i':i)(j':j)(k':k)(l':l)(m':m)(n':n)(K:q)(Z:a→b→c→d→e→f→g→h→i→j→k→l→m→n→q→p:=by intro a b c d e f g h i j k l m n;simp(maxSteps:=20000000) -dsimp (disch:=first|omega|(simp only[rH]<;>omega)|fail) only[↓ai3,rQ,D8,sevalprocAttr,tyA,a,b,c,d,e,f,g,h,i,j,k,l,m,n]<;>exact id):p:=Z a' b' c' d' e' f' g' h' i' j' k' l' m' n' K
theorem J15{a b c d e f g h i j k l m n o p q:Prop}(a':a)(b':b)(c':c)(d':d)(e':e)(f':f)(g':g)(h':h)(i':i)(j':j)(k':k)(l':l)(m':m)(n':n)(o':o)(K:q)(Z:a→b→c→d→e→f→g→h→i→j→k→l→m→n→o→q→p:=by intro a b c d e f g h i j k l m n o;simp(maxSteps:=20000000) -dsimp (disch:=first|omega|(simp only[rH]<;>omega)|fail) only[↓ai3,rQ,D8,sevalprocAttr,tyA,a,b,c,d,e,f,g,h,i,j,k,l,m,n,o]<;>exact id):p:=Z a' b' c' d' e' f' g' h' i' j' k' l' m' n' o' K
theorem J16{a b c d e f g h i j k l m n o r p q:Prop}(a':a)(b':b)(c':c)(d':d)(e':e)(f':f)(g':g)(h':h)(i':i)(j':j)(k':k)(l':l)(m':m)(n':n)(o':o)(r':r)(K:q)(Z:a→b→c→d→e→f→g→h→i→j→k→l→m→n→o→r→q→p:=by intro a b c d e f g h i j k l m n o r;simp(maxSteps:=20000000) -dsimp (disch:=first|omega|(simp only[rH]<;>omega)|fail) only[↓ai3,rQ,D8,sevalprocAttr,tyA,a,b,c,d,e,f,g,h,i,j,k,l,m,n,o,r]<;>exact id):p:=Z a' b' c' d' e' f' g' h' i' j' k' l' m' n' o' r' K
theorem J17{a b c d e f g h i j k l m n o r s p q:Prop}(a':a)(b':b)(c':c)(d':d)(e':e)(f':f)(g':g)(h':h)(i':i)(j':j)(k':k)(l':l)(m':m)(n':n)(o':o)(r':r)(s':s)(K:q)(Z:a→b→c→d→e→f→g→h→i→j→k→l→m→n→o→r→s→q→p:=by intro a b c d e f g h i j k l m n o r s;simp(maxSteps:=20000000) -dsimp (disch:=first|omega|(simp only[rH]<;>omega)|fail) only[↓ai3,rQ,D8,sevalprocAttr,tyA,a,b,c,d,e,f,g,h,i,j,k,l,m,n,o,r,s]<;>exact id):p:=Z a' b' c' d' e' f' g' h' i' j' k' l' m' n' o' r' s' K
theorem J18{a b c d e f g h i j k l m n o r s t p q:Prop}(a':a)(b':b)(c':c)(d':d)(e':e)(f':f)(g':g)(h':h)(i':i)(j':j)(k':k)(l':l)(m':m)(n':n)(o':o)(r':r)(s':s)(t':t)(K:q)(Z:a→b→c→d→e→f→g→h→i→j→k→l→m→n→o→r→s→t→q→p:=by intro a b c d e f g h i j k l m n o r s t;simp(maxSteps:=20000000) -dsimp (disch:=first|omega|(simp only[rH]<;>omega)|fail) only[↓ai3,rQ,D8,sevalprocAttr,tyA,a,b,c,d,e,f,g,h,i,j,k,l,m,n,o,r,s,t]<;>exact id):p:=Z a' b' c' d' e' f' g' h' i' j' k' l' m' n' o' r' s' t' K
theorem J19{a b c d e f g h i j k l m n o r s t u p q:Prop}(a':a)(b':b)(c':c)(d':d)(e':e)(f':f)(g':g)(h':h)(i':i)(j':j)(k':k)(l':l)(m':m)(n':n)(o':o)(r':r)(s':s)(t':t)(u':u)(K:q)(Z:a→b→c→d→e→f→g→h→i→j→k→l→m→n→o→r→s→t→u→q→p:=by intro a b c d e f g h i j k l m n o r s t u;simp(maxSteps:=20000000) -dsimp (disch:=first|omega|(simp only[rH]<;>omega)|fail) only[↓ai3,rQ,D8,sevalprocAttr,tyA,a,b,c,d,e,f,g,h,i,j,k,l,m,n,o,r,s,t,u]<;>exact id):p:=Z a' b' c' d' e' f' g' h' i' j' k' l' m' n' o' r' s' t' u' K
theorem J20{a b c d e f g h i j k l m n o r s t u v p q:Prop}(a':a)(b':b)(c':c)(d':d)(e':e)(f':f)(g':g)(h':h)(i':i)(j':j)(k':k)(l':l)(m':m)(n':n)(o':o)(r':r)(s':s)(t':t)(u':u)(v':v)(K:q)(Z:a→b→c→d→e→f→g→h→i→j→k→l→m→n→o→r→s→t→u→v→q→p:=by intro a b c d e f g h i j k l m n o r s t u v;simp(maxSteps:=20000000) -dsimp (disch:=first|omega|(simp only[rH]<;>omega)|fail) only[↓ai3,rQ,D8,sevalprocAttr,tyA,a,b,c,d,e,f,g,h,i,j,k,l,m,n,o,r,s,t,u,v]<;>exact id):p:=Z a' b' c' d' e' f' g' h' i' j' k' l' m' n' o' r' s' t' u' v' K
theorem J21{a b c d e f g h i j k l m n o r s t u v w p q:Prop}(a':a)(b':b)(c':c)(d':d)(e':e)(f':f)(g':g)(h':h)(i':i)(j':j)(k':k)(l':l)(m':m)(n':n)(o':o)(r':r)(s':s)(t':t)(u':u)(v':v)(w':w)(K:q)(Z:a→b→c→d→e→f→g→h→i→j→k→l→m→n→o→r→s→t→u→v→w→q→p:=by intro a b c d e f g h i j k l m n o r s t u v w;simp(maxSteps:=20000000) -dsimp (disch:=first|omega|(simp only[rH]<;>omega)|fail) only[↓ai3,rQ,D8,sevalprocAttr,tyA,a,b,c,d,e,f,g,h,i,j,k,l,m,n,o,r,s,t,u,v,w]<;>exact id):p:=Z a' b' c' d' e' f' g' h' i' j' k' l' m' n' o' r' s' t' u' v' w' K
theorem J23{a b c d e f g h i j k l m n o r s t u v w x y p q:Prop}(a':a)(b':b)(c':c)(d':d)(e':e)(f':f)(g':g)(h':h)(i':i)(j':j)(k':k)(l':l)(m':m)(n':n)(o':o)(r':r)(s':s)(t':t)(u':u)(v':v)(w':w)(x':x)(y':y)(K:q)(Z:a→b→c→d→e→f→g→h→i→j→k→l→m→n→o→r→s→t→u→v→w→x→y→q→p:=by intro a b c d e f g h i j k l m n o r s t u v w x y;simp(maxSteps:=20000000) -dsimp (disch:=first|omega|(simp only[rH]<;>omega)|fail) only[↓ai3,rQ,D8,sevalprocAttr,tyA,a,b,c,d,e,f,g,h,i,j,k,l,m,n,o,r,s,t,u,v,w,x,y]<;>exact id):p:=Z a' b' c' d' e' f' g' h' i' j' k' l' m' n' o' r' s' t' u' v' w' x' y' K
theorem J24{a b c d e f g h i j k l m n o r s t u v w x y z p q:Prop}(a':a)(b':b)(c':c)(d':d)(e':e)(f':f)(g':g)(h':h)(i':i)(j':j)(k':k)(l':l)(m':m)(n':n)(o':o)(r':r)(s':s)(t':t)(u':u)(v':v)(w':w)(x':x)(y':y)(z':z)(K:q)(Z:a→b→c→d→e→f→g→h→i→j→k→l→m→n→o→r→s→t→u→v→w→x→y→z→q→p:=by intro a b c d e f g h i j k l m n o r s t u v w x y z;simp(maxSteps:=20000000) -dsimp (disch:=first|omega|(simp only[rH]<;>omega)|fail) only[↓ai3,rQ,D8,sevalprocAttr,tyA,a,b,c,d,e,f,g,h,i,j,k,l,m,n,o,r,s,t,u,v,w,x,y,z]<;>exact id):p:=Z a' b' c' d' e' f' g' h' i' j' k' l' m' n' o' r' s' t' u' v' w' x' y' z' K
theorem J25{a b c d e f g h i j k l m n o r s t u v w x y z a1 p q:Prop}(a':a)(b':b)(c':c)(d':d)(e':e)(f':f)(g':g)(h':h)(i':i)(j':j)(k':k)(l':l)(m':m)(n':n)(o':o)(r':r)(s':s)(t':t)(u':u)(v':v)(w':w)(x':x)(y':y)(z':z)(a1':a1)(K:q)(Z:a→b→c→d→e→f→g→h→i→j→k→l→m→n→o→r→s→t→u→v→w→x→y→z→a1→q→p:=by intro a b c d e f g h i j k l m n o r s t u v w x y z a1;simp(maxSteps:=20000000) -dsimp (disch:=first|omega|(simp only[rH]<;>omega)|fail) only[↓ai3,rQ,D8,sevalprocAttr,tyA,a,b,c,d,e,f,g,h,i,j,k,l,m,n,o,r,s,t,u,v,w,x,y,z,a1]<;>exact id):p:=Z a' b' c' d' e' f' g' h' i' j' k' l' m' n' o' r' s' t' u' v' w' x' y' z' a1' K
theorem J26{a b c d e f g h i j k l m n o r s t u v w x y z a1 b1 p q:Prop}(a':a)(b':b)(c':c)(d':d)(e':e)(f':f)(g':g)(h':h)(i':i)(j':j)(k':k)(l':l)(m':m)(n':n)(o':o)(r':r)(s':s)(t':t)(u':u)(v':v)(w':w)(x':x)(y':y)(z':z)(a1':a1)(b1':b1)(K:q)(Z:a→b→c→d→e→f→g→h→i→j→k→l→m→n→o→r→s→t→u→v→w→x→y→z→a1→b1→q→p:=by intro a b c d e f g h i j k l m n o r s t u v w x y z a1 b1;simp(maxSteps:=20000000) -dsimp (disch:=first|omega|(simp only[rH]<;>omega)|fail) only[↓ai3,rQ,D8,sevalprocAttr,tyA,a,b,c,d,e,f,g,h,i,j,k,l,m,n,o,r,s,t,u,v,w,x,y,z,a1,b1]<;>exact id):p:=Z a' b' c' d' e' f' g' h' i' j' k' l' m' n' o' r' s' t' u' v' w' x' y' z' a1' b1' K
theorem J27{a b c d e f g h i j k l m n o r s t u v w x y z a1 b1 c1 p q:Prop}(a':a)(b':b)(c':c)(d':d)(e':e)(f':f)(g':g)(h':h)(i':i)(j':j)(k':k)(l':l)(m':m)(n':n)(o':o)(r':r)(s':s)(t':t)(u':u)(v':v)(w':w)(x':x)(y':y)(z':z)(a1':a1)(b1':b1)(c1':c1)(K:q)(Z:a→b→c→d→e→f→g→h→i→j→k→l→m→n→o→r→s→t→u→v→w→x→y→z→a1→b1→c1→q→p:=by intro a b c d e f g h i j k l m n o r s t u v w x y z a1 b1 c1;simp(maxSteps:=20000000) -dsimp (disch:=first|omega|(simp only[rH]<;>omega)|fail) only[↓ai3,rQ,D8,sevalprocAttr,tyA,a,b,c,d,e,f,g,h,i,j,k,l,m,n,o,r,s,t,u,v,w,x,y,z,a1,b1,c1]<;>exact id):p:=Z a' b' c' d' e' f' g' h' i' j' k' l' m' n' o' r' s' t' u' v' w' x' y' z' a1' b1' c1' K
theorem J30{a b c d e f g h i j k l m n o r s t u v w x y z a1 b1 c1 d1 e1 f1 p q:Prop}(a':a)(b':b)(c':c)(d':d)(e':e)(f':f)(g':g)(h':h)(i':i)(j':j)(k':k)(l':l)(m':m)(n':n)(o':o)(r':r)(s':s)(t':t)(u':u)(v':v)(w':w)(x':x)(y':y)(z':z)(a1':a1)(b1':b1)(c1':c1)(d1':d1)(e1':e1)(f1':f1)(K:q)(Z:a→b→c→d→e→f→g→h→i→j→k→l→m→n→o→r→s→t→u→v→w→x→y→z→a1→b1→c1→d1→e1→f1→q→p:=by intro a b c d e f g h i j k l m n o r s t u v w x y z a1 b1 c1 d1 e1 f1;simp(maxSteps:=20000000) -dsimp (disch:=first|omega|(simp only[rH]<;>omega)|fail) only[↓ai3,rQ,D8,sevalprocAttr,tyA,a,b,c,d,e,f,g,h,i,j,k,l,m,n,o,r,s,t,u,v,w,x,y,z,a1,b1,c1,d1,e1,f1]<;>exact id):p:=Z a' b' c' d' e' f' g' h' i' j' k' l' m' n' o' r' s' t' u' v' w' x' y' z' a1' b1' c1' d1' e1' f1' K
theorem pushE(H:d9)(B:Blk):∃K,K=H.push B∧K.next=H.next+1∧K.get H.next=some B:=⟨_,rfl,by rw[i5],i7⟩
theorem pushF(H:d9)(B:Blk):∃K,K=d9.push ⟨H.bs,H.next⟩ B∧K.next=H.next+1∧K.get H.next=some B:=⟨_,rfl,by rw[i5];rfl,i7⟩
abbrev cE(c:LV)(n:Nat):Option Blk:=some (.cells c true n)
def t6:Lib:=fun _=>none
def inSpans(r:Int)(l:List (Int×Int)):Bool:=l.any fun s=>decide (s.1≤r)&&decide (r≤s.2)
def km(r:Int):Bool:=decide (r=9)||decide (r=10)||decide (r=13)||decide (r=32)
def mW:List (Int×Int):=[(0x20,0xd7ff),(0xe000,0xfffd),(0x10000,0x10ffff)]
def lW:List (Int×Int):=[(65,90),(97,122),(95,95),(0xc0,0xd6),(0xd8,0xf6),(0xf8,0x2ff),(0x370,0x37d),(0x37f,0x1fff),(0x200c,0x200d),(0x2070,0x218f),(0x2c00,0x2fef),(0x3001,0xd7ff),(0xf900,0xfdcf),(0xfdf0,0xfffd),(0x10000,0xeffff)]
def nN:List (Int×Int):=[(45,46),(48,57),(0xb7,0xb7),(0x300,0x36f),(0x203f,0x2040)]
def iZ(r:Int):Bool:=km r||inSpans r mW
def dR(r:Int):Bool:=inSpans r lW
def gi(r:Int):Bool:=dR r||inSpans r nN
def oo(v:Int)(tails:Int):Int×Int:=
 (IntKind.wrap .i32 (v*2 ^ min (6*tails).toNat 32),Go.bits .or .i32 (IntKind.wrap .i32 (v*2 ^ min (6*tails).toNat 32)) (IntKind.wrap .i32 (IntKind.wrap .i32 (1*2 ^ min (6*tails).toNat 32)-1)))
def Z0(s:ByteArray)(at_ n:Nat):Nat→Int→Nat→Int×Nat
 |0,v,h=>(v,h)
 |k+1,v,h=>
  if at_+h<s.size∧Go.bits .and .u8 (x9 s (at_+h)) 192=128 then
   Z0 s at_ n k (Go.bits .or .i32 (IntKind.wrap .i32 (v*2 ^ min (Int.toNat 6) 32)) (IntKind.wrap .i32 (Go.bits .and .u8 (x9 s (at_+h)) 63))) (h+1)
  else(v,h)
def pK(s:ByteArray)(at_ n:Nat)(least v:Int)(h:Nat):Int×Int×Int:=
 if(oo v (n+1-h)).2<least∨1114111<(oo v (n+1-h)).1∨(55296≤(oo v (n+1-h)).1∧(oo v (n+1-h)).2≤57343) then(0,0,2)
 else if h=n+1 then(v,h,0) else if at_+h=s.size then(0,0,7) else(0,0,2)
def X5:Nat→Int×Int×Int
 |0=>(128,0,0)
 |1=>(224,192,128)
 |2=>(240,224,2048)
 |_=>(248,240,65536)
def T6(s:ByteArray)(at_:Nat):Nat→Nat→Int×Int×Int
 |0,_=>(0,0,2)
 |k+1,i=>
  if Go.bits .and .u8 (x9 s at_) (X5 i).1=(X5 i).2.1 then
   pK s at_ i (X5 i).2.2 (Z0 s at_ i i (IntKind.wrap .i32 (Go.bits .andNot .u8 (x9 s at_) (X5 i).1)) 1).1 (Z0 s at_ i i (IntKind.wrap .i32 (Go.bits .andNot .u8 (x9 s at_) (X5 i).1)) 1).2
  else T6 s at_ k (i+1)
def bM(s:ByteArray)(at_:Nat):Int×Int×Int:=if at_<s.size then T6 s at_ 4 0 else(0,0,7)
theorem Cq(s:ByteArray)(at_ n:Nat):∀k v h,at_+h≤s.size→h≤(Z0 s at_ n k v h).2∧at_+(Z0 s at_ n k v h).2≤s.size:=by
 intro k;induction k with
 |zero=>intro v h hh;exact⟨lR,hh⟩
 |succ k ih=>
  intro v h hh;rw[Z0];split
  ·rename_i c;have:=ih (Go.bits .or .i32 (IntKind.wrap .i32 (v*2 ^ min (Int.toNat 6) 32)) (IntKind.wrap .i32 (Go.bits .and .u8 (x9 s (at_+h)) 63))) (h+1) oM;exact⟨oM,this.2⟩
  ·exact⟨lR,hh⟩
theorem Cp(s:ByteArray)(at_:Nat)(ha:at_<s.size):∀k i,(T6 s at_ k i).2.2=0→∃h:Nat,(T6 s at_ k i).2.1=h∧1≤h∧at_+h≤s.size:=by
 intro k;induction k with
 |zero=>intro i h;exact absurd h (by simp [T6])
 |succ k ih=>
  intro i h;rw[T6]at h ⊢;split at h
  ·rename_i c;rw[if_pos c];have hm:=Cq s at_ i i (IntKind.wrap .i32 (Go.bits .andNot .u8 (x9 s at_) (X5 i).1)) 1 oM;rw[pK]at h ⊢;split at h
   ·exact absurd h (by simp)
   ·rename_i c1;rw[if_neg c1];split at h
    ·rename_i c2;rw[if_pos c2];exact⟨_,rfl,hm.1,hm.2⟩
    ·split at h<;>exact absurd h (by simp)
  ·rename_i c;rw[if_neg c];exact ih (i+1) h
theorem Cr(s:ByteArray)(at_:Nat)(h:(bM s at_).2.2=0):∃n:Nat,(bM s at_).2.1=n∧1≤n∧at_+n≤s.size:=by
 rw[bM]at h ⊢;split at h
 ·rename_i c;rw[if_pos c];exact Cp s at_ c _ _ h
 ·exact absurd h (by simp)
def yQ(s:ByteArray)(at_:Nat):Int:=
 if h:at_<s.size then
  if h2:(bM s at_).2.2=0 then yQ s (at_+(bM s at_).2.1.toNat) else(bM s at_).2.2
 else 0
termination_by s.size-at_
decreasing_by
 obtain⟨n,h3,h4,h5⟩:=Cr s at_ h2;rw[h3];simp only[Int.toNat_natCast];omega
def zD(f:Int→Bool)(s:ByteArray)(at_:Nat):Bool:=
 if h:at_<s.size then if f (Utf8.decode s at_).1 then zD f s (at_+(Utf8.decode s at_).2) else false else true
termination_by s.size-at_
decreasing_by have:=U8 s at_;omega
def im(s:ByteArray):Bool:=decide (yQ s 0=0)&&zD iZ s 0
def lu(s:ByteArray)(at_:Nat):Bool:=
 if h:at_<s.size then if(decide (at_=0)&& !dR (Utf8.decode s at_).1)|| !gi (Utf8.decode s at_).1 then false else lu s (at_+(Utf8.decode s at_).2) else true
termination_by s.size-at_
decreasing_by have:=U8 s at_;omega
def mg(s:ByteArray):Bool:=lu s 0&& !decide (s=eB)
structure AtD where
 space:ByteArray
 loc:ByteArray
 val:ByteArray
def AtR(cs:LV)(a:AtD):Prop:=cs=[.string a.space,.string a.loc,.string a.val]∧a.space.size≤1048576∧a.loc.size≤1048576∧a.val.size≤1048576
structure EvD where
 kind:Int
 space:ByteArray
 loc:ByteArray
 attrs:List AtD
 text:ByteArray
def EvR(H:d9)(lo:Nat)(cs:LV)(e:EvD):Prop:=
 ∃v,cs=[iV e.kind,.string e.space,.string e.loc,v,.string e.text]∧SlI H lo 3 AtR v e.attrs∧e.space.size≤1048576∧e.loc.size≤1048576∧e.text.size≤1048576∧e.attrs.length≤1048576
theorem EvR.mono{H H':d9}{lo lo':Nat}(hg:∀j,j<lo→H'.get j=H.get j) (hlo:lo≤lo') {cs:LV} {e:EvD} (h:EvR H lo cs e):EvR H' lo' cs e:=by
 obtain⟨v,h1,h2,h3⟩:=h;exact⟨v,h1,h2.mono hg hlo iF,h3⟩
abbrev GS(H:d9)(lo:Nat)(v:Value)(l:List EvD):Prop:=SlI H lo 5 (EvR H lo) v l
theorem GS.mono{H H':d9}{lo lo':Nat}{v:Value}{l:List EvD}(h:GS H lo v l)(hg:∀j,j<lo→H'.get j=H.get j) (hlo:lo≤lo'):GS H' lo' v l:=
 SlI.mono h hg hlo fun _ _ q=>q.mono hg hlo
theorem eS{α:Type}{l:List α}{i:Nat}(hi:i<l.length):∃a,l[i]?=some a∧l.drop i=a::l.drop (i+1):=
 ⟨l[i],List.getElem?_eq_getElem hi,List.drop_eq_getElem_cons hi⟩
inductive Q where
 |mk (op:Int) (sp lc vl:ByteArray) (a b:List Q)
namespace Q
def op:Q→Int| .mk o _ _ _ _ _=>o
def sp:Q→ByteArray| .mk _ s _ _ _ _=>s
def lc:Q→ByteArray| .mk _ _ c _ _ _=>c
def vl:Q→ByteArray| .mk _ _ _ v _ _=>v
def a:Q→List Q| .mk _ _ _ _ a _=>a
def b:Q→List Q| .mk _ _ _ _ _ b=>b
end Q
def qSz(f:Bool):Nat:=if f then 6 else 3
def QR(H:d9)(lo:Nat):Nat→Bool→LV→Q→Prop
 |0,_,_,_=>False
 |k+1,f,cs,q=>∃v w,cs=(if f then [iV q.op,.string q.sp,.string q.lc,.string q.vl,v,w] else [iV q.op,v,w])∧
   SlI H lo (qSz f) (QR H lo k f) v q.a∧SlI H lo (qSz !f) (QR H lo k !f) w q.b∧q.a.length≤1048576∧q.b.length≤1048576∧q.sp.size≤1048576∧q.lc.size≤1048576∧q.vl.size≤1048576∧(f=false→q.sp=eB∧q.lc=eB∧q.vl=eB)
theorem QR.mono{H H':d9}{lo lo':Nat}(hg:∀j,j<lo→H'.get j=H.get j) (hlo:lo≤lo'):∀{k:Nat}{f:Bool}{cs:LV}{q:Q},QR H lo k f cs q→QR H' lo' k f cs q:=by
 intro k;induction k with
 |zero=>intro f cs q h;exact h.elim
 |succ k ih=>
  intro f cs q h;obtain⟨v,w,h1,h2,h3,h4⟩:=h;exact⟨v,w,h1,h2.mono hg hlo (fun _ _ h=>ih h),h3.mono hg hlo (fun _ _ h=>ih h),h4⟩
theorem QR.len{H:d9}{lo k:Nat}{f:Bool}{cs:LV}{q:Q}(h:QR H lo k f cs q):cs.length=qSz f:=by
 cases k with
 |zero=>exact h.elim
 |succ k=>obtain⟨v,w,rfl,_⟩:=h;cases f<;>rfl
theorem QR.stay{H H':d9}{lo:Nat}(hS:i4 lo H H'){k:Nat}{f:Bool}{cs:LV}{q:Q}(h:QR H lo k f cs q):QR H' lo k f cs q:=h.mono (fun j hj=>hS.get j hj) lR
theorem QR.plain{H:d9}{lo k:Nat}{f:Bool}{cs:LV}{q:Q}(h:QR H lo k f cs q)(hf:f=false):q.sp=eB∧q.lc=eB∧q.vl=eB:=by
 cases k with
 |zero=>exact h.elim
 |succ k=>obtain⟨v,w,h1,h2,h3,h4,h5,h6,h7,h8,h9⟩:=h;exact h9 hf
abbrev QsR(H:d9)(lo k:Nat)(f:Bool)(v:Value)(l:List Q):Prop:=SlI H lo (qSz f) (QR H lo k f) v l
theorem QsR.mono{H H':d9}{lo lo' k:Nat}{f:Bool}{v:Value}{l:List Q}(h:QsR H lo k f v l)(hg:∀j,j<lo→H'.get j=H.get j) (hlo:lo≤lo'):QsR H' lo' k f v l:=SlI.mono h hg hlo (fun _ _ h=>h.mono hg hlo)
theorem QR.path{H:d9}{lo k:Nat}{cs:LV}{q:Q}(h:QR H lo (k+1) false cs q):∃va ca wa ca',cs=[iV q.op,.slice va q.a.length ca,.slice wa q.b.length ca']∧QsR H lo k false (.slice va q.a.length ca) q.a∧QsR H lo k true (.slice wa q.b.length ca') q.b∧q.a.length≤1048576∧q.b.length≤1048576:=by
 obtain⟨v,w,h1,h2,h3,h4,h5,_⟩:=h;obtain⟨va,ca,rfl⟩:=h2.slice;obtain⟨wa,ca',rfl⟩:=h3.slice;exact⟨va,ca,wa,ca',h1,h2,h3,h4,h5⟩
theorem QR.filter{H:d9}{lo k:Nat}{cs:LV}{q:Q}(h:QR H lo (k+1) true cs q):∃va ca wa ca',cs=[iV q.op,.string q.sp,.string q.lc,.string q.vl,.slice va q.a.length ca,.slice wa q.b.length ca']∧QsR H lo k true (.slice va q.a.length ca) q.a∧QsR H lo k false (.slice wa q.b.length ca') q.b∧q.a.length≤1048576∧q.b.length≤1048576∧q.sp.size≤1048576∧q.lc.size≤1048576∧q.vl.size≤1048576:=by
 obtain⟨v,w,h1,h2,h3,h4,h5,h6,h7,h8,_⟩:=h;obtain⟨va,ca,rfl⟩:=h2.slice;obtain⟨wa,ca',rfl⟩:=h3.slice;exact⟨va,ca,wa,ca',h1,h2,h3,h4,h5,h6,h7,h8⟩
theorem QsR.row{H:d9}{lo k:Nat}{f:Bool}{va:Option Addr}{n ca:Nat}{l:List Q}(h:QsR H lo k f (.slice va n ca) l){i:Nat}(hi:i<l.length):
  ∃x b o cs own el,l[i]?=some x∧l.drop i=x::l.drop (i+1)∧va=some ⟨b,o,none⟩∧b<lo∧H.get b=some (.cells cs own (qSz f))∧o+i*qSz f+qSz f≤cs.length∧ldC (some true) (some (qSz f)) (o+i*qSz f) cs=some (.agg el.toArray)∧QR H lo k f el x:=by
 obtain⟨x,hx,hd⟩:=eS (l:=l) (i:=i) hi;obtain⟨b,o,c,cs,own,hv,hb,hg,hle,hr⟩:=h.at_ hx;obtain⟨rfl,rfl,rfl⟩:va=some ⟨b,o,none⟩∧n=l.length∧ca=c:=by simpa using hv
 exact⟨x,b,o,cs,own,_,hx,hd,rfl,hb,hg,hle,pE hle rfl,hr⟩
mutual
def szQ:Q→Int→Int
 | .mk _ _ _ _ a b,m=>szL b (szL a 1 m) m
def szL:List Q→Int→Int→Int
 |[],n,_=>n
 |x::l,n,m=>if n≤m then szL l (n+szQ x (m-n)) m else n
end
theorem Cl(q:Q)(m:Int):szQ q m=szL q.b (szL q.a 1 m) m:=by cases q;rw[szQ];rfl
mutual
theorem iU:∀(q:Q)(m:Int),0≤m→1≤szQ q m∧szQ q m≤m+1
 | .mk _ _ _ _ a b,m,h=>by
  rw[szQ];have h1:=mb a 1 m oM oM h;exact mb b _ m oM oM h
theorem mb:∀(l:List Q)(n m:Int),1≤n→n≤m+1→0≤m→1≤szL l n m∧szL l n m≤m+1
 |[],n,m,h0,h1,h=>by rw[szL];omega
 |x::l,n,m,h0,h1,h=>by
  rw[szL];split
  ·rename_i hnm;have h2:=iU x (m-n) oM;exact mb l _ m oM oM h
  ·omega
end
theorem ij(l:List Q)(n m:Int)(h:m<n):szL l n m=n:=by cases l with|nil=>rfl|cons x l=>rw[szL,if_neg oM]
def aE(fn:Nat)(f:Bool)(k:Nat):Prop:=∀(H:d9)(lo:Nat)(cs:LV)(q:Q)(m:Int),lo≤H.next→QR H lo k f cs q→0≤m→m≤64→CL prog t6 fn [.agg cs.toArray,iV m] H=some (.int .i64 (szQ q m),none)
theorem Ff(k:Nat)(ih:aE 77 false k)(H0:d9)(lo:Nat)(va:Option Addr)(ca:Nat)(l:List Q)(hlo:lo≤H0.next)(hv:QsR H0 lo k false (.slice va l.length ca) l)(hn:l.length≤1048576)(bl:Nat)(cl:LV)(hb:H0.get bl=cE cl 1)(hc:cl[1]?=some (.slice va l.length ca))(m:Int)(hm0:0≤m)(hm:m≤64)(r:Int):
  ∀kk e H2,(∃(i:Nat)(n:Int),kk=l.length-i∧i≤l.length∧1≤n∧n≤m+1∧e.get 1=iV m∧e.get 2=pT bl∧e.get 5=iV n∧e.get 6=iV i∧H2=H0∧szL (l.drop i) n m=r)→
  u9 (LE prog t6 (.loop Gf) e H2) (fun o e H2=>H2=H0∧o= .exit 0∧e.get 1=iV m∧e.get 2=pT bl∧e.get 5=iV r):=by
 refine j7 _ _ ?_;rintro kk e H2 ⟨i,n,hk,hi,hn1,hn2,f1,f2,f5,f6,hH,fu⟩;subst hH;rcases b:decide ((i:Int)<l.length)with _|_
 ·have hb':=dF b;have:l.drop i=[]:=dN oM;rw[this,szL]at fu;refine J5 f2 f6 hb hc b ?_;exact l7 ⟨rfl,rfl,f1,f2,by rw[←fu];exact f5⟩
 have hb':=dT b;rcases b2:decide (n≤m)with _|_
 ·have hb2:=dF b2;rw[ij _ _ _ oM]at fu;refine J8 f1 f2 f5 f6 hb hc b b2 ?_;exact l7 ⟨rfl,rfl,f1,f2,by rw[←fu];exact f5⟩
 have hb2:=dT b2;obtain⟨x,nb,o,cs,own,el,hx,hd,rfl,hlt,hg,hle,hrow,hr⟩:=hv.row (i:=i) oM;have nt:(i:Int).toNat=i:=tN i;have hs:=iU x (m-n) oM;rw[hd,szL,if_pos hb2]at fu;simp only[qSz,if_true,Bool.false_eq_true,if_false]at hrow hg;have hca:=ih H2 lo el x (m-n) hlo hr oM oM;refine J13 f1 f2 f5 f6 hb hc b b2 hg nt hrow @wrap_small hca ?_;refine i6 (kk-1) oM ⟨i+1,n+szQ x (m-n),oM,oM,oM,oM,f1,f2,rfl,rfl,rfl,fu⟩
theorem Fg(k:Nat)(ih:aE 99 true k)(H0:d9)(lo:Nat)(va:Option Addr)(ca:Nat)(l:List Q)(hlo:lo≤H0.next)(hv:QsR H0 lo k true (.slice va l.length ca) l)(hn:l.length≤1048576)(bl:Nat)(cl:LV)(hb:H0.get bl=cE cl 1)(hc:cl[2]?=some (.slice va l.length ca))(m:Int)(hm0:0≤m)(hm:m≤64)(r:Int):
  ∀kk e H2,(∃(i:Nat)(n:Int),kk=l.length-i∧i≤l.length∧1≤n∧n≤m+1∧e.get 1=iV m∧e.get 2=pT bl∧e.get 5=iV n∧e.get 7=iV i∧H2=H0∧szL (l.drop i) n m=r)→
  u9 (LE prog t6 (.loop Gg) e H2) (fun o e H2=>H2=H0∧o= .exit 2∧e.get 1=iV m∧e.get 2=pT bl∧e.get 5=iV r):=by
 refine j7 _ _ ?_;rintro kk e H2 ⟨i,n,hk,hi,hn1,hn2,f1,f2,f5,f6,hH,fu⟩;subst hH;rcases b:decide ((i:Int)<l.length)with _|_
 ·have hb':=dF b;have:l.drop i=[]:=dN oM;rw[this,szL]at fu;refine J5 f2 f6 hb hc b ?_;exact l7 ⟨rfl,rfl,f1,f2,by rw[←fu];exact f5⟩
 have hb':=dT b;rcases b2:decide (n≤m)with _|_
 ·have hb2:=dF b2;rw[ij _ _ _ oM]at fu;refine J8 f1 f2 f5 f6 hb hc b b2 ?_;exact l7 ⟨rfl,rfl,f1,f2,by rw[←fu];exact f5⟩
 have hb2:=dT b2;obtain⟨x,nb,o,cs,own,el,hx,hd,rfl,hlt,hg,hle,hrow,hr⟩:=hv.row (i:=i) oM;have nt:(i:Int).toNat=i:=tN i;have hs:=iU x (m-n) oM;rw[hd,szL,if_pos hb2]at fu;simp only[qSz,if_true,Bool.false_eq_true,if_false]at hrow hg;have hca:=ih H2 lo el x (m-n) hlo hr oM oM;refine J13 f1 f2 f5 f6 hb hc b b2 hg nt hrow @wrap_small hca ?_;refine i6 (kk-1) oM ⟨i+1,n+szQ x (m-n),oM,oM,oM,oM,f1,f2,rfl,rfl,rfl,fu⟩
theorem Fh(k:Nat)(ih:aE 99 true k)(H0:d9)(lo:Nat)(va:Option Addr)(ca:Nat)(l:List Q)(hlo:lo≤H0.next)(hv:QsR H0 lo k true (.slice va l.length ca) l)(hn:l.length≤1048576)(bl:Nat)(cl:LV)(hb:H0.get bl=cE cl 1)(hc:cl[4]?=some (.slice va l.length ca))(m:Int)(hm0:0≤m)(hm:m≤64)(r:Int):
  ∀kk e H2,(∃(i:Nat)(n:Int),kk=l.length-i∧i≤l.length∧1≤n∧n≤m+1∧e.get 1=iV m∧e.get 2=pT bl∧e.get 5=iV n∧e.get 6=iV i∧H2=H0∧szL (l.drop i) n m=r)→
  u9 (LE prog t6 (.loop GB) e H2) (fun o e H2=>H2=H0∧o= .exit 0∧e.get 1=iV m∧e.get 2=pT bl∧e.get 5=iV r):=by
 refine j7 _ _ ?_;rintro kk e H2 ⟨i,n,hk,hi,hn1,hn2,f1,f2,f5,f6,hH,fu⟩;subst hH;rcases b:decide ((i:Int)<l.length)with _|_
 ·have hb':=dF b;have:l.drop i=[]:=dN oM;rw[this,szL]at fu;refine J5 f2 f6 hb hc b ?_;exact l7 ⟨rfl,rfl,f1,f2,by rw[←fu];exact f5⟩
 have hb':=dT b;rcases b2:decide (n≤m)with _|_
 ·have hb2:=dF b2;rw[ij _ _ _ oM]at fu;refine J8 f1 f2 f5 f6 hb hc b b2 ?_;exact l7 ⟨rfl,rfl,f1,f2,by rw[←fu];exact f5⟩
 have hb2:=dT b2;obtain⟨x,nb,o,cs,own,el,hx,hd,rfl,hlt,hg,hle,hrow,hr⟩:=hv.row (i:=i) oM;have nt:(i:Int).toNat=i:=tN i;have hs:=iU x (m-n) oM;rw[hd,szL,if_pos hb2]at fu;simp only[qSz,if_true,Bool.false_eq_true,if_false]at hrow hg;have hca:=ih H2 lo el x (m-n) hlo hr oM oM;refine J13 f1 f2 f5 f6 hb hc b b2 hg nt hrow @wrap_small hca ?_;refine i6 (kk-1) oM ⟨i+1,n+szQ x (m-n),oM,oM,oM,oM,f1,f2,rfl,rfl,rfl,fu⟩
theorem Fi(k:Nat)(ih:aE 77 false k)(H0:d9)(lo:Nat)(va:Option Addr)(ca:Nat)(l:List Q)(hlo:lo≤H0.next)(hv:QsR H0 lo k false (.slice va l.length ca) l)(hn:l.length≤1048576)(bl:Nat)(cl:LV)(hb:H0.get bl=cE cl 1)(hc:cl[5]?=some (.slice va l.length ca))(m:Int)(hm0:0≤m)(hm:m≤64)(r:Int):
  ∀kk e H2,(∃(i:Nat)(n:Int),kk=l.length-i∧i≤l.length∧1≤n∧n≤m+1∧e.get 1=iV m∧e.get 2=pT bl∧e.get 5=iV n∧e.get 7=iV i∧H2=H0∧szL (l.drop i) n m=r)→
  u9 (LE prog t6 (.loop GC) e H2) (fun o e H2=>H2=H0∧o= .exit 2∧e.get 1=iV m∧e.get 2=pT bl∧e.get 5=iV r):=by
 refine j7 _ _ ?_;rintro kk e H2 ⟨i,n,hk,hi,hn1,hn2,f1,f2,f5,f6,hH,fu⟩;subst hH;rcases b:decide ((i:Int)<l.length)with _|_
 ·have hb':=dF b;have:l.drop i=[]:=dN oM;rw[this,szL]at fu;refine J5 f2 f6 hb hc b ?_;exact l7 ⟨rfl,rfl,f1,f2,by rw[←fu];exact f5⟩
 have hb':=dT b;rcases b2:decide (n≤m)with _|_
 ·have hb2:=dF b2;rw[ij _ _ _ oM]at fu;refine J8 f1 f2 f5 f6 hb hc b b2 ?_;exact l7 ⟨rfl,rfl,f1,f2,by rw[←fu];exact f5⟩
 have hb2:=dT b2;obtain⟨x,nb,o,cs,own,el,hx,hd,rfl,hlt,hg,hle,hrow,hr⟩:=hv.row (i:=i) oM;have nt:(i:Int).toNat=i:=tN i;have hs:=iU x (m-n) oM;rw[hd,szL,if_pos hb2]at fu;simp only[qSz,if_true,Bool.false_eq_true,if_false]at hrow hg;have hca:=ih H2 lo el x (m-n) hlo hr oM oM;refine J13 f1 f2 f5 f6 hb hc b b2 hg nt hrow @wrap_small hca ?_;refine i6 (kk-1) oM ⟨i+1,n+szQ x (m-n),oM,oM,oM,oM,f1,f2,rfl,rfl,rfl,fu⟩
theorem NL(k:Nat)(ih1:aE 77 false k)(ih2:aE 99 (!false) k):aE 77 false (k+1):=by
 intro H lo cs q m hlo hr hm0 hm;obtain⟨va,ca,wa,ca',rfl,h1,h2,h3,h4⟩:=hr.path;rw[j8 ae2 rfl _ (by simp),Cl];obtain⟨H1,hH1⟩:∃H1,H1=d9.push ⟨H.bs,H.next⟩ (.cells [iV q.op,.slice va q.a.length ca,.slice wa q.b.length ca'] true 1):=⟨_,rfl⟩
 have hS:i4 H.next H H1:=by rw[hH1];exact i4.first H _
 have hg:H1.get H.next=cE [iV q.op,.slice va q.a.length ca,.slice wa q.b.length ca'] 1:=by rw[hH1];exact i7
 have hlow:H.next≤H1.low:=by rw[hH1,t5];exact lR
 have hn:=hS.next;have h1':=h1.mono (H':=H1) (fun j hj=>hS.get j oM) lR;have h2':=h2.mono (H':=H1) (fun j hj=>hS.get j oM) lR;have hz:=mb q.a 1 m oM oM hm0;refine J1 hH1.symm ?_;refine l9 (F:=fun z=>u5 _ _ _ (u7 (inBlock 0 z) _)=_) (Ff k ih1 H1 lo va ca q.a oM h1' h3 H.next _ hg rfl m hm0 hm (szL q.a 1 m) q.a.length _ _ ⟨0,1,rfl,oM,oM,oM,rfl,rfl,rfl,rfl,rfl,rfl⟩) ?_;rintro o e' H' ⟨hH,ho,g1,g2,g5⟩;subst hH;refine J1 ho ?_;refine l9 (F:=fun z=>u5 _ _ _ (u7 (inBlock 2 z) _)=_) (Fg k ih2 H' lo wa ca' q.b oM h2' h4 H.next _ hg rfl m hm0 hm (szL q.b (szL q.a 1 m) m) q.b.length _ _ ⟨0,szL q.a 1 m,rfl,oM,hz.1,hz.2,g1,g2,g5,rfl,rfl,rfl⟩) ?_;rintro o e' H2 ⟨hH,ho,g1,g2,g5⟩;exact J3 ho g5 hH trivial
theorem NM(k:Nat)(ih1:aE 99 true k)(ih2:aE 77 (!true) k):aE 99 true (k+1):=by
 intro H lo cs q m hlo hr hm0 hm;obtain⟨va,ca,wa,ca',rfl,h1,h2,h3,h4,_⟩:=hr.filter;rw[j8 af9 rfl _ (by simp),Cl];obtain⟨H1,hH1⟩:∃H1,H1=d9.push ⟨H.bs,H.next⟩ (.cells [iV q.op,.string q.sp,.string q.lc,.string q.vl,.slice va q.a.length ca,.slice wa q.b.length ca'] true 1):=⟨_,rfl⟩
 have hS:i4 H.next H H1:=by rw[hH1];exact i4.first H _
 have hg:H1.get H.next=cE [iV q.op,.string q.sp,.string q.lc,.string q.vl,.slice va q.a.length ca,.slice wa q.b.length ca'] 1:=by rw[hH1];exact i7
 have hlow:H.next≤H1.low:=by rw[hH1,t5];exact lR
 have hn:=hS.next;have h1':=h1.mono (H':=H1) (fun j hj=>hS.get j oM) lR;have h2':=h2.mono (H':=H1) (fun j hj=>hS.get j oM) lR;have hz:=mb q.a 1 m oM oM hm0;refine J1 hH1.symm ?_;refine l9 (F:=fun z=>u5 _ _ _ (u7 (inBlock 0 z) _)=_) (Fh k ih1 H1 lo va ca q.a oM h1' h3 H.next _ hg rfl m hm0 hm (szL q.a 1 m) q.a.length _ _ ⟨0,1,rfl,oM,oM,oM,rfl,rfl,rfl,rfl,rfl,rfl⟩) ?_;rintro o e' H' ⟨hH,ho,g1,g2,g5⟩;subst hH;refine J1 ho ?_;refine l9 (F:=fun z=>u5 _ _ _ (u7 (inBlock 2 z) _)=_) (Fi k ih2 H' lo wa ca' q.b oM h2' h4 H.next _ hg rfl m hm0 hm (szL q.b (szL q.a 1 m) m) q.b.length _ _ ⟨0,szL q.a 1 m,rfl,oM,hz.1,hz.2,g1,g2,g5,rfl,rfl,rfl⟩) ?_;rintro o e' H2 ⟨hH,ho,g1,g2,g5⟩;exact J3 ho g5 hH trivial
theorem Cd:∀k,aE 77 false k∧aE 99 true k:=by
 intro k;induction k with
 |zero=>exact⟨fun H lo cs q m hlo hr=>hr.elim,fun H lo cs q m hlo hr=>hr.elim⟩
 |succ k ih=>exact⟨NL k ih.1 ih.2,NM k ih.2 ih.1⟩
theorem BP(H:d9)(lo k:Nat)(cs:LV)(q:Q)(hlo:lo≤H.next)(hr:QR H lo k false cs q):CL prog t6 50 [.agg cs.toArray] H=some (.int .i64 (szQ q 64),none):=by
 cases k with
 |zero=>exact hr.elim
 |succ k=>
 have hr0:=hr;obtain⟨va,ca,wa,ca',rfl,h1,h2,h3,h4⟩:=hr.path;obtain⟨H1,hH1⟩:∃H1,H1=d9.push ⟨H.bs,H.next⟩ (.cells [iV q.op,.slice va q.a.length ca,.slice wa q.b.length ca'] true 1):=⟨_,rfl⟩
 have hS:i4 H.next H H1:=by rw[hH1];exact i4.first H _
 have hg:H1.get H.next=cE [iV q.op,.slice va q.a.length ca,.slice wa q.b.length ca'] 1:=by rw[hH1];exact i7
 have hlow:H.next≤H1.low:=by rw[hH1,t5];exact lR
 have hn:=hS.next;have hrow:ldC (some true) (some 3) 0 [iV q.op,.slice va q.a.length ca,.slice wa q.b.length ca']=some (.agg [iV q.op,.slice va q.a.length ca,.slice wa q.b.length ca'].toArray):=rfl;have hr1:QR H1 lo (k+1) false _ q:=hr0.mono (fun j hj=>hS.get j oM) lR;have c1:=(Cd (k+1)).1 H1 lo _ q 64 oM hr1 oM oM;rw[j8 ac0 rfl _ (by simp)];exact J4 hH1.symm hg hrow c1 trivial
theorem Ce{S:List Blk}{sz:Nat}{α:Type}{R R':LV→α→Prop}{v:Value}{l:List α}(h:Sl S sz R v l)(hR:∀cs a,R cs a→R' cs a):SlI ⟨S,S.length⟩ S.length sz R' v l:=by
 rcases h with h|⟨b,o,hv,h⟩
 ·exact .inl h
 ·refine .inr ⟨b,o,_,hv,?_⟩;rcases h with h|⟨c,h1,h2,h3⟩
  ·exact .inl h
  ·exact .inr ⟨c,false,(List.getElem?_eq_some_iff.1 h1).1,h1,h2,fun i a hi=>hR _ _ (h3 i a hi)⟩
theorem oC(k:Nat):P4 prog k 9 (fun _ cs(s:ByteArray)=>cs=[.string s]∧s.size≤1048576):=mm Tryz.underlying9
theorem uY(k:Nat):P4 prog k 3 (fun _ cs(n:Int)=>cs=[iV n]∧(Lit.int .i64 n).wf=true):=sC Tryz.underlying3
def NmR(cs:LV)(x:ByteArray×ByteArray):Prop:=cs=[.string x.1,.string x.2]∧x.1.size≤1048576∧x.2.size≤1048576
theorem yY(k:Nat):P4 prog (k+1) 48 (fun _ cs x=>NmR cs x):=by
 have h:=cg (P:=prog) (t:=48) Tryz.underlying48 kR (I3 (k:=1) rfl kR (oC k) (I3 (k:=1) rfl kR (oC k) (dL _)));refine h.map (fun x=>(x.1,x.2.1)) ?_ (fun _ _ _ _ _ h=>h);rintro S cs ⟨a,b,u⟩ ⟨c1,c2,rfl,⟨rfl,h1⟩,c3,c4,rfl,⟨rfl,h2⟩,rfl⟩;exact⟨rfl,h1,h2⟩
def QG(S:List Blk):Nat→Bool→LV→Q→Prop
 |0,_,_,_=>False
 |k+1,f,cs,q=>∃v w,cs=(if f then [iV q.op,.string q.sp,.string q.lc,.string q.vl,v,w] else [iV q.op,v,w])∧
   Sl S (qSz f) (QG S k f) v q.a∧Sl S (qSz !f) (QG S k !f) w q.b∧q.a.length≤1048576∧q.b.length≤1048576∧q.sp.size≤1048576∧q.lc.size≤1048576∧q.vl.size≤1048576∧(f=false→q.sp=eB∧q.lc=eB∧q.vl=eB)
theorem QG.mono{S S':List Blk}(ho:Old S S'):∀{k:Nat}{f:Bool}{cs:LV}{q:Q},QG S k f cs q→QG S' k f cs q:=by
 intro k;induction k with
 |zero=>intro f cs q h;exact h.elim
 |succ k ih=>
  intro f cs q h;obtain⟨v,w,h1,h2,h3,h4⟩:=h;exact⟨v,w,h1,h2.mono ho (fun _ _ h=>ih h),h3.mono ho (fun _ _ h=>ih h),h4⟩
theorem pL:∀k,P4 prog (2*k) 25 (fun S cs q=>QG S k false cs q)∧P4 prog (2*k) 86 (fun S cs q=>QG S k true cs q)
 |0=>⟨⟨fun _ _ _ _ ho h=>h.mono ho,fun _ _ _ h=>absurd h oM⟩,⟨fun _ _ _ _ ho h=>h.mono ho,fun _ _ _ h=>absurd h oM⟩⟩
 |k+1=>by
  obtain⟨ih1,ih2⟩:=pL k;have s1:=fZ (P:=prog) (t:=22) (e:=25) (sz:=3) Tryz.underlying22 kR oM ih1;have s2:=fZ (P:=prog) (t:=23) (e:=86) (sz:=6) Tryz.underlying23 kR oM ih2
  constructor
  ·have h:=cg (P:=prog) (t:=25) Tryz.underlying25 kR (I3 (k:=1) rfl kR (uY (2*k+1)) (I3 (k:=1) rfl kR s1 (I3 (k:=1) rfl kR s2 (dL _))));refine h.map (fun x=> .mk x.1 eB eB eB x.2.1 x.2.2.1) ?_ (fun _ _ _ _ ho h=>h.mono ho);rintro S cs ⟨o,a,b,u⟩ ⟨c1,c2,rfl,⟨rfl,h1⟩,c3,c4,rfl,⟨v,rfl,h2,h2'⟩,c5,c6,rfl,⟨w,rfl,h3,h3'⟩,rfl⟩;have hz:eB.size≤1048576:=by decide
   exact⟨v,w,rfl,h2,h3,h2',h3',hz,hz,hz,fun _=>⟨rfl,rfl,rfl⟩⟩
  ·have h:=cg (P:=prog) (t:=86) Tryz.underlying86 kR (I3 (k:=1) rfl kR (uY (2*k+1)) (I3 (k:=2) rfl kR (yY (2*k)) (I3 (k:=1) rfl kR (oC (2*k+1)) (I3 (k:=1) rfl kR s2 (I3 (k:=1) rfl kR s1 (dL _))))));refine h.map (fun x=> .mk x.1 x.2.1.1 x.2.1.2 x.2.2.1 x.2.2.2.1 x.2.2.2.2.1) ?_ (fun _ _ _ _ ho h=>h.mono ho);rintro S cs ⟨o,nm,vl,a,b,u⟩ ⟨c1,c2,rfl,⟨rfl,h1⟩,c3,c4,rfl,⟨rfl,n1,n2⟩,c7,c8,rfl,⟨rfl,n3⟩,c9,c10,rfl,⟨v,rfl,h2,h2'⟩,c5,c6,rfl,⟨w,rfl,h3,h3'⟩,rfl⟩;exact⟨v,w,rfl,h2,h3,h2',h3',n1,n2,n3,fun h=>by cases h⟩
theorem ah5{S:List Blk}:∀{k:Nat}{f:Bool}{cs:LV}{q:Q},QG S k f cs q→QR ⟨S,S.length⟩ S.length k f cs q:=by
 intro k;induction k with
 |zero=>intro f cs q h;exact h.elim
 |succ k ih=>
  intro f cs q h;obtain⟨v,w,h1,h2,h3,h4⟩:=h;exact⟨v,w,h1,Ce h2 (fun _ _ h=>ih h),Ce h3 (fun _ _ h=>ih h),h4⟩
end Go.Proofs.YtofbhlhamfkljaaGreatDoor.Ve
namespace Go.Proofs.YtofbhlhamfkljaaGreatDoor.card
open Go.ChangeShapes Go.WideShapes Go.ChangeAt Go.RowKit
open Go.Proofs.Tryz (prog)
open Go Ve
set_option linter.unusedVariables false
set_option linter.unusedSimpArgs false
set_option maxRecDepth 1000000
set_option maxHeartbeats 0
theorem own:ownKnob prog.godebug=none:=kR
theorem Eh:laidOutB prog=true:=kR
def Xz:DataW Unit→Value
 | .lit (.int k n)=> .int k n
 |_=> .nilIface
def Hh:DataW Unit→Array Value
 | .agg l=>(l.map Xz).toArray
 |_=> #[]
def MV(d:DataW Unit):Obj→Obj
 | .cells _ t frozen=> .cells (Hh d) t frozen
 |o=>o
noncomputable def iG(os:Os):World:=
 {World.holding prog os ⟨#[],#[],[]⟩with heap:=(((World.holding prog os ⟨#[],#[],[]⟩).heap.modify 0 (MV Rows.laid_internal_strconv_uint64pow10)).modify 1 (MV Rows.laid_math_bits_deBruijn32tab)).modify 2 (MV Rows.laid_math_bits_deBruijn64tab)}
abbrev Xy:List (String×DataW Unit):=[("math/bits.deBruijn32tab",Rows.laid_math_bits_deBruijn32tab),("math/bits.deBruijn64tab",Rows.laid_math_bits_deBruijn64tab),("internal/strconv.uint64pow10",Rows.laid_internal_strconv_uint64pow10)]
abbrev CG:Value:= .agg #[.int .i64 0,.slice none 0 0,.slice none 0 0]
theorem Bf(os:Os):laidMet prog Xy ((iG os).forCall (fun _ _=>0) ⟨#[],#[CG],[]⟩).memory:=
 laidMet_of_run' 8 kR kR
theorem reads(os:Os){H:Type}(enc:TypeId×Value→H):∃places,DataW.whole enc prog ((iG os).forCall (fun _ _=>0) ⟨#[],#[CG],[]⟩).memory [25] [] false #[CG].toList 8=some ([.agg [.lit (.int .i64 0),.nil,.nil]],[],places):=
 ⟨[],kR⟩
end Go.Proofs.YtofbhlhamfkljaaGreatDoor.card
namespace Go.Proofs.YtofbhlhamfkljaaGreatDoor.Ve
open Go Go.RowKit
open Go.Proofs.Tryz (prog)
set_option linter.unusedVariables false
set_option linter.unusedSimpArgs false
set_option maxRecDepth 1000000
set_option maxHeartbeats 0
def bAt(s:ByteArray)(i:Nat):Nat:=(s.data.toList.getD i 0).toNat
theorem U1(s:ByteArray)(i:Nat):x9 s i=(bAt s i:Int):=rfl
theorem U6(s:ByteArray)(i:Nat):bAt s i<256:=by
 have:=(s.data.toList.getD i 0).toNat_lt
 simpa [bAt] using this
theorem AQ(s:ByteArray)(i:Nat)(h:i<s.size):(s.get! i).toNat=bAt s i:=by
 have h':i<s.data.toList.length:=by simpa using h
 have:s.get! i=s.data[i]!:=by cases s;rfl
 rw[this,bAt,List.getD_eq_getElem?_getD,List.getElem?_eq_getElem h',getElem!_pos _ _ (by simpa using h)];simp
def Q5(s:ByteArray)(i:Nat):Bool:=decide (i<s.size)&&decide (bAt s i / 64=2)
def dec(s:ByteArray)(i:Nat):Option (Nat×Nat):=
 if bAt s i<128 then some (bAt s i,1)
 else if bAt s i / 32=6 then
  if Q5 s (i+1)=true∧128≤bAt s i % 32*64+bAt s (i+1) % 64 then some (bAt s i % 32*64+bAt s (i+1) % 64,2) else none
 else if bAt s i / 16=14 then
  if Q5 s (i+1)=true∧Q5 s (i+2)=true∧2048≤bAt s i % 16*4096+bAt s (i+1) % 64*64+bAt s (i+2) % 64∧¬(55296≤bAt s i % 16*4096+bAt s (i+1) % 64*64+bAt s (i+2) % 64∧bAt s i % 16*4096+bAt s (i+1) % 64*64+bAt s (i+2) % 64≤57343)
   then some (bAt s i % 16*4096+bAt s (i+1) % 64*64+bAt s (i+2) % 64,3) else none
 else if bAt s i / 8=30 then
  if Q5 s (i+1)=true∧Q5 s (i+2)=true∧Q5 s (i+3)=true∧65536≤bAt s i % 8*262144+bAt s (i+1) % 64*4096+bAt s (i+2) % 64*64+bAt s (i+3) % 64∧bAt s i % 8*262144+bAt s (i+1) % 64*4096+bAt s (i+2) % 64*64+bAt s (i+3) % 64≤1114111
   then some (bAt s i % 8*262144+bAt s (i+1) % 64*4096+bAt s (i+2) % 64*64+bAt s (i+3) % 64,4) else none
 else none
theorem G9{s:ByteArray}{i:Nat}:Q5 s i=true↔i<s.size∧bAt s i / 64=2:=by simp [Q5]
theorem tg(s:ByteArray)(i:Nat)(hi:i<s.size)(c n:Nat)(h:dec s i=some (c,n)):Utf8.decode s i=(c,n):=by
 have g0:=AQ s i hi;have gk:∀k,Q5 s (i+k)=true→(s.get! (i+k)).toNat=bAt s (i+k)∧(decide (i+k<s.size)&&(s.get! (i+k)).toNat / 64==2)=true:=by
  intro k hk;rw[G9]at hk;have:=AQ s (i+k) hk.1;refine⟨this,?_⟩;rw[this,hk.2];simp [hk.1]
 unfold dec at h;unfold Utf8.decode;simp only[Nat.add_zero,g0];split at h
 ·rename_i h1;rw[if_pos h1];cases h;rfl
 ·rename_i h1;rw[if_neg h1];split at h
  ·rename_i h2;split at h
   ·rename_i h3;obtain⟨k1,k1'⟩:=gk 1 h3.1;have e2:(bAt s i / 32==6)=true:=by simp [h2]
    rw[e2,k1'];simp only[Bool.and_self,if_true,k1];rw[if_pos h3.2];cases h;rfl
   ·cases h
  ·rename_i h2;have e2:(bAt s i / 32==6)=false:=by simp [h2]
   rw[e2];simp only[Bool.false_and,Bool.false_eq_true,if_false];split at h
   ·rename_i h4;split at h
    ·rename_i h5;obtain⟨k1,k1'⟩:=gk 1 h5.1;obtain⟨k2,k2'⟩:=gk 2 h5.2.1;have e4:(bAt s i / 16==14)=true:=by simp [h4]
     rw[e4,k1',k2'];simp only[Bool.and_self,if_true,k1,k2];have hv:Utf8.valid ((bAt s i % 16*4096+bAt s (i+1) % 64*64+bAt s (i+2) % 64:Nat):Int)=true:=by
      have:=h5.2.2.2;have b0:=U6 s i;simp only[Utf8.valid,Bool.or_eq_true,Bool.and_eq_true,decide_eq_true_eq];omega
     have hv2:(decide (2048≤bAt s i % 16*4096+bAt s (i+1) % 64*64+bAt s (i+2) % 64)&&Utf8.valid ((bAt s i % 16*4096+bAt s (i+1) % 64*64+bAt s (i+2) % 64:Nat):Int))=true:=by rw[hv];simp [h5.2.2.1]
     rw[if_pos (by simpa using hv2)];cases h;rfl
    ·cases h
   ·rename_i h4;have e4:(bAt s i / 16==14)=false:=by simp [h4]
    rw[e4];simp only[Bool.false_and,Bool.false_eq_true,if_false];split at h
    ·rename_i h6;split at h
     ·rename_i h7;obtain⟨k1,k1'⟩:=gk 1 h7.1;obtain⟨k2,k2'⟩:=gk 2 h7.2.1;obtain⟨k3,k3'⟩:=gk 3 h7.2.2.1;have e6:(bAt s i / 8==30)=true:=by simp [h6]
      rw[e6,k1',k2',k3'];simp only[Bool.and_self,if_true,k1,k2,k3];have hv:Utf8.valid ((bAt s i % 8*262144+bAt s (i+1) % 64*4096+bAt s (i+2) % 64*64+bAt s (i+3) % 64:Nat):Int)=true:=by
       have:=h7.2.2.2;simp only[Utf8.valid,Bool.or_eq_true,Bool.and_eq_true,decide_eq_true_eq];omega
      have hv2:(decide (65536≤bAt s i % 8*262144+bAt s (i+1) % 64*4096+bAt s (i+2) % 64*64+bAt s (i+3) % 64)&&Utf8.valid ((bAt s i % 8*262144+bAt s (i+1) % 64*4096+bAt s (i+2) % 64*64+bAt s (i+3) % 64:Nat):Int))=true:=by rw[hv];simp [h7.2.2.2.1]
      rw[if_pos (by simpa using hv2)];cases h;rfl
     ·cases h
    ·cases h
theorem wH:∀b:Fin 256,(Go.bits .and .u8 (b.val:Int) 128=0↔b.val<128)∧(Go.bits .and .u8 (b.val:Int) 224=192↔b.val / 32=6)∧(Go.bits .and .u8 (b.val:Int) 240=224↔b.val / 16=14)∧(Go.bits .and .u8 (b.val:Int) 248=240↔b.val / 8=30):=by decide
theorem wI:∀b:Fin 256,Go.bits .andNot .u8 (b.val:Int) 128=(b.val % 128:Nat)∧Go.bits .andNot .u8 (b.val:Int) 224=(b.val % 32:Nat)∧Go.bits .andNot .u8 (b.val:Int) 240=(b.val % 16:Nat)∧Go.bits .andNot .u8 (b.val:Int) 248=(b.val % 8:Nat):=by decide
theorem wG:∀b:Fin 256,(Go.bits .and .u8 (b.val:Int) 192=128↔b.val / 64=2)∧Go.bits .and .u8 (b.val:Int) 63=(b.val % 64:Nat):=by decide
theorem bN{n:Int}(h0: -2147483648≤n)(h1:n≤2147483647):IntKind.wrap .i32 n=n:=by
 simp [IntKind.wrap,IntKind.min,IntKind.max,IntKind.signed,IntKind.bits];omega
theorem CS(a b:Nat)(ha:a<16777216)(hb:b<64):Go.bits .or .i32 ((a*64:Nat):Int) (b:Int)=((a*64+b:Nat):Int):=by
 have h1:(BitVec.ofInt 32 ((a*64:Nat):Int))=BitVec.ofNat 32 (a*64):=BitVec.ofInt_natCast _ _;have h2:(BitVec.ofInt 32 (b:Int))=BitVec.ofNat 32 b:=BitVec.ofInt_natCast _ _;have h3:(BitVec.ofNat 32 (a*64)|||BitVec.ofNat 32 b).toNat=a*64+b:=by
  rw[BitVec.toNat_or,BitVec.toNat_ofNat,BitVec.toNat_ofNat,Nat.mod_eq_of_lt oM,Nat.mod_eq_of_lt oM];have:=Nat.two_pow_add_eq_or_of_lt (i:=6) (b:=b) oM a;have e6:(2:Nat) ^ 6*a=a*64:=by rw[Nat.mul_comm]
  rw[e6]at this;omega
 show IntKind.wrap .i32 (((BitVec.ofInt 32 ((a*64:Nat):Int))|||(BitVec.ofInt 32 (b:Int))).toNat:Int)=_;rw[h1,h2,h3];exact bN oM oM
theorem zt(v:Nat)(hv:v<2147483648):Go.bits .or .i32 (v:Int) 0=(v:Int):=by
 have h1:(BitVec.ofInt 32 (v:Int))=BitVec.ofNat 32 v:=BitVec.ofInt_natCast _ _;have h2:(BitVec.ofInt 32 (0:Int))=BitVec.ofNat 32 0:=by decide
 have h3:(BitVec.ofNat 32 v|||BitVec.ofNat 32 0).toNat=v:=by
  rw[BitVec.toNat_or,BitVec.toNat_ofNat,BitVec.toNat_ofNat,Nat.mod_eq_of_lt oM];simp
 show IntKind.wrap .i32 (((BitVec.ofInt 32 (v:Int))|||(BitVec.ofInt 32 (0:Int))).toNat:Int)=_;rw[h1,h2,h3];exact bN oM oM
theorem am(s:ByteArray)(at_ n k v h:Nat)(hv:v<16777216):Z0 s at_ n (k+1) (v:Int) h=if Q5 s (at_+h)=true then Z0 s at_ n k ((v*64+bAt s (at_+h) % 64:Nat):Int) (h+1) else((v:Int),h):=by
 have hb:=U6 s (at_+h);obtain⟨c1,c2⟩:=wG ⟨bAt s (at_+h),hb⟩;simp only at c1 c2;rw[Z0,U1,c2];have e1:IntKind.wrap .i32 ((v:Int)*2 ^ min (Int.toNat 6) 32)=((v*64:Nat):Int):=by
  have:(v:Int)*2 ^ min (Int.toNat 6) 32=((v*64:Nat):Int):=by
   rw[Int.natCast_mul];rfl
  rw[this];exact bN oM oM
 have e2:IntKind.wrap .i32 ((bAt s (at_+h) % 64:Nat):Int)=((bAt s (at_+h) % 64:Nat):Int):=bN oM oM;rw[e1,e2,CS v _ hv (Nat.mod_lt _ oM)];by_cases hc:Q5 s (at_+h)=true
 ·rw[if_pos hc,if_pos];rw[G9]at hc;exact⟨hc.1,c1.2 hc.2⟩
 ·rw[if_neg hc,if_neg];intro q;exact hc (G9.2 ⟨q.1,c1.1 q.2⟩)
theorem Fq(v:Nat)(hv:v<2147483648):oo (v:Int) 0=((v:Int),(v:Int)):=by
 have e1:IntKind.wrap .i32 ((v:Int)*2 ^ min (6*(0:Int)).toNat 32)=(v:Int):=by
  have:(v:Int)*2 ^ min (6*(0:Int)).toNat 32=(v:Int):=by simp
  rw[this];exact bN oM oM
 have e2:IntKind.wrap .i32 (IntKind.wrap .i32 (1*2 ^ min (6*(0:Int)).toNat 32)-1)=0:=by decide
 rw[oo,e1,e2,zt v hv]
theorem fg(s:ByteArray)(at_ n v:Nat)(least:Int)(hv:v<2147483648):pK s at_ n least (v:Int) (n+1)=if(v:Int)<least∨(1114111:Int)<v∨((55296:Int)≤v∧(v:Int)≤57343) then(0,0,2) else((v:Int),((n+1:Nat):Int),0):=by
 have e:((n:Int)+1-((n+1:Nat):Int))=0:=oM;rw[pK,e,Fq v hv];simp only[if_true]
theorem bp(s:ByteArray)(at_ n h:Nat)(least v:Int)(hh:h≠n+1):(pK s at_ n least v h).2.2≠0:=by
 rw[pK];split
 ·decide
 ·split<;>(try decide)
theorem zi(s:ByteArray)(i:Nat):(Go.bits .and .u8 (x9 s i) 128=0↔bAt s i<128)∧(Go.bits .and .u8 (x9 s i) 224=192↔bAt s i / 32=6)∧(Go.bits .and .u8 (x9 s i) 240=224↔bAt s i / 16=14)∧(Go.bits .and .u8 (x9 s i) 248=240↔bAt s i / 8=30):=wH ⟨bAt s i,U6 s i⟩
theorem yx(s:ByteArray)(i:Nat):Go.bits .andNot .u8 (x9 s i) 128=(bAt s i % 128:Nat)∧Go.bits .andNot .u8 (x9 s i) 224=(bAt s i % 32:Nat)∧Go.bits .andNot .u8 (x9 s i) 240=(bAt s i % 16:Nat)∧Go.bits .andNot .u8 (x9 s i) 248=(bAt s i % 8:Nat):=wI ⟨bAt s i,U6 s i⟩
theorem yR(s:ByteArray)(i:Nat)(hi:i<s.size):(∀c n,dec s i=some (c,n)→bM s i=((c:Int),(n:Int),0))∧(dec s i=none→(bM s i).2.2≠0):=by
 have hb:=U6 s i;obtain⟨f1,f2,f3,f4⟩:=zi s i;obtain⟨r1,r2,r3,r4⟩:=yx s i;have w:∀n:Nat,n<256→IntKind.wrap .i32 (n:Int)=(n:Int):=fun n h=>bN oM oM;have hu:bM s i=T6 s i 4 0:=by rw[bM,if_pos hi]
 by_cases h1:bAt s i<128
 ·have e:bM s i=((bAt s i:Int),1,0):=by
   rw[hu,T6,X5,if_pos (f1.2 h1)];simp only;rw[r1,w _ oM,Z0,Nat.mod_eq_of_lt h1];rw[fg s i 0 _ 0 oM,if_neg oM];rfl
  have d:dec s i=some (bAt s i,1):=by rw[dec,if_pos h1]
  rw[d,e];refine⟨fun c n h=>?_,fun h=>by cases h⟩;cases h;rfl
 have g1:¬Go.bits .and .u8 (x9 s i) 128=0:=fun q=>h1 (f1.1 q);by_cases h2:bAt s i / 32=6
 ·have e:bM s i=pK s i 1 128 (Z0 s i 1 1 ((bAt s i % 32:Nat):Int) 1).1 (Z0 s i 1 1 ((bAt s i % 32:Nat):Int) 1).2:=by
   rw[hu,T6,X5,if_neg g1,T6,X5,if_pos (f2.2 h2)];simp only;rw[r2,w _ oM]
  have d:dec s i=if Q5 s (i+1)=true∧128≤bAt s i % 32*64+bAt s (i+1) % 64 then some (bAt s i % 32*64+bAt s (i+1) % 64,2) else none:=by rw[dec,if_neg h1,if_pos h2]
  rw[am _ _ _ _ _ _ oM]at e;by_cases hc:Q5 s (i+1)=true
  ·rw[if_pos hc,Z0]at e;simp only at e;rw[fg s i 1 _ 128 oM]at e;by_cases hr:128≤bAt s i % 32*64+bAt s (i+1) % 64
   ·rw[if_neg oM]at e;rw[if_pos ⟨hc,hr⟩]at d;rw[d,e];exact⟨fun c n h=>by cases h;rfl,fun h=>by cases h⟩
   ·rw[if_pos oM]at e;rw[if_neg (fun q=>hr q.2)]at d;rw[d,e];exact⟨fun c n h=>(by cases h),fun _=>by decide⟩
  ·rw[if_neg hc]at e;rw[if_neg (fun q=>hc q.1)]at d;rw[d,e];exact⟨fun c n h=>(by cases h),fun _=>bp _ _ _ _ _ _ oM⟩
 have g2:¬Go.bits .and .u8 (x9 s i) 224=192:=fun q=>h2 (f2.1 q);by_cases h3:bAt s i / 16=14
 ·have e:bM s i=pK s i 2 2048 (Z0 s i 2 2 ((bAt s i % 16:Nat):Int) 1).1 (Z0 s i 2 2 ((bAt s i % 16:Nat):Int) 1).2:=by
   rw[hu,T6,X5,if_neg g1,T6,X5,if_neg g2,T6,X5,if_pos (f3.2 h3)];simp only;rw[r3,w _ oM]
  rw[am _ _ _ _ _ _ oM]at e;by_cases hc:Q5 s (i+1)=true
  ·rw[if_pos hc,am _ _ _ _ _ _ oM]at e;by_cases hc2:Q5 s (i+2)=true
   ·rw[if_pos hc2,Z0]at e;simp only at e;have ev:(bAt s i % 16*64+bAt s (i+1) % 64)*64+bAt s (i+1+1) % 64=bAt s i % 16*4096+bAt s (i+1) % 64*64+bAt s (i+2) % 64:=by
     show(bAt s i % 16*64+bAt s (i+1) % 64)*64+bAt s (i+2) % 64=_;omega
    rw[show i+(1+1)=i+1+1 from rfl,ev,fg s i 2 _ 2048 oM]at e;by_cases hr:2048≤bAt s i % 16*4096+bAt s (i+1) % 64*64+bAt s (i+2) % 64∧¬(55296≤bAt s i % 16*4096+bAt s (i+1) % 64*64+bAt s (i+2) % 64∧bAt s i % 16*4096+bAt s (i+1) % 64*64+bAt s (i+2) % 64≤57343)
    ·rw[if_neg oM]at e;have d:dec s i=some (bAt s i % 16*4096+bAt s (i+1) % 64*64+bAt s (i+2) % 64,3):=by rw[dec,if_neg h1,if_neg h2,if_pos h3,if_pos ⟨hc,hc2,hr.1,hr.2⟩]
     rw[d,e];exact⟨fun c n h=>by cases h;rfl,fun h=>by cases h⟩
    ·rw[if_pos oM]at e;have d:dec s i=none:=by rw[dec,if_neg h1,if_neg h2,if_pos h3,if_neg (fun q=>hr q.2.2)]
     rw[d,e];exact⟨fun c n h=>(by cases h),fun _=>by decide⟩
   ·rw[if_neg hc2]at e;have d:dec s i=none:=by rw[dec,if_neg h1,if_neg h2,if_pos h3,if_neg (fun q=>hc2 q.2.1)]
    rw[d,e];exact⟨fun c n h=>(by cases h),fun _=>bp _ _ _ _ _ _ oM⟩
  ·rw[if_neg hc]at e;have d:dec s i=none:=by rw[dec,if_neg h1,if_neg h2,if_pos h3,if_neg (fun q=>hc q.1)]
   rw[d,e];exact⟨fun c n h=>(by cases h),fun _=>bp _ _ _ _ _ _ oM⟩
 have g3:¬Go.bits .and .u8 (x9 s i) 240=224:=fun q=>h3 (f3.1 q);by_cases h4:bAt s i / 8=30
 ·have e:bM s i=pK s i 3 65536 (Z0 s i 3 3 ((bAt s i % 8:Nat):Int) 1).1 (Z0 s i 3 3 ((bAt s i % 8:Nat):Int) 1).2:=by
   rw[hu,T6,X5,if_neg g1,T6,X5,if_neg g2,T6,X5,if_neg g3,T6,X5,if_pos (f4.2 h4)];simp only;rw[r4,w _ oM]
   all_goals (intro q;omega)
  rw[am _ _ _ _ _ _ oM]at e;by_cases hc:Q5 s (i+1)=true
  ·rw[if_pos hc,am _ _ _ _ _ _ oM]at e;by_cases hc2:Q5 s (i+2)=true
   ·rw[if_pos hc2,am _ _ _ _ _ _ oM]at e;by_cases hc3:Q5 s (i+3)=true
    ·rw[if_pos hc3,Z0]at e;simp only at e;have ev:((bAt s i % 8*64+bAt s (i+1) % 64)*64+bAt s (i+(1+1)) % 64)*64+bAt s (i+(1+1+1)) % 64=bAt s i % 8*262144+bAt s (i+1) % 64*4096+bAt s (i+2) % 64*64+bAt s (i+3) % 64:=by
      show((bAt s i % 8*64+bAt s (i+1) % 64)*64+bAt s (i+2) % 64)*64+bAt s (i+3) % 64=_;omega
     rw[ev,fg s i 3 _ 65536 oM]at e;by_cases hr:65536≤bAt s i % 8*262144+bAt s (i+1) % 64*4096+bAt s (i+2) % 64*64+bAt s (i+3) % 64∧bAt s i % 8*262144+bAt s (i+1) % 64*4096+bAt s (i+2) % 64*64+bAt s (i+3) % 64≤1114111
     ·rw[if_neg oM]at e;have d:dec s i=some (bAt s i % 8*262144+bAt s (i+1) % 64*4096+bAt s (i+2) % 64*64+bAt s (i+3) % 64,4):=by rw[dec,if_neg h1,if_neg h2,if_neg h3,if_pos h4,if_pos ⟨hc,hc2,hc3,hr.1,hr.2⟩]
      rw[d,e];exact⟨fun c n h=>by cases h;rfl,fun h=>by cases h⟩
     ·rw[if_pos oM]at e;have d:dec s i=none:=by rw[dec,if_neg h1,if_neg h2,if_neg h3,if_pos h4,if_neg (fun q=>hr q.2.2.2)]
      rw[d,e];exact⟨fun c n h=>(by cases h),fun _=>by decide⟩
    ·rw[if_neg hc3]at e;have d:dec s i=none:=by rw[dec,if_neg h1,if_neg h2,if_neg h3,if_pos h4,if_neg (fun q=>hc3 q.2.2.1)]
     rw[d,e];exact⟨fun c n h=>(by cases h),fun _=>bp _ _ _ _ _ _ oM⟩
   ·rw[if_neg hc2]at e;have d:dec s i=none:=by rw[dec,if_neg h1,if_neg h2,if_neg h3,if_pos h4,if_neg (fun q=>hc2 q.2.1)]
    rw[d,e];exact⟨fun c n h=>(by cases h),fun _=>bp _ _ _ _ _ _ oM⟩
  ·rw[if_neg hc]at e;have d:dec s i=none:=by rw[dec,if_neg h1,if_neg h2,if_neg h3,if_pos h4,if_neg (fun q=>hc q.1)]
   rw[d,e];exact⟨fun c n h=>(by cases h),fun _=>bp _ _ _ _ _ _ oM⟩
 have g4:¬Go.bits .and .u8 (x9 s i) 248=240:=fun q=>h4 (f4.1 q);have e:bM s i=(0,0,2):=by
  rw[hu,T6,X5,if_neg g1,T6,X5,if_neg g2,T6,X5,if_neg g3,T6,X5,if_neg g4,T6]
  all_goals (intro q;omega)
 have d:dec s i=none:=by rw[dec,if_neg h1,if_neg h2,if_neg h3,if_neg h4]
 rw[d,e];exact⟨fun c n h=>(by cases h),fun _=>by decide⟩
theorem dl1{a b:Int}(h:a<b):decide (a<b)=true:=decide_eq_true h
theorem dl0{a b:Int}(h:b≤a):decide (a<b)=false:=decide_eq_false oM
theorem de1{a b:Int}(h:a≤b):decide (a≤b)=true:=decide_eq_true h
theorem de0{a b:Int}(h:b<a):decide (a≤b)=false:=decide_eq_false oM
theorem dq1{a b:Int}(h:a=b):decide (a=b)=true:=decide_eq_true h
theorem dq0{a b:Int}(h:a<b∨b<a):decide (a=b)=false:=decide_eq_false oM
theorem dlB:ai2 (aI (aI (aI @dl0 @dl1) (aI @dq0 @dq1)) (aI @de0 @de1)):=stOf _
theorem yn(H:d9)(r:Int):CL prog t6 119 [iV r] H=some (.bool (km r),none):=by
 rw[j8 WJ rfl _ (by simp),km];rcases b1:decide (r=9)with _|_
 ·rcases b2:decide (r=10)with _|_
  ·rcases b3:decide (r=13)with _|_
   ·exact J3 b1 b2 b3 trivial
   ·exact J3 b1 b2 b3 trivial
  ·exact J2 b1 b2 trivial
 ·exact J1 b1 trivial
theorem ry(H:d9)(r:Int):CL prog t6 96 [iV r] H=some (.bool (iZ r),none):=by
 rw[j8 af7 rfl _ (by simp),iZ,inSpans,mW];rcases Int.lt_or_le r 32 with h1|h1
 ·exact J3 @yn anB dlB trivial
 have hbl:km r=decide (r=32):=by
  rw[km,dq0 oM,dq0 oM,dq0 oM];rfl
 rw[hbl];rcases Int.lt_or_le r 55296 with h2|h2
 ·exact J2 anB dlB trivial
 rcases Int.lt_or_le r 57344 with h3|h3
 ·exact J2 anB dlB trivial
 rcases Int.lt_or_le r 65534 with h4|h4
 ·exact J2 anB dlB trivial
 rcases Int.lt_or_le r 65535 with h5|h5
 ·exact J2 anB dlB trivial
 rcases Int.lt_or_le r 65536 with h6|h6
 ·exact J2 anB dlB trivial
 rcases Int.lt_or_le r 1114112 with h7|h7
 ·exact J2 anB dlB trivial
 ·exact J2 anB dlB trivial
theorem F5(H:d9)(r:Int):CL prog t6 120 [iV r] H=some (.bool (dR r),none):=by
 revert r
 intro r;rw[j8 WK rfl _ (by simp),dR,inSpans,lW];rcases Int.lt_or_le r 65 with k0|k0
 ·exact J2 anB dlB trivial
 rcases Int.lt_or_le r 91 with k1|k1
 ·exact J2 anB dlB trivial
 clear k0;rcases Int.lt_or_le r 95 with k2|k2
 ·exact J2 anB dlB trivial
 clear k1;rcases Int.lt_or_le r 96 with k3|k3
 ·exact J2 anB dlB trivial
 clear k2;rcases Int.lt_or_le r 97 with k4|k4
 ·exact J2 anB dlB trivial
 clear k3;rcases Int.lt_or_le r 123 with k5|k5
 ·exact J2 anB dlB trivial
 clear k4;rcases Int.lt_or_le r 128 with k6|k6
 ·exact J2 anB dlB trivial
 clear k5;rcases Int.lt_or_le r 192 with k7|k7
 ·exact J2 anB dlB trivial
 clear k6;rcases Int.lt_or_le r 215 with k8|k8
 ·exact J2 anB dlB trivial
 clear k7;rcases Int.lt_or_le r 216 with k9|k9
 ·exact J2 anB dlB trivial
 clear k8;rcases Int.lt_or_le r 247 with k10|k10
 ·exact J2 anB dlB trivial
 clear k9;rcases Int.lt_or_le r 248 with k11|k11
 ·exact J2 anB dlB trivial
 clear k10;rcases Int.lt_or_le r 768 with k12|k12
 ·exact J2 anB dlB trivial
 clear k11;rcases Int.lt_or_le r 880 with k13|k13
 ·exact J2 anB dlB trivial
 clear k12;rcases Int.lt_or_le r 894 with k14|k14
 ·exact J2 anB dlB trivial
 clear k13;rcases Int.lt_or_le r 895 with k15|k15
 ·exact J2 anB dlB trivial
 clear k14;rcases Int.lt_or_le r 8192 with k16|k16
 ·exact J2 anB dlB trivial
 clear k15;rcases Int.lt_or_le r 8204 with k17|k17
 ·exact J2 anB dlB trivial
 clear k16;rcases Int.lt_or_le r 8205 with k18|k18
 ·exact J2 anB dlB trivial
 clear k17;rcases Int.lt_or_le r 8206 with k19|k19
 ·exact J2 anB dlB trivial
 clear k18;rcases Int.lt_or_le r 8304 with k20|k20
 ·exact J2 anB dlB trivial
 clear k19;rcases Int.lt_or_le r 8592 with k21|k21
 ·exact J2 anB dlB trivial
 clear k20;rcases Int.lt_or_le r 11264 with k22|k22
 ·exact J2 anB dlB trivial
 clear k21;rcases Int.lt_or_le r 12272 with k23|k23
 ·exact J2 anB dlB trivial
 clear k22;rcases Int.lt_or_le r 12289 with k24|k24
 ·exact J2 anB dlB trivial
 clear k23;rcases Int.lt_or_le r 55296 with k25|k25
 ·exact J2 anB dlB trivial
 clear k24;rcases Int.lt_or_le r 63744 with k26|k26
 ·exact J2 anB dlB trivial
 clear k25;rcases Int.lt_or_le r 64976 with k27|k27
 ·exact J2 anB dlB trivial
 clear k26;rcases Int.lt_or_le r 65008 with k28|k28
 ·exact J2 anB dlB trivial
 clear k27;rcases Int.lt_or_le r 65534 with k29|k29
 ·exact J2 anB dlB trivial
 clear k28;rcases Int.lt_or_le r 65536 with k30|k30
 ·exact J2 anB dlB trivial
 clear k29;rcases Int.lt_or_le r 983040 with k31|k31
 ·exact J2 anB dlB trivial
 clear k30;exact J2 anB dlB trivial
theorem rE(H:d9)(r:Int):CL prog t6 121 [iV r] H=some (.bool (gi r),none):=by
 rw[j8 WL rfl _ (by simp),gi,inSpans,nN];rcases b0:dR r with _|_
 ·skip
  rcases Int.lt_or_le r 45 with k0|k0
  ·exact J4 @F5 b0 anB dlB trivial
  rcases Int.lt_or_le r 46 with k1|k1
  ·exact J4 @F5 b0 anB dlB trivial
  clear k0;rcases Int.lt_or_le r 47 with k2|k2
  ·exact J4 @F5 b0 anB dlB trivial
  clear k1;rcases Int.lt_or_le r 48 with k3|k3
  ·exact J4 @F5 b0 anB dlB trivial
  clear k2;rcases Int.lt_or_le r 58 with k4|k4
  ·exact J4 @F5 b0 anB dlB trivial
  clear k3;rcases Int.lt_or_le r 183 with k5|k5
  ·exact J4 @F5 b0 anB dlB trivial
  clear k4;rcases Int.lt_or_le r 184 with k6|k6
  ·exact J4 @F5 b0 anB dlB trivial
  clear k5;rcases Int.lt_or_le r 768 with k7|k7
  ·exact J4 @F5 b0 anB dlB trivial
  clear k6;rcases Int.lt_or_le r 880 with k8|k8
  ·exact J4 @F5 b0 anB dlB trivial
  clear k7;rcases Int.lt_or_le r 8255 with k9|k9
  ·exact J4 @F5 b0 anB dlB trivial
  clear k8;rcases Int.lt_or_le r 8256 with k10|k10
  ·exact J4 @F5 b0 anB dlB trivial
  clear k9;rcases Int.lt_or_le r 8257 with k11|k11
  ·exact J4 @F5 b0 anB dlB trivial
  clear k10;exact J4 @F5 b0 anB dlB trivial
 ·exact J2 @F5 b0 trivial
def jJ(s:ByteArray)(i n:Nat):Int:=
 if n=2 then(x9 s i-192)*64+(x9 s (i+1)-128)
 else if n=3 then((x9 s i-224)*64+(x9 s (i+1)-128))*64+(x9 s (i+2)-128)
 else(((x9 s i-240)*64+(x9 s (i+1)-128))*64+(x9 s (i+2)-128))*64+(x9 s (i+3)-128)
theorem M9(s:ByteArray)(i:Nat):0≤x9 s i∧x9 s i≤255:=by rw[U1];have:=U6 s i;omega
theorem uo(s:ByteArray)(i n:Nat): -100000000≤jJ s i n∧jJ s i n≤100000000:=by
 have h0:=M9 s i;have h1:=M9 s (i+1);have h2:=M9 s (i+2);have h3:=M9 s (i+3);unfold jJ;split
 ·omega
 ·split<;>omega
theorem iS(H:d9)(s:ByteArray)(i n:Nat)(h2:2≤n)(h4:n≤4)(hs:i+n≤s.size)(hz:s.size≤2000000):CL prog t6 139 [.string s,iV i,iV n] H=some (.int .i64 (jJ s i n),none):=by
 have q0:=M9 s i;have q1:=M9 s (i+1);have q2:=M9 s (i+2);have q3:=M9 s (i+3);have t1:((i:Int)+1).toNat=i+1:=oM;have t2:((i:Int)+2).toNat=i+2:=oM;have t3:((i:Int)+3).toNat=i+3:=oM;have z0:(i:Int)+0=i:=oM;rw[j8 Xb rfl _ (by simp)];refine J1 @wrap_small ?_;rw[Y0];refine J3 @wrap_small @dl1 z0 ?_;obtain rfl|rfl|rfl:n=2∨n=3∨n=4:=oM
 ·refine J2 @wrap_small @Int.zero_add ?_;rw[Y0];refine J2 @wrap_small t1 ?_;rw[Y0];refine J7 @wrap_small z0 t1 t2 t3 @Int.zero_add dlB ?_;rw[jJ,if_pos rfl]
 ·refine J2 @wrap_small @Int.zero_add ?_;rw[Y0];refine J2 @wrap_small t1 ?_;rw[Y0];refine J2 @wrap_small t2 ?_;rw[Y0];refine J7 @wrap_small z0 t1 t2 t3 @Int.zero_add dlB ?_;rw[jJ,if_neg oM,if_pos rfl]
 ·refine J2 @wrap_small @Int.zero_add ?_;rw[Y0];refine J2 @wrap_small t1 ?_;rw[Y0];refine J2 @wrap_small t2 ?_;rw[Y0];refine J2 @wrap_small t3 ?_;rw[Y0];refine J7 @wrap_small z0 t1 t2 t3 @Int.zero_add dlB ?_;rw[jJ,if_neg oM,if_neg oM]
theorem jU{P:Program}(t:TypeId)(a b:Int)(h0:0≤a)(h1:0<b):E9 P .quo t (.int .i64 a) (.int .i64 b)=some (.int .i64 (IntKind.wrap .i64 (a / b))):=by
 simp only[E9,if_true];rw[if_neg oM,Int.tdiv_eq_ediv_of_nonneg h0]
theorem jW{P:Program}(t:TypeId)(a b:Int)(h0:0≤a)(h1:0<b):E9 P .rem t (.int .i64 a) (.int .i64 b)=some (.int .i64 (a % b)):=by
 simp only[E9,if_true];rw[if_neg oM,Int.tmod_eq_emod_of_nonneg h0]
theorem ip{n:Int}(h0:0≤n)(h1:n≤255):IntKind.wrap .u8 n=n:=by
 simp [IntKind.wrap,IntKind.min,IntKind.max,IntKind.signed,IntKind.bits];omega
def u8V(n:Int):Value:= .int .u8 n
def L7(r:Int):List Int:=
 if r<0∨1114111<r∨(55296≤r∧r≤57343) then []
 else if r<128 then [r]
 else if r<2048 then [192+r / 64,128+r % 64]
 else if r<65536 then [224+r / 4096,128+r / 64 % 64,128+r % 64]
 else [240+r / 262144,128+r / 4096 % 64,128+r / 64 % 64,128+r % 64]
theorem vO(H:d9)(r:Int):Ret (CL prog t6 140 [iV r] H) H fun w H1=>aP H1 H.next 1 w (L7 r).length ((L7 r).map u8V)∧i4 H.next H H1:=by
 have nil:∀l,l=[]→aP H H.next 1 (nS) l.length (l.map u8V):=fun l h=>by rw[h];exact .inl ⟨rfl,rfl,rfl⟩
 have one:∀cs:LV,cs.length=cs.length→∀l:List Int,l.map u8V=cs→Ret (some (Value.slice (some ⟨H.next,0,none⟩) cs.length cs.length,some ⟨(d9.push ⟨H.bs,H.next⟩ (.cells cs true 1)).bs,min H.low H.next⟩)) H fun w H1=>aP H1 H.next 1 w l.length (l.map u8V)∧i4 H.next H H1:=by
  intro cs _ l hl;have hle:l.length=cs.length:=by rw[←hl,List.length_map]
  refine⟨_,_,_,rfl,rfl,.inr ⟨H.next,cs.length,by rw[hle],?_,lR,by rw[hl,hle];omega⟩,(i4.first H _).ret lR⟩;rw[hl];exact i7
 rw[j8 Xc rfl _ (by simp)];by_cases hbad:r<0∨1114111<r∨(55296≤r∧r≤57343)
 ·have hp:L7 r=[]:=by rw[L7,if_pos hbad]
  have fin:Ret (some (nS,(none:Option d9))) H fun w H1=>aP H1 H.next 1 w (L7 r).length ((L7 r).map u8V)∧i4 H.next H H1:=⟨_,none,H,rfl,rfl,nil _ hp,i4.refl _ _⟩
  rcases Int.lt_or_le r 0 with h1|h1
  ·refine J1 @dl1 ?_;exact fin
  rcases Int.lt_or_le 1114111 r with h2|h2
  ·refine J1 dlB ?_;exact fin
  ·have h3:55296≤r∧r≤57343:=oM;refine J1 dlB ?_;exact fin
 ·have h1:0≤r∧r≤1114111:=oM;rcases Int.lt_or_le r 128 with k1|k1
  ·refine J2 @ip dlB ?_;exact one _ rfl (L7 r) (by rw[L7,if_neg hbad,if_pos k1])
  rcases Int.lt_or_le r 2048 with k2|k2
  ·refine J5 @ip @wrap_small @jU @jW dlB ?_;exact one _ rfl (L7 r) (by rw[L7,if_neg hbad,if_neg oM,if_pos k2])
  rcases Int.lt_or_le r 65536 with k3|k3
  ·rcases Int.lt_or_le r 55296 with k4|k4
   ·refine J5 @ip @wrap_small @jU @jW dlB ?_;exact one _ rfl (L7 r) (by rw[L7,if_neg hbad,if_neg oM,if_neg oM,if_pos k3])
   ·have k5:57343<r:=oM;refine J5 @ip @wrap_small @jU @jW dlB ?_;exact one _ rfl (L7 r) (by rw[L7,if_neg hbad,if_neg oM,if_neg oM,if_pos k3])
  ·refine J5 @ip @wrap_small @jU @jW dlB ?_;exact one _ rfl (L7 r) (by rw[L7,if_neg hbad,if_neg oM,if_neg oM,if_neg oM])
def dP(s:ByteArray):Nat→List Int→Bool
 |_,[]=>true
 |k,b::r=>if x9 s k=b then dP s (k+1) r else false
def un(s:ByteArray)(i:Nat)(b:List Int):Bool:= !decide (b=[])&&decide (i+b.length≤s.size)&&dP s i b
theorem wy(H0:d9)(lo:Nat)(s:ByteArray)(i:Nat)(l:List Int)(a:Option Addr)(c:Nat)(hv:aP H0 lo 1 (.slice a l.length c) l.length (l.map u8V))(hs:i+l.length≤s.size)(hz:s.size≤2000000)(r:Bool):
  ∀k e H2,(∃j:Nat,k=l.length-j∧j≤l.length∧e.get 0= .string s∧e.get 1=iV i∧e.get 2= .slice a l.length c∧e.get 7=iV j∧H2=H0∧dP s (i+j) (l.drop j)=r)→
  u9 (LE prog t6 (.loop Ay) e H2) (fun o e H2=>H2=H0∧((o= .exit 0∧r=true)∨(o= .ret∧e.get 6= .bool false∧r=false))):=by
 refine j7 _ _ ?_;rintro k e H2 ⟨j,hk,hj,f0,f1,f2,f7,hH,fu⟩;subst hH;rcases b:decide ((j:Int)<l.length)with _|_
 ·have hb':=dF b;have:l.drop j=[]:=dN oM;rw[this,dP]at fu;refine J3 f2 f7 b ?_;exact l7 ⟨rfl,.inl ⟨rfl,fu.symm⟩⟩
 ·have hb':=dT b;rcases hv with⟨_,h0,_⟩|⟨nb,c',h1,hg,_,_⟩
  ·omega
  obtain⟨rfl,_⟩:a=some ⟨nb,0,none⟩∧c=c':=by simpa using h1
  obtain⟨x,hx,hd⟩:=eS (l:=l) (i:=j) oM;rw[hd,dP]at fu;have nt:(j:Int).toNat=j:=tN j;have nt2:((i:Int)+j).toNat=i+j:=oM;have hc:(l.map u8V)[j]?=some (.int .u8 x):=by rw[List.getElem?_map,hx];rfl
  rcases hq:decide (x9 s (i+j)=x)with _|_
  ·have hq':=dF hq;rw[if_neg hq']at fu;refine J11 f0 f1 f2 f7 b hg @wrap_small nt2 @Nat.mul_one hc hq ?_;exact A6 ⟨rfl,.inr ⟨rfl,rfl,fu.symm⟩⟩
  ·have hq':=dT hq;rw[if_pos hq']at fu;refine J11 f0 f1 f2 f7 b hg @wrap_small nt2 @Nat.mul_one hc hq ?_;exact i6 (k-1) oM ⟨j+1,oM,oM,f0,f1,f2,rfl,rfl,fu⟩
theorem lM(H:d9)(lo:Nat)(s:ByteArray)(i:Nat)(l:List Int)(v:Value)(hv:aP H lo 1 v l.length (l.map u8V))(hi:i≤2000000)(hl:l.length≤2000000)(hz:s.size≤2000000):CL prog t6 141 [.string s,iV i,v] H=some (.bool (un s i l),none):=by
 obtain⟨a,c,rfl⟩:=hv.slice;have e0:decide ((l.length:Int)=0)=decide (l=[]):=decide_eq_decide.2 (by rw[←List.length_eq_zero_iff];omega);have e1:decide ((s.size:Int)<(i:Int)+l.length)= !decide (i+l.length≤s.size):=by
  rw[←decide_not];exact decide_eq_decide.2 oM
 rw[j8 Xd rfl _ (by simp),un];rcases b0:decide (l=[])with _|_
 ·rcases b1:decide (i+l.length≤s.size)with _|_
  ·exact J5 e0 e1 b0 b1 @wrap_small trivial
  ·refine J5 e0 e1 b0 b1 @wrap_small ?_;refine l9 (F:=fun z=>u5 _ _ _ (u7 (inBlock 0 z) _)=_) (wy ⟨H.bs,H.next⟩ lo s i l a c (hv.mono lR (fun _ _=>rfl)) (dT b1) hz (dP s i l) l.length _ _ ⟨0,rfl,oM,rfl,rfl,rfl,rfl,rfl,rfl⟩) ?_;rintro o e' H' ⟨hH,⟨ho,hr⟩|⟨ho,h6,hr⟩⟩
   ·exact J3 ho hr hH trivial
   ·exact J4 ho h6 hr hH trivial
 ·exact J2 e0 b0 trivial
theorem lF(b:UInt8):(⟨#[b]⟩:ByteArray).size=1:=rfl
theorem Hj(H0:d9)(s full:ByteArray)(at_ n total:Nat)(ht:total≤4)(r:Unit):∀k e H2,(∃lo hi:ByteArray,k=total-lo.size∧lo.size≤total∧hi.size=lo.size∧e.get 0= .string s∧e.get 1=iV at_∧e.get 5=iV n∧e.get 6=iV total∧e.get 7= .string full∧e.get 8= .string lo∧e.get 9= .string hi∧H2=H0)→
  u9 (LE prog t6 (.loop Az) e H2) (fun o e H2=>o= .exit 2∧H2=H0∧e.get 0= .string s∧e.get 1=iV at_∧e.get 5=iV n∧e.get 6=iV total∧e.get 7= .string full∧∃lo hi:ByteArray,lo.size=total∧hi.size=total∧e.get 8= .string lo∧e.get 9= .string hi):=by
 refine j7 _ _ ?_;rintro k e H2 ⟨lo,hi,hk,hl,hh,f0,f1,f5,f6,f7,f8,f9,hH⟩;rcases b:decide ((lo.size:Int)<total)with _|_
 ·have hb':=dF b;refine J3 f6 f8 b ?_;exact l7 ⟨rfl,hH,f0,f1,f5,f6,f7,lo,hi,oM,oM,f8,f9⟩
 ·have hb':=dT b;have z1:=lF 128;have z2:=lF 191;refine J5 f6 f8 f9 b @W7 ?_;exact i6 (k-1) oM ⟨lo++⟨#[128]⟩,hi++⟨#[191]⟩,by rw[ByteArray.size_append,z1];omega,by rw[ByteArray.size_append,z1];omega,by rw[ByteArray.size_append,ByteArray.size_append,z1,z2];omega,f0,f1,f5,f6,f7,rfl,rfl,hH⟩
theorem Hn(H0:d9)(s full:ByteArray)(at_ n total:Nat)(va vb:Int)(hs:at_+n=s.size)(hz:s.size≤1048576):∀k e H2,(∃(i:Nat)(t:Bool),k=n-i∧1≤i∧i≤n∧e.get 0= .string s∧e.get 1=iV at_∧e.get 5=iV n∧e.get 6=iV total∧e.get 7= .string full∧e.get 10=iV va∧e.get 11=iV vb∧e.get 12= .bool t∧e.get 13=iV i∧H2=H0)→
  u9 (LE prog t6 (.loop AA) e H2) (fun o e H2=>o= .exit 4∧H2=H0∧e.get 0= .string s∧e.get 1=iV at_∧e.get 5=iV n∧e.get 6=iV total∧e.get 7= .string full∧e.get 10=iV va∧e.get 11=iV vb∧∃t:Bool,e.get 12= .bool t):=by
 refine j7 _ _ ?_;rintro k e H2 ⟨i,t,hk,hi1,hi,f0,f1,f5,f6,f7,f10,f11,f12,f13,hH⟩;rcases b:decide ((i:Int)<n)with _|_
 ·refine J3 f5 f13 b ?_;exact l7 ⟨rfl,hH,f0,f1,f5,f6,f7,f10,f11,t,f12⟩
 ·have hb':=dT b;have nt:((at_:Int)+i).toNat=at_+i:=oM;cases t with
  |false=>
   refine J5 f5 f12 f13 b @wrap_small ?_;exact i6 (k-1) oM ⟨i+1,_,oM,oM,oM,f0,f1,f5,f6,f7,f10,f11,rfl,rfl,hH⟩
  |true=>
   rcases b2:decide ((128:Int)≤x9 s (at_+i))with _|_
   ·refine J9 f0 f1 f5 f12 f13 b @wrap_small nt b2 ?_;exact i6 (k-1) oM ⟨i+1,_,oM,oM,oM,f0,f1,f5,f6,f7,f10,f11,rfl,rfl,hH⟩
   ·refine J9 f0 f1 f5 f12 f13 b @wrap_small nt b2 ?_;exact i6 (k-1) oM ⟨i+1,_,oM,oM,oM,f0,f1,f5,f6,f7,f10,f11,rfl,rfl,hH⟩
theorem lj:∀l:List Int,((l.map u8V).mapM bB)=some (l.map fun n=>UInt8.ofNat n.toNat)
 |[]=>rfl
 |n::l=>by
  rw[List.map_cons,List.mapM_cons,lj l];rfl
theorem wU(H:d9)(lo:Nat)(l:List Int)(a:Option Addr)(c:Nat)(h:aP H lo 1 (.slice a l.length c) l.length (l.map u8V)):∃z:ByteArray,z.size=l.length∧W8 prog H 81 9 (.slice a l.length c)=some (.string z,none):=by
 obtain⟨a',c',e,hc⟩:=h.cells oM;obtain⟨rfl,rfl⟩:a=a'∧c=c':=by simpa using e
 refine⟨⟨(l.map fun n=>UInt8.ofNat n.toNat).toArray⟩,by simp [ByteArray.size],?_⟩;simp only[W8,yP,ty9,ty5,hc,Option.bind_some,lj]
theorem kq(H:d9)(z:ByteArray):W8 prog H 9 81 (.string z)=some (.slice (some ⟨H.next,0,none⟩) z.size (z.size+1),some (H.push (.cells (z.data.toList.map P9) true 1))):=by
 simp only[W8,yP,ty9,ty5]
theorem zC(z:ByteArray):z.data.toList.map P9=(z.data.toList.map fun b=>(b.toNat:Int)).map u8V:=by
 rw[List.map_map];rfl
theorem pB{P:Program}(t:TypeId)(a b:Int)(h:b≠0):E9 P .quo t (.int .i64 a) (.int .i64 b)=some (.int .i64 (IntKind.wrap .i64 (a.tdiv b))):=by
 simp only[E9,if_true];rw[if_neg h]
theorem Ho(H:d9)(s full:ByteArray)(at_ n total:Nat)(va vb:Int)(hf:full.size≤1048576):∀k e H2,(∃i:Nat,k=64-i∧i≤64∧e.get 0= .string s∧e.get 1=iV at_∧e.get 5=iV n∧e.get 6=iV total∧e.get 7= .string full∧e.get 10=iV va∧e.get 11=iV vb∧e.get 15=iV i∧i4 H.next H H2∧H.next≤H2.low)→
  u9 (LE prog t6 (.loop tp) e H2) (fun o e H2=>i4 H.next H H2∧H.next≤H2.low∧((o= .exit 6∧e.get 0= .string s∧e.get 1=iV at_∧e.get 5=iV n∧e.get 6=iV total)∨(o= .ret∧e.get 4= .bool true))):=by
 refine j7 _ _ ?_;rintro k e H2 ⟨i,hk,hi,f0,f1,f5,f6,f7,f10,f11,f15,hS,hl⟩;rcases b:decide ((i:Int)<64)with _|_
 ·refine J2 f15 b ?_;exact l7 ⟨hS,hl,.inl ⟨rfl,f0,f1,f5,f6⟩⟩
 have hb':=dT b;have hSn:=hS.next;have step:∀(r:Int),∃w h H3,CL prog t6 140 [iV r] H2=dr w h∧h.getD H2=H3∧aP H3 H2.next 1 w (L7 r).length ((L7 r).map u8V)∧i4 H2.next H2 H3:=fun r=>by
  obtain⟨w,h,H3,h1,h2,h3,h4⟩:=vO H2 r;exact⟨w,h,H3,h1,h2,h3,h4⟩
 have body:∀(r:Int)(e':Env),e'.get 16=iV r→e'.get 0= .string s→e'.get 1=iV at_→e'.get 5=iV n→e'.get 6=iV total→e'.get 7= .string full→e'.get 10=iV va→e'.get 11=iV vb→e'.get 15=iV i→
   u9 (u7 (inBlock 7 (LE prog t6 vu e' H2)) (LE prog t6 AC)) (dy k (fun k e H2=>∃i:Nat,k=64-i∧i≤64∧e.get 0= .string s∧e.get 1=iV at_∧e.get 5=iV n∧e.get 6=iV total∧e.get 7= .string full∧e.get 10=iV va∧e.get 11=iV vb∧e.get 15=iV i∧i4 H.next H H2∧H.next≤H2.low) (fun o e H2=>i4 H.next H H2∧H.next≤H2.low∧((o= .exit 6∧e.get 0= .string s∧e.get 1=iV at_∧e.get 5=iV n∧e.get 6=iV total)∨(o= .ret∧e.get 4= .bool true)))):=by
  intro r e' g16 g0 g1 g5 g6 g7 g10 g11 g15;obtain⟨w,h,H3,hc,hh,hO,hS3'⟩:=step r;obtain⟨a,c,rfl⟩:=hO.slice;have hS3:i4 H.next H H3:=hS.trans (hS3'.weaken hSn);have hn3:=hS3.next;have hl3:H.next≤H3.low:=hS3'.lowAll _ hSn hl;rcases b2:decide (((L7 r).length:Int)=total)with _|_
  ·rw[vu];refine J7 g6 g15 g16 hc hh b2 @wrap_small ?_;exact i6 (k-1) oM ⟨i+1,oM,oM,g0,g1,g5,g6,g7,g10,g11,rfl,hS3,hl3⟩
  ·obtain⟨z,hz,hcv⟩:=wU H3 H2.next (L7 r) a c hO;have hpl:(L7 r).length≤4:=by unfold L7;split<;>(try split)<;>(try split)<;>(try split)<;>simp
   have zx:=lF 120;have hln:(full.data.toList.map fun b=>(b.toNat:Int)).length=full.size:=by rw[List.length_map,Array.length_toList];rfl
   have hbg:=lM (H3.push (.cells (full.data.toList.map P9) true 1)) H3.next (z++⟨#[120]⟩) 0 (full.data.toList.map fun b=>(b.toNat:Int)) (.slice (some ⟨H3.next,0,none⟩) full.size (full.size+1)) (.inr ⟨H3.next,full.size+1,by rw[hln],by rw[←zC];exact i7,lR,by rw[List.length_map,Nat.mul_one]⟩) oM (by rw[hln];omega) (by rw[ByteArray.size_append];omega);have hbg':CL prog t6 141 [.string (z++⟨#[120]⟩),iV 0,.slice (some ⟨H3.next,0,none⟩) full.size (full.size+1)] (H3.push (.cells (full.data.toList.map P9) true 1))=_:=hbg;have hSf:i4 H.next H (H3.push (.cells (full.data.toList.map P9) true 1)):=hS3.trans (i4.push hn3);rw[vu];rcases b3:un (z++⟨#[120]⟩) 0 (full.data.toList.map fun b=>(b.toNat:Int))with _|_
   ·refine J13 g6 g7 g15 g16 hc hh b2 @wrap_small hcv @W7 @kq hbg' b3 ?_;exact i6 (k-1) oM ⟨i+1,oM,oM,g0,g1,g5,g6,g7,g10,g11,rfl,hSf,hl3⟩
   ·refine J11 g6 g7 g16 hc hh b2 hcv @W7 @kq hbg' b3 ?_;exact A6 ⟨hSf,hl3,.inr ⟨rfl,rfl⟩⟩
 rcases b63:decide ((i:Int)=63)with _|_
 ·refine J6 f10 f11 f15 b @pB b63 ?_;exact body _ _ rfl f0 f1 f5 f6 f7 f10 f11 f15
 ·refine J6 f10 f11 f15 b @pB b63 ?_;exact body _ _ rfl f0 f1 f5 f6 f7 f10 f11 f15
theorem rN{P:Program}(H:d9)(t:TypeId)(s:ByteArray)(i:Nat)(ht:P.underlying t=some .string)(hi:i≤s.size):Y7 P H t (.string s) (some (.int .i64 i)) none none=some (.string (s.extract i s.size)):=by
 simp only[Y7,ht,bnd,Int.natCast_nonneg,if_true,Int.toNat_natCast];rw[if_pos ⟨hi,lR⟩]
def zR(H:d9)(s:ByteArray)(at_ n:Nat)(k:Nat)(e:Env)(H2:d9):Prop:=
 ∃total:Nat,k=5-total∧n+1≤total∧total≤5∧e.get 0= .string s∧e.get 1=iV at_∧e.get 5=iV n∧e.get 6=iV total∧i4 H.next H H2∧H.next≤H2.low
def zU(H:d9)(o:Out)(e:Env)(H2:d9):Prop:=H.next≤H2.low∧(o= .exit 0∨(o= .ret∧e.get 4= .bool true))
theorem qp{H:d9}{s:ByteArray}{at_ n k total:Nat}(hk:k=5-total)(h1:n+1≤total)(h4:total≤4){e:Env}{H2:d9}(f0:e.get 0= .string s)(f1:e.get 1=iV at_)(f5:e.get 5=iV n)(f6:e.get 6=iV total)(hS:i4 H.next H H2)(hl:H.next≤H2.low):
  u9 (LE prog t6 gt e H2) (dy k (zR H s at_ n) (zU H)):=by
 refine J2 f6 @wrap_small ?_;exact i6 (k-1) oM ⟨total+1,oM,oM,oM,f0,f1,f5,rfl,hS,hl⟩
theorem wZ{H:d9}{s:ByteArray}{at_ n k total:Nat}{va vb:Int}{full:ByteArray}{t:Bool}(hs:at_+n=s.size)(hn1:1≤n)(hf:full.size≤1048576)(hz:s.size≤1048576)(hk:k=5-total)(h1:n+1≤total)(h4:total≤4){e:Env}{H2:d9}(f0:e.get 0= .string s)(f1:e.get 1=iV at_)(f5:e.get 5=iV n)(f6:e.get 6=iV total)
  (f7:e.get 7= .string full) (f10:e.get 10=iV va) (f11:e.get 11=iV vb) (f12:e.get 12= .bool t) (hS:i4 H.next H H2) (hl:H.next≤H2.low):
  u9 (u7 (inBlock 1 (LE prog t6 vr e H2)) (LE prog t6 gt)) (dy k (zR H s at_ n) (zU H)):=by
 have nt:(at_:Int).toNat=at_:=tN at_;have last:∀e':Env,e'.get 0= .string s→e'.get 1=iV at_→e'.get 5=iV n→e'.get 6=iV total→e'.get 7= .string full→e'.get 10=iV va→e'.get 11=iV vb→e'.get 15=iV 0→
   u9 (u7 (inBlock 1 (inBlock 6 (LE prog t6 (.loop tp) e' H2))) (LE prog t6 gt)) (dy k (zR H s at_ n) (zU H)):=by
  intro e' g0 g1 g5 g6 g7 g10 g11 g15;refine fA (F:=fun z=>u7 (inBlock 1 (inBlock 6 z)) _) (Ho H s full at_ n total va vb hf 64 e' H2 ⟨0,rfl,oM,g0,g1,g5,g6,g7,g10,g11,g15,hS,hl⟩) ?_;rintro o e3 H3 ⟨hS3,hl3,⟨ho,q0,q1,q5,q6⟩|⟨ho,q4⟩⟩
  ·simp only[ho,de,if_true,ek,cq];exact qp hk h1 h4 q0 q1 q5 q6 hS3 hl3
  ·simp only[ho,jn,mf,cQ];exact A6 ⟨hl3,.inr ⟨rfl,q4⟩⟩
 have skip:∀e':Env,e'.get 0= .string s→e'.get 1=iV at_→e'.get 5=iV n→e'.get 6=iV total→u9 (LE prog t6 gt e' H2) (dy k (zR H s at_ n) (zU H)):=fun e' g0 g1 g5 g6=>qp hk h1 h4 g0 g1 g5 g6 hS hl;obtain rfl|rfl|rfl:total=2∨total=3∨total=4:=oM
 ·cases t
  ·skip
   rcases Int.lt_or_le (x9 s at_) 192 with k0|k0
   ·refine J7 f0 f1 f6 f12 nt @de0 @wrap_small ?_
    first|exact i6 (k-1) oM ⟨3,oM,oM,oM,f0,f1,f5,rfl,hS,hl⟩|exact last _ f0 f1 f5 f6 f7 f10 f11 rfl
   rcases Int.lt_or_le (x9 s at_) 224 with k1|k1
   ·refine J7 f0 f1 f6 f12 nt @wrap_small dlB ?_
    first|exact i6 (k-1) oM ⟨3,oM,oM,oM,f0,f1,f5,rfl,hS,hl⟩|exact last _ f0 f1 f5 f6 f7 f10 f11 rfl
   rcases Int.lt_or_le (x9 s at_) 240 with k2|k2
   ·refine J7 f0 f1 f6 f12 nt @wrap_small dlB ?_
    first|exact i6 (k-1) oM ⟨3,oM,oM,oM,f0,f1,f5,rfl,hS,hl⟩|exact last _ f0 f1 f5 f6 f7 f10 f11 rfl
   rcases Int.lt_or_le (x9 s at_) 248 with k3|k3
   ·refine J7 f0 f1 f6 f12 nt @wrap_small dlB ?_
    first|exact i6 (k-1) oM ⟨3,oM,oM,oM,f0,f1,f5,rfl,hS,hl⟩|exact last _ f0 f1 f5 f6 f7 f10 f11 rfl
   refine J7 f0 f1 f6 f12 nt @wrap_small dlB ?_
   first|exact i6 (k-1) oM ⟨3,oM,oM,oM,f0,f1,f5,rfl,hS,hl⟩|exact last _ f0 f1 f5 f6 f7 f10 f11 rfl
  ·skip
   rcases Int.lt_or_le (x9 s at_) 192 with k0|k0
   ·refine J7 f0 f1 f6 f12 nt @de0 @wrap_small ?_
    first|exact i6 (k-1) oM ⟨3,oM,oM,oM,f0,f1,f5,rfl,hS,hl⟩|exact last _ f0 f1 f5 f6 f7 f10 f11 rfl
   rcases Int.lt_or_le (x9 s at_) 224 with k1|k1
   ·refine J6 f0 f1 f6 f12 nt dlB ?_
    first|exact i6 (k-1) oM ⟨3,oM,oM,oM,f0,f1,f5,rfl,hS,hl⟩|exact last _ f0 f1 f5 f6 f7 f10 f11 rfl
   rcases Int.lt_or_le (x9 s at_) 240 with k2|k2
   ·refine J7 f0 f1 f6 f12 nt @wrap_small dlB ?_
    first|exact i6 (k-1) oM ⟨3,oM,oM,oM,f0,f1,f5,rfl,hS,hl⟩|exact last _ f0 f1 f5 f6 f7 f10 f11 rfl
   rcases Int.lt_or_le (x9 s at_) 248 with k3|k3
   ·refine J7 f0 f1 f6 f12 nt @wrap_small dlB ?_
    first|exact i6 (k-1) oM ⟨3,oM,oM,oM,f0,f1,f5,rfl,hS,hl⟩|exact last _ f0 f1 f5 f6 f7 f10 f11 rfl
   refine J7 f0 f1 f6 f12 nt @wrap_small dlB ?_
   first|exact i6 (k-1) oM ⟨3,oM,oM,oM,f0,f1,f5,rfl,hS,hl⟩|exact last _ f0 f1 f5 f6 f7 f10 f11 rfl
 ·cases t
  ·skip
   rcases Int.lt_or_le (x9 s at_) 192 with k0|k0
   ·refine J7 f0 f1 f6 f12 nt @de0 @wrap_small ?_
    first|exact i6 (k-1) oM ⟨4,oM,oM,oM,f0,f1,f5,rfl,hS,hl⟩|exact last _ f0 f1 f5 f6 f7 f10 f11 rfl
   rcases Int.lt_or_le (x9 s at_) 224 with k1|k1
   ·refine J7 f0 f1 f6 f12 nt @de0 @wrap_small ?_
    first|exact i6 (k-1) oM ⟨4,oM,oM,oM,f0,f1,f5,rfl,hS,hl⟩|exact last _ f0 f1 f5 f6 f7 f10 f11 rfl
   rcases Int.lt_or_le (x9 s at_) 240 with k2|k2
   ·refine J7 f0 f1 f6 f12 nt @wrap_small dlB ?_
    first|exact i6 (k-1) oM ⟨4,oM,oM,oM,f0,f1,f5,rfl,hS,hl⟩|exact last _ f0 f1 f5 f6 f7 f10 f11 rfl
   rcases Int.lt_or_le (x9 s at_) 248 with k3|k3
   ·refine J7 f0 f1 f6 f12 nt @wrap_small dlB ?_
    first|exact i6 (k-1) oM ⟨4,oM,oM,oM,f0,f1,f5,rfl,hS,hl⟩|exact last _ f0 f1 f5 f6 f7 f10 f11 rfl
   refine J7 f0 f1 f6 f12 nt @wrap_small dlB ?_
   first|exact i6 (k-1) oM ⟨4,oM,oM,oM,f0,f1,f5,rfl,hS,hl⟩|exact last _ f0 f1 f5 f6 f7 f10 f11 rfl
  ·skip
   rcases Int.lt_or_le (x9 s at_) 192 with k0|k0
   ·refine J7 f0 f1 f6 f12 nt @de0 @wrap_small ?_
    first|exact i6 (k-1) oM ⟨4,oM,oM,oM,f0,f1,f5,rfl,hS,hl⟩|exact last _ f0 f1 f5 f6 f7 f10 f11 rfl
   rcases Int.lt_or_le (x9 s at_) 224 with k1|k1
   ·refine J7 f0 f1 f6 f12 nt @de0 @wrap_small ?_
    first|exact i6 (k-1) oM ⟨4,oM,oM,oM,f0,f1,f5,rfl,hS,hl⟩|exact last _ f0 f1 f5 f6 f7 f10 f11 rfl
   rcases Int.lt_or_le (x9 s at_) 240 with k2|k2
   ·refine J6 f0 f1 f6 f12 nt dlB ?_
    first|exact i6 (k-1) oM ⟨4,oM,oM,oM,f0,f1,f5,rfl,hS,hl⟩|exact last _ f0 f1 f5 f6 f7 f10 f11 rfl
   rcases Int.lt_or_le (x9 s at_) 248 with k3|k3
   ·refine J7 f0 f1 f6 f12 nt @wrap_small dlB ?_
    first|exact i6 (k-1) oM ⟨4,oM,oM,oM,f0,f1,f5,rfl,hS,hl⟩|exact last _ f0 f1 f5 f6 f7 f10 f11 rfl
   refine J7 f0 f1 f6 f12 nt @wrap_small dlB ?_
   first|exact i6 (k-1) oM ⟨4,oM,oM,oM,f0,f1,f5,rfl,hS,hl⟩|exact last _ f0 f1 f5 f6 f7 f10 f11 rfl
 ·cases t
  ·skip
   rcases Int.lt_or_le (x9 s at_) 192 with k0|k0
   ·refine J7 f0 f1 f6 f12 nt @de0 @wrap_small ?_
    first|exact i6 (k-1) oM ⟨5,oM,oM,oM,f0,f1,f5,rfl,hS,hl⟩|exact last _ f0 f1 f5 f6 f7 f10 f11 rfl
   rcases Int.lt_or_le (x9 s at_) 224 with k1|k1
   ·refine J7 f0 f1 f6 f12 nt @de0 @wrap_small ?_
    first|exact i6 (k-1) oM ⟨5,oM,oM,oM,f0,f1,f5,rfl,hS,hl⟩|exact last _ f0 f1 f5 f6 f7 f10 f11 rfl
   rcases Int.lt_or_le (x9 s at_) 240 with k2|k2
   ·refine J7 f0 f1 f6 f12 nt @de0 @wrap_small ?_
    first|exact i6 (k-1) oM ⟨5,oM,oM,oM,f0,f1,f5,rfl,hS,hl⟩|exact last _ f0 f1 f5 f6 f7 f10 f11 rfl
   rcases Int.lt_or_le (x9 s at_) 248 with k3|k3
   ·refine J7 f0 f1 f6 f12 nt @wrap_small dlB ?_
    first|exact i6 (k-1) oM ⟨5,oM,oM,oM,f0,f1,f5,rfl,hS,hl⟩|exact last _ f0 f1 f5 f6 f7 f10 f11 rfl
   refine J7 f0 f1 f6 f12 nt @wrap_small dlB ?_
   first|exact i6 (k-1) oM ⟨5,oM,oM,oM,f0,f1,f5,rfl,hS,hl⟩|exact last _ f0 f1 f5 f6 f7 f10 f11 rfl
  ·skip
   rcases Int.lt_or_le (x9 s at_) 192 with k0|k0
   ·refine J7 f0 f1 f6 f12 nt @de0 @wrap_small ?_
    first|exact i6 (k-1) oM ⟨5,oM,oM,oM,f0,f1,f5,rfl,hS,hl⟩|exact last _ f0 f1 f5 f6 f7 f10 f11 rfl
   rcases Int.lt_or_le (x9 s at_) 224 with k1|k1
   ·refine J7 f0 f1 f6 f12 nt @de0 @wrap_small ?_
    first|exact i6 (k-1) oM ⟨5,oM,oM,oM,f0,f1,f5,rfl,hS,hl⟩|exact last _ f0 f1 f5 f6 f7 f10 f11 rfl
   rcases Int.lt_or_le (x9 s at_) 240 with k2|k2
   ·refine J7 f0 f1 f6 f12 nt @de0 @wrap_small ?_
    first|exact i6 (k-1) oM ⟨5,oM,oM,oM,f0,f1,f5,rfl,hS,hl⟩|exact last _ f0 f1 f5 f6 f7 f10 f11 rfl
   rcases Int.lt_or_le (x9 s at_) 248 with k3|k3
   ·refine J6 f0 f1 f6 f12 nt dlB ?_
    first|exact i6 (k-1) oM ⟨5,oM,oM,oM,f0,f1,f5,rfl,hS,hl⟩|exact last _ f0 f1 f5 f6 f7 f10 f11 rfl
   refine J7 f0 f1 f6 f12 nt @wrap_small dlB ?_
   first|exact i6 (k-1) oM ⟨5,oM,oM,oM,f0,f1,f5,rfl,hS,hl⟩|exact last _ f0 f1 f5 f6 f7 f10 f11 rfl
theorem ET(H:d9)(s:ByteArray)(at_:Nat)(ha:at_≤s.size)(hz:s.size≤1048576):∃t:Bool,CL prog t6 142 [.string s,iV at_] H=some (.bool t,none):=by
 obtain⟨n,hn⟩:∃n,n=s.size-at_:=⟨_,rfl⟩
 have hsub:(s.size:Int)-at_=n:=oM;rw[j8 Xe rfl _ (by simp)];by_cases h1:n<1
 ·refine J3 hsub @wrap_small @dl1 ?_;exact⟨_,rfl⟩
 by_cases h3:3<n
 ·refine J3 hsub @wrap_small dlB ?_;exact⟨_,rfl⟩
 refine J3 hsub @wrap_small @dl0 ?_;have hx:(s.extract at_ s.size).size=n:=by rw[ByteArray.size_extract];omega
 have hloop:∀k e H2,zR H s at_ n k e H2→u9 (LE prog t6 (.loop AB) e H2) (zU H):=by
  refine j7 _ _ ?_;rintro k e H2 ⟨total,hk,ht1,ht2,f0,f1,f5,f6,hS,hl⟩;rcases b:decide ((total:Int)≤4)with _|_
  ·refine J2 f6 b ?_;exact l7 ⟨hl,.inl rfl⟩
  have hb':=dT b;have hsl:=rN (P:=prog) H2 9 s at_ ty9.2.2.2.2.2.2 ha;refine J5 f0 f1 f6 b hsl ?_;refine fA (F:=fun z=>u7 (inBlock 1 (u7 (inBlock 2 z) _)) _) (Hj H2 s (s.extract at_ s.size) at_ n total oM () (total-n) _ _ ⟨s.extract at_ s.size,s.extract at_ s.size,by rw[hx],oM,rfl,f0,f1,f5,f6,rfl,rfl,rfl,rfl⟩) ?_;rintro o e1 H3 ⟨ho,hH,g0,g1,g5,g6,g7,lo,hi,hlo,hhi,g8,g9⟩;have v1:=iS H2 lo 0 total oM oM oM oM;have v2:=iS H2 hi 0 total oM oM oM oM;have v1':CL prog t6 139 [.string lo,iV 0,iV total] H2=some (.int .i64 (jJ lo 0 total),none):=v1;have v2':CL prog t6 139 [.string hi,iV 0,iV total] H2=some (.int .i64 (jJ hi 0 total),none):=v2;refine J7 ho hH g6 g8 g9 v1' v2' ?_;refine fA (F:=fun z=>u7 (inBlock 1 (u7 (inBlock 4 z) _)) _) (Hn H2 s (s.extract at_ s.size) at_ n total (jJ lo 0 total) (jJ hi 0 total) oM hz (n-1) _ _ ⟨1,true,rfl,oM,oM,g0,g1,g5,g6,g7,rfl,rfl,rfl,rfl,rfl⟩) ?_;rintro o e2 H4 ⟨ho4,hH4,q0,q1,q5,q6,q7,q10,q11,t,q12⟩;simp only[ho4,hH4,de,if_true,cq];exact wZ oM oM oM hz hk ht1 oM q0 q1 q5 q6 q7 q10 q11 q12 hS hl
 refine l9 (F:=fun z=>∃t:Bool,u5 _ _ _ (u7 (inBlock 0 z) _)=some (.bool t,none)) (hloop (5-(n+1)) _ _ ⟨n+1,rfl,oM,oM,rfl,rfl,rfl,rfl,i4.start H,lR⟩) ?_;rintro o e' H' ⟨hl,ho|⟨ho,h4⟩⟩
 ·refine J1 ho ?_;exact⟨_,rfl⟩
 ·refine J2 ho h4 ?_;exact⟨_,rfl⟩
def I1(s:ByteArray)(i n:Nat):Int:=if n=1 then x9 s i else jJ s i n
def iR(s:ByteArray)(i n:Nat):Bool:=decide ((L7 (I1 s i n)).length=n)&&un s i (L7 (I1 s i n))
theorem Nt{r:Int}(h:(L7 r).length=1):0≤r∧r<128∧L7 r=[r]:=by
 unfold L7 at h ⊢;split at h
 ·simp at h
 ·rename_i c;rw[if_neg c];split at h
  ·rename_i c1;rw[if_pos c1];exact⟨oM,c1,rfl⟩
  ·split at h
   ·simp at h
   ·split at h<;>simp at h
theorem Nu{r:Int}(h:(L7 r).length=2):128≤r∧r<2048∧L7 r=[192+r / 64,128+r % 64]:=by
 unfold L7 at h ⊢;split at h
 ·simp at h
 ·rename_i c;rw[if_neg c];split at h
  ·simp at h
  ·rename_i c1;rw[if_neg c1];split at h
   ·rename_i c2;rw[if_pos c2];exact⟨oM,c2,rfl⟩
   ·split at h<;>simp at h
theorem Nv{r:Int}(h:(L7 r).length=3):2048≤r∧r<65536∧¬(55296≤r∧r≤57343)∧L7 r=[224+r / 4096,128+r / 64 % 64,128+r % 64]:=by
 unfold L7 at h ⊢;split at h
 ·simp at h
 ·rename_i c;rw[if_neg c];split at h
  ·simp at h
  ·rename_i c1;rw[if_neg c1];split at h
   ·simp at h
   ·rename_i c2;rw[if_neg c2];split at h
    ·rename_i c3;rw[if_pos c3];exact⟨oM,c3,oM,rfl⟩
    ·simp at h
theorem Nw{r:Int}(h:(L7 r).length=4):65536≤r∧r≤1114111∧L7 r=[240+r / 262144,128+r / 4096 % 64,128+r / 64 % 64,128+r % 64]:=by
 unfold L7 at h ⊢;split at h
 ·simp at h
 ·rename_i c;rw[if_neg c];split at h
  ·simp at h
  ·rename_i c1;rw[if_neg c1];split at h
   ·simp at h
   ·rename_i c2;rw[if_neg c2];split at h
    ·simp at h
    ·rename_i c3;rw[if_neg c3];exact⟨oM,oM,rfl⟩
theorem rv{s:ByteArray}{i:Nat}{l:List Int}:un s i l=true↔l≠ []∧i+l.length≤s.size∧dP s i l=true:=by simp [un,and_assoc]
theorem C9{s:ByteArray}{k:Nat}{b:Int}{r:List Int}:dP s k (b::r)=true↔x9 s k=b∧dP s (k+1) r=true:=by
 rw[dP];split
 ·rename_i h;simp [h]
 ·rename_i h;simp [h]
theorem EP(s:ByteArray)(i n:Nat)(h1:1≤n)(h4:n≤4)(h:iR s i n=true):0≤I1 s i n∧i+n≤s.size∧dec s i=some ((I1 s i n).toNat,n):=by
 rw[iR,Bool.and_eq_true,decide_eq_true_eq]at h;obtain⟨hl,hb⟩:=h;rw[rv,hl]at hb;obtain⟨_,hs,hb⟩:=hb;have q0:=U6 s i;have q1:=U6 s (i+1);have q2:=U6 s (i+2);have q3:=U6 s (i+3);have e0:=U1 s i;have e1:=U1 s (i+1);have e2:=U1 s (i+2);have e3:=U1 s (i+3);obtain rfl|rfl|rfl|rfl:n=1∨n=2∨n=3∨n=4:=oM
 ·obtain⟨k0,k1,k2⟩:=Nt hl;have hv:I1 s i 1=x9 s i:=rfl;rw[hv]at k0 k1 ⊢;refine⟨k0,hs,?_⟩;rw[dec,if_pos oM,e0,Int.toNat_natCast]
 ·obtain⟨k0,k1,k2⟩:=Nu hl;rw[k2,C9,C9]at hb;obtain⟨p0,p1,_⟩:=hb;have hv:I1 s i 2=(x9 s i-192)*64+(x9 s (i+1)-128):=rfl;generalize I1 s i 2=v at*;have c1:Q5 s (i+1)=true:=G9.2 ⟨oM,oM⟩;refine⟨oM,hs,?_⟩;rw[dec,if_neg oM,if_pos oM,if_pos ⟨c1,oM⟩]
  congr 2;omega
 ·obtain⟨k0,k1,k1',k2⟩:=Nv hl;rw[k2,C9,C9,C9]at hb;obtain⟨p0,p1,p2,_⟩:=hb;have p2':x9 s (i+2)=128+I1 s i 3 % 64:=p2;have hv:I1 s i 3=((x9 s i-224)*64+(x9 s (i+1)-128))*64+(x9 s (i+2)-128):=rfl;generalize I1 s i 3=v at*;have c1:Q5 s (i+1)=true:=G9.2 ⟨oM,oM⟩;have c2:Q5 s (i+2)=true:=G9.2 ⟨oM,oM⟩;refine⟨oM,hs,?_⟩;rw[dec,if_neg oM,if_neg oM,if_pos oM,if_pos ⟨c1,c2,oM,oM⟩]
  congr 2;omega
 ·obtain⟨k0,k1,k2⟩:=Nw hl;rw[k2,C9,C9,C9,C9]at hb;obtain⟨p0,p1,p2,p3,_⟩:=hb;have p2':x9 s (i+2)=128+I1 s i 4 / 64 % 64:=p2;have p3':x9 s (i+3)=128+I1 s i 4 % 64:=p3;have hv:I1 s i 4=(((x9 s i-240)*64+(x9 s (i+1)-128))*64+(x9 s (i+2)-128))*64+(x9 s (i+3)-128):=rfl;generalize I1 s i 4=v at*;have c1:Q5 s (i+1)=true:=G9.2 ⟨oM,oM⟩;have c2:Q5 s (i+2)=true:=G9.2 ⟨oM,oM⟩;have c3:Q5 s (i+3)=true:=G9.2 ⟨oM,oM⟩;refine⟨oM,hs,?_⟩;rw[dec,if_neg oM,if_neg oM,if_neg oM,if_pos oM,if_pos ⟨c1,c2,c3,oM,oM⟩]
  congr 2;omega
theorem oP(s:ByteArray)(i c n:Nat)(hi:i<s.size)(h:dec s i=some (c,n)):1≤n∧n≤4∧i+n≤s.size∧iR s i n=true∧I1 s i n=(c:Int):=by
 have q0:=U6 s i;have q1:=U6 s (i+1);have q2:=U6 s (i+2);have q3:=U6 s (i+3);have e0:=U1 s i;have e1:=U1 s (i+1);have e2:=U1 s (i+2);have e3:=U1 s (i+3);have ok:∀(n:Nat)(l:List Int),L7 (I1 s i n)=l→l≠ []→l.length=n→i+n≤s.size→dP s i l=true→iR s i n=true:=by
  intro n l h1 h2 h3 h4 h5;rw[iR,h1,Bool.and_eq_true,decide_eq_true_eq,rv,h3];exact⟨rfl,h2,h4,h5⟩
 unfold dec at h;split at h
 ·cases h;rename_i h1;have hv:I1 s i 1=x9 s i:=rfl;refine⟨oM,oM,oM,ok 1 [x9 s i] ?_ (by simp) rfl oM (C9.2 ⟨rfl,rfl⟩),by rw[hv,e0]⟩;rw[hv,L7,if_neg oM,if_pos oM]
 ·rename_i h1;split at h
  ·rename_i h2;split at h
   ·rename_i h3;cases h;obtain⟨g1,g1'⟩:=G9.1 h3.1;have hv:I1 s i 2=(x9 s i-192)*64+(x9 s (i+1)-128):=rfl;have hc:I1 s i 2=((bAt s i % 32*64+bAt s (i+1) % 64:Nat):Int):=oM;generalize hw:I1 s i 2=v at*;refine⟨oM,oM,oM,ok 2 [192+v / 64,128+v % 64] ?_ (by simp) rfl oM (C9.2 ⟨oM,C9.2 ⟨oM,rfl⟩⟩),hc⟩;rw[hw,L7,if_neg oM,if_neg oM,if_pos oM]
   ·cases h
  ·rename_i h2;split at h
   ·rename_i h4;split at h
    ·rename_i h5;cases h;obtain⟨g1,g1'⟩:=G9.1 h5.1;obtain⟨g2,g2'⟩:=G9.1 h5.2.1;have hv:I1 s i 3=((x9 s i-224)*64+(x9 s (i+1)-128))*64+(x9 s (i+2)-128):=rfl;have hc:I1 s i 3=((bAt s i % 16*4096+bAt s (i+1) % 64*64+bAt s (i+2) % 64:Nat):Int):=oM;have h52:=h5.2.2;generalize hw:I1 s i 3=v at*;refine⟨oM,oM,oM,ok 3 [224+v / 4096,128+v / 64 % 64,128+v % 64] ?_ (by simp) rfl oM (C9.2 ⟨oM,C9.2 ⟨oM,C9.2 ⟨by show x9 s (i+2)=_;omega,rfl⟩⟩⟩),hc⟩;rw[hw,L7,if_neg oM,if_neg oM,if_neg oM,if_pos oM]
    ·cases h
   ·rename_i h4;split at h
    ·rename_i h6;split at h
     ·rename_i h7;cases h;obtain⟨g1,g1'⟩:=G9.1 h7.1;obtain⟨g2,g2'⟩:=G9.1 h7.2.1;obtain⟨g3,g3'⟩:=G9.1 h7.2.2.1;have h72:=h7.2.2.2;have hv:I1 s i 4=(((x9 s i-240)*64+(x9 s (i+1)-128))*64+(x9 s (i+2)-128))*64+(x9 s (i+3)-128):=rfl;have hc:I1 s i 4=((bAt s i % 8*262144+bAt s (i+1) % 64*4096+bAt s (i+2) % 64*64+bAt s (i+3) % 64:Nat):Int):=oM;generalize hw:I1 s i 4=v at*;refine⟨oM,oM,oM,ok 4 [240+v / 262144,128+v / 4096 % 64,128+v / 64 % 64,128+v % 64] ?_ (by simp) rfl oM (C9.2 ⟨oM,C9.2 ⟨oM,C9.2 ⟨by show x9 s (i+2)=_;omega,C9.2 ⟨by show x9 s (i+3)=_;omega,rfl⟩⟩⟩⟩),hc⟩;rw[hw,L7,if_neg oM,if_neg oM,if_neg oM,if_neg oM]
     ·cases h
    ·cases h
def BX(H:d9)(s:ByteArray)(i:Nat)(o:Out)(e:Env)(H2:d9):Prop:=
 H.next≤H2.low∧i4 H.next H H2∧((o= .exit 0∧dec s i=none∧e.get 0= .string s∧e.get 1=iV i)∨(o= .ret∧∃c n:Nat,dec s i=some (c,n)∧e.get 4=iV c∧e.get 5=iV n∧e.get 6=iV 0))
theorem yA(H:d9)(s:ByteArray)(i:Nat)(hi:i<s.size)(hz:s.size≤1048576):∀k e H2,(∃n:Nat,k=5-n∧1≤n∧n≤5∧(∀m,1≤m→m<n→i+m≤s.size→iR s i m=false)∧e.get 0= .string s∧e.get 1=iV i∧e.get 7=iV n∧i4 H.next H H2∧H.next≤H2.low)→
  u9 (LE prog t6 (.loop Ao) e H2) (BX H s i):=by
 refine j7 _ _ ?_;rintro k e H2 ⟨n,hk,h1,h5,hno,f0,f1,f7,hS,hl⟩;have none_of:(∀m,1≤m→m≤4→i+m≤s.size→iR s i m=false)→dec s i=none:=by
  intro hall;cases hd:dec s i with
  |none=>rfl
  |some q=>
   obtain⟨c,m⟩:=q;obtain⟨m1,m4,ms,mo,_⟩:=oP s i c m hi hd;rw[hall m m1 m4 ms]at mo;cases mo
 rcases b1:decide ((n:Int)≤4)with _|_
 ·have hb:=dF b1;refine J2 f7 b1 ?_;exact l7 ⟨hl,hS,.inl ⟨rfl,none_of fun m a b c=>hno m a oM c,f0,f1⟩⟩
 have hb1:=dT b1;rcases b2:decide ((i:Int)+n≤s.size)with _|_
 ·have hb:=dF b2;refine J6 f0 f1 f7 b1 b2 @wrap_small ?_;exact l7 ⟨hl,hS,.inl ⟨rfl,none_of fun m a b c=>hno m a oM c,f0,f1⟩⟩
 have hb2:=dT b2;have nt:(i:Int).toNat=i:=tN i;have q0:=M9 s i;have hSn:=hS.next;have qv:=uo s i n;have tail:∀e':Env,e'.get 0= .string s→e'.get 1=iV i→e'.get 7=iV n→e'.get 8=iV (I1 s i n)→u9 (u7 (inBlock 1 (LE prog t6 Aq e' H2)) (LE prog t6 Ap)) (dy k (fun k e H2=>∃n:Nat,k=5-n∧1≤n∧n≤5∧(∀m,1≤m→m<n→i+m≤s.size→iR s i m=false)∧e.get 0= .string s∧e.get 1=iV i∧e.get 7=iV n∧i4 H.next H H2∧H.next≤H2.low) (BX H s i)):=by
  intro e' g0 g1 g7 g8;obtain⟨w,h,H3,hc,hh,hO,hS3'⟩:=vO H2 (I1 s i n);have hS3:i4 H.next H H3:=hS.trans (hS3'.weaken hSn);have hl3:H.next≤H3.low:=hS3'.lowAll _ hSn hl;have hpl:(L7 (I1 s i n)).length≤4:=by unfold L7;split<;>(try split)<;>(try split)<;>(try split)<;>simp
  have hbg:=lM H3 H2.next s i (L7 (I1 s i n)) w hO oM oM oM;obtain⟨a,c,rfl⟩:=hO.slice;have en:decide (((L7 (I1 s i n)).length:Int)=n)=decide ((L7 (I1 s i n)).length=n):=decide_eq_decide.2 oM;have next:iR s i n=false→∀e2:Env,e2.get 0= .string s→e2.get 1=iV i→e2.get 7=iV ((n:Int)+1)→dy k (fun k e H2=>∃n:Nat,k=5-n∧1≤n∧n≤5∧(∀m,1≤m→m<n→i+m≤s.size→iR s i m=false)∧e.get 0= .string s∧e.get 1=iV i∧e.get 7=iV n∧i4 H.next H H2∧H.next≤H2.low) (BX H s i) .normal e2 H3:=fun hno2 e2 k0 k1 k7=>
   i6 (k-1) oM ⟨n+1,oM,oM,oM,fun m a b c=>by
    by_cases hm:m=n
    ·rw[hm];exact hno2
    ·exact hno m a oM c,k0,k1,k7,hS3,hl3⟩
  rw[Aq];rcases b3:decide ((L7 (I1 s i n)).length=n)with _|_
  ·refine J7 g7 g8 hc hh en b3 @wrap_small ?_;exact next (by rw[iR,b3];rfl) _ g0 g1 rfl
  ·rcases b4:un s i (L7 (I1 s i n))with _|_
   ·rw[b4]at hbg;refine J10 g0 g1 g7 g8 hc hh en b3 hbg @wrap_small ?_;exact next (by rw[iR,b3,b4];rfl) _ g0 g1 rfl
   ·rw[b4]at hbg;obtain⟨r0,_,rd⟩:=EP s i n h1 oM (by rw[iR,b3,b4];rfl);refine J9 g0 g1 g7 g8 hc hh en b3 hbg ?_;refine A6 ⟨hl3,hS3,.inr ⟨rfl,_,n,rd,?_,rfl,rfl⟩⟩;rw[Int.toNat_of_nonneg r0];rfl
 rcases b5:decide (1<(n:Int))with _|_
 ·have hb5:=dF b5;have hn1:n=1:=oM;refine J8 f0 f1 f7 b1 b2 b5 @wrap_small nt ?_;exact tail _ f0 f1 f7 (by rw[I1,if_pos hn1];rfl)
 ·have hb5:=dT b5;have hv:=iS H2 s i n oM oM oM oM;refine J9 f0 f1 f7 b1 b2 b5 @wrap_small nt hv ?_;exact tail _ f0 f1 f7 (by rw[I1,if_neg oM];rfl)
theorem BO(H:d9)(s:ByteArray)(i:Nat)(hi:i<s.size)(hz:s.size≤1048576):(∀c n,dec s i=some (c,n)→CL prog t6 118 [.string s,iV i] H=some (.tuple #[iV c,iV n,iV 0],none))∧(dec s i=none→∃q:Int,q≠0∧CL prog t6 118 [.string s,iV i] H=some (.tuple #[iV 0,iV 0,iV q],none)):=by
 have d1:decide ((i:Int)<0)=false:=decide_eq_false oM;have d2:decide ((s.size:Int)≤i)=false:=decide_eq_false oM;rw[j8 WI rfl _ (by simp)];refine J2 d1 d2 ?_;refine l9 (F:=fun z=>(∀c n,dec s i=some (c,n)→u5 _ _ _ (u7 (inBlock 0 z) _)=some (.tuple #[iV c,iV n,iV 0],none))∧(dec s i=none→∃q:Int,q≠0∧u5 _ _ _ (u7 (inBlock 0 z) _)=some (.tuple #[iV 0,iV 0,iV q],none))) (yA H s i hi hz 4 _ _ ⟨1,rfl,oM,oM,fun m a b=>oM,rfl,rfl,rfl,i4.start H,lR⟩) ?_;rintro o e' H' ⟨hl,hS,⟨ho,hd,h0,h1⟩|⟨ho,c,n,hd,h4,h5,h6⟩⟩
 ·refine⟨fun c n h=>(by rw[hd]at h;cases h),fun _=>?_⟩;obtain⟨t,ht⟩:=ET H' s i oM hz;cases t with
  |true=>
   refine⟨7,by decide,?_⟩;exact J4 ho h0 h1 ht trivial
  |false=>
   refine⟨2,by decide,?_⟩;exact J4 ho h0 h1 ht trivial
 ·refine⟨fun c' n' h=>?_,fun h=>(by rw[hd]at h;cases h)⟩;rw[hd]at h;cases h;exact J4 ho h4 h5 h6 trivial
theorem eR{s:ByteArray}{i c n:Nat}(hi:i<s.size)(h:dec s i=some (c,n)):1≤n∧i+n≤s.size:=⟨(oP s i c n hi h).1,(oP s i c n hi h).2.2.1⟩
theorem mZ{s:ByteArray}{i c n:Nat}(h:dec s i=some (c,n)):c≤2097152:=by
 have:=U6 s i;unfold dec at h;split at h
 ·cases h;omega
 ·split at h
  ·split at h
   ·cases h;omega
   ·cases h
  ·split at h
   ·split at h
    ·cases h;omega
    ·cases h
   ·split at h
    ·split at h
     ·cases h;omega
     ·cases h
    ·cases h
def rLs(s:ByteArray)(i:Nat):List Int:=
 if h:i<s.size then
  match hd:dec s i with
  |some (c,n)=>(c:Int)::rLs s (i+n)
  |none=>[]
 else []
termination_by s.size-i
decreasing_by have:=eR h hd;omega
def fQ(s:ByteArray)(i:Nat):Bool:=
 if h:i<s.size then
  match hd:dec s i with
  |some (c,n)=>fQ s (i+n)
  |none=>false
 else true
termination_by s.size-i
decreasing_by have:=eR h hd;omega
theorem lL{s:ByteArray}{i c n:Nat}(hi:i<s.size)(h:dec s i=some (c,n)):rLs s i=(c:Int)::rLs s (i+n):=by
 rw[rLs,dif_pos hi];split
 ·rename_i c' n' h';rw[h]at h';cases h';rfl
 ·rename_i h';rw[h]at h';cases h'
theorem ez{s:ByteArray}{i:Nat}(h:i<s.size→dec s i=none):rLs s i=[]:=by
 rw[rLs];split
 ·rename_i hi;split
  ·rename_i c' n' h';rw[h hi]at h';cases h'
  ·rfl
 ·rfl
theorem iQ{s:ByteArray}{i c n:Nat}(hi:i<s.size)(h:dec s i=some (c,n)):fQ s i=fQ s (i+n):=by
 rw[fQ,dif_pos hi];split
 ·rename_i c' n' h';rw[h]at h';cases h';rfl
 ·rename_i h';rw[h]at h';cases h'
theorem iP{s:ByteArray}{i:Nat}(hi:i<s.size)(h:dec s i=none):fQ s i=false:=by
 rw[fQ,dif_pos hi];split
 ·rename_i c' n' h';rw[h]at h';cases h'
 ·rfl
theorem ru{s:ByteArray}{i:Nat}(hi:s.size≤i):fQ s i=true:=by rw[fQ,dif_neg oM]
theorem Co(s:ByteArray):∀k i,s.size-i=k→(yQ s i=0↔fQ s i=true):=by
 intro k;induction k using Nat.strongRecOn with
 |ind k ih=>
  intro i hk;by_cases hi:i<s.size
  ·rw[yQ,dif_pos hi];obtain⟨h1,h2⟩:=yR s i hi;cases hd:dec s i with
   |none=>
    rw[dif_neg (h2 hd),iP hi hd];have:=h2 hd;simp [this]
   |some q=>
    obtain⟨c,n⟩:=q;have e:=h1 c n hd;obtain⟨p1,p2⟩:=eR hi hd;rw[dif_pos (by rw[e]),e,iQ hi hd];simp only[Int.toNat_natCast];exact ih (s.size-(i+n)) oM (i+n) rfl
  ·rw[yQ,dif_neg hi,ru oM];simp
theorem zE(f:Int→Bool)(s:ByteArray):∀k i,s.size-i=k→fQ s i=true→zD f s i=(rLs s i).all f:=by
 intro k;induction k using Nat.strongRecOn with
 |ind k ih=>
  intro i hk h;by_cases hi:i<s.size
  ·cases hd:dec s i with
   |none=>rw[iP hi hd]at h;cases h
   |some q=>
    obtain⟨c,n⟩:=q;obtain⟨p1,p2⟩:=eR hi hd;rw[iQ hi hd]at h;rw[zD,dif_pos hi,tg s i hi c n hd,lL hi hd,List.all_cons,←ih (s.size-(i+n)) oM (i+n) rfl h];simp only;cases f c<;>simp
  ·rw[zD,dif_neg hi,ez (fun q=>absurd q hi)];rfl
theorem yT(s:ByteArray):im s=((rLs s 0).all iZ&&fQ s 0):=by
 rw[im];have h:=Co s _ 0 rfl;cases hr:fQ s 0 with
 |true=>rw[decide_eq_true (h.2 hr),zE iZ s _ 0 rfl hr];simp
 |false=>
  have:¬yQ s 0=0:=fun q=>by rw[h.1 q]at hr;cases hr
  rw[decide_eq_false this];simp
def dJ(n:Int):Value:= .int .i32 n
theorem pD(s:ByteArray)(H:d9)(hs:s.size≤1048576)(L:List Int)(t:Bool):∀k e H2,(∃(i:Nat)(v:Value)(l:List Int),k=s.size-i∧i≤s.size∧l.length≤i∧e.get 0= .string s∧e.get 5=v∧e.get 6=iV i∧V8 H2 H.next 1 v l.length (l.map dJ)∧i4 H.next H H2∧H.next≤H2.low∧l++rLs s i=L∧fQ s i=t)→
  u9 (LE prog t6 (.loop Gy) e H2) (fun o e H2=>∃(a:Int)(v:Value),V8 H2 H.next 1 v L.length (L.map dJ)∧i4 H.next H H2∧H.next≤H2.low∧((o= .exit 0∧t=true∧e.get 5=v∧e.get 6=iV a)∨(o= .ret∧t=false∧e.get 2=v∧e.get 3=iV a∧∃q:Int,q≠0∧e.get 4=iV q))):=by
 refine j7 _ _ ?_;rintro k e H2 ⟨i,v,l,hk,hi,hl0,f0,f5,f6,hO,hS,hl,fu,ft⟩;rcases hb:decide ((i:Int)<s.size)with _|_
 ·have hb':=dF hb;refine J3 f0 f6 hb ?_;rw[ez (fun q=>oM),List.append_nil]at fu;rw[ru oM]at ft;exact l7 ⟨i,v,by rw[←fu];exact hO,hS,hl,.inl ⟨rfl,ft.symm,f5,f6⟩⟩
 ·have hb':=dT hb;have hi':i<s.size:=oM;obtain⟨r1,r2⟩:=BO H2 s i hi' hs;cases hd:dec s i with
  |none=>
   obtain⟨q,hq,hc⟩:=r2 hd;have hq':decide (q=0)=false:=decide_eq_false hq;refine J6 f0 f5 f6 hb hc hq' ?_;rw[ez (fun _=>hd),List.append_nil]at fu;rw[iP hi' hd]at ft;exact A6 ⟨i,v,by rw[←fu];exact hO,hS,hl,.inr ⟨rfl,ft.symm,rfl,rfl,q,hq,rfl⟩⟩
  |some q=>
   obtain⟨c,n⟩:=q;obtain⟨p1,p2⟩:=eR hi' hd;have hcs:=mZ hd;have hc:=r1 c n hd;have hw:IntKind.wrap .i32 (c:Int)=c:=bN oM oM;obtain⟨v',H3,ha,hO2,hS2⟩:=sI (P:=prog) (t:=150) Cm.2.2.2.2.2.2 Cn.1 Cn.2.1 Cn.2.2.1 oM oM (hO.push (.cells [.int .i32 c] true 1)) (c:=H2.next) (m:=1) (k:=1) (el:=[.int .i32 c]) i7 oM (by simp) oM (by rw[i5];have:=hS.next;omega);have hS3:=(hS.trans (i4.push (B:= .cells [.int .i32 c] true 1) hS.next)).trans hS2;refine J8 f0 f5 f6 hb hc hw ha @wrap_small ?_;rw[lL hi' hd]at fu;rw[iQ hi' hd]at ft;refine i6 (k-n) oM ⟨i+n,v',l++[(c:Int)],oM,oM,by simp;omega,f0,rfl,rfl,?_,hS3,hS2.low hl,by rw[←fu];simp,ft⟩;have e1:(l++[(c:Int)]).length=l.length+1:=by simp
   have e2:(l++[(c:Int)]).map dJ=l.map dJ++[.int .i32 c]:=by simp [dJ]
   rw[e1,e2];exact hO2
theorem ES(H:d9)(s:ByteArray)(hs:s.size≤1048576):Ret (CL prog t6 95 [.string s] H) H fun w H1=>∃(v:Value)(a q:Int),w= .tuple #[v,iV a,iV q]∧decide (q=0)=fQ s 0∧V8 H1 H.next 1 v (rLs s 0).length ((rLs s 0).map dJ)∧i4 H.next H H1:=by
 rw[j8 af6 rfl _ (by simp)];refine J1 @if_true.{1} ?_;refine l9 (F:=fun z=>Ret (u5 _ _ _ (u7 (inBlock 0 z) _)) _ _) (pD s H hs (rLs s 0) (fQ s 0) s.size _ _ ⟨0,_,[],rfl,oM,by simp,rfl,rfl,rfl,.inl ⟨rfl,rfl,rfl⟩,i4.start H,lR,rfl,rfl⟩) ?_;rintro o e' H' ⟨a,v,hO,hS,hl,⟨ho,hr,h5,h6⟩|⟨ho,hr,h2,h3,q,hq,h4⟩⟩
 ·refine J3 ho h5 h6 ?_;rw[hr];exact ce (fun hn=>⟨v,a,0,rfl,rfl,hO.na (by simpa using hn),i4.refl _ _⟩) ⟨v,a,0,rfl,rfl,hO.low _,hS.ret hl⟩
 ·refine J4 ho h2 h3 h4 ?_;rw[hr];exact ce (fun hn=>⟨v,a,q,rfl,decide_eq_false hq,hO.na (by simpa using hn),i4.refl _ _⟩) ⟨v,a,q,rfl,decide_eq_false hq,hO.low _,hS.ret hl⟩
theorem yJ(H0:d9)(lo:Nat)(a:Option Addr)(c:Nat)(q:Int)(l:List Int)(hn:l.length≤1048576)(hr:∀x∈l,-2147483648≤x∧x≤2147483647) (hv:V8 H0 lo 1 (.slice a l.length c) l.length (l.map dJ)) (r:Bool):
  ∀k e H2,(∃i:Nat,k=l.length-i∧i≤l.length∧e.get 3= .slice a l.length c∧e.get 5=iV q∧e.get 6=iV i∧H2=H0∧(l.drop i).all iZ=r)→
  u9 (LE prog t6 (.loop Ge) e H2) (fun o e H2=>H2=H0∧((o= .exit 0∧r=true∧e.get 5=iV q)∨(o= .ret∧e.get 2= .bool false∧r=false))):=by
 refine j7 _ _ ?_;rintro k e H2 ⟨i,hk,hi,f3,f5,f6,hH,fu⟩;subst hH;rcases b:decide ((i:Int)<l.length)with _|_
 ·have hb':=dF b;have:l.drop i=[]:=dN oM;rw[this,List.all_nil]at fu;refine J3 f3 f6 b ?_;exact l7 ⟨rfl,.inl ⟨rfl,fu.symm,f5⟩⟩
 ·have hb':=dT b;rcases hv with⟨_,h0,_⟩|⟨nb,h1,hg,_,_⟩
  ·omega
  obtain⟨rfl,rfl⟩:a=some ⟨nb,0,none⟩∧c=l.length+1:=by simpa using h1
  obtain⟨x,hx,hd⟩:=eS (l:=l) (i:=i) oM;have hxr:=hr x (List.mem_of_getElem? hx);rw[hd,List.all_cons]at fu;have nt:(i:Int).toNat=i:=tN i;have hc:(l.map dJ)[i]?=some (.int .i32 x):=by rw[List.getElem?_map,hx];rfl
  rcases hq:iZ x with _|_
  ·rw[hq]at fu;refine J9 f3 f6 b hg @wrap_small @Nat.mul_one hc @ry hq ?_;exact A6 ⟨rfl,.inr ⟨rfl,rfl,by rw[←fu];rfl⟩⟩
  ·rw[hq]at fu;refine J9 f3 f6 b hg @wrap_small @Nat.mul_one hc @ry hq ?_;exact i6 (k-1) oM ⟨i+1,oM,oM,f3,f5,rfl,rfl,by rw[←fu];rfl⟩
theorem ym(s:ByteArray):∀k i,s.size-i=k→(rLs s i).length≤s.size-i∧∀x∈rLs s i,-2147483648≤x∧x≤2147483647:=by
 intro k;induction k using Nat.strongRecOn with
 |ind k ih=>
  intro i hk;by_cases hi:i<s.size
  ·cases hd:dec s i with
   |none=>rw[ez (fun _=>hd)];simp
   |some q=>
    obtain⟨c,n⟩:=q;obtain⟨p1,p2⟩:=eR hi hd;have hcs:=mZ hd;obtain⟨h1,h2⟩:=ih (s.size-(i+n)) oM (i+n) rfl;rw[lL hi hd];refine⟨by rw[List.length_cons];omega,fun x hx=>?_⟩;rcases List.mem_cons.1 hx with rfl|hx
    ·omega
    ·exact h2 x hx
  ·rw[ez (fun q=>absurd q hi)];simp
theorem eA(H:d9)(s:ByteArray)(hs:s.size≤1048576):CL prog t6 73 [.string s] H=some (.bool (im s),none):=by
 obtain⟨w,h,H1,hc,hh,v,a,q,rfl,hq,hO,hS⟩:=ES ⟨H.bs,H.next⟩ s hs;have hO':=hO;obtain⟨av,cv,rfl⟩:=hO.ownC.slice;have hl1:H.next≤H1.low:=hS.low lR;obtain⟨f1,f2⟩:=ym s _ 0 rfl;rw[j8 ae1 rfl _ (by simp),yT];refine J2 hc hh ?_;refine l9 (F:=fun z=>u5 _ _ _ (u7 (inBlock 0 z) _)=_) (yJ H1 H.next av cv q (rLs s 0) oM f2 hO' ((rLs s 0).all iZ) (rLs s 0).length _ _ ⟨0,rfl,oM,rfl,rfl,rfl,rfl,rfl⟩) ?_;rintro o e' H' ⟨hH,⟨ho,hr,h5⟩|⟨ho,h2,hr⟩⟩
 ·exact J5 ho hH h5 hq hr trivial
 ·exact J4 ho hH h2 hr trivial
def dLs(s:ByteArray)(i:Nat):List Int:=
 if h:i<s.size then((Utf8.decode s i).1:Int)::dLs s (i+(Utf8.decode s i).2) else []
termination_by s.size-i
decreasing_by have:=U8 s i;omega
theorem oQ(s:ByteArray)(i:Nat):(Utf8.decode s i).1≤2097152:=by
 unfold Utf8.decode;simp only;split
 ·omega
 ·split
  ·split
   ·simp only;omega
   ·simp [Utf8.runeError]
  ·split
   ·split
    ·simp only;omega
    ·simp [Utf8.runeError]
   ·split
    ·split
     ·simp only;omega
     ·simp [Utf8.runeError]
    ·simp [Utf8.runeError]
theorem xe(s:ByteArray):∀k i,s.size-i=k→(dLs s i).length≤s.size-i∧∀x∈dLs s i,-2147483648≤x∧x≤2147483647:=by
 intro k;induction k using Nat.strongRecOn with
 |ind k ih=>
  intro i hk;rw[dLs];split
  ·rename_i hi;have hp:=U8 s i;have hs:=oQ s i;obtain⟨h1,h2⟩:=ih (s.size-(i+(Utf8.decode s i).2)) oM (i+(Utf8.decode s i).2) rfl;refine⟨by rw[List.length_cons];omega,fun x hx=>?_⟩;rcases List.mem_cons.1 hx with rfl|hx
   ·omega
   ·exact h2 x hx
  ·simp
theorem uE(s:ByteArray):∀b i(acc:Array Value),s.size-i≤b→(Conv.runesFrom s b i acc).toList=acc.toList++(dLs s i).map dJ:=by
 intro b;induction b with
 |zero=>
  intro i acc hb;rw[dLs,dif_neg oM];simp [Conv.runesFrom]
 |succ b ih=>
  intro i acc hb;rw[Conv.runesFrom,dLs];by_cases hi:i<s.size
  ·have hp:=U8 s i;rw[if_pos hi,dif_pos hi];simp only;rw[ih _ _ oM];simp [dJ]
  ·rw[if_neg hi,dif_neg hi];simp
theorem te(H:d9)(s:ByteArray):W8 prog H 9 150 (.string s)=some (.slice (some ⟨H.next,0,none⟩) (dLs s 0).length ((dLs s 0).length+1),some (H.push (.cells ((dLs s 0).map dJ) true 1))):=by
 have h:=uE s s.size 0 #[] oM;have hl:(Conv.runesFrom s s.size 0 #[]).size=(dLs s 0).length:=by rw[←Array.length_toList,h];simp
 simp only[W8,Cm,ty9,Cn,hl,h];simp
theorem rm(s:ByteArray):∀k i,s.size-i=k→0<i→lu s i=(dLs s i).all gi:=by
 intro k;induction k using Nat.strongRecOn with
 |ind k ih=>
  intro i hk hpos;rw[lu,dLs];split
  ·rename_i hi;have hp:=U8 s i;rw[List.all_cons,←ih (s.size-(i+(Utf8.decode s i).2)) oM (i+(Utf8.decode s i).2) rfl oM,decide_eq_false (show¬i=0 from oM)];cases gi (Utf8.decode s i).1<;>simp
  ·rfl
theorem nV{s:ByteArray}:s.size=0↔s=eB:=by
 constructor
 ·intro h;obtain⟨d⟩:=s;have:d= #[]:=Array.size_eq_zero_iff.1 h;rw[this];rfl
 ·intro h;rw[h];rfl
def U9:List Int→Bool
 |[]=>false
 |x::_=>dR x
theorem si(s:ByteArray):mg s=(U9 (dLs s 0)&&(dLs s 0).all gi):=by
 rw[mg];by_cases h0:s.size=0
 ·have he:=nV.1 h0;rw[dLs,dif_neg oM,decide_eq_true he];simp [U9]
 ·have he:¬s=eB:=fun q=>h0 (nV.2 q);have hp:=U8 s 0;rw[dLs,dif_pos oM,lu,dif_pos oM,decide_eq_false he,List.all_cons,U9,←rm s _ (0+(Utf8.decode s 0).2) rfl oM];cases dR (Utf8.decode s 0).1<;>cases gi (Utf8.decode s 0).1<;>simp
theorem um(H0:d9)(nb:Nat)(l:List Int)(hn:l.length≤1048576)(hr:∀x∈l,-2147483648≤x∧x≤2147483647) (hg:H0.get nb=cE (l.map dJ) 1) (r:Bool):
  ∀k e H2,(∃i:Nat,k=l.length-i∧i≤l.length∧e.get 3= .slice (some ⟨nb,0,none⟩) l.length (l.length+1)∧e.get 4=iV i∧H2=H0∧(l.drop i).all gi=r)→
  u9 (LE prog t6 (.loop Gz) e H2) (fun o e H2=>H2=H0∧((o= .exit 0∧r=true)∨(o= .ret∧e.get 2= .bool false∧r=false))):=by
 refine j7 _ _ ?_;rintro k e H2 ⟨i,hk,hi,f3,f4,hH,fu⟩;subst hH;rcases b:decide ((i:Int)<l.length)with _|_
 ·have hb':=dF b;have:l.drop i=[]:=dN oM;rw[this,List.all_nil]at fu;refine J3 f3 f4 b ?_;exact l7 ⟨rfl,.inl ⟨rfl,fu.symm⟩⟩
 ·have hb':=dT b;obtain⟨x,hx,hd⟩:=eS (l:=l) (i:=i) oM;have hxr:=hr x (List.mem_of_getElem? hx);rw[hd,List.all_cons]at fu;have nt:(i:Int).toNat=i:=tN i;have hc:(l.map dJ)[i]?=some (.int .i32 x):=by rw[List.getElem?_map,hx];rfl
  rcases hq:gi x with _|_
  ·rw[hq]at fu;refine J9 f3 f4 b hg @wrap_small @Nat.mul_one hc @rE hq ?_;exact A6 ⟨rfl,.inr ⟨rfl,rfl,by rw[←fu];rfl⟩⟩
  ·rw[hq]at fu;refine J9 f3 f4 b hg @wrap_small @Nat.mul_one hc @rE hq ?_;exact i6 (k-1) oM ⟨i+1,oM,oM,f3,rfl,rfl,by rw[←fu];rfl⟩
theorem cL(H:d9)(s:ByteArray)(hs:s.size≤1048576):CL prog t6 97 [.string s] H=some (.bool (mg s),none):=by
 obtain⟨f1,f2⟩:=xe s _ 0 rfl;have hz:d9.next ⟨H.bs,H.next⟩=H.next:=rfl;rw[j8 af8 rfl _ (by simp),si];have hg:d9.get (d9.push ⟨H.bs,H.next⟩ (.cells ((dLs s 0).map dJ) true 1)) H.next=some (.cells ((dLs s 0).map dJ) true 1):=i7;have cv:W8 prog ⟨H.bs,H.next⟩ 9 150 (.string s)=some (.slice (some ⟨H.next,0,none⟩) (dLs s 0).length ((dLs s 0).length+1),some (d9.push ⟨H.bs,H.next⟩ (.cells ((dLs s 0).map dJ) true 1))):=te ⟨H.bs,H.next⟩ s;generalize dLs s 0=l at*;have hl0:decide ((l.length:Int)=0)=decide (l=[]):=decide_eq_decide.2 (by rw[←List.length_eq_zero_iff];omega);rcases b0:decide (l=[])with _|_
 ·have hne:=dF b0;obtain⟨x,m,hL⟩:=List.exists_cons_of_ne_nil hne;have hxr:=f2 x (by rw[hL];simp);have hpos:(0:Int)<(l.length:Int):=by rw[hL];simp only[List.length_cons];omega
  have hc:(l.map dJ)[0]?=some (.int .i32 x):=by rw[hL];rfl
  have hfs:U9 l=dR x:=by rw[hL,U9]
  rw[hfs];rcases b1:dR x with _|_
  ·exact J8 cv hl0 b0 hg hc @wrap_small @F5 b1 trivial
  ·refine J8 cv hl0 b0 hg hc @wrap_small @F5 b1 ?_;refine l9 (F:=fun z=>u5 _ _ _ (u7 (inBlock 0 z) _)=_) (um _ H.next l oM f2 hg (l.all gi) l.length _ _ ⟨0,rfl,oM,rfl,rfl,rfl,rfl⟩) ?_;have hlow:H.next≤(d9.push ⟨H.bs,H.next⟩ (.cells (l.map dJ) true 1)).low:=lR;rintro o e' H' ⟨hH,⟨ho,hr⟩|⟨ho,h2,hr⟩⟩
   ·exact J3 ho hr hH trivial
   ·exact J4 ho h2 hr hH trivial
 ·have he:=dT b0;have hfs:U9 l=false:=by rw[he,U9]
  rw[hfs];exact J3 cv hl0 b0 trivial
def gA(s x:ByteArray)(i:Nat):Int:=
 if h:i+x.size≤s.size∧i≤s.size then(if s.extract i (i+x.size)=x then(i:Int) else gA s x (i+1)) else -1
termination_by s.size+1-i
theorem uI{P:Program}(H:d9)(t:TypeId)(s:ByteArray)(i j:Nat)(ht:P.underlying t=some .string)(hi:i≤j)(hj:j≤s.size):Y7 P H t (.string s) (some (.int .i64 i)) (some (.int .i64 j)) none=some (.string (s.extract i j)):=by
 simp only[Y7,ht,bnd,Int.natCast_nonneg,if_true,Int.toNat_natCast];rw[if_pos ⟨hi,hj⟩]
theorem xm(H0:d9)(s x:ByteArray)(hs:s.size≤1048576)(hx:x.size≤1048576)(r:Int):
  ∀k e H2,(∃i:Nat,k=s.size+1-i∧i≤s.size+1∧e.get 0= .string s∧e.get 2= .string x∧e.get 7=iV i∧H2=H0∧gA s x i=r)→
  u9 (LE prog t6 (.loop Ar) e H2) (fun o e H2=>H2=H0∧((o= .exit 0∧r= -1)∨(o= .ret∧e.get 6=iV r))):=by
 refine j7 _ _ ?_;rintro k e H2 ⟨i,hk,hi,f0,f2,f7,hH,fu⟩;have hd0:H0=H0:=rfl;subst hH;rcases b:decide ((i:Int)+x.size≤s.size)with _|_
 ·have hb:=dF b;rw[gA,dif_neg oM]at fu;refine J5 f0 f2 f7 @wrap_small b ?_;exact l7 ⟨rfl,.inl ⟨rfl,fu.symm⟩⟩
 have hb:=dT b;rw[gA,dif_pos oM]at fu;have hsl:=uI (P:=prog) H2 9 s i (i+x.size) (by simp [ty9]) oM oM;have e1:((i+x.size:Nat):Int)=(i:Int)+x.size:=oM;rw[e1]at hsl;rcases b2:decide (s.extract i (i+x.size)=x)with _|_
 ·rw[if_neg (dF b2)]at fu;refine J7 f0 f2 f7 @wrap_small b hsl b2 ?_;exact i6 (k-1) oM ⟨i+1,oM,oM,f0,f2,rfl,rfl,fu⟩
 ·rw[if_pos (dT b2)]at fu;refine J7 f0 f2 f7 @wrap_small b hsl b2 ?_;exact A6 ⟨rfl,.inr ⟨rfl,by rw[←fu];rfl⟩⟩
theorem rz(H:d9)(s x:ByteArray)(hs:s.size≤1048576)(hx:x.size≤1048576):CL prog t6 125 [.string s,iV 0,.string x] H=some (.int .i64 (gA s x 0),none):=by
 rw[j8 WM rfl _ (by simp)];refine J1 ty3 ?_;refine l9 (F:=fun z=>u5 _ _ _ (u7 (inBlock 0 z) _)=_) (xm ⟨H.bs,H.next⟩ s x hs hx (gA s x 0) (s.size+1) _ _ ⟨0,rfl,oM,rfl,rfl,rfl,rfl,rfl⟩) ?_;rintro o e' H' ⟨hH,⟨ho,hr⟩|⟨ho,h6⟩⟩
 ·exact J3 ho hH hr trivial
 ·exact J3 ho hH h6 trivial
def jz:ByteArray:=⟨#[104,116,116,112,58,47,47,119,119,119,46,119,51,46,111,114,103,47,50,48,48,48,47,120,109,108,110,115,47]⟩
def qNamed(sp lc:ByteArray):Bool:= !decide (sp=jz)&&mg lc&&im lc&&im sp&&decide (gA sp ⟨#[123]⟩ 0<0)&&decide (gA sp ⟨#[125]⟩ 0<0)
theorem uy(H:d9)(a b:ByteArray)(ha:a.size≤1048576)(hb:b.size≤1048576):CL prog t6 100 [.agg #[.string a,.string b]] H=some (.bool (qNamed a b),none):=by
 have z1:(⟨#[123]⟩:ByteArray).size≤1048576:=by decide
 have z2:(⟨#[125]⟩:ByteArray).size≤1048576:=by decide
 rw[j8 Wq rfl _ (by simp)];rw[qNamed];rcases h0:decide (a=jz)with _|_
 ·rcases h1:mg b with _|_
  ·have h0':=h0;rw[jz]at h0';exact J3 @cL h0' h1 trivial
  rcases h2:im b with _|_
  ·have h0':=h0;rw[jz]at h0';exact J5 @cL @eA h0' h1 h2 trivial
  rcases h3:im a with _|_
  ·have h0':=h0;rw[jz]at h0';exact J6 @cL @eA h0' h1 h2 h3 trivial
  rcases h4:decide (gA a ⟨#[123]⟩ 0<0)with _|_
  ·have h0':=h0;rw[jz]at h0';exact J8 @cL @eA @rz h0' h1 h2 h3 h4 trivial
  have h0':=h0;rw[jz]at h0';exact J8 @cL @eA @rz h0' h1 h2 h3 h4 trivial
 ·have h0':=h0;rw[jz]at h0';exact J1 h0' trivial
def lst(f:Bool)(o:Int):Int:=if f then(if o=8 then 1 else if o=9∨o=10 then 2 else 0) else(if o=4∨o=5 then 2 else if o=6 then 1 else 0)
def mst(f:Bool)(o:Int):Int:=if f then(if o=8 then 1 else if o=9∨o=10 then 64 else 0) else(if o=4∨o=5 then 64 else if o=6 then 1 else 0)
def okN(op s least most:Int)(na nb:Nat):Bool:=decide (least≤na)&&decide ((na:Int)≤most)&&(decide (op=s)==decide (nb=1))&&decide (nb≤1)
def xy(op:Int):Bool:=decide (4≤op)&&decide (op≤6)
def AW(op:Int):Bool:=decide (op=6)||decide (op=7)
def iM(hn:Bool)(sp lc:ByteArray):Bool:=(hn== !(decide (sp=eB)&&decide (lc=eB)))&&(!hn||qNamed sp lc)
def rq(hv:Bool)(op:Int)(vl:ByteArray):Bool:=(hv||decide (vl=eB))&& !(decide (op=7)&&decide (vl=eB))&&im vl
def lE(f:Bool)(q:Q):Bool:=if f then decide (q.op≤11)&&iM (xy q.op) q.sp q.lc&&rq (AW q.op) q.op q.vl else decide (q.op≤7)
def okQ:Nat→Bool→Q→Bool
 |0,_,_=>false
 |d+1,f,q=>decide (1≤q.op)&&lE f q&&okN q.op (if f then 11 else 7) (lst f q.op) (mst f q.op) q.a.length q.b.length&&q.a.all (okQ d f)&&q.b.all (okQ d !f)
def fX(fn:Nat)(f:Bool)(d:Nat):Prop:=∀(k:Nat)(H:d9)(lo:Nat)(cs:LV)(q:Q),lo≤H.next→QR H lo k f cs q→CL prog t6 fn [.agg cs.toArray,iV d] H=some (.bool (okQ d f q),none)
theorem Bz(d:Nat)(hd64:d≤64)(ih:fX 51 false d)(k:Nat)(H0:d9)(lo:Nat)(va:Option Addr)(ca:Nat)(l:List Q)(hlo:lo≤H0.next)(hv:QsR H0 lo k false (.slice va l.length ca) l)(hn:l.length≤1048576)(bl:Nat)(cl:LV)(hb:H0.get bl=cE cl 1)(hc:cl[1]?=some (.slice va l.length ca))(r:Bool):
  ∀kk e H2,(∃i:Nat,kk=l.length-i∧i≤l.length∧e.get 1=iV ((d:Int)+1)∧e.get 2=pT bl∧e.get 7=iV i∧H2=H0∧(l.drop i).all (okQ d false)=r)→
  u9 (LE prog t6 (.loop FJ) e H2) (fun o e H2=>H2=H0∧((o= .exit 0∧e.get 1=iV ((d:Int)+1)∧e.get 2=pT bl∧r=true)∨(o= .ret∧e.get 4= .bool false∧r=false))):=by
 refine j7 _ _ ?_;rintro kk e H2 ⟨i,hk,hi,f1,f2,f6,hH,fu⟩;subst hH;rcases b:decide ((i:Int)<l.length)with _|_
 ·have hb':=dF b;have:l.drop i=[]:=dN oM;rw[this]at fu;refine J5 f2 f6 hb hc b ?_;exact l7 ⟨rfl,.inl ⟨rfl,f1,f2,fu.symm⟩⟩
 have hb':=dT b;obtain⟨x,nb,o,cs,own,el,hx,hd,rfl,hlt,hg,hle,hrow,hr⟩:=hv.row (i:=i) oM;have nt:(i:Int).toNat=i:=tN i;rw[hd,List.all_cons]at fu;simp only[qSz,if_true,Bool.false_eq_true,if_false]at hrow hg;have hca:=ih k H2 lo el x hlo hr;have hs1:(d:Int)+1-1=d:=oM;rcases b2:okQ d false x with _|_
 ·rw[b2]at hca fu;refine J12 f1 f2 f6 hb hc b hg nt hrow @wrap_small hs1 hca ?_;exact A6 ⟨rfl,.inr ⟨rfl,rfl,by rw[←fu];rfl⟩⟩
 ·rw[b2]at hca fu;refine J12 f1 f2 f6 hb hc b hg nt hrow @wrap_small hs1 hca ?_;exact i6 (kk-1) oM ⟨i+1,oM,oM,f1,f2,rfl,rfl,fu⟩
theorem BA(d:Nat)(hd64:d≤64)(ih:fX 78 true d)(k:Nat)(H0:d9)(lo:Nat)(va:Option Addr)(ca:Nat)(l:List Q)(hlo:lo≤H0.next)(hv:QsR H0 lo k true (.slice va l.length ca) l)(hn:l.length≤1048576)(bl:Nat)(cl:LV)(hb:H0.get bl=cE cl 1)(hc:cl[4]?=some (.slice va l.length ca))(r:Bool):
  ∀kk e H2,(∃i:Nat,kk=l.length-i∧i≤l.length∧e.get 1=iV ((d:Int)+1)∧e.get 2=pT bl∧e.get 9=iV i∧H2=H0∧(l.drop i).all (okQ d true)=r)→
  u9 (LE prog t6 (.loop Gh) e H2) (fun o e H2=>H2=H0∧((o= .exit 0∧e.get 1=iV ((d:Int)+1)∧e.get 2=pT bl∧r=true)∨(o= .ret∧e.get 4= .bool false∧r=false))):=by
 refine j7 _ _ ?_;rintro kk e H2 ⟨i,hk,hi,f1,f2,f6,hH,fu⟩;subst hH;rcases b:decide ((i:Int)<l.length)with _|_
 ·have hb':=dF b;have:l.drop i=[]:=dN oM;rw[this]at fu;refine J5 f2 f6 hb hc b ?_;exact l7 ⟨rfl,.inl ⟨rfl,f1,f2,fu.symm⟩⟩
 have hb':=dT b;obtain⟨x,nb,o,cs,own,el,hx,hd,rfl,hlt,hg,hle,hrow,hr⟩:=hv.row (i:=i) oM;have nt:(i:Int).toNat=i:=tN i;rw[hd,List.all_cons]at fu;simp only[qSz,if_true,Bool.false_eq_true,if_false]at hrow hg;have hca:=ih k H2 lo el x hlo hr;have hs1:(d:Int)+1-1=d:=oM;rcases b2:okQ d true x with _|_
 ·rw[b2]at hca fu;refine J12 f1 f2 f6 hb hc b hg nt hrow @wrap_small hs1 hca ?_;exact A6 ⟨rfl,.inr ⟨rfl,rfl,by rw[←fu];rfl⟩⟩
 ·rw[b2]at hca fu;refine J12 f1 f2 f6 hb hc b hg nt hrow @wrap_small hs1 hca ?_;exact i6 (kk-1) oM ⟨i+1,oM,oM,f1,f2,rfl,rfl,fu⟩
theorem BB(d:Nat)(hd64:d≤64)(ih1:fX 51 false d)(ih2:fX 78 true d)(k:Nat)(H0:d9)(lo:Nat)(va wa:Option Addr)(ca ca':Nat)(a b:List Q)(hlo:lo≤H0.next)(h1:QsR H0 lo k false (.slice va a.length ca) a)(h2:QsR H0 lo k true (.slice wa b.length ca') b)(hn1:a.length≤1048576)(hn2:b.length≤1048576)
  (bl:Nat) (cl:LV) (hb:H0.get bl=cE cl 1) (op:Int) (hc0:cl[0]?=some (.int .i64 op)) (hc:cl[1]?=some (.slice va a.length ca)) (hc':cl[2]?=some (.slice wa b.length ca')) (least most:Int) (e:Env) (f1:e.get 1=iV ((d:Int)+1)) (f2:e.get 2=pT bl) (fL:e.get 5=iV least) (fM:e.get 6=iV most):
  u9 (LE prog t6 DM e H0) (fun o e H2=>H2=H0∧o= .ret∧e.get 4= .bool (okN op 7 least most a.length b.length&&a.all (okQ d false)&&b.all (okQ d true))):=by
 have bnb:∀x y:Bool,E9 prog .neq 4 (.bool x) (.bool y)=some (.bool (!(x==y))):=fun x y=>cV 4 x y ty4.2.2.2.2.2.2.1;rw[DM,okN];rcases b1:decide (least≤a.length)with _|_
 ·have b1':decide ((a.length:Int)<least)=true:=by have:=dF b1;exact decide_eq_true oM
  exact J5 f2 fL hb hc b1' trivial
 have b1':decide ((a.length:Int)<least)=false:=by have:=dT b1;exact decide_eq_false oM
 rcases b2:decide ((a.length:Int)≤most)with _|_
 ·have b2':decide (most<(a.length:Int))=true:=by have:=dF b2;exact decide_eq_true oM
  exact J7 f2 fL fM hb hc b1' b2' trivial
 have b2':decide (most<(a.length:Int))=false:=by have:=dT b2;exact decide_eq_false oM
 have e1:decide ((b.length:Int)=1)=decide (b.length=1):=decide_eq_decide.2 oM;rcases b3:(decide (op=7)==decide (b.length=1))with _|_
 ·exact J12 f2 fL fM hb hc0 hc hc' b1' b2' bnb e1 b3 trivial
 rcases b4:decide (b.length≤1)with _|_
 ·have b4':decide ((1:Int)<b.length)=true:=by have:=dF b4;exact decide_eq_true oM
  exact J13 f2 fL fM hb hc0 hc hc' b1' b2' bnb e1 b3 b4' trivial
 have b4':decide ((1:Int)<b.length)=false:=by have:=dT b4;exact decide_eq_false oM
 have hb4:=dT b4;refine J13 f2 fL fM hb hc0 hc hc' b1' b2' bnb e1 b3 b4' ?_;refine l9 (F:=fun z=>u9 (u7 (inBlock 0 z) _) _) (Bz d hd64 ih1 k H0 lo va ca a hlo h1 hn1 bl cl hb hc (a.all (okQ d false)) a.length _ _ ⟨0,rfl,oM,f1,f2,rfl,rfl,rfl⟩) ?_;rintro o e' H' ⟨rfl,⟨ho,g1,g2,hr⟩|⟨ho,g4,hr⟩⟩
 ·have hs1:(d:Int)+1-1=d:=oM;rcases b5:decide (b.length=0)with _|_
  ·have hb5:=dF b5;have b5':decide ((b.length:Int)=0)=false:=decide_eq_false oM;have hl1:b.length=1:=oM;obtain⟨x,nb,o,cs,own,el,hx,hd,rfl,hlt,hg,hle,hrow,hR⟩:=h2.row (i:=0) oM;have hbx:b=[x]:=by
    obtain⟨y,rfl⟩:=List.length_eq_one_iff.1 hl1
    simpa using hx
   simp only[qSz,if_true,Bool.false_eq_true,if_false,Bool.not_false,Bool.not_true,Nat.zero_mul,Nat.add_zero]at hrow hg;have hca:=ih2 k H' lo el x hlo hR;have hall:b.all (okQ d true)=okQ d true x:=by rw[hbx];simp
   rw[hr,hall];exact J11 ho g1 g2 hb hc' b5' hg hrow @wrap_small hs1 hca trivial
  ·have hb5:=dT b5;have b5':decide ((b.length:Int)=0)=true:=decide_eq_true oM;have hbx:b=[]:=List.length_eq_zero_iff.1 hb5;have hall:b.all (okQ d true)=true:=by rw[hbx];rfl
   rw[hr,hall];exact J5 ho g2 hb hc' b5' trivial
 ·rw[hr];exact J2 ho g4 trivial
theorem BC(d:Nat)(hd64:d≤64)(ih1:fX 78 true d)(ih2:fX 51 false d)(k:Nat)(H0:d9)(lo:Nat)(va wa:Option Addr)(ca ca':Nat)(a b:List Q)(hlo:lo≤H0.next)(h1:QsR H0 lo k true (.slice va a.length ca) a)(h2:QsR H0 lo k false (.slice wa b.length ca') b)(hn1:a.length≤1048576)(hn2:b.length≤1048576)
  (bl:Nat) (cl:LV) (hb:H0.get bl=cE cl 1) (op:Int) (hc0:cl[0]?=some (.int .i64 op)) (hc:cl[4]?=some (.slice va a.length ca)) (hc':cl[5]?=some (.slice wa b.length ca')) (least most:Int) (e:Env) (f1:e.get 1=iV ((d:Int)+1)) (f2:e.get 2=pT bl) (fL:e.get 7=iV least) (fM:e.get 8=iV most):
  u9 (LE prog t6 DN e H0) (fun o e H2=>H2=H0∧o= .ret∧e.get 4= .bool (okN op 11 least most a.length b.length&&a.all (okQ d true)&&b.all (okQ d false))):=by
 have bnb:∀x y:Bool,E9 prog .neq 4 (.bool x) (.bool y)=some (.bool (!(x==y))):=fun x y=>cV 4 x y ty4.2.2.2.2.2.2.1;rw[DN,okN];rcases b1:decide (least≤a.length)with _|_
 ·have b1':decide ((a.length:Int)<least)=true:=by have:=dF b1;exact decide_eq_true oM
  exact J5 f2 fL hb hc b1' trivial
 have b1':decide ((a.length:Int)<least)=false:=by have:=dT b1;exact decide_eq_false oM
 rcases b2:decide ((a.length:Int)≤most)with _|_
 ·have b2':decide (most<(a.length:Int))=true:=by have:=dF b2;exact decide_eq_true oM
  exact J7 f2 fL fM hb hc b1' b2' trivial
 have b2':decide (most<(a.length:Int))=false:=by have:=dT b2;exact decide_eq_false oM
 have e1:decide ((b.length:Int)=1)=decide (b.length=1):=decide_eq_decide.2 oM;rcases b3:(decide (op=11)==decide (b.length=1))with _|_
 ·exact J12 f2 fL fM hb hc0 hc hc' b1' b2' bnb e1 b3 trivial
 rcases b4:decide (b.length≤1)with _|_
 ·have b4':decide ((1:Int)<b.length)=true:=by have:=dF b4;exact decide_eq_true oM
  exact J13 f2 fL fM hb hc0 hc hc' b1' b2' bnb e1 b3 b4' trivial
 have b4':decide ((1:Int)<b.length)=false:=by have:=dT b4;exact decide_eq_false oM
 have hb4:=dT b4;refine J13 f2 fL fM hb hc0 hc hc' b1' b2' bnb e1 b3 b4' ?_;refine l9 (F:=fun z=>u9 (u7 (inBlock 0 z) _) _) (BA d hd64 ih1 k H0 lo va ca a hlo h1 hn1 bl cl hb hc (a.all (okQ d true)) a.length _ _ ⟨0,rfl,oM,f1,f2,rfl,rfl,rfl⟩) ?_;rintro o e' H' ⟨rfl,⟨ho,g1,g2,hr⟩|⟨ho,g4,hr⟩⟩
 ·have hs1:(d:Int)+1-1=d:=oM;rcases b5:decide (b.length=0)with _|_
  ·have hb5:=dF b5;have b5':decide ((b.length:Int)=0)=false:=decide_eq_false oM;have hl1:b.length=1:=oM;obtain⟨x,nb,o,cs,own,el,hx,hd,rfl,hlt,hg,hle,hrow,hR⟩:=h2.row (i:=0) oM;have hbx:b=[x]:=by
    obtain⟨y,rfl⟩:=List.length_eq_one_iff.1 hl1
    simpa using hx
   simp only[qSz,if_true,Bool.false_eq_true,if_false,Bool.not_false,Bool.not_true,Nat.zero_mul,Nat.add_zero]at hrow hg;have hca:=ih2 k H' lo el x hlo hR;have hall:b.all (okQ d false)=okQ d false x:=by rw[hbx];simp
   rw[hr,hall];exact J11 ho g1 g2 hb hc' b5' hg hrow @wrap_small hs1 hca trivial
  ·have hb5:=dT b5;have b5':decide ((b.length:Int)=0)=true:=decide_eq_true oM;have hbx:b=[]:=List.length_eq_zero_iff.1 hb5;have hall:b.all (okQ d false)=true:=by rw[hbx];rfl
   rw[hr,hall];exact J5 ho g2 hb hc' b5' trivial
 ·rw[hr];exact J2 ho g4 trivial
theorem uf(d:Int)(sp lc:ByteArray)(hsp:sp.size≤1048576)(hlc:lc.size≤1048576)(H1:d9)(bl:Nat)(cl:LV)(hb:H1.get bl=cE cl 1)(hr:ldC (some true) (some 2) 1 cl=some (.agg #[.string sp,.string lc]))(hn hv:Bool)(e:Env)(f1:e.get 1=iV d)(f2:e.get 2=pT bl)(f5:e.get 5= .bool hn)(f6:e.get 6= .bool hv):
  (iM hn sp lc=false∧∃e',LE prog t6 AH e H1=some (.ret,e',H1)∧e'.get 4= .bool false)∨(iM hn sp lc=true∧∃e',LE prog t6 AH e H1=LE prog t6 qx e' H1∧e'.get 1=iV d∧e'.get 2=pT bl∧e'.get 6= .bool hv):=by
 have bnb:∀x y:Bool,E9 prog .neq 4 (.bool x) (.bool y)=some (.bool (!(x==y))):=fun x y=>cV 4 x y ty4.2.2.2.2.2.2.1;rw[AH,iM];rcases b1:(hn== !(decide (sp=eB)&&decide (lc=eB)))with _|_
 ·refine J6 f2 f5 hb hr bnb b1 ?_;exact .inl ⟨_,rfl,rfl⟩
 rcases hn with _|_
 ·refine J6 f2 f5 hb hr bnb b1 ?_;exact .inr ⟨_,rfl,f1,f2,f6⟩
 have hca:=uy H1 sp lc hsp hlc;rcases b2:qNamed sp lc with _|_
 ·rw[b2]at hca;refine J7 f2 f5 hb hr bnb b1 hca ?_;exact .inl ⟨_,rfl,rfl⟩
 ·rw[b2]at hca;refine J7 f2 f5 hb hr bnb b1 hca ?_;exact .inr ⟨_,rfl,f1,f2,f6⟩
theorem xY(d op:Int)(vl:ByteArray)(hq:vl.size≤1048576)(H1:d9)(bl:Nat)(cl:LV)(hb:H1.get bl=cE cl 1)(hc0:cl[0]?=some (.int .i64 op))(hc3:cl[3]?=some (.string vl))(hv:Bool)(e:Env)(f1:e.get 1=iV d)(f2:e.get 2=pT bl)(f6:e.get 6= .bool hv):
  (rq hv op vl=false∧∃e',LE prog t6 qx e H1=some (.ret,e',H1)∧e'.get 4= .bool false)∨(rq hv op vl=true∧∃e',LE prog t6 qx e H1=LE prog t6 AI e' H1∧e'.get 1=iV d∧e'.get 2=pT bl):=by
 rw[qx,rq];have ht:=eA H1 vl hq;have key:∀(t:Bool),im vl=t→∀(b0:Bool),decide (vl=eB)=b0→∀(b7:Bool),decide (op=7)=b7→∀hv':Bool,hv'=hv→
   (((hv'||b0)&& !(b7&&b0)&&t)=false∧∃e',LE prog t6 qx e H1=some (.ret,e',H1)∧e'.get 4= .bool false)∨(((hv'||b0)&& !(b7&&b0)&&t)=true∧∃e',LE prog t6 qx e H1=LE prog t6 AI e' H1∧e'.get 1=iV d∧e'.get 2=pT bl):=by
  intro t h1 b0 h2 b7 h3 hv' h4;subst h4;rw[h1]at ht;rw[qx];cases hv'<;>cases b0<;>cases b7<;>cases t<;>(simp(maxSteps:=20000000) -dsimp (disch:=first|omega|(simp only[rH]<;>omega)|fail) only[↓ai3,rQ,D8,sevalprocAttr,tyA,f2,f6,hb,hc0,hc3,h2,h3,ht])<;>first|exact .inl ⟨_,rfl,rfl⟩|exact .inr ⟨_,rfl,f1,f2⟩
 exact key _ rfl _ rfl _ rfl _ rfl
theorem ah3(d:Nat)(hd64:d≤64)(ih1:fX 51 false d)(ih2:fX 78 true d):fX 51 false (d+1):=by
 intro k H lo cs q hlo hr;cases k with
 |zero=>exact hr.elim
 |succ k=>
 obtain⟨va,ca,wa,ca',rfl,h1,h2,h3,h4⟩:=hr.path;have e1:((d+1:Nat):Int)=(d:Int)+1:=oM;rw[j8 Xl rfl _ (by simp),okQ,lE,e1];have b0:decide ((d:Int)+1=0)=false:=decide_eq_false oM;obtain⟨H1,hH1⟩:∃H1,H1=d9.push ⟨H.bs,H.next⟩ (.cells [iV q.op,.slice va q.a.length ca,.slice wa q.b.length ca'] true 1):=⟨_,rfl⟩
 have hS:i4 H.next H H1:=by rw[hH1];exact i4.first H _
 have hg:H1.get H.next=cE [iV q.op,.slice va q.a.length ca,.slice wa q.b.length ca'] 1:=by rw[hH1];exact i7
 have hlow:H.next≤H1.low:=by rw[hH1,t5];exact lR
 have hn:=hS.next;have h1':QsR H1 lo k false (.slice va q.a.length ca) q.a:=h1.mono (fun j hj=>hS.get j oM) lR;have h2':QsR H1 lo k true (.slice wa q.b.length ca') q.b:=h2.mono (fun j hj=>hS.get j oM) lR;rcases b1:decide (1≤q.op)with _|_
 ·have b1':decide (q.op<1)=true:=by have:=dF b1;exact decide_eq_true oM
  exact J4 hH1.symm hg b0 b1' trivial
 have b1':decide (q.op<1)=false:=by have:=dT b1;exact decide_eq_false oM
 rcases b2:decide (q.op≤7)with _|_
 ·have b2':decide (7<q.op)=true:=by have:=dF b2;exact decide_eq_true oM
  exact J5 hH1.symm hg b0 b1' b2' trivial
 have b2':decide (7<q.op)=false:=by have:=dT b2;exact decide_eq_false oM
 have fin:∀(e:Env),e.get 1=iV ((d:Int)+1)→e.get 2=pT H.next→e.get 5=iV (lst false q.op)→e.get 6=iV (mst false q.op)→
   u5 prog [.tmp 4] H (LE prog t6 DM e H1)=some (.bool (okN q.op 7 (lst false q.op) (mst false q.op) q.a.length q.b.length&&q.a.all (okQ d false)&&q.b.all (okQ d !false)),none):=by
  intro e f1 f2 f5 f6;refine l9 (F:=fun z=>u5 _ _ _ z=_) (BB d hd64 ih1 ih2 k H1 lo va wa ca ca' q.a q.b oM h1' h2' h3 h4 H.next _ hg q.op rfl rfl rfl _ _ e f1 f2 f5 f6) ?_;rintro o e' H' ⟨hH,ho,g4⟩;exact J3 ho hH g4 trivial
 by_cases o4:q.op=4
 ·have e4:lst false q.op=2∧mst false q.op=64:=by rw[o4];decide
  have c4:decide (q.op=4)=true:=decide_eq_true o4;have c6:decide (q.op=6)=false:=decide_eq_false oM;refine J7 hH1.symm hg b0 b1' b2' c4 c6 ?_;exact fin _ rfl rfl (by rw[e4.1];rfl) (by rw[e4.2];rfl)
 have c4:decide (q.op=4)=false:=decide_eq_false o4;by_cases o5:q.op=5
 ·have e4:lst false q.op=2∧mst false q.op=64:=by rw[o5];decide
  have c5:decide (q.op=5)=true:=decide_eq_true o5;have c6:decide (q.op=6)=false:=decide_eq_false oM;refine J8 hH1.symm hg b0 b1' b2' c4 c5 c6 ?_;exact fin _ rfl rfl (by rw[e4.1];rfl) (by rw[e4.2];rfl)
 have c5:decide (q.op=5)=false:=decide_eq_false o5;by_cases o6:q.op=6
 ·have e4:lst false q.op=1∧mst false q.op=1:=by rw[o6];decide
  have c6:decide (q.op=6)=true:=decide_eq_true o6;refine J8 hH1.symm hg b0 b1' b2' c4 c5 c6 ?_;exact fin _ rfl rfl (by rw[e4.1];rfl) (by rw[e4.2];rfl)
 have c6:decide (q.op=6)=false:=decide_eq_false o6;have e4:lst false q.op=0∧mst false q.op=0:=by simp [lst,mst,o4,o5,o6]
 refine J8 hH1.symm hg b0 b1' b2' c4 c5 c6 ?_;exact fin _ rfl rfl (by rw[e4.1];rfl) (by rw[e4.2];rfl)
theorem ah4(d:Nat)(hd64:d≤64)(ih1:fX 78 true d)(ih2:fX 51 false d):fX 78 true (d+1):=by
 intro k H lo cs q hlo hr;cases k with
 |zero=>exact hr.elim
 |succ k=>
 obtain⟨va,ca,wa,ca',rfl,h1,h2,h3,h4,z1,z2,z3⟩:=hr.filter;have e1:((d+1:Nat):Int)=(d:Int)+1:=oM;rw[j8 Xn rfl _ (by simp),okQ,lE,e1,if_pos rfl];have b0:decide ((d:Int)+1=0)=false:=decide_eq_false oM;obtain⟨H1,hH1⟩:∃H1,H1=d9.push ⟨H.bs,H.next⟩ (.cells [iV q.op,.string q.sp,.string q.lc,.string q.vl,.slice va q.a.length ca,.slice wa q.b.length ca'] true 1):=⟨_,rfl⟩
 have hS:i4 H.next H H1:=by rw[hH1];exact i4.first H _
 have hg:H1.get H.next=cE [iV q.op,.string q.sp,.string q.lc,.string q.vl,.slice va q.a.length ca,.slice wa q.b.length ca'] 1:=by rw[hH1];exact i7
 have hlow:H.next≤H1.low:=by rw[hH1,t5];exact lR
 have hn:=hS.next;have h1':QsR H1 lo k true (.slice va q.a.length ca) q.a:=h1.mono (fun j hj=>hS.get j oM) lR;have h2':QsR H1 lo k false (.slice wa q.b.length ca') q.b:=h2.mono (fun j hj=>hS.get j oM) lR;rcases b1:decide (1≤q.op)with _|_
 ·have b1':decide (q.op<1)=true:=by have:=dF b1;exact decide_eq_true oM
  exact J4 hH1.symm hg b0 b1' trivial
 have b1':decide (q.op<1)=false:=by have:=dT b1;exact decide_eq_false oM
 rcases b2:decide (q.op≤11)with _|_
 ·have b2':decide (11<q.op)=true:=by have:=dF b2;exact decide_eq_true oM
  exact J5 hH1.symm hg b0 b1' b2' trivial
 have b2':decide (11<q.op)=false:=by have:=dT b2;exact decide_eq_false oM
 have fin:∀(e:Env),e.get 1=iV ((d:Int)+1)→e.get 2=pT H.next→e.get 7=iV (lst true q.op)→e.get 8=iV (mst true q.op)→
   u5 prog [.tmp 4] H (LE prog t6 DN e H1)=some (.bool (okN q.op 11 (lst true q.op) (mst true q.op) q.a.length q.b.length&&q.a.all (okQ d true)&&q.b.all (okQ d !true)),none):=by
  intro e f1 f2 f5 f6;refine l9 (F:=fun z=>u5 _ _ _ z=_) (BC d hd64 ih1 ih2 k H1 lo va wa ca ca' q.a q.b oM h1' h2' h3 h4 H.next _ hg q.op rfl rfl rfl _ _ e f1 f2 f5 f6) ?_;rintro o e' H' ⟨hH,ho,g4⟩;exact J3 ho hH g4 trivial
 have low:∀(e:Env),e.get 1=iV ((d:Int)+1)→e.get 2=pT H.next→
   u5 prog [.tmp 4] H (LE prog t6 AI e H1)=some (.bool (okN q.op 11 (lst true q.op) (mst true q.op) q.a.length q.b.length&&q.a.all (okQ d true)&&q.b.all (okQ d !true)),none):=by
  intro e f1 f2;rw[AI];by_cases o8:q.op=8
  ·have e4:lst true q.op=1∧mst true q.op=1:=by rw[o8];decide
   have c8:decide (q.op=8)=true:=decide_eq_true o8;have c9:decide (q.op=9)=false:=decide_eq_false oM;have c10:decide (q.op=10)=false:=decide_eq_false oM;refine J5 f2 hg c8 c9 c10 ?_;exact fin _ f1 f2 (by rw[e4.1];rfl) (by rw[e4.2];rfl)
  have c8:decide (q.op=8)=false:=decide_eq_false o8;by_cases o9:q.op=9
  ·have e4:lst true q.op=2∧mst true q.op=64:=by rw[o9];decide
   have c9:decide (q.op=9)=true:=decide_eq_true o9;refine J4 f2 hg c8 c9 ?_;exact fin _ f1 f2 (by rw[e4.1];rfl) (by rw[e4.2];rfl)
  have c9:decide (q.op=9)=false:=decide_eq_false o9;by_cases o10:q.op=10
  ·have e4:lst true q.op=2∧mst true q.op=64:=by rw[o10];decide
   have c10:decide (q.op=10)=true:=decide_eq_true o10;refine J5 f2 hg c8 c9 c10 ?_;exact fin _ f1 f2 (by rw[e4.1];rfl) (by rw[e4.2];rfl)
  have c10:decide (q.op=10)=false:=decide_eq_false o10;have e4:lst true q.op=0∧mst true q.op=0:=by simp [lst,mst,o8,o9,o10]
  refine J5 f2 hg c8 c9 c10 ?_;exact fin _ f1 f2 (by rw[e4.1];rfl) (by rw[e4.2];rfl)
 have mid:∀(e:Env),e.get 1=iV ((d:Int)+1)→e.get 2=pT H.next→e.get 5= .bool (xy q.op)→e.get 6= .bool (AW q.op)→
   u5 prog [.tmp 4] H (LE prog t6 AH e H1)=some (.bool (iM (xy q.op) q.sp q.lc&&rq (AW q.op) q.op q.vl&&okN q.op 11 (lst true q.op) (mst true q.op) q.a.length q.b.length&&q.a.all (okQ d true)&&q.b.all (okQ d !true)),none):=by
  intro e f1 f2 f5 f6;rcases uf _ q.sp q.lc z1 z2 H1 H.next _ hg rfl _ _ e f1 f2 f5 f6 with⟨hA,e',hE,g4⟩|⟨hA,e',hE,g1,g2,g6⟩
  ·rw[hE,hA];exact J1 g4 trivial
  rw[hE,hA];rcases xY _ q.op q.vl z3 H1 H.next _ hg rfl rfl _ e' g1 g2 g6 with⟨hB,e2,hE2,k4⟩|⟨hB,e2,hE2,k1,k2⟩
  ·rw[hE2,hB];exact J1 k4 trivial
  rw[hE2,hB,low e2 k1 k2];simp only[Bool.true_and]
 have hN:∀a b:Bool,decide (4≤q.op)=a→decide (q.op≤6)=b→xy q.op=(a&&b):=by intro a b h h';rw[xy,h,h']
 have hV:∀a b:Bool,decide (q.op=6)=a→decide (q.op=7)=b→AW q.op=(a||b):=by intro a b h h';rw[AW,h,h']
 rcases h4:decide (4≤q.op)with _|_<;>rcases h6:decide (q.op≤6)with _|_<;>rcases k6:decide (q.op=6)with _|_<;>rcases k7:decide (q.op=7)with _|_<;>(simp(maxSteps:=20000000) -dsimp (disch:=first|omega|(simp only[rH]<;>omega)|fail) only[↓ai3,rQ,D8,sevalprocAttr,tyA,←hH1,hg,b0,b1',b2',h4,h6,k6,k7])<;>exact mid _ rfl rfl (by rw[hN _ _ h4 h6];rfl) (by rw[hV _ _ k6 k7];rfl)
theorem Np:∀d,d≤64→fX 51 false d∧fX 78 true d:=by
 intro d;induction d with
 |zero=>
  intro _
  constructor
  ·intro k H lo cs q hlo hr;cases k with
   |zero=>exact hr.elim
   |succ k=>
   obtain⟨va,ca,wa,ca',rfl,h1,h2,h3,h4⟩:=hr.path;rw[j8 Xl rfl _ (by simp),okQ];exact J1 @Int.natCast_zero trivial
  ·intro k H lo cs q hlo hr;cases k with
   |zero=>exact hr.elim
   |succ k=>
   obtain⟨va,ca,wa,ca',rfl,h1,h2,h3,h4,z1,z2,z3⟩:=hr.filter;rw[j8 Xn rfl _ (by simp),okQ];exact J1 @Int.natCast_zero trivial
 |succ d ih=>
  intro h;obtain⟨a,b⟩:=ih oM;exact⟨ah3 d oM a b,ah4 d oM b a⟩
def ey(q:Q):Bool:=decide (szQ q 64≤64)&&okQ 16 false q
theorem uz(H:d9)(lo k:Nat)(cs:LV)(q:Q)(hlo:lo≤H.next)(hr:QR H lo k false cs q):CL prog t6 29 [.agg cs.toArray] H=some (.bool (ey q),none):=by
 cases k with
 |zero=>exact hr.elim
 |succ k=>
 have hr0:=hr;obtain⟨va,ca,wa,ca',rfl,h1,h2,h3,h4⟩:=hr.path;obtain⟨H1,hH1⟩:∃H1,H1=d9.push ⟨H.bs,H.next⟩ (.cells [iV q.op,.slice va q.a.length ca,.slice wa q.b.length ca'] true 1):=⟨_,rfl⟩
 have hS:i4 H.next H H1:=by rw[hH1];exact i4.first H _
 have hg:H1.get H.next=cE [iV q.op,.slice va q.a.length ca,.slice wa q.b.length ca'] 1:=by rw[hH1];exact i7
 have hlow:H.next≤H1.low:=by rw[hH1,t5];exact lR
 have hn:=hS.next;have hrow:ldC (some true) (some 3) 0 [iV q.op,.slice va q.a.length ca,.slice wa q.b.length ca']=some (.agg [iV q.op,.slice va q.a.length ca,.slice wa q.b.length ca'].toArray):=rfl;have hr1:QR H1 lo (k+1) false _ q:=hr0.mono (fun j hj=>hS.get j oM) lR;have c1:=BP H1 lo (k+1) _ q oM hr1;have c2:=(Np 16 oM).1 (k+1) H1 lo _ q oM hr1;have e16:((16:Nat):Int)=16:=rfl;rw[e16]at c2;rw[j8 aa8 rfl _ (by simp),ey];rcases b:decide (szQ q 64≤64)with _|_
 ·exact J5 hH1.symm hg hrow c1 b trivial
 ·exact J6 hH1.symm hg hrow c1 c2 b trivial
end Go.Proofs.YtofbhlhamfkljaaGreatDoor.Ve
