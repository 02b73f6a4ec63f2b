/- squeezed -/
import Derived.Test.YtnoegamaadakpaaGreatDoorPAbsDra
import Derived.Test.YtnoegamaadakpaaGreatDoorProg
set_option linter.unusedVariables false
set_option linter.unusedSimpArgs false
set_option linter.unusedSectionVars false

set_option maxRecDepth 100000
namespace Go.Ab
open Go.Proofs
@[reducible] def F.kdr:FuncId:=4
@[reducible] def F.ku6:FuncId:=5
@[reducible] def F.kig:FuncId:=6
@[reducible] def F.kjd:FuncId:=8
@[reducible] def F.kch:FuncId:=9
@[reducible] def F.kod:FuncId:=10
@[reducible] def F.khy:FuncId:=13
@[reducible] def F.kub:FuncId:=14
@[reducible] def F.kdd:FuncId:=15
@[reducible] def F.kpx:FuncId:=16
@[reducible] def F.kgl:FuncId:=17
@[reducible] def F.kuv:FuncId:=18
@[reducible] def F.ktj:FuncId:=19
@[reducible] def F.kcu:FuncId:=20
@[reducible] def F.kcg:FuncId:=21
@[reducible] def F.klp:FuncId:=22
@[reducible] def F.kdm:FuncId:=23
@[reducible] def F.kl8:FuncId:=24
@[reducible] def F.kpm:FuncId:=25
@[reducible] def F.kgh:FuncId:=26
@[reducible] def F.kb2:FuncId:=27
@[reducible] def F.kkc:FuncId:=28
@[reducible] def F.kpk:FuncId:=29
@[reducible] def F.kli:FuncId:=30
@[reducible] def F.kn4:FuncId:=31
@[reducible] def F.kpl:FuncId:=32
@[reducible] def F.kde:FuncId:=33
@[reducible] def F.kr2:FuncId:=34
@[reducible] def F.kce:FuncId:=36
@[reducible] def F.krm:FuncId:=37
@[reducible] def F.kia:FuncId:=38
@[reducible] def F.kln:FuncId:=39
@[reducible] def F.kqd:FuncId:=40
@[reducible] def F.kn0:FuncId:=41
@[reducible] def F.kw:FuncId:=42
@[reducible] def F.kev:FuncId:=43
@[reducible] def F.kdu:FuncId:=44
@[reducible] def F.kdv:FuncId:=45
@[reducible] def F.ke7:FuncId:=46
@[reducible] def F.kj4:FuncId:=47
@[reducible] def F.kcm:FuncId:=48
@[reducible] def F.khf:FuncId:=49
@[reducible] def F.kfk:FuncId:=50
@[reducible] def F.kda:FuncId:=51
@[reducible] def F.kgn:FuncId:=52
@[reducible] def F.kle:FuncId:=53
@[reducible] def F.knh:FuncId:=54
@[reducible] def F.kjy:FuncId:=55
@[reducible] def F.kcf:FuncId:=56
@[reducible] def F.kj8:FuncId:=57
@[reducible] def F.kgd:FuncId:=58
@[reducible] def F.ki9:FuncId:=59
@[reducible] def F.kb6:FuncId:=60
@[reducible] def F.ku1:FuncId:=61
@[reducible] def F.kl3:FuncId:=62
@[reducible] def F.keh:FuncId:=63
@[reducible] def F.kdq:FuncId:=64
@[reducible] def F.kbw:FuncId:=65
@[reducible] def F.kfj:FuncId:=66
@[reducible] def F.kql:FuncId:=67
@[reducible] def F.kp1:FuncId:=68
@[reducible] def F.kko:FuncId:=69
@[reducible] def F.krn:FuncId:=70
@[reducible] def F.kri:FuncId:=71
@[reducible] def F.kbs:FuncId:=72
@[reducible] def F.knj:FuncId:=73
@[reducible] def F.kmf:FuncId:=74
@[reducible] def F.kkh:FuncId:=75
@[reducible] def F.kew:FuncId:=76
@[reducible] def F.knw:FuncId:=77
@[reducible] def F.kb7:FuncId:=78
@[reducible] def F.ki3:FuncId:=79
@[reducible] def F.kto:FuncId:=80
@[reducible] def F.kcj:FuncId:=81
@[reducible] def F.ksk:FuncId:=82
@[reducible] def F.keg:FuncId:=83
@[reducible] def F.kdh:FuncId:=84
@[reducible] def F.khl:FuncId:=85
@[reducible] def F.kfz:FuncId:=86
@[reducible] def F.kqf:FuncId:=87
@[reducible] def F.khd:FuncId:=88
@[reducible] def F.krh:FuncId:=89
@[reducible] def F.kta:FuncId:=90
@[reducible] def F.kgo:FuncId:=91
@[reducible] def F.kpy:FuncId:=92
@[reducible] def F.kkf:FuncId:=93
@[reducible] def F.kbm:FuncId:=94
@[reducible] def F.kxs:FuncId:=95
@[reducible] def F.kge:FuncId:=96
@[reducible] def F.ke3:FuncId:=97
@[reducible] def F.kem:FuncId:=98
@[reducible] def F.kbq:FuncId:=99
@[reducible] def F.kl2:FuncId:=100
@[reducible] def F.kcv:FuncId:=101
@[reducible] def F.kj5:FuncId:=102
@[reducible] def F.kjm:FuncId:=103
@[reducible] def F.kdl:FuncId:=104
@[reducible] def F.kdf:FuncId:=105
@[reducible] def F.kd7:FuncId:=106
@[reducible] def F.ksg:FuncId:=107
@[reducible] def F.kdn:FuncId:=108
@[reducible] def F.kfi:FuncId:=109
@[reducible] def F.kfw:FuncId:=110
@[reducible] def F.kb8:FuncId:=111
@[reducible] def F.kic:FuncId:=112
@[reducible] def F.kir:FuncId:=113
@[reducible] def F.kfv:FuncId:=114
@[reducible] def F.kuj:FuncId:=115
@[reducible] def F.kro:FuncId:=116
@[reducible] def F.khj:FuncId:=117
@[reducible] def F.krr:FuncId:=118
@[reducible] def F.kuy:FuncId:=119
@[reducible] def F.klj:FuncId:=120
@[reducible] def F.ks8:FuncId:=121
@[reducible] def F.kbk:FuncId:=122
@[reducible] def F.khc:FuncId:=123
@[reducible] def F.kc1:FuncId:=124
@[reducible] def F.kg7:FuncId:=125
@[reducible] def F.kb1:FuncId:=126
@[reducible] def F.klk:FuncId:=127
@[reducible] def F.kdo:FuncId:=130
@[reducible] def F.khi:FuncId:=131
@[reducible] def F.kbu:FuncId:=132
@[reducible] def F.kqp:FuncId:=133
@[reducible] def F.kez:FuncId:=134
@[reducible] def F.kgc:FuncId:=135
@[reducible] def F.knv:FuncId:=136
@[reducible] def F.kd3:FuncId:=137
@[reducible] def F.kfd:FuncId:=138
@[reducible] def F.kb4:FuncId:=139
@[reducible] def F.kvn:FuncId:=140
@[reducible] def F.k3g:FuncId:=141
@[reducible] def F.kei:FuncId:=142
@[reducible] def F.kp9:FuncId:=143
@[reducible] def F.kd0:FuncId:=144
@[reducible] def F.kdw:FuncId:=145
@[reducible] def F.khq:FuncId:=146
@[reducible] def F.ki6:FuncId:=147
@[reducible] def T.unit:TypeId:=0
@[reducible] def T.func:TypeId:=1
@[reducible] def T.int:TypeId:=3
@[reducible] def T.bool:TypeId:=4
@[reducible] def T.string:TypeId:=9
@[reducible] def T.any:TypeId:=20
@[reducible] def T.kf:TypeId:=22
@[reducible] def T.kgp:TypeId:=24
@[reducible] def T.kcp:TypeId:=25
@[reducible] def T.ks4:TypeId:=26
@[reducible] def T.kbt:TypeId:=28
@[reducible] def T.kc8:TypeId:=29
@[reducible] def T.ko:TypeId:=33
@[reducible] def T.kr:TypeId:=38
@[reducible] def T.kxp:TypeId:=50
@[reducible] def T.kkn:TypeId:=53
@[reducible] def T.ki0:TypeId:=59
@[reducible] def T.kca:TypeId:=63
@[reducible] def T.kn:TypeId:=101
@[reducible] def T.kq7:TypeId:=107
@[reducible] def T.kco:TypeId:=138
@[reducible] noncomputable def Pg:Program:=Tryz.prog
@[reducible] def Gl.math_bits_divideError:Nat:=0
@[reducible] def Gl.math_bits_overflowError:Nat:=1
@[reducible] def Gl.math_bits_deBruijn64tab:Nat:=2
def keepTab:List (Nat×Nat×List Nat):=[(3,12,[2,3,4,11,13,15,16]),(3,22,[3,4,11,13,15,19,20]),(3,26,[3,4,11,13,15,19,20,21,22]),(4,7,[3,4,5,8,11]),(4,21,[3,8,19,20,22,24]),(6,3,[0,2,4,5]),(7,3,[2,3,4,7,8]),(7,8,[3,4,7,9]),(7,15,[3,4,10,11]),(9,14,[7,8,9,11,12,15,40,41,42]),(10,1000006,[0,1,2,3,5,6,7,8,9,10,11,13,14,15,4,12,16,17,18,19,20]),(10,2000006,[7,15]),(10,3000006,[5,6,13,14]),(11,4,[1,3,4,5]),(11,7,[1,3,4,5,6]),(13,4,[0,1,5]),(15,5,[1,4]),(15,10,[1,4,5]),(17,8,[1,2,3,6,9,10]),(20,11,[5,6,7,9,12,33,34,35]),(21,5,[0,1,4,6,7]),(21,13,[0,1,4,6,7,9,10]),(22,1000002,[0,1,2,3,4,5,6,7,8,9,10,11,12,13,14,15,16,17,18,19,21,22,20,23,24,25]),(31,1000009,[0,1,7,2,3,4,5,6,8,9]),(31,1000010,[0,1,8,9,2,3,4,5,6,7,10,11,12]),(31,2000009,[7]),(31,2000010,[8,9]),(32,1000004,[0,1,5,2,3,4,6,7,8,9,10,11]),(35,4,[0,1,5,6,7]),(36,3,[0,3,4]),(36,7,[0,3,4,5,6]),(38,4,[0,3]),(42,7,[2,3,4,5,6,10,14,15]),(43,7,[1,7,9,10,12]),(43,1000011,[0,1,8,9,2,3,4,5,6,7,10,11,12]),(43,2000011,[8,9]),(46,3,[1,5,6]),(50,4,[0,1]),(58,4,[1,27,28,29]),(60,2,[0,1,7,8]),(65,1,[0,1,2,10,11,12]),(65,4,[0,1,2,4,10,11,12,18,19]),(66,7,[2,3,6,8,44,45,46]),(76,5,[0,4,40]),(78,7,[0,2,8,9,10,44]),(78,12,[2,8,9,11,12]),(78,16,[2,8,9,11,12,13,72]),(81,3,[0,4,5]),(81,7,[0,4,5,6,7]),(83,2,[0,3]),(84,4,[0,1,6,7,8]),(84,9,[0,1,6,7,8,9,10]),(85,2,[0,1,5]),(86,6,[0,4,5]),(88,7,[8,9]),(91,4,[1,3]),(93,1000001,[0,2,7,1,3,4,5,6,8,9]),(93,2000001,[7]),(94,2,[0,1,7,8]),(97,6,[0,1,5]),(99,2,[0,3]),(100,1000006,[0,1,2,4,5,8,9,10,12,13,3,6,7,11,14,15,16,17]),(100,1000007,[0,1,2,4,5,9,10,12,13,3,6,7,8,11,14,15,16,17,18]),(101,3,[1,5,20,21,22]),(101,7,[1,5,6,7,8,20,21,22,27,28,29]),(104,6,[0,1,5,6,21,22]),(105,4,[0,1,5,6,13,14]),(106,2,[0,1,2,6,7]),(109,4,[0,1,6,7,8]),(111,6,[6,7,8,9,10,11]),(111,10,[6,7,8,9,10,11,12,13]),(111,18,[6,10,15,16,112,113]),(112,5,[4,6,23,24,25]),(113,5,[2,3,4,6,8,9,35,36]),(122,4,[0,1,2,7,8,20,21]),(123,6,[0,1,5]),(124,3,[0,1,5,6]),(124,7,[0,1,5,6,7,8]),(125,4,[0,1,5,6,7]),(125,1000006,[0,1,2,3,4,5,6,9,7,8,10,11]),(126,1,[0,1,6,7,8]),(126,6,[0,1,5]),(131,3,[3,7,8,9]),(132,3,[0,1,2]),(132,17,[2,8,9,10,11,13,14,15,16]),(132,24,[2,8,9,10,14,15,16,17,18]),(134,3,[1,5,12,13,14]),(135,4,[2,3,4,11,12]),(139,1,[0,6,7,8]),(139,3,[0,3,4,6,7,8]),(145,2,[0,1,2,6,12,13]),(146,2,[0,3]),(147,2,[0,1,7,8])]
noncomputable def go:Rec:=run Pg (keepOf keepTab)
theorem ke(k:Key)(h:AH):go k h=stepA Pg (keepOf keepTab) go k h:=kbdd _ k h
theorem k4s:Pg.underlying T.int=some (.int .i64):=Tryz.underlying3
theorem kjq:Pg.cellsOf T.int=1:=by kernel_rfl
theorem kben:kdj Pg T.int=some [.int .i64 0]:=by kernel_rfl
theorem k9w:Pg.bytesOf T.int=8:=by kernel_rfl
theorem kt4:Pg.underlying T.kf=some (.int .u64):=Tryz.underlying22
theorem kj6:Pg.cellsOf T.kf=1:=by kernel_rfl
theorem kbef:kdj Pg T.kf=some [.int .u64 0]:=by kernel_rfl
theorem kc0:Pg.bytesOf T.kf=8:=by kernel_rfl
theorem kyj:Pg.underlying T.kgp=some (.struct #[{name := "P",type:=T.kf,offset:=0,embedded:=false,tag := "",pkgPath := "",byteOffset:=0},{name := "Q",type:=T.kf,offset:=1,embedded:=false,tag := "",pkgPath := "",byteOffset:=8}]):=Tryz.underlying24
theorem kbf2:Pg.cellsOf T.kgp=2:=by kernel_rfl
theorem kblb:Pg.underlying T.kcp=some (.slice T.int):=Tryz.underlying25
theorem ky8:Pg.cellsOf T.kcp=1:=by kernel_rfl
theorem kbd7:Pg.underlying T.ks4=some (.slice T.kcp):=Tryz.underlying26
theorem kbkz:Pg.cellsOf T.ks4=1:=by kernel_rfl
theorem kxe:Pg.underlying T.kbt=some (.struct #[{name := "Ids",type:=T.kcp,offset:=0,embedded:=false,tag := "",pkgPath := "",byteOffset:=0},{name := "Bins",type:=T.kcp,offset:=1,embedded:=false,tag := "",pkgPath := "",byteOffset:=24},{name := "Cols",type:=T.ks4,offset:=2,embedded:=false,tag := "",pkgPath := "",byteOffset:=48}]):=Tryz.underlying28
theorem k5k:Pg.cellsOf T.kbt=3:=by kernel_rfl
theorem kbai:Pg.underlying T.kc8=some (.slice T.kr):=Tryz.underlying29
theorem kbk3:Pg.cellsOf T.kc8=1:=by kernel_rfl
theorem kyi:Pg.underlying T.kr=some (.slice T.kf):=Tryz.underlying38
theorem koz:Pg.cellsOf T.kr=1:=by kernel_rfl
theorem k4f:kdj Pg T.kr=some [(⟨none,0,.is 0⟩:Sl).v]:=by kernel_rfl
theorem kbbd:Pg.bytesOf T.kr=24:=by kernel_rfl
theorem k2j:Pg.underlying T.kkn=some (.struct #[{name := "N",type:=T.kr,offset:=0,embedded:=false,tag := "",pkgPath := "",byteOffset:=0},{name := "C",type:=T.kc8,offset:=1,embedded:=false,tag := "",pkgPath := "",byteOffset:=24}]):=Tryz.underlying53
theorem kbdo:Pg.cellsOf T.kkn=2:=by kernel_rfl
theorem kbjg:Pg.cellsOf T.kca=2:=by kernel_rfl
theorem kbco:kdj Pg T.kca=some [.int .i64 0,.int .i64 0]:=by kernel_rfl
theorem k6o:Pg.bytesOf T.kca=16:=by kernel_rfl
noncomputable def Td.kl6:List Item:=todoAt Tryz.f4 7
noncomputable def Td.kqs:List Item:=todoAt Tryz.f4 21
noncomputable def Td.kqn:List Item:=todoAt Tryz.f6 3
noncomputable def Td.kra:List Item:=todoAt Tryz.f9 14
noncomputable def Td.kqz:List Item:=todoAt Tryz.f13 4
noncomputable def Td.kmw:List Item:=todoAt Tryz.f15 5
noncomputable def Td.kqr:List Item:=todoAt Tryz.f15 10
noncomputable def Td.klv:List Item:=todoAt Tryz.f17 8
noncomputable def Td.knx:List Item:=todoAt Tryz.f20 11
noncomputable def Td.kkg:List Item:=todoAt Tryz.f21 5
noncomputable def Td.kow:List Item:=todoAt Tryz.f21 13
noncomputable def Td.km3:List Item:=todoAt Tryz.f36 3
noncomputable def Td.kot:List Item:=todoAt Tryz.f36 7
noncomputable def Td.knn:List Item:=todoAt Tryz.f38 4
noncomputable def Td.kx:List Item:=todoAt Tryz.f42 7
noncomputable def Td.kqe:List Item:=todoAt Tryz.f43 7
noncomputable def Td.kqk:List Item:=todoAt Tryz.f46 3
noncomputable def Td.kqy:List Item:=todoAt Tryz.f50 4
noncomputable def Td.kpc:List Item:=todoAt Tryz.f58 4
noncomputable def Td.keb:List Item:=todoAt Tryz.f60 2
noncomputable def Td.kkw:List Item:=todoAt Tryz.f65 1
noncomputable def Td.kk1:List Item:=todoAt Tryz.f65 4
noncomputable def Td.knf:List Item:=todoAt Tryz.f66 7
noncomputable def Td.ki8:List Item:=todoAt Tryz.f76 5
noncomputable def Td.krl:List Item:=todoAt Tryz.f78 7
noncomputable def Td.koc:List Item:=todoAt Tryz.f78 12
noncomputable def Td.kkx:List Item:=todoAt Tryz.f78 16
noncomputable def Td.kkb:List Item:=todoAt Tryz.f81 3
noncomputable def Td.klr:List Item:=todoAt Tryz.f81 7
noncomputable def Td.kps:List Item:=todoAt Tryz.f83 2
noncomputable def Td.kpq:List Item:=todoAt Tryz.f84 4
noncomputable def Td.kna:List Item:=todoAt Tryz.f84 9
noncomputable def Td.kqq:List Item:=todoAt Tryz.f85 2
noncomputable def Td.ko9:List Item:=todoAt Tryz.f86 6
noncomputable def Td.ko5:List Item:=todoAt Tryz.f88 7
noncomputable def Td.knm:List Item:=todoAt Tryz.f91 4
noncomputable def Td.kcl:List Item:=todoAt Tryz.f94 2
noncomputable def Td.kn7:List Item:=todoAt Tryz.f97 6
noncomputable def Td.kmr:List Item:=todoAt Tryz.f99 2
noncomputable def Td.kqh:List Item:=todoAt Tryz.f101 3
noncomputable def Td.ko3:List Item:=todoAt Tryz.f101 7
noncomputable def Td.kgz:List Item:=todoAt Tryz.f104 6
noncomputable def Td.kjl:List Item:=todoAt Tryz.f105 4
noncomputable def Td.kit:List Item:=todoAt Tryz.f106 2
noncomputable def Td.knz:List Item:=todoAt Tryz.f109 4
noncomputable def Td.kpf:List Item:=todoAt Tryz.f111 6
noncomputable def Td.kpn:List Item:=todoAt Tryz.f111 10
noncomputable def Td.kkm:List Item:=todoAt Tryz.f111 18
noncomputable def Td.knq:List Item:=todoAt Tryz.f112 5
noncomputable def Td.kq2:List Item:=todoAt Tryz.f113 5
noncomputable def Td.km9:List Item:=todoAt Tryz.f122 4
noncomputable def Td.krf:List Item:=todoAt Tryz.f123 6
noncomputable def Td.kng:List Item:=todoAt Tryz.f124 3
noncomputable def Td.kp3:List Item:=todoAt Tryz.f124 7
noncomputable def Td.kk6:List Item:=todoAt Tryz.f125 4
noncomputable def Td.kip:List Item:=todoAt Tryz.f126 1
noncomputable def Td.kme:List Item:=todoAt Tryz.f126 6
noncomputable def Td.kqa:List Item:=todoAt Tryz.f131 3
noncomputable def Td.kte:List Item:=todoAt Tryz.f132 3
noncomputable def Td.kky:List Item:=todoAt Tryz.f132 17
noncomputable def Td.khh:List Item:=todoAt Tryz.f132 24
noncomputable def Td.kk0:List Item:=todoAt Tryz.f134 3
noncomputable def Td.kll:List Item:=todoAt Tryz.f135 4
noncomputable def Td.knd:List Item:=todoAt Tryz.f139 1
noncomputable def Td.kpe:List Item:=todoAt Tryz.f139 3
noncomputable def Td.kl0:List Item:=todoAt Tryz.f145 2
noncomputable def Td.kq4:List Item:=todoAt Tryz.f146 2
noncomputable def Td.kpw:List Item:=todoAt Tryz.f147 2
noncomputable def Fx.kvf:Func:=Tryz.f9
noncomputable def Tr.kyh:List Item:=ko6 Tryz.f9 0 (.tmp 36)
noncomputable def Ta.kx5:List Item:=(loopAt Tryz.f9 0).2.2.2
noncomputable def Fx.ku7:Func:=Tryz.f20
noncomputable def Tr.kz2:List Item:=ko6 Tryz.f20 0 (.tmp 27)
noncomputable def Ta.kwp:List Item:=(loopAt Tryz.f20 0).2.2.2
noncomputable def Fx.kvd:Func:=Tryz.f48
noncomputable def Tr.ksc:List Item:=ko6 Tryz.f48 0 (.tmp 5)
noncomputable def Ta.kl9:List Item:=(loopAt Tryz.f48 0).2.2.2
noncomputable def Fx.kt0:Func:=Tryz.f138
noncomputable def Tr.kw6:List Item:=ko6 Tryz.f138 0 (.tmp 6)
noncomputable def Ta.k24:List Item:=(loopAt Tryz.f138 0).2.2.2
def lit1:ByteArray:=(⟨((List.append (List.append ([0,1,2,2,3,3,3,3,4,4,4,4,4,4,4,4,5,5,5,5,5,5,5,5,5,5,5,5,5,5,5,5,6,6,6,6,6,6,6,6,6,6,6,6,6,6,6,6,6,6,6,6,6,6,6,6,6,6,6,6,6,6,6,6]:List UInt8) ([7,7,7,7,7,7,7,7,7,7,7,7,7,7,7,7,7,7,7,7,7,7,7,7,7,7,7,7,7,7,7,7,7,7,7,7,7,7,7,7,7,7,7,7,7,7,7,7,7,7,7,7,7,7,7,7,7,7,7,7,7,7,7,7]:List UInt8)) (List.append ([8,8,8,8,8,8,8,8,8,8,8,8,8,8,8,8,8,8,8,8,8,8,8,8,8,8,8,8,8,8,8,8,8,8,8,8,8,8,8,8,8,8,8,8,8,8,8,8,8,8,8,8,8,8,8,8,8,8,8,8,8,8,8,8]:List UInt8) ([8,8,8,8,8,8,8,8,8,8,8,8,8,8,8,8,8,8,8,8,8,8,8,8,8,8,8,8,8,8,8,8,8,8,8,8,8,8,8,8,8,8,8,8,8,8,8,8,8,8,8,8,8,8,8,8,8,8,8,8,8,8,8,8]:List UInt8)))).toArray⟩:ByteArray)
theorem k0z(args:List AV)(h:AH):callF Pg go F.kbw args h=go (.fn F.kbw args) h:=by kernel_rfl
theorem kbkx(args:List AV)(h:AH):callF Pg go F.kb4 args h=go (.fn F.kb4 args) h:=by kernel_rfl
theorem kzj(args:List AV)(h:AH):callF Pg go F.keh args h=go (.fn F.keh args) h:=by kernel_rfl
theorem kbb5(args:List AV)(h:AH):callF Pg go F.kb1 args h=go (.fn F.kb1 args) h:=by kernel_rfl
theorem kbap(a1 a2:Int)(a3 a4 a5 a6 a7:Sl)(h:AH):go (.fn F.kdr [.agg [.int .u64 a1,.int .u64 a2],.agg [a3.v,a4.v],.agg [a5.v,a6.v,a7.v]]) h =
 newK h (.cells [.int .u64 a1,.int .u64 a2] T.kgp) fun h8r h8 =>
 newK h8 (.cells [a3.v,a4.v] T.kkn) fun h9r h9 =>
 newK h9 (.cells [a5.v,a6.v,a7.v] T.kbt) fun h10r h10 =>
 (go (.fn F.ku6 []) h10).bind fun q11 =>
 ((some q11.1).bind AV.asBool).bind fun b12 =>
 ((q11.2.cell (h8r.add 0)).bind (AV.asInt .u64)).bind fun n13 =>
 ((q11.2.cell (h8r.add 1)).bind (AV.asInt .u64)).bind fun n14 =>
 (go (.fn F.kjd [.agg [.int .u64 n13,.int .u64 n14]]) q11.2).bind fun q15 =>
 (AV.asTup2 q15.1).bind fun p16 =>
 ((some p16.1).bind AV.asSl).bind fun l17 =>
 ((some p16.2).bind (AV.asInt .i64)).bind fun n18 =>
 ((q15.2.cell (h10r.add 0)).bind AV.asSl).bind fun l19 =>
 ((q15.2.cell (h10r.add 1)).bind AV.asSl).bind fun l20 =>
 ((q15.2.cell (h10r.add 2)).bind AV.asSl).bind fun l21 =>
 (go (.fn F.kdd [.agg [l19.v,l20.v,l21.v]]) q15.2).bind fun q22 =>
 ((some q22.1).bind AV.asBool).bind fun b23 =>
 cond (!b12) (
 some (.bool b12,q22.2)) (
 cond (!decide (n18=0)) (
 some (.bool b12,q22.2)) (
 cond (!b23) (
 some (.bool b12,q22.2)) (
 ((q22.2.cell (h10r.add 2)).bind AV.asSl).bind fun l24 =>
 cond (decide ((l24.len:Int)=0)) (
 some (.bool b12,q22.2)) (
 ((q22.2.cell (h10r.add 0)).bind AV.asSl).bind fun l25 =>
 ((q22.2.cell (h9r.add 1)).bind AV.asSl).bind fun l26 =>
 cond (!decide ((l25.len:Int)=(l26.len:Int))) (
 some (.bool b12,q22.2)) (
 ((q22.2.cell (h10r.add 0)).bind AV.asSl).bind fun l27 =>
 cond (decide ((l27.len:Int)>40)) (
 some (.bool b12,q22.2)) (
 go (.pt F.kdr Td.kl6 [(3,.ptr (some h8r)),(4,.ptr (some h9r)),(5,.ptr (some h10r)),(8,l17.v),(11,.int .i64 0)]) q22.2)))))):=(ke _ h).trans (by kernel_rfl)
theorem kbgl(a1:Nat)(a2 a3:Ref)(h:AH):go (.fn F.kbw [.func (.yield a1) [] [],.ptr (some a2),.ptr (some a3)]) h =
 ((h.cell (a2.add 1)).bind AV.asSl).bind fun l4 =>
 go (.pt F.kbw Td.kkw [(0,.func (.yield a1) [] []),(1,.ptr (some a2)),(2,.ptr (some a3)),(10,l4.v),(11,.int .i64 (l4.len:Int)),(12,.int .i64 0)]) h:=(ke _ h).trans (by kernel_rfl)
theorem kbhk(a1:Nat)(a2:Ref)(h:AH):go (.fn F.kb4 [.func (.yield a1) [] [],.ptr (some a2)]) h =
 ((h.cell (a2.add 1)).bind AV.asSl).bind fun l3 =>
 go (.pt F.kb4 Td.knd [(0,.func (.yield a1) [] []),(6,l3.v),(7,.int .i64 (l3.len:Int)),(8,.int .i64 0)]) h:=(ke _ h).trans (by kernel_rfl)
theorem kbfg(a1 a2:Sl)(a3:Ref)(h:AH):go (.fn F.keh [a1.v,a2.v,.ptr (some a3)]) h =
 (go (.fn F.kdm [a1.v,a2.v]) h).bind fun q4 =>
 (AV.asTup2 q4.1).bind fun p5 =>
 ((some p5.1).bind AV.asSl).bind fun l6 =>
 ((some p5.2).bind (AV.asInt .i64)).bind fun n7 =>
 ((q4.2.cell a3).bind AV.asSl).bind fun l8 =>
 (go (.fn F.kdq [l6.v,l8.v]) q4.2).bind fun q9 =>
 (AV.asTup3 q9.1).bind fun p10 =>
 ((some p10.1).bind AV.asSl).bind fun l11 =>
 ((some p10.2.1).bind AV.asSl).bind fun l12 =>
 ((some p10.2.2).bind (AV.asInt .i64)).bind fun n13 =>
 some (l12.v,q9.2):=(ke _ h).trans (by kernel_rfl)
theorem k50(a1 a2:Sl)(a3:Ref)(h:AH):go (.fn F.kl2 [a1.v,a2.v,.ptr (some a3)]) h =
 cond (decide ((a1.len:Int)<24)) (
 (go (.fn F.kcv [a1.v,a2.v]) h).bind fun q4 =>
 ((some q4.1).bind AV.asSl).bind fun l5 =>
 some (l5.v,q4.2)) (
 cond (decide ((a2.len:Int)<24)) (
 (go (.fn F.kcv [a1.v,a2.v]) h).bind fun q6 =>
 ((some q6.1).bind AV.asSl).bind fun l7 =>
 some (l7.v,q6.2)) (
 newK h (.cells [.int .i64 0] T.int) fun h8r h8 =>
 (h8.puts h8r [.int .i64 (IntKind.wrap .i64 (Int.tdiv (IntKind.wrap .i64 ((imax (a1.len:Int) (a2.len:Int))+1)) 2))]).bind fun h9 =>
 (h9.cell a3).bind fun v10 =>
 (h9.cell a3).bind fun v11 =>
 (go (.fn F.kj5 [a1.v,.ptr (some h8r)]) h9).bind fun q12 =>
 ((some q12.1).bind AV.asSl).bind fun l13 =>
 whenK (SameAt h9 q12.2 a3 1) (
 whenK (SameAt h9 q12.2 a3 1) (
 (go (.fn F.kj5 [a2.v,.ptr (some h8r)]) q12.2).bind fun q14 =>
 ((some q14.1).bind AV.asSl).bind fun l15 =>
 whenK (SameAt q12.2 q14.2 a3 1) (
 whenK (SameAt q12.2 q14.2 a3 1) (
 (callV Pg go v10 [l13.v,l15.v] q14.2).bind fun q16 =>
 ((some q16.1).bind AV.asSl).bind fun l17 =>
 whenK (SameAt q14.2 q16.2 a3 1) (
 (go (.fn F.kjm [a1.v,.ptr (some h8r)]) q16.2).bind fun q18 =>
 ((some q18.1).bind AV.asSl).bind fun l19 =>
 whenK (SameAt q16.2 q18.2 a3 1) (
 (go (.fn F.kjm [a2.v,.ptr (some h8r)]) q18.2).bind fun q20 =>
 ((some q20.1).bind AV.asSl).bind fun l21 =>
 whenK (SameAt q18.2 q20.2 a3 1) (
 (callV Pg go v11 [l19.v,l21.v] q20.2).bind fun q22 =>
 ((some q22.1).bind AV.asSl).bind fun l23 =>
 (q22.2.cell a3).bind fun v24 =>
 (go (.fn F.kj5 [a1.v,.ptr (some h8r)]) q22.2).bind fun q25 =>
 ((some q25.1).bind AV.asSl).bind fun l26 =>
 whenK (SameAt q22.2 q25.2 a3 1) (
 (go (.fn F.kjm [a1.v,.ptr (some h8r)]) q25.2).bind fun q27 =>
 ((some q27.1).bind AV.asSl).bind fun l28 =>
 whenK (SameAt q25.2 q27.2 a3 1) (
 (go (.fn F.kdl [l26.v,l28.v]) q27.2).bind fun q29 =>
 ((some q29.1).bind AV.asSl).bind fun l30 =>
 whenK (SameAt q27.2 q29.2 a3 1) (
 (go (.fn F.kbq [l30.v]) q29.2).bind fun q31 =>
 ((some q31.1).bind AV.asSl).bind fun l32 =>
 whenK (SameAt q29.2 q31.2 a3 1) (
 (go (.fn F.kj5 [a2.v,.ptr (some h8r)]) q31.2).bind fun q33 =>
 ((some q33.1).bind AV.asSl).bind fun l34 =>
 whenK (SameAt q31.2 q33.2 a3 1) (
 (go (.fn F.kjm [a2.v,.ptr (some h8r)]) q33.2).bind fun q35 =>
 ((some q35.1).bind AV.asSl).bind fun l36 =>
 whenK (SameAt q33.2 q35.2 a3 1) (
 (go (.fn F.kdl [l34.v,l36.v]) q35.2).bind fun q37 =>
 ((some q37.1).bind AV.asSl).bind fun l38 =>
 whenK (SameAt q35.2 q37.2 a3 1) (
 (go (.fn F.kbq [l38.v]) q37.2).bind fun q39 =>
 ((some q39.1).bind AV.asSl).bind fun l40 =>
 whenK (SameAt q37.2 q39.2 a3 1) (
 (callV Pg go v24 [l32.v,l40.v] q39.2).bind fun q41 =>
 ((some q41.1).bind AV.asSl).bind fun l42 =>
 (go (.fn F.kdf [l42.v,l17.v]) q41.2).bind fun q43 =>
 ((some q43.1).bind AV.asSl).bind fun l44 =>
 (go (.fn F.kbq [l44.v]) q43.2).bind fun q45 =>
 ((some q45.1).bind AV.asSl).bind fun l46 =>
 (go (.fn F.kdf [l46.v,l23.v]) q45.2).bind fun q47 =>
 ((some q47.1).bind AV.asSl).bind fun l48 =>
 (go (.fn F.kbq [l48.v]) q47.2).bind fun q49 =>
 ((some q49.1).bind AV.asSl).bind fun l50 =>
 (kbr (IntKind.wrap .i64 ((IntKind.wrap .i64 ((a1.len:Int)+(a2.len:Int)))+1)) (IntKind.wrap .i64 ((IntKind.wrap .i64 ((a1.len:Int)+(a2.len:Int)))+1)) T.kf (Pg.bytesOf T.kf) [.int .u64 0] q49.2).bind fun q51 =>
 (copyH l17 q51.1 1 q51.2).bind fun h52 =>
 ((h52.cell h8r).bind (AV.asInt .i64)).bind fun n53 =>
 (go (.fn F.kd7 [q51.1.v,l50.v,.int .i64 n53]) h52).bind fun q54 =>
 (AV.asTup0 q54.1).bind fun _ =>
 ((q54.2.cell h8r).bind (AV.asInt .i64)).bind fun n55 =>
 (go (.fn F.kd7 [q51.1.v,l23.v,.int .i64 (IntKind.wrap .i64 (2*n55))]) q54.2).bind fun q56 =>
 (AV.asTup0 q56.1).bind fun _ =>
 (go (.fn F.kbq [q51.1.v]) q56.2).bind fun q57 =>
 ((some q57.1).bind AV.asSl).bind fun l58 =>
 some (l58.v,q57.2)))))))))))))))))):=(ke _ h).trans (by kernel_rfl)
theorem k85(a1:Nat)(a2:Ref)(h:AH):go (.fn F.kb1 [.func (.yield a1) [] [],.ptr (some a2)]) h =
 newK h (.cells [.int .u64 2,.int .u64 3] T.kf) fun h3r h3 =>
 go (.pt F.kb1 Td.kip [(0,.func (.yield a1) [] []),(1,.ptr (some a2)),(6,(⟨some h3r,2,.is 2⟩:Sl).v),(7,.int .i64 2),(8,.int .i64 0)]) h3:=(ke _ h).trans (by kernel_rfl)
theorem k75  (h:AH):go (.fn F.ku6 []) h =
 newK h (.cells [.int .i64 0,.int .i64 1,.int .i64 2] T.int) fun h1r h1 =>
 newK h1 (.cells [.int .i64 2] T.int) fun h2r h2 =>
 newK h2 (.cells [.int .i64 0,.int .i64 1,.int .i64 1] T.int) fun h3r h3 =>
 newK h3 (.cells [(⟨some h3r,3,.is 3⟩:Sl).v] T.kcp) fun h4r h4 =>
 newK h4 (.cells [(⟨none,0,.is 0⟩:Sl).v,(⟨none,0,.is 0⟩:Sl).v,(⟨none,0,.is 0⟩:Sl).v] T.kbt) fun h5r h5 =>
 (h5.puts h5r [(⟨some h1r,3,.is 3⟩:Sl).v,(⟨some h2r,1,.is 1⟩:Sl).v,(⟨some h4r,1,.is 1⟩:Sl).v]).bind fun h6 =>
 ((h6.cell (h5r.add 0)).bind AV.asSl).bind fun l7 =>
 ((h6.cell (h5r.add 1)).bind AV.asSl).bind fun l8 =>
 ((h6.cell (h5r.add 2)).bind AV.asSl).bind fun l9 =>
 newK h6 (.cells [.int .u64 3] T.kf) fun h10r h10 =>
 newK h10 (.cells [.int .i64 5,.int .i64 6,.int .i64 7] T.int) fun h11r h11 =>
 (go (.fn F.kcu [.agg [l7.v,l8.v,l9.v],.agg [.int .i64 3,(⟨some h10r,1,.is 1⟩:Sl).v],(⟨some h11r,3,.is 3⟩:Sl).v]) h11).bind fun q12 =>
 (AV.asTup2 q12.1).bind fun p13 =>
 ((some p13.1).bind AV.asSl).bind fun l14 =>
 ((some p13.2).bind (AV.asInt .i64)).bind fun n15 =>
 cond (decide (n15=0)) (
 cond (decide ((l14.len:Int)=1)) (
 (idx l14.ref l14.len 0 2).bind fun r16 =>
 ((q12.2.cell (r16.add 0)).bind (AV.asInt .i64)).bind fun n17 =>
 ((q12.2.cell (r16.add 1)).bind (AV.asInt .i64)).bind fun n18 =>
 some (.bool ((decide (n17=5))&&((decide (n18=1))&&true)),q12.2)) (
 some (.bool false,q12.2))) (
 some (.bool false,q12.2)):=(ke _ h).trans (by kernel_rfl)
theorem kbfk(a1:Int)(h:AH):go (.fn F.kig [.int .i64 a1]) h =
 newK h (.cells [.int .i64 0,(⟨none,0,.is 0⟩:Sl).v] T.ko) fun h2r h2 =>
 go (.pt F.kig Td.kqn [(0,.int .i64 a1),(2,.ptr (some h2r)),(4,(⟨none,0,.is 0⟩:Sl).v),(5,.int .i64 0)]) h2:=(ke _ h).trans (by kernel_rfl)
theorem kbay(a1 a2:Int)(h:AH):go (.fn F.kjd [.agg [.int .u64 a1,.int .u64 a2]]) h =
 newK h (.cells [.int .u64 a1,.int .u64 a2] T.kgp) fun h3r h3 =>
 ((h3.cell (h3r.add 0)).bind (AV.asInt .u64)).bind fun n4 =>
 ((h3.cell (h3r.add 1)).bind (AV.asInt .u64)).bind fun n5 =>
 (go (.fn F.klp [.agg [.int .u64 n4,.int .u64 n5]]) h3).bind fun q6 =>
 ((some q6.1).bind (AV.asInt .i64)).bind fun n7 =>
 cond (!decide (n7=0)) (
 some (.tup [(⟨none,0,.is 0⟩:Sl).v,.int .i64 n7],q6.2)) (
 ((q6.2.cell (h3r.add 0)).bind (AV.asInt .u64)).bind fun n8 =>
 newK q6.2 (.cells [.int .u64 n8] T.kf) fun h9r h9 =>
 ((h9.cell (h3r.add 1)).bind (AV.asInt .u64)).bind fun n10 =>
 newK h9 (.cells [.int .u64 n10] T.kf) fun h11r h11 =>
 (go (.fn F.kdm [(⟨some h9r,1,.is 1⟩:Sl).v,(⟨some h11r,1,.is 1⟩:Sl).v]) h11).bind fun q12 =>
 (AV.asTup2 q12.1).bind fun p13 =>
 ((some p13.1).bind AV.asSl).bind fun l14 =>
 ((some p13.2).bind (AV.asInt .i64)).bind fun n15 =>
 some (.tup [l14.v,.int .i64 n15],q12.2)):=(ke _ h).trans (by kernel_rfl)
theorem kbhu(a1 a2 a3 a4:Sl)(a5:Int)(a6 a7:Sl)(h:AH):go (.fn F.kch [a1.v,.agg [a2.v,a3.v,a4.v],.agg [.int .i64 a5,a6.v],a7.v]) h =
 newK h (.cells [a1.v] T.kr) fun h8r h8 =>
 newK h8 (.cells [a2.v,a3.v,a4.v] T.kbt) fun h9r h9 =>
 newK h9 (.cells [.int .i64 a5,a6.v] T.ko) fun h10r h10 =>
 newK h10 (.cells [a7.v] T.kc8) fun h11r h11 =>
 ((h11.cell h8r).bind AV.asSl).bind fun l12 =>
 (go (.fn F.kl8 [l12.v]) h11).bind fun q13 =>
 ((some q13.1).bind AV.asBool).bind fun b14 =>
 cond (!b14) (
 some (.tup [(⟨none,0,.is 0⟩:Sl).v,.int .i64 1],q13.2)) (
 ((q13.2.cell (h9r.add 0)).bind AV.asSl).bind fun l15 =>
 ((q13.2.cell (h9r.add 1)).bind AV.asSl).bind fun l16 =>
 ((q13.2.cell (h9r.add 2)).bind AV.asSl).bind fun l17 =>
 ((q13.2.cell (h10r.add 0)).bind (AV.asInt .i64)).bind fun n18 =>
 ((q13.2.cell (h10r.add 1)).bind AV.asSl).bind fun l19 =>
 ((q13.2.cell h11r).bind AV.asSl).bind fun l20 =>
 (go (.fn F.kpm [.agg [l15.v,l16.v,l17.v],.agg [.int .i64 n18,l19.v],.int .i64 (l20.len:Int)]) q13.2).bind fun q21 =>
 ((some q21.1).bind (AV.asInt .i64)).bind fun n22 =>
 cond (!decide (n22=0)) (
 some (.tup [(⟨none,0,.is 0⟩:Sl).v,.int .i64 n22],q21.2)) (
 ((q21.2.cell h11r).bind AV.asSl).bind fun l23 =>
 (go (.fn F.kgh [l23.v,.func (.func F.kb2) [] [.ptr (some h8r)]]) q21.2).bind fun q24 =>
 ((some q24.1).bind AV.asBool).bind fun b25 =>
 cond b25 (
 some (.tup [(⟨none,0,.is 0⟩:Sl).v,.int .i64 11],q24.2)) (
 ((q24.2.cell h8r).bind AV.asSl).bind fun l26 =>
 (go (.fn F.kpk [l26.v]) q24.2).bind fun q27 =>
 newK q27.2 (.cells [.nilFunc] T.kxp) fun h28r h28 =>
 cond (AV.one q27.1) (
 (h28.puts h28r [q27.1]).bind fun h29 =>
 newK h29 (.cells [(⟨none,0,.is 0⟩:Sl).v] T.kc8) fun h30r h30 =>
 ((h30.cell (h9r.add 0)).bind AV.asSl).bind fun l31 =>
 ((h30.cell (h9r.add 1)).bind AV.asSl).bind fun l32 =>
 ((h30.cell (h9r.add 2)).bind AV.asSl).bind fun l33 =>
 ((h30.cell (h10r.add 0)).bind (AV.asInt .i64)).bind fun n34 =>
 ((h30.cell (h10r.add 1)).bind AV.asSl).bind fun l35 =>
 (go (.fn F.kli [.agg [l31.v,l32.v,l33.v],.agg [.int .i64 n34,l35.v]]) h30).bind fun q36 =>
 go (.pt F.kch Tr.kyh [(0,a1.v),(1,.agg [a2.v,a3.v,a4.v]),(2,.agg [.int .i64 a5,a6.v]),(3,a7.v),(4,.ptr (some h8r)),(5,.ptr (some h9r)),(6,.ptr (some h10r)),(7,.ptr (some h11r)),(8,(⟨none,0,.is 0⟩:Sl).v),(9,.int .i64 0),(10,.int .i64 n22),(11,.ptr (some h28r)),(12,.ptr (some h30r)),(18,l12.v),(19,.bool b14),(20,.bool false),(21,.agg [l15.v,l16.v,l17.v]),(22,.agg [.int .i64 n18,l19.v]),(23,l20.v),(24,.int .i64 (l20.len:Int)),(25,.int .i64 n22),(26,.int .i64 n22),(27,.bool false),(29,l23.v),(30,.func (.func F.kb2) [] [.ptr (some h8r)]),(31,.bool false),(32,l26.v),(33,q27.1),(34,.agg [l31.v,l32.v,l33.v]),(35,.agg [.int .i64 n34,l35.v]),(36,q36.1)]) q36.2) none))):=(ke _ h).trans (by kernel_rfl)
theorem k8j(a1 a2 a3:Sl)(h:AH):go (.fn F.kdd [.agg [a1.v,a2.v,a3.v]]) h =
 newK h (.cells [a1.v,a2.v,a3.v] T.kbt) fun h4r h4 =>
 ((h4.cell (h4r.add 0)).bind AV.asSl).bind fun l5 =>
 (go (.fn F.kia [l5.v]) h4).bind fun q6 =>
 ((some q6.1).bind AV.asBool).bind fun b7 =>
 cond (!b7) (
 some (.bool false,q6.2)) (
 ((q6.2.cell (h4r.add 2)).bind AV.asSl).bind fun l8 =>
 cond (decide ((l8.len:Int)>16)) (
 some (.bool false,q6.2)) (
 ((q6.2.cell (h4r.add 1)).bind AV.asSl).bind fun l9 =>
 ((q6.2.cell (h4r.add 2)).bind AV.asSl).bind fun l10 =>
 cond (!decide ((l9.len:Int)=(l10.len:Int))) (
 some (.bool false,q6.2)) (
 go (.pt F.kdd Td.kmw [(1,.ptr (some h4r)),(4,.int .i64 0)]) q6.2))):=(ke _ h).trans (by kernel_rfl)
theorem k1p(a1 a2 a3:Ref)(a4:Sl)(a5:Int)(h:AH):go (.pt F.kdr Td.kl6 [(3,.ptr (some a1)),(4,.ptr (some a2)),(5,.ptr (some a3)),(8,a4.v),(11,.int .i64 a5)]) h =
 ((h.cell (a2.add 1)).bind AV.asSl).bind fun l6 =>
 cond (decide (a5<(l6.len:Int))) (
 ((h.cell (a2.add 1)).bind AV.asSl).bind fun l7 =>
 (idx l7.ref l7.len a5 1).bind fun r8 =>
 ((h.cell r8).bind AV.asSl).bind fun l9 =>
 cond (decide ((l9.len:Int)≤20)) (
 ((h.cell (a2.add 1)).bind AV.asSl).bind fun l10 =>
 (idx l10.ref l10.len a5 1).bind fun r11 =>
 ((h.cell r11).bind AV.asSl).bind fun l12 =>
 (go (.fn F.kpx [a4.v,l12.v]) h).bind fun q13 =>
 ((some q13.1).bind AV.asBool).bind fun b14 =>
 cond (!b14) (
 some (.bool true,q13.2)) (
 go (.pt F.kdr Td.kl6 [(3,.ptr (some a1)),(4,.ptr (some a2)),(5,.ptr (some a3)),(8,a4.v),(11,.int .i64 (IntKind.wrap .i64 (a5+1)))]) q13.2)) (
 some (.bool true,h))) (
 ((h.cell (a3.add 0)).bind AV.asSl).bind fun l15 =>
 (go (.fn F.kig [.int .i64 (l15.len:Int)]) h).bind fun q16 =>
 (AV.asTup2 q16.1).bind fun p17 =>
 (AV.asAgg p17.1).bind fun cs18 =>
 cond (Nat.beq cs18.length 2) (
 ((cs18[0]?).bind (AV.asInt .i64)).bind fun n19 =>
 ((cs18[1]?).bind AV.asSl).bind fun l20 =>
 ((some p17.2).bind (AV.asInt .i64)).bind fun n21 =>
 newK q16.2 (.cells [.int .i64 0,(⟨none,0,.is 0⟩:Sl).v] T.ko) fun h22r h22 =>
 (h22.puts h22r [.int .i64 n19,l20.v]).bind fun h23 =>
 ((h23.cell (a3.add 0)).bind AV.asSl).bind fun l24 =>
 ((h23.cell (a3.add 1)).bind AV.asSl).bind fun l25 =>
 ((h23.cell (a3.add 2)).bind AV.asSl).bind fun l26 =>
 (go (.fn F.kgl [.agg [l24.v,l25.v,l26.v],.int .i64 0,.int .i64 0]) h23).bind fun q27 =>
 (AV.asTup2 q27.1).bind fun p28 =>
 (AV.asAgg p28.1).bind fun cs29 =>
 cond (Nat.beq cs29.length 2) (
 ((cs29[0]?).bind (AV.asInt .i64)).bind fun n30 =>
 ((cs29[1]?).bind AV.asSl).bind fun l31 =>
 ((some p28.2).bind (AV.asInt .i64)).bind fun n32 =>
 newK q27.2 (.cells [.int .i64 0,(⟨none,0,.is 0⟩:Sl).v] T.ko) fun h33r h33 =>
 (h33.puts h33r [.int .i64 n30,l31.v]).bind fun h34 =>
 ((h34.cell (h22r.add 0)).bind (AV.asInt .i64)).bind fun n35 =>
 ((h34.cell (h22r.add 1)).bind AV.asSl).bind fun l36 =>
 ((h34.cell (h33r.add 0)).bind (AV.asInt .i64)).bind fun n37 =>
 ((h34.cell (h33r.add 1)).bind AV.asSl).bind fun l38 =>
 (go (.fn F.kuv [.agg [.int .i64 n35,l36.v],.agg [.int .i64 n37,l38.v]]) h34).bind fun q39 =>
 (AV.asTup2 q39.1).bind fun p40 =>
 (AV.asAgg p40.1).bind fun cs41 =>
 cond (Nat.beq cs41.length 2) (
 ((cs41[0]?).bind (AV.asInt .i64)).bind fun n42 =>
 ((cs41[1]?).bind AV.asSl).bind fun l43 =>
 ((some p40.2).bind (AV.asInt .i64)).bind fun n44 =>
 newK q39.2 (.cells [.int .i64 0,(⟨none,0,.is 0⟩:Sl).v] T.ko) fun h45r h45 =>
 (h45.puts h45r [.int .i64 n42,l43.v]).bind fun h46 =>
 ((h46.cell (a3.add 0)).bind AV.asSl).bind fun l47 =>
 ((h46.cell (a3.add 1)).bind AV.asSl).bind fun l48 =>
 ((h46.cell (a3.add 2)).bind AV.asSl).bind fun l49 =>
 ((h46.cell (h22r.add 0)).bind (AV.asInt .i64)).bind fun n50 =>
 ((h46.cell (h22r.add 1)).bind AV.asSl).bind fun l51 =>
 ((h46.cell (a2.add 1)).bind AV.asSl).bind fun l52 =>
 (go (.fn F.kch [a4.v,.agg [l47.v,l48.v,l49.v],.agg [.int .i64 n50,l51.v],l52.v]) h46).bind fun q53 =>
 (AV.asTup2 q53.1).bind fun p54 =>
 ((some p54.1).bind AV.asSl).bind fun l55 =>
 ((some p54.2).bind (AV.asInt .i64)).bind fun n56 =>
 ((q53.2.cell (a3.add 0)).bind AV.asSl).bind fun l57 =>
 ((q53.2.cell (a3.add 1)).bind AV.asSl).bind fun l58 =>
 ((q53.2.cell (a3.add 2)).bind AV.asSl).bind fun l59 =>
 ((q53.2.cell (h33r.add 0)).bind (AV.asInt .i64)).bind fun n60 =>
 ((q53.2.cell (h33r.add 1)).bind AV.asSl).bind fun l61 =>
 ((q53.2.cell (a2.add 1)).bind AV.asSl).bind fun l62 =>
 (go (.fn F.kch [a4.v,.agg [l57.v,l58.v,l59.v],.agg [.int .i64 n60,l61.v],l62.v]) q53.2).bind fun q63 =>
 (AV.asTup2 q63.1).bind fun p64 =>
 ((some p64.1).bind AV.asSl).bind fun l65 =>
 ((some p64.2).bind (AV.asInt .i64)).bind fun n66 =>
 ((q63.2.cell (a3.add 0)).bind AV.asSl).bind fun l67 =>
 ((q63.2.cell (a3.add 1)).bind AV.asSl).bind fun l68 =>
 ((q63.2.cell (a3.add 2)).bind AV.asSl).bind fun l69 =>
 ((q63.2.cell (h45r.add 0)).bind (AV.asInt .i64)).bind fun n70 =>
 ((q63.2.cell (h45r.add 1)).bind AV.asSl).bind fun l71 =>
 ((q63.2.cell (a2.add 1)).bind AV.asSl).bind fun l72 =>
 (go (.fn F.kch [a4.v,.agg [l67.v,l68.v,l69.v],.agg [.int .i64 n70,l71.v],l72.v]) q63.2).bind fun q73 =>
 (AV.asTup2 q73.1).bind fun p74 =>
 ((some p74.1).bind AV.asSl).bind fun l75 =>
 ((some p74.2).bind (AV.asInt .i64)).bind fun n76 =>
 cond (!decide (n56=0)) (
 some (.bool false,q73.2)) (
 cond (!decide (n66=0)) (
 some (.bool false,q73.2)) (
 cond (!decide (n76=0)) (
 some (.bool false,q73.2)) (
 cond (!decide ((l55.len:Int)=(l65.len:Int))) (
 some (.bool false,q73.2)) (
 cond (!decide ((l55.len:Int)=(l75.len:Int))) (
 some (.bool false,q73.2)) (
 go (.pt F.kdr Td.kqs [(3,.ptr (some a1)),(8,a4.v),(19,l55.v),(20,l65.v),(22,l75.v),(24,.int .i64 0)]) q73.2)))))) none) none) none):=(ke _ h).trans (by kernel_rfl)
theorem k0w(a1:Nat)(a2 a3:Ref)(a4:Sl)(a5 a6:Int)(h:AH):go (.pt F.kbw Td.kkw [(0,.func (.yield a1) [] []),(1,.ptr (some a2)),(2,.ptr (some a3)),(10,a4.v),(11,.int .i64 a5),(12,.int .i64 a6)]) h =
 cond (decide (a6<a5)) (
 (idx a4.ref a4.len a6 1).bind fun r7 =>
 ((h.cell r7).bind (AV.asInt .i64)).bind fun n8 =>
 go (.pt F.kbw Td.kk1 [(0,.func (.yield a1) [] []),(1,.ptr (some a2)),(2,.ptr (some a3)),(4,.int .i64 a6),(10,a4.v),(11,.int .i64 a5),(12,.int .i64 a6),(18,.int .i64 (IntKind.wrap .i64 (n8-1))),(19,.int .i64 0)]) h) (
 some (.tup [],h)):=(ke _ h).trans (by kernel_rfl)
theorem kzg(a1:Nat)(a2:Sl)(a3 a4:Int)(h:AH):go (.pt F.kb4 Td.knd [(0,.func (.yield a1) [] []),(6,a2.v),(7,.int .i64 a3),(8,.int .i64 a4)]) h =
 cond (decide (a4<a3)) (
 (idx a2.ref a2.len a4 1).bind fun r5 =>
 ((h.cell r5).bind (AV.asInt .u64)).bind fun n6 =>
 go (.pt F.kb4 Td.kpe [(0,.func (.yield a1) [] []),(3,.int .i64 a4),(4,.int .u64 n6),(6,a2.v),(7,.int .i64 a3),(8,.int .i64 a4)]) h) (
 some (.tup [],h)):=(ke _ h).trans (by kernel_rfl)
theorem k6a(a1 a2:Sl)(h:AH):go (.fn F.kdm [a1.v,a2.v]) h =
 newK h (.cells [a1.v,a2.v] T.kr) fun h3r h3 =>
 (go (.fn F.kgn [(⟨some h3r,2,.is 2⟩:Sl).v]) h3).bind fun q4 =>
 ((some q4.1).bind AV.asBool).bind fun b5 =>
 cond (!b5) (
 some (.tup [(⟨none,0,.is 0⟩:Sl).v,.int .i64 1],q4.2)) (
 (go (.fn F.knh [a1.v,a2.v]) q4.2).bind fun q6 =>
 ((some q6.1).bind AV.asSl).bind fun l7 =>
 (go (.fn F.kle [l7.v]) q6.2).bind fun q8 =>
 (AV.asTup2 q8.1).bind fun p9 =>
 ((some p9.1).bind AV.asSl).bind fun l10 =>
 ((some p9.2).bind (AV.asInt .i64)).bind fun n11 =>
 some (.tup [l10.v,.int .i64 n11],q8.2)):=(ke _ h).trans (by kernel_rfl)
theorem kban(a1 a2:Sl)(h:AH):go (.fn F.kdq [a1.v,a2.v]) h =
 newK h (.cells [a1.v,a2.v] T.kr) fun h3r h3 =>
 (go (.fn F.kgn [(⟨some h3r,2,.is 2⟩:Sl).v]) h3).bind fun q4 =>
 ((some q4.1).bind AV.asBool).bind fun b5 =>
 cond (!b5) (
 some (.tup [(⟨none,0,.is 0⟩:Sl).v,(⟨none,0,.is 0⟩:Sl).v,.int .i64 1],q4.2)) (
 cond (decide ((a2.len:Int)=0)) (
 some (.tup [(⟨none,0,.is 0⟩:Sl).v,(⟨none,0,.is 0⟩:Sl).v,.int .i64 3],q4.2)) (
 (go (.fn F.ke3 [a1.v,a2.v]) q4.2).bind fun q6 =>
 ((some q6.1).bind (AV.asInt .i64)).bind fun n7 =>
 cond (decide (n7<0)) (
 (go (.fn F.kge [a1.v]) q6.2).bind fun q8 =>
 ((some q8.1).bind AV.asSl).bind fun l9 =>
 some (.tup [(⟨none,0,.is 0⟩:Sl).v,l9.v,.int .i64 0],q8.2)) (
 cond (decide ((a2.len:Int)=1)) (
 (idx a2.ref a2.len 0 1).bind fun r10 =>
 ((q6.2.cell r10).bind (AV.asInt .u64)).bind fun n11 =>
 (go (.fn F.kfi [a1.v,.int .u64 n11]) q6.2).bind fun q12 =>
 (AV.asTup2 q12.1).bind fun p13 =>
 ((some p13.1).bind AV.asSl).bind fun l14 =>
 ((some p13.2).bind (AV.asInt .u64)).bind fun n15 =>
 (go (.fn F.kfw [.int .u64 n15]) q12.2).bind fun q16 =>
 ((some q16.1).bind AV.asSl).bind fun l17 =>
 some (.tup [l14.v,l17.v,.int .i64 0],q16.2)) (
 (go (.fn F.kb8 [a1.v,a2.v]) q6.2).bind fun q18 =>
 (AV.asTup2 q18.1).bind fun p19 =>
 ((some p19.1).bind AV.asSl).bind fun l20 =>
 ((some p19.2).bind AV.asSl).bind fun l21 =>
 some (.tup [l20.v,l21.v,.int .i64 0],q18.2))))):=(ke _ h).trans (by kernel_rfl)
theorem k52(a1 a2:Sl)(h:AH):go (.fn F.kcv [a1.v,a2.v]) h =
 (kbr (IntKind.wrap .i64 ((a1.len:Int)+(a2.len:Int))) (IntKind.wrap .i64 ((a1.len:Int)+(a2.len:Int))) T.kf (Pg.bytesOf T.kf) [.int .u64 0] h).bind fun q3 =>
 go (.pt F.kcv Td.kqh [(1,a2.v),(5,q3.1.v),(20,a1.v),(21,.int .i64 (a1.len:Int)),(22,.int .i64 0)]) q3.2:=(ke _ h).trans (by kernel_rfl)
theorem k5f(a1:Sl)(a2:Ref)(h:AH):go (.fn F.kj5 [a1.v,.ptr (some a2)]) h =
 ((h.cell a2).bind (AV.asInt .i64)).bind fun n3 =>
 (cutSl a1 0 (imin n3 (a1.len:Int)) 1).bind fun l4 =>
 (go (.fn F.kbq [l4.v]) h).bind fun q5 =>
 ((some q5.1).bind AV.asSl).bind fun l6 =>
 some (l6.v,q5.2):=(ke _ h).trans (by kernel_rfl)
theorem k6t(a1:Sl)(a2:Ref)(h:AH):go (.fn F.kjm [a1.v,.ptr (some a2)]) h =
 ((h.cell a2).bind (AV.asInt .i64)).bind fun n3 =>
 (cutSl a1 (imin n3 (a1.len:Int)) (a1.len:Int) 1).bind fun l4 =>
 some (l4.v,h):=(ke _ h).trans (by kernel_rfl)
theorem kbhs(a1 a2:Sl)(h:AH):go (.fn F.kdl [a1.v,a2.v]) h =
 cond (decide ((a1.len:Int)<(a2.len:Int))) (
 (kbr (IntKind.wrap .i64 ((a2.len:Int)+1)) (IntKind.wrap .i64 ((a2.len:Int)+1)) T.kf (Pg.bytesOf T.kf) [.int .u64 0] h).bind fun q3 =>
 go (.pt F.kdl Td.kgz [(0,a2.v),(1,a1.v),(5,q3.1.v),(6,.int .u64 0),(21,.int .i64 (a2.len:Int)),(22,.int .i64 0)]) q3.2) (
 (kbr (IntKind.wrap .i64 ((a1.len:Int)+1)) (IntKind.wrap .i64 ((a1.len:Int)+1)) T.kf (Pg.bytesOf T.kf) [.int .u64 0] h).bind fun q4 =>
 go (.pt F.kdl Td.kgz [(0,a1.v),(1,a2.v),(5,q4.1.v),(6,.int .u64 0),(21,.int .i64 (a1.len:Int)),(22,.int .i64 0)]) q4.2):=(ke _ h).trans (by kernel_rfl)
theorem ks6(a1:Sl)(h:AH):go (.fn F.kbq [a1.v]) h =
 go (.pt F.kbq Td.kmr [(0,a1.v),(3,.int .i64 (a1.len:Int))]) h:=(ke _ h).trans (by kernel_rfl)
theorem kbam(a1 a2:Sl)(h:AH):go (.fn F.kdf [a1.v,a2.v]) h =
 (kbr (a1.len:Int) (a1.len:Int) T.kf (Pg.bytesOf T.kf) [.int .u64 0] h).bind fun q3 =>
 go (.pt F.kdf Td.kjl [(0,a1.v),(1,a2.v),(5,q3.1.v),(6,.int .u64 0),(13,.int .i64 (a1.len:Int)),(14,.int .i64 0)]) q3.2:=(ke _ h).trans (by kernel_rfl)
theorem k8t(a1 a2:Sl)(a3:Int)(h:AH):go (.fn F.kd7 [a1.v,a2.v,.int .i64 a3]) h =
 go (.pt F.kd7 Td.kit [(0,a1.v),(1,a2.v),(2,.int .i64 a3),(6,.int .u64 0),(7,.int .i64 a3)]) h:=(ke _ h).trans (by kernel_rfl)
theorem ktm(a1:Nat)(a2:Ref)(a3:Sl)(a4 a5:Int)(h:AH):go (.pt F.kb1 Td.kip [(0,.func (.yield a1) [] []),(1,.ptr (some a2)),(6,a3.v),(7,.int .i64 a4),(8,.int .i64 a5)]) h =
 cond (decide (a5<a4)) (
 (idx a3.ref a3.len a5 1).bind fun r6 =>
 ((h.cell r6).bind (AV.asInt .u64)).bind fun n7 =>
 ((h.cell a2).bind (AV.asInt .u64)).bind fun n8 =>
 cond (decide ((IntKind.wrap .u64 (n7*n7))>n8)) (
 some (.tup [],h)) (
 (go (.round a1 [.int .u64 n7]) h).bind fun q9 =>
 ((some q9.1).bind AV.asBool).bind fun b10 =>
 cond (!b10) (
 some (.tup [],q9.2)) (
 go (.pt F.kb1 Td.kip [(0,.func (.yield a1) [] []),(1,.ptr (some a2)),(6,a3.v),(7,.int .i64 a4),(8,.int .i64 (IntKind.wrap .i64 (a5+1)))]) q9.2))) (
 go (.pt F.kb1 Td.kme [(0,.func (.yield a1) [] []),(1,.ptr (some a2)),(5,.int .u64 5)]) h):=(ke _ h).trans (by kernel_rfl)
theorem kbi9(a1 a2 a3:Sl)(a4:Int)(a5 a6:Sl)(h:AH):go (.fn F.kcu [.agg [a1.v,a2.v,a3.v],.agg [.int .i64 a4,a5.v],a6.v]) h =
 newK h (.cells [a1.v,a2.v,a3.v] T.kbt) fun h7r h7 =>
 newK h7 (.cells [.int .i64 a4,a5.v] T.ko) fun h8r h8 =>
 newK h8 (.cells [a6.v] T.kcp) fun h9r h9 =>
 ((h9.cell (h7r.add 0)).bind AV.asSl).bind fun l10 =>
 ((h9.cell (h7r.add 1)).bind AV.asSl).bind fun l11 =>
 ((h9.cell (h7r.add 2)).bind AV.asSl).bind fun l12 =>
 ((h9.cell (h8r.add 0)).bind (AV.asInt .i64)).bind fun n13 =>
 ((h9.cell (h8r.add 1)).bind AV.asSl).bind fun l14 =>
 ((h9.cell h9r).bind AV.asSl).bind fun l15 =>
 (go (.fn F.kpm [.agg [l10.v,l11.v,l12.v],.agg [.int .i64 n13,l14.v],.int .i64 (l15.len:Int)]) h9).bind fun q16 =>
 ((some q16.1).bind (AV.asInt .i64)).bind fun n17 =>
 cond (!decide (n17=0)) (
 some (.tup [(⟨none,0,.is 0⟩:Sl).v,.int .i64 n17],q16.2)) (
 ((q16.2.cell h9r).bind AV.asSl).bind fun l18 =>
 (go (.fn F.kdu [l18.v,.func (.func F.kdv) [] []]) q16.2).bind fun q19 =>
 ((some q19.1).bind AV.asBool).bind fun b20 =>
 cond b20 (
 some (.tup [(⟨none,0,.is 0⟩:Sl).v,.int .i64 1],q19.2)) (
 newK q19.2 (.cells [(⟨none,0,.is 0⟩:Sl).v] T.ki0) fun h21r h21 =>
 ((h21.cell (h7r.add 0)).bind AV.asSl).bind fun l22 =>
 ((h21.cell (h7r.add 1)).bind AV.asSl).bind fun l23 =>
 ((h21.cell (h7r.add 2)).bind AV.asSl).bind fun l24 =>
 ((h21.cell (h8r.add 0)).bind (AV.asInt .i64)).bind fun n25 =>
 ((h21.cell (h8r.add 1)).bind AV.asSl).bind fun l26 =>
 (go (.fn F.kli [.agg [l22.v,l23.v,l24.v],.agg [.int .i64 n25,l26.v]]) h21).bind fun q27 =>
 go (.pt F.kcu Tr.kz2 [(0,.agg [a1.v,a2.v,a3.v]),(1,.agg [.int .i64 a4,a5.v]),(2,a6.v),(3,.ptr (some h7r)),(4,.ptr (some h8r)),(5,.ptr (some h9r)),(6,(⟨none,0,.is 0⟩:Sl).v),(7,.int .i64 0),(8,.int .i64 n17),(9,.ptr (some h21r)),(15,.agg [l10.v,l11.v,l12.v]),(16,.agg [.int .i64 n13,l14.v]),(17,l15.v),(18,.int .i64 (l15.len:Int)),(19,.int .i64 n17),(20,.int .i64 n17),(21,.bool false),(23,l18.v),(24,.bool false),(25,.agg [l22.v,l23.v,l24.v]),(26,.agg [.int .i64 n25,l26.v]),(27,q27.1)]) q27.2)):=(ke _ h).trans (by kernel_rfl)
theorem k0s(a1:Int)(a2:Ref)(a3:Sl)(a4:Int)(h:AH):go (.pt F.kig Td.kqn [(0,.int .i64 a1),(2,.ptr (some a2)),(4,a3.v),(5,.int .i64 a4)]) h =
 cond (decide (a4<a1)) (
 cond (decide (a4≤65536)) (
 newK h (.cells [.int .i64 a4] T.int) fun h5r h5 =>
 (ky Pg T.int ((⟨some h5r,1,.is 1⟩:Sl).v) h5).bind fun p7 =>
 (ku Pg a3 p7.1 p7.2 T.int 1 h5).bind fun q6 =>
 (AV.asSl q6.1).bind fun l8 =>
 go (.pt F.kig Td.kqn [(0,.int .i64 a1),(2,.ptr (some a2)),(4,l8.v),(5,.int .i64 (IntKind.wrap .i64 (a4+1)))]) q6.2) (
 (go (.fn F.kcg [.int .i64 a1,a3.v]) h).bind fun q9 =>
 (AV.asTup2 q9.1).bind fun p10 =>
 (AV.asAgg p10.1).bind fun cs11 =>
 cond (Nat.beq cs11.length 2) (
 ((cs11[0]?).bind (AV.asInt .i64)).bind fun n12 =>
 ((cs11[1]?).bind AV.asSl).bind fun l13 =>
 ((some p10.2).bind (AV.asInt .i64)).bind fun n14 =>
 (q9.2.puts a2 [.int .i64 n12,l13.v]).bind fun h15 =>
 ((h15.cell (a2.add 0)).bind (AV.asInt .i64)).bind fun n16 =>
 ((h15.cell (a2.add 1)).bind AV.asSl).bind fun l17 =>
 some (.tup [.agg [.int .i64 n16,l17.v],.int .i64 n14],h15)) none)) (
 (go (.fn F.kcg [.int .i64 a1,a3.v]) h).bind fun q18 =>
 (AV.asTup2 q18.1).bind fun p19 =>
 (AV.asAgg p19.1).bind fun cs20 =>
 cond (Nat.beq cs20.length 2) (
 ((cs20[0]?).bind (AV.asInt .i64)).bind fun n21 =>
 ((cs20[1]?).bind AV.asSl).bind fun l22 =>
 ((some p19.2).bind (AV.asInt .i64)).bind fun n23 =>
 (q18.2.puts a2 [.int .i64 n21,l22.v]).bind fun h24 =>
 ((h24.cell (a2.add 0)).bind (AV.asInt .i64)).bind fun n25 =>
 ((h24.cell (a2.add 1)).bind AV.asSl).bind fun l26 =>
 some (.tup [.agg [.int .i64 n25,l26.v],.int .i64 n23],h24)) none):=(ke _ h).trans (by kernel_rfl)
theorem kbak(a1 a2:Int)(h:AH):go (.fn F.klp [.agg [.int .u64 a1,.int .u64 a2]]) h =
 newK h (.cells [.int .u64 a1,.int .u64 a2] T.kgp) fun h3r h3 =>
 ((h3.cell (h3r.add 0)).bind (AV.asInt .u64)).bind fun n4 =>
 (go (.fn F.kj4 [.int .u64 n4]) h3).bind fun q5 =>
 ((some q5.1).bind AV.asBool).bind fun b6 =>
 cond b6 (
 some (.int .i64 9,q5.2)) (
 ((q5.2.cell (h3r.add 1)).bind (AV.asInt .u64)).bind fun n7 =>
 (go (.fn F.kj4 [.int .u64 n7]) q5.2).bind fun q8 =>
 ((some q8.1).bind AV.asBool).bind fun b9 =>
 cond b9 (
 some (.int .i64 9,q8.2)) (
 ((q8.2.cell (h3r.add 0)).bind (AV.asInt .u64)).bind fun n10 =>
 ((q8.2.cell (h3r.add 1)).bind (AV.asInt .u64)).bind fun n11 =>
 cond (decide (n10=n11)) (
 some (.int .i64 9,q8.2)) (
 ((q8.2.cell (h3r.add 0)).bind (AV.asInt .u64)).bind fun n12 =>
 ((q8.2.cell (h3r.add 1)).bind (AV.asInt .u64)).bind fun n13 =>
 (go (.fn F.khf [.int .u64 n12]) q8.2).bind fun q14 =>
 ((some q14.1).bind (AV.asInt .i64)).bind fun n15 =>
 whenK (SameAt q8.2 q14.2 (h3r.add 1) 1) (
 (go (.fn F.khf [.int .u64 n13]) q14.2).bind fun q16 =>
 ((some q16.1).bind (AV.asInt .i64)).bind fun n17 =>
 cond (!decide (n15=n17)) (
 some (.int .i64 9,q16.2)) (
 ((q16.2.cell (h3r.add 0)).bind (AV.asInt .u64)).bind fun n18 =>
 newK q16.2 (.cells [.int .u64 n18] T.kf) fun h19r h19 =>
 ((h19.cell (h3r.add 1)).bind (AV.asInt .u64)).bind fun n20 =>
 newK h19 (.cells [.int .u64 n20] T.kf) fun h21r h21 =>
 (go (.fn F.kdm [(⟨some h19r,1,.is 1⟩:Sl).v,(⟨some h21r,1,.is 1⟩:Sl).v]) h21).bind fun q22 =>
 (AV.asTup2 q22.1).bind fun p23 =>
 ((some p23.1).bind AV.asSl).bind fun l24 =>
 ((some p23.2).bind (AV.asInt .i64)).bind fun n25 =>
 ((q22.2.cell (h3r.add 0)).bind (AV.asInt .u64)).bind fun n26 =>
 newK q22.2 (.cells [.int .u64 (IntKind.wrap .u64 (n26-1))] T.kf) fun h27r h27 =>
 ((h27.cell (h3r.add 1)).bind (AV.asInt .u64)).bind fun n28 =>
 newK h27 (.cells [.int .u64 (IntKind.wrap .u64 (n28-1))] T.kf) fun h29r h29 =>
 (go (.fn F.kdm [(⟨some h27r,1,.is 1⟩:Sl).v,(⟨some h29r,1,.is 1⟩:Sl).v]) h29).bind fun q30 =>
 (AV.asTup2 q30.1).bind fun p31 =>
 ((some p31.1).bind AV.asSl).bind fun l32 =>
 ((some p31.2).bind (AV.asInt .i64)).bind fun n33 =>
 (go (.fn F.kfk [l24.v,l32.v]) q30.2).bind fun q34 =>
 (AV.asTup2 q34.1).bind fun p35 =>
 ((some p35.1).bind AV.asSl).bind fun l36 =>
 ((some p35.2).bind (AV.asInt .i64)).bind fun n37 =>
 newK q34.2 (.cells [.int .u64 1] T.kf) fun h38r h38 =>
 (go (.fn F.kda [l36.v,(⟨some h38r,1,.is 1⟩:Sl).v]) h38).bind fun q39 =>
 ((some q39.1).bind (AV.asInt .i64)).bind fun n40 =>
 cond (!decide (n40=0)) (
 some (.int .i64 9,q39.2)) (
 some (.int .i64 0,q39.2))))))):=(ke _ h).trans (by kernel_rfl)
theorem kbh8(a1:Sl)(h:AH):go (.fn F.kl8 [a1.v]) h =
 (go (.fn F.kjy [a1.v]) h).bind fun q2 =>
 ((some q2.1).bind (AV.asInt .i64)).bind fun n3 =>
 (go (.fn F.kcf [a1.v]) q2.2).bind fun q4 =>
 ((some q4.1).bind AV.asBool).bind fun b5 =>
 cond b5 (
 (go (.fn F.kj8 [a1.v,.int .i64 0]) q4.2).bind fun q6 =>
 ((some q6.1).bind AV.asBool).bind fun b7 =>
 cond b7 (
 cond (decide (n3≥15)) (
 some (.bool (decide (n3≤80)),q6.2)) (
 some (.bool false,q6.2))) (
 some (.bool false,q6.2))) (
 some (.bool false,q4.2)):=(ke _ h).trans (by kernel_rfl)
theorem kbgb(a1 a2 a3:Sl)(a4:Int)(a5:Sl)(a6:Int)(h:AH):go (.fn F.kpm [.agg [a1.v,a2.v,a3.v],.agg [.int .i64 a4,a5.v],.int .i64 a6]) h =
 newK h (.cells [a1.v,a2.v,a3.v] T.kbt) fun h7r h7 =>
 newK h7 (.cells [.int .i64 a4,a5.v] T.ko) fun h8r h8 =>
 ((h8.cell (h7r.add 0)).bind AV.asSl).bind fun l9 =>
 ((h8.cell (h7r.add 1)).bind AV.asSl).bind fun l10 =>
 ((h8.cell (h7r.add 2)).bind AV.asSl).bind fun l11 =>
 (go (.fn F.kgd [.agg [l9.v,l10.v,l11.v]]) h8).bind fun q12 =>
 ((some q12.1).bind AV.asBool).bind fun b13 =>
 cond (!b13) (
 some (.int .i64 20,q12.2)) (
 ((q12.2.cell (h8r.add 0)).bind (AV.asInt .i64)).bind fun n14 =>
 ((q12.2.cell (h8r.add 1)).bind AV.asSl).bind fun l15 =>
 (go (.fn F.ki9 [.agg [.int .i64 n14,l15.v]]) q12.2).bind fun q16 =>
 ((some q16.1).bind AV.asBool).bind fun b17 =>
 cond (!b17) (
 some (.int .i64 1,q16.2)) (
 ((q16.2.cell (h8r.add 0)).bind (AV.asInt .i64)).bind fun n18 =>
 ((q16.2.cell (h7r.add 0)).bind AV.asSl).bind fun l19 =>
 cond (!decide (n18=(l19.len:Int))) (
 some (.int .i64 1,q16.2)) (
 ((q16.2.cell (h7r.add 0)).bind AV.asSl).bind fun l20 =>
 cond (!decide (a6=(l20.len:Int))) (
 some (.int .i64 1,q16.2)) (
 some (.int .i64 0,q16.2))))):=(ke _ h).trans (by kernel_rfl)
theorem kbjl(a1:Sl)(a2:Option Ref)(h:AH):go (.fn F.kgh [a1.v,.func (.func F.kb2) [] [.ptr a2]]) h =
 (go (.fn F.kb6 [a1.v,.func (.func F.kb2) [] [.ptr a2]]) h).bind fun q3 =>
 ((some q3.1).bind (AV.asInt .i64)).bind fun n4 =>
 some (.bool (decide (n4≥0)),q3.2):=(ke _ h).trans (by kernel_rfl)
theorem k78(a1:Sl)(h:AH):go (.fn F.kpk [a1.v]) h =
 (go (.fn F.kdm [a1.v,a1.v]) h).bind fun q2 =>
 (AV.asTup2 q2.1).bind fun p3 =>
 ((some p3.1).bind AV.asSl).bind fun l4 =>
 ((some p3.2).bind (AV.asInt .i64)).bind fun n5 =>
 newK q2.2 (.cells [(⟨none,0,.is 0⟩:Sl).v] T.kr) fun h6r h6 =>
 (h6.puts h6r [l4.v]).bind fun h7 =>
 some (.func (.func F.keh) [] [.ptr (some h6r)],h7):=(ke _ h).trans (by kernel_rfl)
theorem k1o(a1 a2 a3:Sl)(a4:Int)(a5:Sl)(h:AH):go (.fn F.kli [.agg [a1.v,a2.v,a3.v],.agg [.int .i64 a4,a5.v]]) h =
 newK h (.cells [a1.v,a2.v,a3.v] T.kbt) fun h6r h6 =>
 newK h6 (.cells [.int .i64 a4,a5.v] T.ko) fun h7r h7 =>
 some (.func (.func F.kbw) [] [.ptr (some h6r),.ptr (some h7r)],h7):=(ke _ h).trans (by kernel_rfl)
theorem k7x(a1 a2 a3 a4:Sl)(a5:Int)(a6 a7:Sl)(a8 a9 a10 a11:Ref)(a12:Sl)(a13 a14:Int)(a15 a16:Ref)(a17:Sl)(a18 a19:Bool)(a20 a21 a22:Sl)(a23:Int)(a24 a25:Sl)(a26 a27 a28:Int)(a29:Bool)(a30:Sl)(a31:Ref)(a32:Bool)(a33:Sl)(a34:AV)(a35 a36 a37:Sl)(a38:Int)(a39:Sl)(a40:AV)(h:AH):go (.pt F.kch Tr.kyh [(0,a1.v),(1,.agg [a2.v,a3.v,a4.v]),(2,.agg [.int .i64 a5,a6.v]),(3,a7.v),(4,.ptr (some a8)),(5,.ptr (some a9)),(6,.ptr (some a10)),(7,.ptr (some a11)),(8,a12.v),(9,.int .i64 a13),(10,.int .i64 a14),(11,.ptr (some a15)),(12,.ptr (some a16)),(18,a17.v),(19,.bool a18),(20,.bool a19),(21,.agg [a20.v,a21.v,a22.v]),(22,.agg [.int .i64 a23,a24.v]),(23,a25.v),(24,.int .i64 a26),(25,.int .i64 a27),(26,.int .i64 a28),(27,.bool a29),(29,a30.v),(30,.func (.func F.kb2) [] [.ptr (some a31)]),(31,.bool a32),(32,a33.v),(33,a34),(34,.agg [a35.v,a36.v,a37.v]),(35,.agg [.int .i64 a38,a39.v]),(36,a40)]) h =
 funcK a40 fun g45 f46 c47 =>
 newM h (kcx Fx.kvf F.kch 0 .ready none [(0,a1.v),(1,.agg [a2.v,a3.v,a4.v]),(2,.agg [.int .i64 a5,a6.v]),(3,a7.v),(4,.ptr (some a8)),(5,.ptr (some a9)),(6,.ptr (some a10)),(7,.ptr (some a11)),(8,a12.v),(9,.int .i64 a13),(10,.int .i64 a14),(11,.ptr (some a15)),(12,.ptr (some a16)),(18,a17.v),(19,.bool a18),(20,.bool a19),(21,.agg [a20.v,a21.v,a22.v]),(22,.agg [.int .i64 a23,a24.v]),(23,a25.v),(24,.int .i64 a26),(25,.int .i64 a27),(26,.int .i64 a28),(27,.bool a29),(29,a30.v),(30,.func (.func F.kb2) [] [.ptr (some a31)]),(31,.bool a32),(32,a33.v),(33,a34),(34,.agg [a35.v,a36.v,a37.v]),(35,.agg [.int .i64 a38,a39.v]),(36,a40)]) fun m41 h42 =>
 (callF Pg go g45 (f46++[.func (.yield m41) [] []]++c47) h42).bind fun q43 =>
 (kc2 m41 q43.2).bind fun p44 =>
 go (.pt F.kch ((p44.1.map Item.code).toList++Ta.kx5) [(0,a1.v),(1,.agg [a2.v,a3.v,a4.v]),(2,.agg [.int .i64 a5,a6.v]),(3,a7.v),(4,.ptr (some a8)),(5,.ptr (some a9)),(6,.ptr (some a10)),(7,.ptr (some a11)),(8,a12.v),(9,.int .i64 a13),(10,.int .i64 a14),(11,.ptr (some a15)),(12,.ptr (some a16)),(18,a17.v),(19,.bool a18),(20,.bool a19),(21,.agg [a20.v,a21.v,a22.v]),(22,.agg [.int .i64 a23,a24.v]),(23,a25.v),(24,.int .i64 a26),(25,.int .i64 a27),(26,.int .i64 a28),(27,.bool a29),(29,a30.v),(30,.func (.func F.kb2) [] [.ptr (some a31)]),(31,.bool a32),(32,a33.v),(33,a34),(34,.agg [a35.v,a36.v,a37.v]),(35,.agg [.int .i64 a38,a39.v]),(36,a40)]) p44.2:=(ke _ h).trans (by kernel_rfl)
theorem k3j(a1 a2:Int)(a3:Sl)(h:AH):go (.fn F.kod [.agg [.int .u64 a1,.int .u64 a2],a3.v]) h =
 newK h (.cells [.int .u64 a1,.int .u64 a2] T.kgp) fun h4r h4 =>
 ((h4.cell (h4r.add 0)).bind (AV.asInt .u64)).bind fun n5 =>
 ((h4.cell (h4r.add 1)).bind (AV.asInt .u64)).bind fun n6 =>
 (go (.fn F.kjd [.agg [.int .u64 n5,.int .u64 n6]]) h4).bind fun q7 =>
 (AV.asTup2 q7.1).bind fun p8 =>
 ((some p8.1).bind AV.asSl).bind fun l9 =>
 ((some p8.2).bind (AV.asInt .i64)).bind fun n10 =>
 cond (!decide (n10=0)) (
 some (.tup [(⟨none,0,.is 0⟩:Sl).v,.int .i64 n10],q7.2)) (
 (go (.fn F.kkc [l9.v,a3.v]) q7.2).bind fun q11 =>
 ((some q11.1).bind AV.asBool).bind fun b12 =>
 cond (!b12) (
 some (.tup [(⟨none,0,.is 0⟩:Sl).v,.int .i64 11],q11.2)) (
 ((q11.2.cell (h4r.add 0)).bind (AV.asInt .u64)).bind fun n13 =>
 ((q11.2.cell (h4r.add 1)).bind (AV.asInt .u64)).bind fun n14 =>
 newK q11.2 (.cells [.int .u64 n13] T.kf) fun h15r h15 =>
 newK h15 (.cells [.int .u64 n14] T.kf) fun h16r h16 =>
 ((h16.cell (h4r.add 0)).bind (AV.asInt .u64)).bind fun n17 =>
 ((h16.cell (h4r.add 0)).bind (AV.asInt .u64)).bind fun n18 =>
 ((h16.cell (h4r.add 1)).bind (AV.asInt .u64)).bind fun n19 =>
 ((h16.cell (h4r.add 1)).bind (AV.asInt .u64)).bind fun n20 =>
 (go (.fn F.kpl [a3.v,l9.v,.int .u64 n17]) h16).bind fun q21 =>
 ((some q21.1).bind AV.asSl).bind fun l22 =>
 whenK (SameAt h16 q21.2 (h4r.add 1) 1) (
 whenK (SameAt h16 q21.2 (h4r.add 1) 1) (
 whenK (SameAt h16 q21.2 (h4r.add 0) 1) (
 whenK (SameAt h16 q21.2 h16r 0) (
 whenK (SameAt h16 q21.2 h15r 0) (
 (go (.fn F.kpl [a3.v,l9.v,.int .u64 n19]) q21.2).bind fun q23 =>
 ((some q23.1).bind AV.asSl).bind fun l24 =>
 whenK (SameAt q21.2 q23.2 (h4r.add 1) 1) (
 whenK (SameAt q21.2 q23.2 (h4r.add 0) 1) (
 whenK (SameAt q21.2 q23.2 h16r 0) (
 whenK (SameAt q21.2 q23.2 h15r 0) (
 (go (.fn F.kn4 [l22.v,(⟨some h15r,1,.is 1⟩:Sl).v,l24.v,(⟨some h16r,1,.is 1⟩:Sl).v]) q23.2).bind fun q25 =>
 (AV.asTup2 q25.1).bind fun p26 =>
 ((some p26.1).bind AV.asSl).bind fun l27 =>
 ((some p26.2).bind (AV.asInt .i64)).bind fun n28 =>
 whenK (([some (.int .u64 n20:AV),some (.int .u64 n18:AV)]:List (Option AV))=[some (.int .u64 n14:AV),some (.int .u64 n13:AV)]) (
 some (.tup [l27.v,.int .i64 n28],q25.2))))))))))))):=(ke _ h).trans (by kernel_rfl)
theorem k9m(a1:Sl)(h:AH):go (.fn F.kia [a1.v]) h =
 cond (decide ((a1.len:Int)>256)) (
 some (.bool false,h)) (
 go (.pt F.kia Td.knn [(0,a1.v),(3,.int .i64 0)]) h):=(ke _ h).trans (by kernel_rfl)
theorem kx8(a1:Ref)(a2:Int)(h:AH):go (.pt F.kdd Td.kmw [(1,.ptr (some a1)),(4,.int .i64 a2)]) h =
 ((h.cell (a1.add 2)).bind AV.asSl).bind fun l3 =>
 cond (decide (a2<(l3.len:Int))) (
 ((h.cell (a1.add 1)).bind AV.asSl).bind fun l4 =>
 (idx l4.ref l4.len a2 1).bind fun r5 =>
 ((h.cell r5).bind (AV.asInt .i64)).bind fun n6 =>
 cond (decide (n6<2)) (
 some (.bool false,h)) (
 ((h.cell (a1.add 1)).bind AV.asSl).bind fun l7 =>
 (idx l7.ref l7.len a2 1).bind fun r8 =>
 ((h.cell r8).bind (AV.asInt .i64)).bind fun n9 =>
 cond (decide (n9>32)) (
 some (.bool false,h)) (
 ((h.cell (a1.add 2)).bind AV.asSl).bind fun l10 =>
 (idx l10.ref l10.len a2 1).bind fun r11 =>
 ((h.cell r11).bind AV.asSl).bind fun l12 =>
 ((h.cell (a1.add 0)).bind AV.asSl).bind fun l13 =>
 cond (!decide ((l12.len:Int)=(l13.len:Int))) (
 some (.bool false,h)) (
 go (.pt F.kdd Td.kqr [(1,.ptr (some a1)),(4,.int .i64 a2),(5,.int .i64 0)]) h)))) (
 some (.bool true,h)):=(ke _ h).trans (by kernel_rfl)
theorem k58(a1 a2:Sl)(h:AH):go (.fn F.kpx [a1.v,a2.v]) h =
 (go (.fn F.kln [a1.v]) h).bind fun q3 =>
 ((some q3.1).bind AV.asBool).bind fun b4 =>
 cond b4 (
 (go (.fn F.kn0 [a1.v]) q3.2).bind fun q5 =>
 ((some q5.1).bind AV.asSl).bind fun l6 =>
 (go (.fn F.kqd [a2.v,a1.v,l6.v]) q5.2).bind fun q7 =>
 ((some q7.1).bind AV.asBool).bind fun b8 =>
 some (.bool b8,q7.2)) (
 some (.bool false,q3.2)):=(ke _ h).trans (by kernel_rfl)
theorem kbhg(a1 a2 a3:Sl)(a4 a5:Int)(h:AH):go (.fn F.kgl [.agg [a1.v,a2.v,a3.v],.int .i64 a4,.int .i64 a5]) h =
 newK h (.cells [a1.v,a2.v,a3.v] T.kbt) fun h6r h6 =>
 newK h6 (.cells [.int .i64 0,(⟨none,0,.is 0⟩:Sl).v] T.ko) fun h7r h7 =>
 ((h7.cell (h6r.add 0)).bind AV.asSl).bind fun l8 =>
 ((h7.cell (h6r.add 1)).bind AV.asSl).bind fun l9 =>
 ((h7.cell (h6r.add 2)).bind AV.asSl).bind fun l10 =>
 (go (.fn F.kdd [.agg [l8.v,l9.v,l10.v]]) h7).bind fun q11 =>
 ((some q11.1).bind AV.asBool).bind fun b12 =>
 cond (!b12) (
 (q11.2.puts h7r [.int .i64 0,(⟨none,0,.is 0⟩:Sl).v]).bind fun h13 =>
 ((h13.cell (h7r.add 0)).bind (AV.asInt .i64)).bind fun n14 =>
 ((h13.cell (h7r.add 1)).bind AV.asSl).bind fun l15 =>
 some (.tup [.agg [.int .i64 n14,l15.v],.int .i64 20],h13)) (
 cond (decide (a4<0)) (
 (q11.2.puts h7r [.int .i64 0,(⟨none,0,.is 0⟩:Sl).v]).bind fun h16 =>
 ((h16.cell (h7r.add 0)).bind (AV.asInt .i64)).bind fun n17 =>
 ((h16.cell (h7r.add 1)).bind AV.asSl).bind fun l18 =>
 some (.tup [.agg [.int .i64 n17,l18.v],.int .i64 1],h16)) (
 ((q11.2.cell (h6r.add 2)).bind AV.asSl).bind fun l19 =>
 cond (decide (a4≥(l19.len:Int))) (
 (q11.2.puts h7r [.int .i64 0,(⟨none,0,.is 0⟩:Sl).v]).bind fun h20 =>
 ((h20.cell (h7r.add 0)).bind (AV.asInt .i64)).bind fun n21 =>
 ((h20.cell (h7r.add 1)).bind AV.asSl).bind fun l22 =>
 some (.tup [.agg [.int .i64 n21,l22.v],.int .i64 1],h20)) (
 cond (decide (a5<0)) (
 (q11.2.puts h7r [.int .i64 0,(⟨none,0,.is 0⟩:Sl).v]).bind fun h23 =>
 ((h23.cell (h7r.add 0)).bind (AV.asInt .i64)).bind fun n24 =>
 ((h23.cell (h7r.add 1)).bind AV.asSl).bind fun l25 =>
 some (.tup [.agg [.int .i64 n24,l25.v],.int .i64 1],h23)) (
 ((q11.2.cell (h6r.add 1)).bind AV.asSl).bind fun l26 =>
 (idx l26.ref l26.len a4 1).bind fun r27 =>
 ((q11.2.cell r27).bind (AV.asInt .i64)).bind fun n28 =>
 cond (decide (a5≥n28)) (
 (q11.2.puts h7r [.int .i64 0,(⟨none,0,.is 0⟩:Sl).v]).bind fun h29 =>
 ((h29.cell (h7r.add 0)).bind (AV.asInt .i64)).bind fun n30 =>
 ((h29.cell (h7r.add 1)).bind AV.asSl).bind fun l31 =>
 some (.tup [.agg [.int .i64 n30,l31.v],.int .i64 1],h29)) (
 go (.pt F.kgl Td.klv [(1,.int .i64 a4),(2,.int .i64 a5),(3,.ptr (some h6r)),(6,.ptr (some h7r)),(9,(⟨none,0,.is 0⟩:Sl).v),(10,.int .i64 0)]) q11.2))))):=(ke _ h).trans (by kernel_rfl)
theorem kbh4(a1:Int)(a2:Sl)(a3:Int)(a4:Sl)(h:AH):go (.fn F.kuv [.agg [.int .i64 a1,a2.v],.agg [.int .i64 a3,a4.v]]) h =
 newK h (.cells [.int .i64 a1,a2.v] T.ko) fun h5r h5 =>
 newK h5 (.cells [.int .i64 a3,a4.v] T.ko) fun h6r h6 =>
 newK h6 (.cells [.int .i64 0,(⟨none,0,.is 0⟩:Sl).v] T.ko) fun h7r h7 =>
 ((h7.cell (h5r.add 0)).bind (AV.asInt .i64)).bind fun n8 =>
 ((h7.cell (h5r.add 1)).bind AV.asSl).bind fun l9 =>
 ((h7.cell (h6r.add 0)).bind (AV.asInt .i64)).bind fun n10 =>
 ((h7.cell (h6r.add 1)).bind AV.asSl).bind fun l11 =>
 (go (.fn F.kw [.agg [.int .i64 n8,l9.v],.agg [.int .i64 n10,l11.v],.bool false,.bool true,.bool false]) h7).bind fun q12 =>
 (AV.asTup2 q12.1).bind fun p13 =>
 (AV.asAgg p13.1).bind fun cs14 =>
 cond (Nat.beq cs14.length 2) (
 ((cs14[0]?).bind (AV.asInt .i64)).bind fun n15 =>
 ((cs14[1]?).bind AV.asSl).bind fun l16 =>
 ((some p13.2).bind (AV.asInt .i64)).bind fun n17 =>
 (q12.2.puts h7r [.int .i64 n15,l16.v]).bind fun h18 =>
 ((h18.cell (h7r.add 0)).bind (AV.asInt .i64)).bind fun n19 =>
 ((h18.cell (h7r.add 1)).bind AV.asSl).bind fun l20 =>
 some (.tup [.agg [.int .i64 n19,l20.v],.int .i64 n17],h18)) none:=(ke _ h).trans (by kernel_rfl)
theorem k2l(a1:Ref)(a2 a3 a4 a5:Sl)(a6:Int)(h:AH):go (.pt F.kdr Td.kqs [(3,.ptr (some a1)),(8,a2.v),(19,a3.v),(20,a4.v),(22,a5.v),(24,.int .i64 a6)]) h =
 cond (decide (a6<(a3.len:Int))) (
 (idx a3.ref a3.len a6 1).bind fun r7 =>
 ((h.cell r7).bind AV.asSl).bind fun l8 =>
 (idx a4.ref a4.len a6 1).bind fun r9 =>
 ((h.cell r9).bind AV.asSl).bind fun l10 =>
 (go (.fn F.ktj [a2.v,l8.v,l10.v]) h).bind fun q11 =>
 (AV.asTup2 q11.1).bind fun p12 =>
 ((some p12.1).bind AV.asSl).bind fun l13 =>
 ((some p12.2).bind (AV.asInt .i64)).bind fun n14 =>
 ((q11.2.cell (a1.add 0)).bind (AV.asInt .u64)).bind fun n15 =>
 ((q11.2.cell (a1.add 1)).bind (AV.asInt .u64)).bind fun n16 =>
 (go (.fn F.kod [.agg [.int .u64 n15,.int .u64 n16],l13.v]) q11.2).bind fun q17 =>
 (AV.asTup2 q17.1).bind fun p18 =>
 ((some p18.1).bind AV.asSl).bind fun l19 =>
 ((some p18.2).bind (AV.asInt .i64)).bind fun n20 =>
 ((q17.2.cell (a1.add 0)).bind (AV.asInt .u64)).bind fun n21 =>
 ((q17.2.cell (a1.add 1)).bind (AV.asInt .u64)).bind fun n22 =>
 (idx a5.ref a5.len a6 1).bind fun r23 =>
 ((q17.2.cell r23).bind AV.asSl).bind fun l24 =>
 (go (.fn F.kod [.agg [.int .u64 n21,.int .u64 n22],l24.v]) q17.2).bind fun q25 =>
 (AV.asTup2 q25.1).bind fun p26 =>
 ((some p26.1).bind AV.asSl).bind fun l27 =>
 ((some p26.2).bind (AV.asInt .i64)).bind fun n28 =>
 (go (.fn F.khy [l19.v,l27.v]) q25.2).bind fun q29 =>
 ((some q29.1).bind AV.asBool).bind fun b30 =>
 cond (!decide (n14=0)) (
 some (.bool false,q29.2)) (
 cond (!decide (n20=0)) (
 some (.bool false,q29.2)) (
 cond (!decide (n28=0)) (
 some (.bool false,q29.2)) (
 cond (!b30) (
 some (.bool false,q29.2)) (
 go (.pt F.kdr Td.kqs [(3,.ptr (some a1)),(8,a2.v),(19,a3.v),(20,a4.v),(22,a5.v),(24,.int .i64 (IntKind.wrap .i64 (a6+1)))]) q29.2))))) (
 some (.bool true,h)):=(ke _ h).trans (by kernel_rfl)
theorem ky5(a1:Nat)(a2 a3:Ref)(a4:Int)(a5:Sl)(a6 a7 a8 a9:Int)(h:AH):go (.pt F.kbw Td.kk1 [(0,.func (.yield a1) [] []),(1,.ptr (some a2)),(2,.ptr (some a3)),(4,.int .i64 a4),(10,a5.v),(11,.int .i64 a6),(12,.int .i64 a7),(18,.int .i64 a8),(19,.int .i64 a9)]) h =
 cond (decide (a9<a8)) (
 ((h.cell (a2.add 0)).bind AV.asSl).bind fun l10 =>
 ((h.cell (a2.add 1)).bind AV.asSl).bind fun l11 =>
 ((h.cell (a2.add 2)).bind AV.asSl).bind fun l12 =>
 (go (.fn F.kfj [.agg [l10.v,l11.v,l12.v],.int .i64 a4,.int .i64 a9]) h).bind fun q13 =>
 (AV.asTup2 q13.1).bind fun p14 =>
 (AV.asAgg p14.1).bind fun cs15 =>
 cond (Nat.beq cs15.length 2) (
 ((cs15[0]?).bind (AV.asInt .i64)).bind fun n16 =>
 ((cs15[1]?).bind AV.asSl).bind fun l17 =>
 ((some p14.2).bind (AV.asInt .i64)).bind fun n18 =>
 newK q13.2 (.cells [.int .i64 0,(⟨none,0,.is 0⟩:Sl).v] T.ko) fun h19r h19 =>
 (h19.puts h19r [.int .i64 n16,l17.v]).bind fun h20 =>
 ((h20.cell (h19r.add 0)).bind (AV.asInt .i64)).bind fun n21 =>
 ((h20.cell (h19r.add 1)).bind AV.asSl).bind fun l22 =>
 ((h20.cell (a3.add 0)).bind (AV.asInt .i64)).bind fun n23 =>
 ((h20.cell (a3.add 1)).bind AV.asSl).bind fun l24 =>
 (go (.fn F.kql [.agg [.int .i64 n21,l22.v],.agg [.int .i64 n23,l24.v]]) h20).bind fun q25 =>
 (AV.asTup2 q25.1).bind fun p26 =>
 (AV.asAgg p26.1).bind fun cs27 =>
 cond (Nat.beq cs27.length 2) (
 ((cs27[0]?).bind (AV.asInt .i64)).bind fun n28 =>
 ((cs27[1]?).bind AV.asSl).bind fun l29 =>
 ((some p26.2).bind (AV.asInt .i64)).bind fun n30 =>
 (q25.2.puts h19r [.int .i64 n28,l29.v]).bind fun h31 =>
 ((h31.cell (h19r.add 0)).bind (AV.asInt .i64)).bind fun n32 =>
 ((h31.cell (h19r.add 1)).bind AV.asSl).bind fun l33 =>
 (go (.fn F.kp1 [.agg [.int .i64 n32,l33.v]]) h31).bind fun q34 =>
 ((some q34.1).bind AV.asSl).bind fun l35 =>
 (go (.round a1 [.agg [.int .i64 a4,.int .i64 a9],l35.v]) q34.2).bind fun q36 =>
 ((some q36.1).bind AV.asBool).bind fun b37 =>
 cond (!b37) (
 some (.tup [],q36.2)) (
 go (.pt F.kbw Td.kk1 [(0,.func (.yield a1) [] []),(1,.ptr (some a2)),(2,.ptr (some a3)),(4,.int .i64 a4),(10,a5.v),(11,.int .i64 a6),(12,.int .i64 a7),(18,.int .i64 a8),(19,.int .i64 (IntKind.wrap .i64 (a9+1)))]) q36.2)) none) none) (
 go (.pt F.kbw Td.kkw [(0,.func (.yield a1) [] []),(1,.ptr (some a2)),(2,.ptr (some a3)),(10,a5.v),(11,.int .i64 a6),(12,.int .i64 (IntKind.wrap .i64 (a7+1)))]) h):=(ke _ h).trans (by kernel_rfl)
theorem kym(a1:Nat)(a2 a3:Int)(a4:Sl)(a5 a6:Int)(h:AH):go (.pt F.kb4 Td.kpe [(0,.func (.yield a1) [] []),(3,.int .i64 a2),(4,.int .u64 a3),(6,a4.v),(7,.int .i64 a5),(8,.int .i64 a6)]) h =
 cond (!decide (a3=0)) (
 (go (.fn F.kvn [.int .u64 a3]) h).bind fun q7 =>
 ((some q7.1).bind (AV.asInt .i64)).bind fun n8 =>
 (go (.round a1 [.int .i64 (IntKind.wrap .i64 ((IntKind.wrap .i64 (64*a2))+n8))]) q7.2).bind fun q9 =>
 ((some q9.1).bind AV.asBool).bind fun b10 =>
 cond (!b10) (
 some (.tup [],q9.2)) (
 go (.pt F.kb4 Td.kpe [(0,.func (.yield a1) [] []),(3,.int .i64 a2),(4,.int .u64 (iand .u64 a3 (IntKind.wrap .u64 (a3-1)))),(6,a4.v),(7,.int .i64 a5),(8,.int .i64 a6)]) q9.2)) (
 go (.pt F.kb4 Td.knd [(0,.func (.yield a1) [] []),(6,a4.v),(7,.int .i64 a5),(8,.int .i64 (IntKind.wrap .i64 (a6+1)))]) h):=(ke _ h).trans (by kernel_rfl)
theorem kbku(a1:Sl)(h:AH):go (.fn F.kgn [a1.v]) h =
 (go (.fn F.kgh [a1.v,.func (.func F.kem) [] []]) h).bind fun q2 =>
 ((some q2.1).bind AV.asBool).bind fun b3 =>
 some (.bool (!b3),q2.2):=(ke _ h).trans (by kernel_rfl)
theorem kbal(a1 a2:Sl)(h:AH):go (.fn F.knh [a1.v,a2.v]) h =
 newK h (.cells [.nilFunc] T.kxp) fun h3r h3 =>
 (h3.puts h3r [.func (.func F.kl2) [] [.ptr (some h3r)]]).bind fun h4 =>
 (h4.cell h3r).bind fun v5 =>
 yieldK v5 [a1.v,a2.v] (fun y7 =>
 (go (.round y7.1 y7.2) h4).bind fun q6 =>
 ((some q6.1).bind AV.asSl).bind fun l9 =>
 some (l9.v,q6.2)) (
 (callV Pg go v5 [a1.v,a2.v] h4).bind fun q8 =>
 ((some q8.1).bind AV.asSl).bind fun l10 =>
 some (l10.v,q8.2)):=(ke _ h).trans (by kernel_rfl)
theorem kbe8(a1:Sl)(h:AH):go (.fn F.kle [a1.v]) h =
 (go (.fn F.kbq [a1.v]) h).bind fun q2 =>
 ((some q2.1).bind AV.asSl).bind fun l3 =>
 cond (decide ((l3.len:Int)>64)) (
 some (.tup [(⟨none,0,.is 0⟩:Sl).v,.int .i64 4],q2.2)) (
 some (.tup [l3.v,.int .i64 0],q2.2)):=(ke _ h).trans (by kernel_rfl)
theorem k8x(a1 a2:Sl)(h:AH):go (.fn F.ke3 [a1.v,a2.v]) h =
 cond (!decide ((a1.len:Int)=(a2.len:Int))) (
 cond (decide ((a1.len:Int)<(a2.len:Int))) (
 some (.int .i64 (-1),h)) (
 some (.int .i64 1,h))) (
 go (.pt F.ke3 Td.kn7 [(0,a1.v),(1,a2.v),(5,.int .i64 (IntKind.wrap .i64 ((a1.len:Int)-1)))]) h):=(ke _ h).trans (by kernel_rfl)
theorem k9z(a1:Sl)(h:AH):go (.fn F.kge [a1.v]) h =
 cond a1.ref.isNone (
 some ((⟨none,0,.is 0⟩:Sl).v,h)) (
 newK h (.cells [] T.kf) fun h2r h2 =>
 (ky Pg T.kf a1.v h2).bind fun p4 =>
 (ku Pg (⟨some h2r,0,.is 0⟩:Sl) p4.1 p4.2 T.kf 1 h2).bind fun q3 =>
 (AV.asSl q3.1).bind fun l5 =>
 some (l5.v,q3.2)):=(ke _ h).trans (by kernel_rfl)
theorem kbau(a1:Sl)(a2:Int)(h:AH):go (.fn F.kfi [a1.v,.int .u64 a2]) h =
 (kbr (a1.len:Int) (a1.len:Int) T.kf (Pg.bytesOf T.kf) [.int .u64 0] h).bind fun q3 =>
 go (.pt F.kfi Td.knz [(0,a1.v),(1,.int .u64 a2),(6,q3.1.v),(7,.int .u64 0),(8,.int .i64 (IntKind.wrap .i64 ((a1.len:Int)-1)))]) q3.2:=(ke _ h).trans (by kernel_rfl)
theorem kbhi(a1:Int)(h:AH):go (.fn F.kfw [.int .u64 a1]) h =
 newK h (.cells [.int .u64 a1] T.kf) fun h2r h2 =>
 (go (.fn F.kbq [(⟨some h2r,1,.is 1⟩:Sl).v]) h2).bind fun q3 =>
 ((some q3.1).bind AV.asSl).bind fun l4 =>
 some (l4.v,q3.2):=(ke _ h).trans (by kernel_rfl)
theorem k6e(a1 a2:Sl)(h:AH):go (.fn F.kb8 [a1.v,a2.v]) h =
 (idx a2.ref a2.len (IntKind.wrap .i64 ((a2.len:Int)-1)) 1).bind fun r3 =>
 ((h.cell r3).bind (AV.asInt .u64)).bind fun n4 =>
 (go (.fn F.kqp [.int .u64 n4]) h).bind fun q5 =>
 ((some q5.1).bind (AV.asInt .i64)).bind fun n6 =>
 (go (.fn F.kez [a1.v,.int .u64 (IntKind.wrap .u64 n6)]) q5.2).bind fun q7 =>
 ((some q7.1).bind AV.asSl).bind fun l8 =>
 (go (.fn F.kez [a2.v,.int .u64 (IntKind.wrap .u64 n6)]) q7.2).bind fun q9 =>
 ((some q9.1).bind AV.asSl).bind fun l10 =>
 (go (.fn F.kbq [l10.v]) q9.2).bind fun q11 =>
 ((some q11.1).bind AV.asSl).bind fun l12 =>
 (kbr (IntKind.wrap .i64 ((l8.len:Int)-(l12.len:Int))) (IntKind.wrap .i64 ((l8.len:Int)-(l12.len:Int))) T.kf (Pg.bytesOf T.kf) [.int .u64 0] q11.2).bind fun q13 =>
 go (.pt F.kb8 Td.kpf [(6,.int .u64 (IntKind.wrap .u64 n6)),(7,l8.v),(8,l12.v),(9,.int .i64 (l12.len:Int)),(10,q13.1.v),(11,.int .i64 (IntKind.wrap .i64 ((q13.1.len:Int)-1)))]) q13.2:=(ke _ h).trans (by kernel_rfl)
theorem k9p(a1 a2 a3:Sl)(a4 a5:Int)(h:AH):go (.pt F.kcv Td.kqh [(1,a1.v),(5,a2.v),(20,a3.v),(21,.int .i64 a4),(22,.int .i64 a5)]) h =
 cond (decide (a5<a4)) (
 (idx a3.ref a3.len a5 1).bind fun r6 =>
 ((h.cell r6).bind (AV.asInt .u64)).bind fun n7 =>
 go (.pt F.kcv Td.ko3 [(1,a1.v),(5,a2.v),(6,.int .i64 a5),(7,.int .u64 n7),(8,.int .u64 0),(20,a3.v),(21,.int .i64 a4),(22,.int .i64 a5),(27,a1.v),(28,.int .i64 (a1.len:Int)),(29,.int .i64 0)]) h) (
 (go (.fn F.kbq [a2.v]) h).bind fun q8 =>
 ((some q8.1).bind AV.asSl).bind fun l9 =>
 some (l9.v,q8.2)):=(ke _ h).trans (by kernel_rfl)
theorem kxz(a1 a2 a3:Sl)(a4 a5 a6:Int)(h:AH):go (.pt F.kdl Td.kgz [(0,a1.v),(1,a2.v),(5,a3.v),(6,.int .u64 a4),(21,.int .i64 a5),(22,.int .i64 a6)]) h =
 cond (decide (a6<a5)) (
 cond (decide (a6<(a2.len:Int))) (
 (idx a2.ref a2.len a6 1).bind fun r7 =>
 ((h.cell r7).bind (AV.asInt .u64)).bind fun n8 =>
 (idx a1.ref a1.len a6 1).bind fun r9 =>
 ((h.cell r9).bind (AV.asInt .u64)).bind fun n10 =>
 ((prim "math/bits.Add64" [.int .u64 n10,.int .u64 n8,.int .u64 a4]).map fun v=>(v,h)).bind fun q11 =>
 (AV.asTup2 q11.1).bind fun p12 =>
 ((some p12.1).bind (AV.asInt .u64)).bind fun n13 =>
 ((some p12.2).bind (AV.asInt .u64)).bind fun n14 =>
 (idx a3.ref a3.len a6 1).bind fun r15 =>
 (q11.2.puts r15 [.int .u64 n13]).bind fun h16 =>
 go (.pt F.kdl Td.kgz [(0,a1.v),(1,a2.v),(5,a3.v),(6,.int .u64 n14),(21,.int .i64 a5),(22,.int .i64 (IntKind.wrap .i64 (a6+1)))]) h16) (
 (idx a1.ref a1.len a6 1).bind fun r17 =>
 ((h.cell r17).bind (AV.asInt .u64)).bind fun n18 =>
 ((prim "math/bits.Add64" [.int .u64 n18,.int .u64 0,.int .u64 a4]).map fun v=>(v,h)).bind fun q19 =>
 (AV.asTup2 q19.1).bind fun p20 =>
 ((some p20.1).bind (AV.asInt .u64)).bind fun n21 =>
 ((some p20.2).bind (AV.asInt .u64)).bind fun n22 =>
 (idx a3.ref a3.len a6 1).bind fun r23 =>
 (q19.2.puts r23 [.int .u64 n21]).bind fun h24 =>
 go (.pt F.kdl Td.kgz [(0,a1.v),(1,a2.v),(5,a3.v),(6,.int .u64 n22),(21,.int .i64 a5),(22,.int .i64 (IntKind.wrap .i64 (a6+1)))]) h24)) (
 (idx a3.ref a3.len (a1.len:Int) 1).bind fun r25 =>
 (h.puts r25 [.int .u64 a4]).bind fun h26 =>
 some (a3.v,h26)):=(ke _ h).trans (by kernel_rfl)
theorem krb(a1:Sl)(a2:Int)(h:AH):go (.pt F.kbq Td.kmr [(0,a1.v),(3,.int .i64 a2)]) h =
 cond (decide (a2>0)) (
 (idx a1.ref a1.len (IntKind.wrap .i64 (a2-1)) 1).bind fun r3 =>
 ((h.cell r3).bind (AV.asInt .u64)).bind fun n4 =>
 cond (decide (n4=0)) (
 go (.pt F.kbq Td.kmr [(0,a1.v),(3,.int .i64 (IntKind.wrap .i64 (a2-1)))]) h) (
 (cutSl a1 0 a2 1).bind fun l5 =>
 some (l5.v,h))) (
 (cutSl a1 0 a2 1).bind fun l6 =>
 some (l6.v,h)):=(ke _ h).trans (by kernel_rfl)
theorem k0l(a1 a2 a3:Sl)(a4 a5 a6:Int)(h:AH):go (.pt F.kdf Td.kjl [(0,a1.v),(1,a2.v),(5,a3.v),(6,.int .u64 a4),(13,.int .i64 a5),(14,.int .i64 a6)]) h =
 cond (decide (a6<a5)) (
 cond (decide (a6<(a2.len:Int))) (
 (idx a2.ref a2.len a6 1).bind fun r7 =>
 ((h.cell r7).bind (AV.asInt .u64)).bind fun n8 =>
 (idx a1.ref a1.len a6 1).bind fun r9 =>
 ((h.cell r9).bind (AV.asInt .u64)).bind fun n10 =>
 ((prim "math/bits.Sub64" [.int .u64 n10,.int .u64 n8,.int .u64 a4]).map fun v=>(v,h)).bind fun q11 =>
 (AV.asTup2 q11.1).bind fun p12 =>
 ((some p12.1).bind (AV.asInt .u64)).bind fun n13 =>
 ((some p12.2).bind (AV.asInt .u64)).bind fun n14 =>
 (idx a3.ref a3.len a6 1).bind fun r15 =>
 (q11.2.puts r15 [.int .u64 n13]).bind fun h16 =>
 go (.pt F.kdf Td.kjl [(0,a1.v),(1,a2.v),(5,a3.v),(6,.int .u64 n14),(13,.int .i64 a5),(14,.int .i64 (IntKind.wrap .i64 (a6+1)))]) h16) (
 (idx a1.ref a1.len a6 1).bind fun r17 =>
 ((h.cell r17).bind (AV.asInt .u64)).bind fun n18 =>
 ((prim "math/bits.Sub64" [.int .u64 n18,.int .u64 0,.int .u64 a4]).map fun v=>(v,h)).bind fun q19 =>
 (AV.asTup2 q19.1).bind fun p20 =>
 ((some p20.1).bind (AV.asInt .u64)).bind fun n21 =>
 ((some p20.2).bind (AV.asInt .u64)).bind fun n22 =>
 (idx a3.ref a3.len a6 1).bind fun r23 =>
 (q19.2.puts r23 [.int .u64 n21]).bind fun h24 =>
 go (.pt F.kdf Td.kjl [(0,a1.v),(1,a2.v),(5,a3.v),(6,.int .u64 n22),(13,.int .i64 a5),(14,.int .i64 (IntKind.wrap .i64 (a6+1)))]) h24)) (
 some (a3.v,h)):=(ke _ h).trans (by kernel_rfl)
theorem kbka(a1 a2:Sl)(a3 a4 a5:Int)(h:AH):go (.pt F.kd7 Td.kit [(0,a1.v),(1,a2.v),(2,.int .i64 a3),(6,.int .u64 a4),(7,.int .i64 a5)]) h =
 cond (decide (a5<(a1.len:Int))) (
 cond (decide ((IntKind.wrap .i64 (a5-a3))<(a2.len:Int))) (
 cond (decide ((IntKind.wrap .i64 (a5-a3))<(a2.len:Int))) (
 (idx a2.ref a2.len (IntKind.wrap .i64 (a5-a3)) 1).bind fun r6 =>
 ((h.cell r6).bind (AV.asInt .u64)).bind fun n7 =>
 (idx a1.ref a1.len a5 1).bind fun r8 =>
 ((h.cell r8).bind (AV.asInt .u64)).bind fun n9 =>
 ((prim "math/bits.Add64" [.int .u64 n9,.int .u64 n7,.int .u64 a4]).map fun v=>(v,h)).bind fun q10 =>
 (AV.asTup2 q10.1).bind fun p11 =>
 ((some p11.1).bind (AV.asInt .u64)).bind fun n12 =>
 ((some p11.2).bind (AV.asInt .u64)).bind fun n13 =>
 (idx a1.ref a1.len a5 1).bind fun r14 =>
 (q10.2.puts r14 [.int .u64 n12]).bind fun h15 =>
 go (.pt F.kd7 Td.kit [(0,a1.v),(1,a2.v),(2,.int .i64 a3),(6,.int .u64 n13),(7,.int .i64 (IntKind.wrap .i64 (a5+1)))]) h15) (
 (idx a1.ref a1.len a5 1).bind fun r16 =>
 ((h.cell r16).bind (AV.asInt .u64)).bind fun n17 =>
 ((prim "math/bits.Add64" [.int .u64 n17,.int .u64 0,.int .u64 a4]).map fun v=>(v,h)).bind fun q18 =>
 (AV.asTup2 q18.1).bind fun p19 =>
 ((some p19.1).bind (AV.asInt .u64)).bind fun n20 =>
 ((some p19.2).bind (AV.asInt .u64)).bind fun n21 =>
 (idx a1.ref a1.len a5 1).bind fun r22 =>
 (q18.2.puts r22 [.int .u64 n20]).bind fun h23 =>
 go (.pt F.kd7 Td.kit [(0,a1.v),(1,a2.v),(2,.int .i64 a3),(6,.int .u64 n21),(7,.int .i64 (IntKind.wrap .i64 (a5+1)))]) h23)) (
 cond (decide (a4>0)) (
 cond (decide ((IntKind.wrap .i64 (a5-a3))<(a2.len:Int))) (
 (idx a2.ref a2.len (IntKind.wrap .i64 (a5-a3)) 1).bind fun r24 =>
 ((h.cell r24).bind (AV.asInt .u64)).bind fun n25 =>
 (idx a1.ref a1.len a5 1).bind fun r26 =>
 ((h.cell r26).bind (AV.asInt .u64)).bind fun n27 =>
 ((prim "math/bits.Add64" [.int .u64 n27,.int .u64 n25,.int .u64 a4]).map fun v=>(v,h)).bind fun q28 =>
 (AV.asTup2 q28.1).bind fun p29 =>
 ((some p29.1).bind (AV.asInt .u64)).bind fun n30 =>
 ((some p29.2).bind (AV.asInt .u64)).bind fun n31 =>
 (idx a1.ref a1.len a5 1).bind fun r32 =>
 (q28.2.puts r32 [.int .u64 n30]).bind fun h33 =>
 go (.pt F.kd7 Td.kit [(0,a1.v),(1,a2.v),(2,.int .i64 a3),(6,.int .u64 n31),(7,.int .i64 (IntKind.wrap .i64 (a5+1)))]) h33) (
 (idx a1.ref a1.len a5 1).bind fun r34 =>
 ((h.cell r34).bind (AV.asInt .u64)).bind fun n35 =>
 ((prim "math/bits.Add64" [.int .u64 n35,.int .u64 0,.int .u64 a4]).map fun v=>(v,h)).bind fun q36 =>
 (AV.asTup2 q36.1).bind fun p37 =>
 ((some p37.1).bind (AV.asInt .u64)).bind fun n38 =>
 ((some p37.2).bind (AV.asInt .u64)).bind fun n39 =>
 (idx a1.ref a1.len a5 1).bind fun r40 =>
 (q36.2.puts r40 [.int .u64 n38]).bind fun h41 =>
 go (.pt F.kd7 Td.kit [(0,a1.v),(1,a2.v),(2,.int .i64 a3),(6,.int .u64 n39),(7,.int .i64 (IntKind.wrap .i64 (a5+1)))]) h41)) (
 some (.tup [],h)))) (
 some (.tup [],h)):=(ke _ h).trans (by kernel_rfl)
theorem ksu(a1:Nat)(a2:Ref)(a3:Int)(h:AH):go (.pt F.kb1 Td.kme [(0,.func (.yield a1) [] []),(1,.ptr (some a2)),(5,.int .u64 a3)]) h =
 ((h.cell a2).bind (AV.asInt .u64)).bind fun n4 =>
 cond (decide ((IntKind.wrap .u64 (a3*a3))≤n4)) (
 (go (.round a1 [.int .u64 a3]) h).bind fun q5 =>
 ((some q5.1).bind AV.asBool).bind fun b6 =>
 cond (!b6) (
 some (.tup [],q5.2)) (
 ((q5.2.cell a2).bind (AV.asInt .u64)).bind fun n7 =>
 cond (decide ((IntKind.wrap .u64 ((IntKind.wrap .u64 (a3+2))*(IntKind.wrap .u64 (a3+2))))≤n7)) (
 (go (.round a1 [.int .u64 (IntKind.wrap .u64 (a3+2))]) q5.2).bind fun q8 =>
 ((some q8.1).bind AV.asBool).bind fun b9 =>
 cond (!b9) (
 some (.tup [],q8.2)) (
 go (.pt F.kb1 Td.kme [(0,.func (.yield a1) [] []),(1,.ptr (some a2)),(5,.int .u64 (IntKind.wrap .u64 (a3+6)))]) q8.2)) (
 go (.pt F.kb1 Td.kme [(0,.func (.yield a1) [] []),(1,.ptr (some a2)),(5,.int .u64 (IntKind.wrap .u64 (a3+6)))]) q5.2))) (
 some (.tup [],h)):=(ke _ h).trans (by kernel_rfl)
theorem k6f(a1:Sl)(h:AH):go (.fn F.kdu [a1.v,.func (.func F.kdv) [] []]) h =
 (go (.fn F.kbm [a1.v,.func (.func F.kdv) [] []]) h).bind fun q2 =>
 ((some q2.1).bind (AV.asInt .i64)).bind fun n3 =>
 some (.bool (decide (n3≥0)),q2.2):=(ke _ h).trans (by kernel_rfl)
theorem k8i(a1 a2 a3:Sl)(a4:Int)(a5 a6:Sl)(a7 a8 a9:Ref)(a10:Sl)(a11 a12:Int)(a13:Ref)(a14 a15 a16:Sl)(a17:Int)(a18 a19:Sl)(a20 a21 a22:Int)(a23:Bool)(a24:Sl)(a25:Bool)(a26 a27 a28:Sl)(a29:Int)(a30:Sl)(a31:AV)(h:AH):go (.pt F.kcu Tr.kz2 [(0,.agg [a1.v,a2.v,a3.v]),(1,.agg [.int .i64 a4,a5.v]),(2,a6.v),(3,.ptr (some a7)),(4,.ptr (some a8)),(5,.ptr (some a9)),(6,a10.v),(7,.int .i64 a11),(8,.int .i64 a12),(9,.ptr (some a13)),(15,.agg [a14.v,a15.v,a16.v]),(16,.agg [.int .i64 a17,a18.v]),(17,a19.v),(18,.int .i64 a20),(19,.int .i64 a21),(20,.int .i64 a22),(21,.bool a23),(23,a24.v),(24,.bool a25),(25,.agg [a26.v,a27.v,a28.v]),(26,.agg [.int .i64 a29,a30.v]),(27,a31)]) h =
 funcK a31 fun g36 f37 c38 =>
 newM h (kcx Fx.ku7 F.kcu 0 .ready none [(0,.agg [a1.v,a2.v,a3.v]),(1,.agg [.int .i64 a4,a5.v]),(2,a6.v),(3,.ptr (some a7)),(4,.ptr (some a8)),(5,.ptr (some a9)),(6,a10.v),(7,.int .i64 a11),(8,.int .i64 a12),(9,.ptr (some a13)),(15,.agg [a14.v,a15.v,a16.v]),(16,.agg [.int .i64 a17,a18.v]),(17,a19.v),(18,.int .i64 a20),(19,.int .i64 a21),(20,.int .i64 a22),(21,.bool a23),(23,a24.v),(24,.bool a25),(25,.agg [a26.v,a27.v,a28.v]),(26,.agg [.int .i64 a29,a30.v]),(27,a31)]) fun m32 h33 =>
 (callF Pg go g36 (f37++[.func (.yield m32) [] []]++c38) h33).bind fun q34 =>
 (kc2 m32 q34.2).bind fun p35 =>
 go (.pt F.kcu ((p35.1.map Item.code).toList++Ta.kwp) [(0,.agg [a1.v,a2.v,a3.v]),(1,.agg [.int .i64 a4,a5.v]),(2,a6.v),(3,.ptr (some a7)),(4,.ptr (some a8)),(5,.ptr (some a9)),(6,a10.v),(7,.int .i64 a11),(8,.int .i64 a12),(9,.ptr (some a13)),(15,.agg [a14.v,a15.v,a16.v]),(16,.agg [.int .i64 a17,a18.v]),(17,a19.v),(18,.int .i64 a20),(19,.int .i64 a21),(20,.int .i64 a22),(21,.bool a23),(23,a24.v),(24,.bool a25),(25,.agg [a26.v,a27.v,a28.v]),(26,.agg [.int .i64 a29,a30.v]),(27,a31)]) p35.2:=(ke _ h).trans (by kernel_rfl)
theorem kbh7(a1:Int)(a2:Sl)(h:AH):go (.fn F.kcg [.int .i64 a1,a2.v]) h =
 newK h (.cells [.int .i64 0,(⟨none,0,.is 0⟩:Sl).v] T.ko) fun h3r h3 =>
 cond (decide (a1<0)) (
 (h3.puts h3r [.int .i64 0,(⟨none,0,.is 0⟩:Sl).v]).bind fun h4 =>
 ((h4.cell (h3r.add 0)).bind (AV.asInt .i64)).bind fun n5 =>
 ((h4.cell (h3r.add 1)).bind AV.asSl).bind fun l6 =>
 some (.tup [.agg [.int .i64 n5,l6.v],.int .i64 1],h4)) (
 cond (decide (a1>65536)) (
 (h3.puts h3r [.int .i64 0,(⟨none,0,.is 0⟩:Sl).v]).bind fun h7 =>
 ((h7.cell (h3r.add 0)).bind (AV.asInt .i64)).bind fun n8 =>
 ((h7.cell (h3r.add 1)).bind AV.asSl).bind fun l9 =>
 some (.tup [.agg [.int .i64 n8,l9.v],.int .i64 1],h7)) (
 (kbr (IntKind.wrap .i64 (Int.tdiv (IntKind.wrap .i64 (a1+63)) 64)) (IntKind.wrap .i64 (Int.tdiv (IntKind.wrap .i64 (a1+63)) 64)) T.kf (Pg.bytesOf T.kf) [.int .u64 0] h3).bind fun q10 =>
 newK q10.2 (.cells [.int .i64 0,(⟨none,0,.is 0⟩:Sl).v] T.ko) fun h11r h11 =>
 (h11.puts h11r [.int .i64 a1,q10.1.v]).bind fun h12 =>
 go (.pt F.kcg Td.kkg [(0,.int .i64 a1),(1,a2.v),(4,.ptr (some h3r)),(6,.ptr (some h11r)),(7,.int .i64 0)]) h12)):=(ke _ h).trans (by kernel_rfl)
theorem k3l(a1:Int)(h:AH):go (.fn F.kj4 [.int .u64 a1]) h =
 cond (decide (a1<128)) (
 some (.bool true,h)) (
 cond (decide (a1≥1099511627776)) (
 some (.bool true,h)) (
 (go (.fn F.kcm [.int .u64 a1]) h).bind fun q2 =>
 ((some q2.1).bind (AV.asInt .u64)).bind fun n3 =>
 some (.bool (!decide (n3=a1)),q2.2))):=(ke _ h).trans (by kernel_rfl)
theorem k5c(a1:Int)(h:AH):go (.fn F.khf [.int .u64 a1]) h =
 cond (decide (a1≥4294967296)) (
 cond (decide ((ishr .u64 a1 32)≥65536)) (
 cond (decide ((ishr .u64 (ishr .u64 a1 32) 16)≥256)) (
 cond (decide (0≤(IntKind.wrap .u8 (ishr .u64 (ishr .u64 (ishr .u64 a1 32) 16) 8)))) (
 (lit1[Int.toNat (IntKind.wrap .u8 (ishr .u64 (ishr .u64 (ishr .u64 a1 32) 16) 8))]?).bind fun b2 =>
 some (.int .i64 (IntKind.wrap .i64 ((IntKind.wrap .i64 ((IntKind.wrap .i64 (32+16))+8))+(IntKind.wrap .i64 (b2.toNat:Int)))),h)) none) (
 cond (decide (0≤(IntKind.wrap .u8 (ishr .u64 (ishr .u64 a1 32) 16)))) (
 (lit1[Int.toNat (IntKind.wrap .u8 (ishr .u64 (ishr .u64 a1 32) 16))]?).bind fun b3 =>
 some (.int .i64 (IntKind.wrap .i64 ((IntKind.wrap .i64 (32+16))+(IntKind.wrap .i64 (b3.toNat:Int)))),h)) none)) (
 cond (decide ((ishr .u64 a1 32)≥256)) (
 cond (decide (0≤(IntKind.wrap .u8 (ishr .u64 (ishr .u64 a1 32) 8)))) (
 (lit1[Int.toNat (IntKind.wrap .u8 (ishr .u64 (ishr .u64 a1 32) 8))]?).bind fun b4 =>
 some (.int .i64 (IntKind.wrap .i64 ((IntKind.wrap .i64 (32+8))+(IntKind.wrap .i64 (b4.toNat:Int)))),h)) none) (
 cond (decide (0≤(IntKind.wrap .u8 (ishr .u64 a1 32)))) (
 (lit1[Int.toNat (IntKind.wrap .u8 (ishr .u64 a1 32))]?).bind fun b5 =>
 some (.int .i64 (IntKind.wrap .i64 (32+(IntKind.wrap .i64 (b5.toNat:Int)))),h)) none))) (
 cond (decide (a1≥65536)) (
 cond (decide ((ishr .u64 a1 16)≥256)) (
 cond (decide (0≤(IntKind.wrap .u8 (ishr .u64 (ishr .u64 a1 16) 8)))) (
 (lit1[Int.toNat (IntKind.wrap .u8 (ishr .u64 (ishr .u64 a1 16) 8))]?).bind fun b6 =>
 some (.int .i64 (IntKind.wrap .i64 ((IntKind.wrap .i64 ((IntKind.wrap .i64 (0+16))+8))+(IntKind.wrap .i64 (b6.toNat:Int)))),h)) none) (
 cond (decide (0≤(IntKind.wrap .u8 (ishr .u64 a1 16)))) (
 (lit1[Int.toNat (IntKind.wrap .u8 (ishr .u64 a1 16))]?).bind fun b7 =>
 some (.int .i64 (IntKind.wrap .i64 ((IntKind.wrap .i64 (0+16))+(IntKind.wrap .i64 (b7.toNat:Int)))),h)) none)) (
 cond (decide (a1≥256)) (
 cond (decide (0≤(IntKind.wrap .u8 (ishr .u64 a1 8)))) (
 (lit1[Int.toNat (IntKind.wrap .u8 (ishr .u64 a1 8))]?).bind fun b8 =>
 some (.int .i64 (IntKind.wrap .i64 ((IntKind.wrap .i64 (0+8))+(IntKind.wrap .i64 (b8.toNat:Int)))),h)) none) (
 cond (decide (0≤(IntKind.wrap .u8 a1))) (
 (lit1[Int.toNat (IntKind.wrap .u8 a1)]?).bind fun b9 =>
 some (.int .i64 (IntKind.wrap .i64 (0+(IntKind.wrap .i64 (b9.toNat:Int)))),h)) none))):=(ke _ h).trans (by kernel_rfl)
theorem kbcd(a1 a2:Sl)(h:AH):go (.fn F.kfk [a1.v,a2.v]) h =
 (go (.fn F.kcf [a1.v]) h).bind fun q3 =>
 ((some q3.1).bind AV.asBool).bind fun b4 =>
 cond (!b4) (
 some (.tup [(⟨none,0,.is 0⟩:Sl).v,.int .i64 1],q3.2)) (
 (go (.fn F.kcf [a2.v]) q3.2).bind fun q5 =>
 ((some q5.1).bind AV.asBool).bind fun b6 =>
 cond (!b6) (
 some (.tup [(⟨none,0,.is 0⟩:Sl).v,.int .i64 1],q5.2)) (
 (go (.fn F.kge [a1.v]) q5.2).bind fun q7 =>
 ((some q7.1).bind AV.asSl).bind fun l8 =>
 (go (.fn F.kge [a2.v]) q7.2).bind fun q9 =>
 ((some q9.1).bind AV.asSl).bind fun l10 =>
 go (.pt F.kfk Td.kqy [(0,l8.v),(1,l10.v)]) q9.2)):=(ke _ h).trans (by kernel_rfl)
theorem kbhw(a1 a2:Sl)(h:AH):go (.fn F.kda [a1.v,a2.v]) h =
 newK h (.cells [a1.v,a2.v] T.kr) fun h3r h3 =>
 (go (.fn F.kgn [(⟨some h3r,2,.is 2⟩:Sl).v]) h3).bind fun q4 =>
 ((some q4.1).bind AV.asBool).bind fun b5 =>
 cond (!b5) (
 some (.int .i64 0,q4.2)) (
 (go (.fn F.ke3 [a1.v,a2.v]) q4.2).bind fun q6 =>
 ((some q6.1).bind (AV.asInt .i64)).bind fun n7 =>
 some (.int .i64 n7,q6.2)):=(ke _ h).trans (by kernel_rfl)
theorem kbbp(a1:Sl)(h:AH):go (.fn F.kjy [a1.v]) h =
 (go (.fn F.kcf [a1.v]) h).bind fun q2 =>
 ((some q2.1).bind AV.asBool).bind fun b3 =>
 cond (!b3) (
 some (.int .i64 0,q2.2)) (
 cond (decide ((a1.len:Int)=0)) (
 some (.int .i64 0,q2.2)) (
 (idx a1.ref a1.len (IntKind.wrap .i64 ((a1.len:Int)-1)) 1).bind fun r4 =>
 ((q2.2.cell r4).bind (AV.asInt .u64)).bind fun n5 =>
 (go (.fn F.khf [.int .u64 n5]) q2.2).bind fun q6 =>
 ((some q6.1).bind (AV.asInt .i64)).bind fun n7 =>
 some (.int .i64 (IntKind.wrap .i64 ((IntKind.wrap .i64 (64*(IntKind.wrap .i64 ((a1.len:Int)-1))))+n7)),q6.2))):=(ke _ h).trans (by kernel_rfl)
theorem kba2(a1:Sl)(h:AH):go (.fn F.kcf [a1.v]) h =
 cond (decide ((a1.len:Int)≤64)) (
 cond (decide ((a1.len:Int)=0)) (
 some (.bool true,h)) (
 (idx a1.ref a1.len (IntKind.wrap .i64 ((a1.len:Int)-1)) 1).bind fun r2 =>
 ((h.cell r2).bind (AV.asInt .u64)).bind fun n3 =>
 some (.bool (!decide (n3=0)),h))) (
 some (.bool false,h)):=(ke _ h).trans (by kernel_rfl)
theorem k92(a1:Sl)(a2:Int)(h:AH):go (.fn F.kj8 [a1.v,.int .i64 a2]) h =
 (go (.fn F.kcf [a1.v]) h).bind fun q3 =>
 ((some q3.1).bind AV.asBool).bind fun b4 =>
 cond b4 (
 cond (decide (a2≥0)) (
 cond (decide ((IntKind.wrap .i64 (Int.tdiv a2 64))<(a1.len:Int))) (
 (idx a1.ref a1.len (IntKind.wrap .i64 (Int.tdiv a2 64)) 1).bind fun r5 =>
 ((q3.2.cell r5).bind (AV.asInt .u64)).bind fun n6 =>
 cond (decide ((Int.tmod a2 64)<0)) none (
 some (.bool (decide ((iand .u64 (ishr .u64 n6 (Int.tmod a2 64)) 1)=1)),q3.2))) (
 some (.bool false,q3.2))) (
 some (.bool false,q3.2))) (
 some (.bool false,q3.2)):=(ke _ h).trans (by kernel_rfl)
theorem k7z(a1 a2 a3:Sl)(h:AH):go (.fn F.kgd [.agg [a1.v,a2.v,a3.v]]) h =
 newK h (.cells [a1.v,a2.v,a3.v] T.kbt) fun h4r h4 =>
 ((h4.cell (h4r.add 0)).bind AV.asSl).bind fun l5 =>
 (go (.fn F.ksg [l5.v]) h4).bind fun q6 =>
 ((some q6.1).bind AV.asBool).bind fun b7 =>
 cond (!b7) (
 some (.bool false,q6.2)) (
 ((q6.2.cell (h4r.add 2)).bind AV.asSl).bind fun l8 =>
 cond (decide ((l8.len:Int)>16)) (
 some (.bool false,q6.2)) (
 ((q6.2.cell (h4r.add 1)).bind AV.asSl).bind fun l9 =>
 ((q6.2.cell (h4r.add 2)).bind AV.asSl).bind fun l10 =>
 cond (!decide ((l9.len:Int)=(l10.len:Int))) (
 some (.bool false,q6.2)) (
 ((q6.2.cell (h4r.add 2)).bind AV.asSl).bind fun l11 =>
 go (.pt F.kgd Td.kpc [(1,.ptr (some h4r)),(27,l11.v),(28,.int .i64 (l11.len:Int)),(29,.int .i64 0)]) q6.2))):=(ke _ h).trans (by kernel_rfl)
theorem kbc6(a1:Int)(a2:Sl)(h:AH):go (.fn F.ki9 [.agg [.int .i64 a1,a2.v]]) h =
 newK h (.cells [.int .i64 a1,a2.v] T.ko) fun h3r h3 =>
 ((h3.cell (h3r.add 0)).bind (AV.asInt .i64)).bind fun n4 =>
 cond (decide (n4<0)) (
 some (.bool false,h3)) (
 ((h3.cell (h3r.add 0)).bind (AV.asInt .i64)).bind fun n5 =>
 cond (decide (n5>65536)) (
 some (.bool false,h3)) (
 ((h3.cell (h3r.add 1)).bind AV.asSl).bind fun l6 =>
 ((h3.cell (h3r.add 0)).bind (AV.asInt .i64)).bind fun n7 =>
 cond (!decide ((l6.len:Int)=(IntKind.wrap .i64 (Int.tdiv (IntKind.wrap .i64 ((IntKind.wrap .i64 (n7+64))-1)) 64)))) (
 some (.bool false,h3)) (
 ((h3.cell (h3r.add 0)).bind (AV.asInt .i64)).bind fun n8 =>
 cond (decide ((Int.tmod n8 64)=0)) (
 some (.bool true,h3)) (
 ((h3.cell (h3r.add 1)).bind AV.asSl).bind fun l9 =>
 ((h3.cell (h3r.add 1)).bind AV.asSl).bind fun l10 =>
 (idx l9.ref l9.len (IntKind.wrap .i64 ((l10.len:Int)-1)) 1).bind fun r11 =>
 ((h3.cell r11).bind (AV.asInt .u64)).bind fun n12 =>
 ((h3.cell (h3r.add 0)).bind (AV.asInt .i64)).bind fun n13 =>
 cond (decide ((Int.tmod n13 64)<0)) none (
 some (.bool (decide ((ishr .u64 n12 (Int.tmod n13 64))=0)),h3)))))):=(ke _ h).trans (by kernel_rfl)
theorem kbdx(a1:Sl)(a2:Option Ref)(h:AH):go (.fn F.kb6 [a1.v,.func (.func F.kb2) [] [.ptr a2]]) h =
 go (.pt F.kb6 Td.keb [(0,a1.v),(1,.func (.func F.kb2) [] [.ptr a2]),(7,.int .i64 (a1.len:Int)),(8,.int .i64 0)]) h:=(ke _ h).trans (by kernel_rfl)
theorem kbe0(l:Nat)(pe:Option Code)(a1 a2 a3 a4:Sl)(a5:Int)(a6 a7:Sl)(a8 a9 a10 a11:Ref)(a12:Sl)(a13 a14:Int)(a15 a16:Ref)(a17:Sl)(a18 a19:Bool)(a20 a21 a22:Sl)(a23:Int)(a24 a25:Sl)(a26 a27 a28:Int)(a29:Bool)(a30:Sl)(a31:Ref)(a32:Bool)(a33:Sl)(a34:AV)(a35 a36 a37:Sl)(a38:Int)(a39:Sl)(a40 a41:AV)(a42:Sl)(h:AH)(hb:h.blks[l]?=some (kcx Fx.kvf F.kch 0 .ready pe [(0,a1.v),(1,.agg [a2.v,a3.v,a4.v]),(2,.agg [.int .i64 a5,a6.v]),(3,a7.v),(4,.ptr (some a8)),(5,.ptr (some a9)),(6,.ptr (some a10)),(7,.ptr (some a11)),(8,a12.v),(9,.int .i64 a13),(10,.int .i64 a14),(11,.ptr (some a15)),(12,.ptr (some a16)),(18,a17.v),(19,.bool a18),(20,.bool a19),(21,.agg [a20.v,a21.v,a22.v]),(22,.agg [.int .i64 a23,a24.v]),(23,a25.v),(24,.int .i64 a26),(25,.int .i64 a27),(26,.int .i64 a28),(27,.bool a29),(29,a30.v),(30,.func (.func F.kb2) [] [.ptr (some a31)]),(31,.bool a32),(32,a33.v),(33,a34),(34,.agg [a35.v,a36.v,a37.v]),(35,.agg [.int .i64 a38,a39.v]),(36,a40)])):go (.round l [a41,a42.v]) h =
 (beginA l h).bind fun h43 =>
 newK h43 (.cells [.int .u64 1] T.kf) fun h44r h44 =>
 go (.rpt l F.kch Td.kra [(7,.ptr (some a11)),(8,a12.v),(9,.int .i64 a13),(11,.ptr (some a15)),(12,.ptr (some a16)),(15,(⟨some h44r,1,.is 1⟩:Sl).v),(40,a42.v),(41,.int .i64 (a42.len:Int)),(42,.int .i64 0)]) h44:=(ke _ h).trans ((kon hb).trans (by kernel_rfl))
theorem k48(a1 a2 a3 a4:Sl)(a5:Int)(a6 a7:Sl)(a8 a9 a10 a11:Ref)(a12:Sl)(a13 a14:Int)(a15 a16:Ref)(a17:Sl)(a18 a19:Bool)(a20 a21 a22:Sl)(a23:Int)(a24 a25:Sl)(a26 a27 a28:Int)(a29:Bool)(a30:Sl)(a31:Ref)(a32:Bool)(a33:Sl)(a34:AV)(a35 a36 a37:Sl)(a38:Int)(a39:Sl)(a40:AV)(h:AH):go (.pt F.kch ((Option.map Item.code none).toList++Ta.kx5) [(0,a1.v),(1,.agg [a2.v,a3.v,a4.v]),(2,.agg [.int .i64 a5,a6.v]),(3,a7.v),(4,.ptr (some a8)),(5,.ptr (some a9)),(6,.ptr (some a10)),(7,.ptr (some a11)),(8,a12.v),(9,.int .i64 a13),(10,.int .i64 a14),(11,.ptr (some a15)),(12,.ptr (some a16)),(18,a17.v),(19,.bool a18),(20,.bool a19),(21,.agg [a20.v,a21.v,a22.v]),(22,.agg [.int .i64 a23,a24.v]),(23,a25.v),(24,.int .i64 a26),(25,.int .i64 a27),(26,.int .i64 a28),(27,.bool a29),(29,a30.v),(30,.func (.func F.kb2) [] [.ptr (some a31)]),(31,.bool a32),(32,a33.v),(33,a34),(34,.agg [a35.v,a36.v,a37.v]),(35,.agg [.int .i64 a38,a39.v]),(36,a40)]) h =
 ((h.cell a16).bind AV.asSl).bind fun l41 =>
 some (.tup [l41.v,.int .i64 0],h):=(ke _ h).trans (by kernel_rfl)
theorem kbjn(a1 a2:Sl)(h:AH):go (.fn F.kkc [a1.v,a2.v]) h =
 (go (.fn F.kl8 [a1.v]) h).bind fun q3 =>
 ((some q3.1).bind AV.asBool).bind fun b4 =>
 cond b4 (
 (go (.fn F.kl3 [a1.v]) q3.2).bind fun q5 =>
 ((some q5.1).bind AV.asSl).bind fun l6 =>
 (go (.fn F.ku1 [a2.v,a1.v,l6.v]) q5.2).bind fun q7 =>
 ((some q7.1).bind AV.asBool).bind fun b8 =>
 some (.bool b8,q7.2)) (
 some (.bool false,q3.2)):=(ke _ h).trans (by kernel_rfl)
theorem kbcg(a1 a2:Sl)(a3:Int)(h:AH):go (.fn F.kpl [a1.v,a2.v,.int .u64 a3]) h =
 newK h (.cells [.int .u64 a3] T.kf) fun h4r h4 =>
 ((h4.cell h4r).bind (AV.asInt .u64)).bind fun n5 =>
 newK h4 (.cells [.int .u64 n5] T.kf) fun h6r h6 =>
 newK h6 (.cells [(⟨none,0,.is 0⟩:Sl).v] T.kr) fun h7r h7 =>
 (h7.puts h7r [(⟨some h6r,1,.is 1⟩:Sl).v]).bind fun h8 =>
 ((h8.cell h7r).bind AV.asSl).bind fun l9 =>
 (go (.fn F.kl3 [l9.v]) h8).bind fun q10 =>
 ((some q10.1).bind AV.asSl).bind fun l11 =>
 (go (.fn F.kew [l11.v]) q10.2).bind fun q12 =>
 (AV.asTup2 q12.1).bind fun p13 =>
 ((some p13.1).bind AV.asPtr).bind fun p14 =>
 ((some p13.2).bind (AV.asInt .i64)).bind fun n15 =>
 newK q12.2 (.cells [.ptr none] T.kq7) fun h16r h16 =>
 (h16.puts h16r [.ptr p14]).bind fun h17 =>
 ((h17.cell h7r).bind AV.asSl).bind fun l18 =>
 newK h17 (.cells [.int .u64 1] T.kf) fun h19r h19 =>
 whenK (SameAt h17 h19 h7r 1) (
 (go (.fn F.kto [a2.v,(⟨some h19r,1,.is 1⟩:Sl).v]) h19).bind fun q20 =>
 ((some q20.1).bind AV.asSl).bind fun l21 =>
 whenK (SameAt h19 q20.2 h7r 1) (
 (go (.fn F.knw [l21.v,.ptr (some h7r),.ptr (some h16r),.ptr (some h4r)]) q20.2).bind fun q22 =>
 ((some q22.1).bind AV.asSl).bind fun l23 =>
 whenK (SameAt q20.2 q22.2 h7r 1) (
 (go (.fn F.kev [l23.v,l18.v]) q22.2).bind fun q24 =>
 (AV.asTup2 q24.1).bind fun p25 =>
 ((some p25.1).bind AV.asSl).bind fun l26 =>
 ((some p25.2).bind (AV.asInt .i64)).bind fun n27 =>
 (go (.fn F.knw [a1.v,.ptr (some h7r),.ptr (some h16r),.ptr (some h4r)]) q24.2).bind fun q28 =>
 ((some q28.1).bind AV.asSl).bind fun l29 =>
 (go (.fn F.kdm [l29.v,l26.v]) q28.2).bind fun q30 =>
 (AV.asTup2 q30.1).bind fun p31 =>
 ((some p31.1).bind AV.asSl).bind fun l32 =>
 ((some p31.2).bind (AV.asInt .i64)).bind fun n33 =>
 ((q30.2.cell h7r).bind AV.asSl).bind fun l34 =>
 (go (.fn F.kdq [l32.v,l34.v]) q30.2).bind fun q35 =>
 (AV.asTup3 q35.1).bind fun p36 =>
 ((some p36.1).bind AV.asSl).bind fun l37 =>
 ((some p36.2.1).bind AV.asSl).bind fun l38 =>
 ((some p36.2.2).bind (AV.asInt .i64)).bind fun n39 =>
 some (l38.v,q35.2)))):=(ke _ h).trans (by kernel_rfl)
theorem kbd3(a1 a2 a3 a4:Sl)(h:AH):go (.fn F.kn4 [a1.v,a2.v,a3.v,a4.v]) h =
 (go (.fn F.kko [a1.v]) h).bind fun q5 =>
 ((some q5.1).bind AV.asBool).bind fun b6 =>
 cond b6 (
 some (.tup [(⟨none,0,.is 0⟩:Sl).v,.int .i64 1],q5.2)) (
 (go (.fn F.kko [a3.v]) q5.2).bind fun q7 =>
 ((some q7.1).bind AV.asBool).bind fun b8 =>
 cond b8 (
 some (.tup [(⟨none,0,.is 0⟩:Sl).v,.int .i64 1],q7.2)) (
 (go (.fn F.kko [a2.v]) q7.2).bind fun q9 =>
 ((some q9.1).bind AV.asBool).bind fun b10 =>
 cond b10 (
 some (.tup [(⟨none,0,.is 0⟩:Sl).v,.int .i64 1],q9.2)) (
 (go (.fn F.kko [a4.v]) q9.2).bind fun q11 =>
 ((some q11.1).bind AV.asBool).bind fun b12 =>
 cond b12 (
 some (.tup [(⟨none,0,.is 0⟩:Sl).v,.int .i64 1],q11.2)) (
 (go (.fn F.krn [a2.v]) q11.2).bind fun q13 =>
 ((some q13.1).bind AV.asBool).bind fun b14 =>
 cond b14 (
 some (.tup [(⟨none,0,.is 0⟩:Sl).v,.int .i64 1],q13.2)) (
 (go (.fn F.krn [a4.v]) q13.2).bind fun q15 =>
 ((some q15.1).bind AV.asBool).bind fun b16 =>
 cond b16 (
 some (.tup [(⟨none,0,.is 0⟩:Sl).v,.int .i64 1],q15.2)) (
 (go (.fn F.kda [a1.v,a2.v]) q15.2).bind fun q17 =>
 ((some q17.1).bind (AV.asInt .i64)).bind fun n18 =>
 cond (decide (n18≥0)) (
 some (.tup [(⟨none,0,.is 0⟩:Sl).v,.int .i64 1],q17.2)) (
 (go (.fn F.kda [a3.v,a4.v]) q17.2).bind fun q19 =>
 ((some q19.1).bind (AV.asInt .i64)).bind fun n20 =>
 cond (decide (n20≥0)) (
 some (.tup [(⟨none,0,.is 0⟩:Sl).v,.int .i64 1],q19.2)) (
 (go (.fn F.kev [a2.v,a4.v]) q19.2).bind fun q21 =>
 (AV.asTup2 q21.1).bind fun p22 =>
 ((some p22.1).bind AV.asSl).bind fun l23 =>
 ((some p22.2).bind (AV.asInt .i64)).bind fun n24 =>
 cond (!decide (n24=0)) (
 some (.tup [(⟨none,0,.is 0⟩:Sl).v,.int .i64 n24],q21.2)) (
 (go (.fn F.kbs [.bool false,a3.v]) q21.2).bind fun q25 =>
 (AV.asAgg q25.1).bind fun cs26 =>
 cond (Nat.beq cs26.length 2) (
 ((cs26[0]?).bind AV.asBool).bind fun b27 =>
 ((cs26[1]?).bind AV.asSl).bind fun l28 =>
 (go (.fn F.kbs [.bool false,a1.v]) q25.2).bind fun q29 =>
 (AV.asAgg q29.1).bind fun cs30 =>
 cond (Nat.beq cs30.length 2) (
 ((cs30[0]?).bind AV.asBool).bind fun b31 =>
 ((cs30[1]?).bind AV.asSl).bind fun l32 =>
 (go (.fn F.kri [.agg [.bool b27,l28.v],.agg [.bool b31,l32.v]]) q29.2).bind fun q33 =>
 (AV.asTup2 q33.1).bind fun p34 =>
 (AV.asAgg p34.1).bind fun cs35 =>
 cond (Nat.beq cs35.length 2) (
 ((cs35[0]?).bind AV.asBool).bind fun b36 =>
 ((cs35[1]?).bind AV.asSl).bind fun l37 =>
 ((some p34.2).bind (AV.asInt .i64)).bind fun n38 =>
 newK q33.2 (.cells [.bool false,(⟨none,0,.is 0⟩:Sl).v] T.kn) fun h39r h39 =>
 (h39.puts h39r [.bool b36,l37.v]).bind fun h40 =>
 newK h40 (.cells [.bool false,(⟨none,0,.is 0⟩:Sl).v] T.kn) fun h41r h41 =>
 ((h41.cell (h39r.add 0)).bind AV.asBool).bind fun b42 =>
 ((h41.cell (h39r.add 1)).bind AV.asSl).bind fun l43 =>
 (go (.fn F.kbs [.bool false,l23.v]) h41).bind fun q44 =>
 (AV.asAgg q44.1).bind fun cs45 =>
 cond (Nat.beq cs45.length 2) (
 ((cs45[0]?).bind AV.asBool).bind fun b46 =>
 ((cs45[1]?).bind AV.asSl).bind fun l47 =>
 whenK (SameAt h41 q44.2 h39r 2) (
 whenK (SameAt h41 q44.2 h41r 0) (
 (go (.fn F.knj [.agg [.bool b42,l43.v],.agg [.bool b46,l47.v]]) q44.2).bind fun q48 =>
 (AV.asTup2 q48.1).bind fun p49 =>
 (AV.asAgg p49.1).bind fun cs50 =>
 cond (Nat.beq cs50.length 2) (
 ((cs50[0]?).bind AV.asBool).bind fun b51 =>
 ((cs50[1]?).bind AV.asSl).bind fun l52 =>
 ((some p49.2).bind (AV.asInt .i64)).bind fun n53 =>
 whenK (SameAt q44.2 q48.2 h41r 0) (
 (q48.2.puts h41r [.bool b51,l52.v]).bind fun h54 =>
 newK h54 (.cells [.bool false,(⟨none,0,.is 0⟩:Sl).v] T.kn) fun h55r h55 =>
 newK h55 (.cells [.bool false,(⟨none,0,.is 0⟩:Sl).v] T.kn) fun h56r h56 =>
 ((h56.cell (h41r.add 0)).bind AV.asBool).bind fun b57 =>
 ((h56.cell (h41r.add 1)).bind AV.asSl).bind fun l58 =>
 (go (.fn F.kbs [.bool false,a4.v]) h56).bind fun q59 =>
 (AV.asAgg q59.1).bind fun cs60 =>
 cond (Nat.beq cs60.length 2) (
 ((cs60[0]?).bind AV.asBool).bind fun b61 =>
 ((cs60[1]?).bind AV.asSl).bind fun l62 =>
 whenK (SameAt h56 q59.2 h41r 2) (
 whenK (SameAt h56 q59.2 h56r 0) (
 whenK (SameAt h56 q59.2 h55r 0) (
 (go (.fn F.kmf [.agg [.bool b57,l58.v],.agg [.bool b61,l62.v]]) q59.2).bind fun q63 =>
 (AV.asTup3 q63.1).bind fun p64 =>
 (AV.asAgg p64.1).bind fun cs65 =>
 cond (Nat.beq cs65.length 2) (
 ((cs65[0]?).bind AV.asBool).bind fun b66 =>
 ((cs65[1]?).bind AV.asSl).bind fun l67 =>
 (AV.asAgg p64.2.1).bind fun cs68 =>
 cond (Nat.beq cs68.length 2) (
 ((cs68[0]?).bind AV.asBool).bind fun b69 =>
 ((cs68[1]?).bind AV.asSl).bind fun l70 =>
 ((some p64.2.2).bind (AV.asInt .i64)).bind fun n71 =>
 whenK (SameAt q59.2 q63.2 h56r 0) (
 whenK (SameAt q59.2 q63.2 h55r 0) (
 (q63.2.puts h55r [.bool b66,l67.v]).bind fun h72 =>
 (h72.puts h56r [.bool b69,l70.v]).bind fun h73 =>
 ((h73.cell (h56r.add 1)).bind AV.asSl).bind fun l74 =>
 (go (.fn F.kdm [a2.v,l74.v]) h73).bind fun q75 =>
 (AV.asTup2 q75.1).bind fun p76 =>
 ((some p76.1).bind AV.asSl).bind fun l77 =>
 ((some p76.2).bind (AV.asInt .i64)).bind fun n78 =>
 (go (.fn F.kkh [l77.v,a1.v]) q75.2).bind fun q79 =>
 (AV.asTup2 q79.1).bind fun p80 =>
 ((some p80.1).bind AV.asSl).bind fun l81 =>
 ((some p80.2).bind (AV.asInt .i64)).bind fun n82 =>
 some (.tup [l81.v,.int .i64 n82],q79.2)))) none) none)))) none)) none))) none) none) none) none))))))))):=(ke _ h).trans (by kernel_rfl)
theorem k1t(a1:Sl)(a2:Int)(h:AH):go (.pt F.kia Td.knn [(0,a1.v),(3,.int .i64 a2)]) h =
 cond (decide (a2<(a1.len:Int))) (
 (idx a1.ref a1.len a2 1).bind fun r3 =>
 ((h.cell r3).bind (AV.asInt .i64)).bind fun n4 =>
 cond (decide (n4<0)) (
 some (.bool false,h)) (
 (idx a1.ref a1.len a2 1).bind fun r5 =>
 ((h.cell r5).bind (AV.asInt .i64)).bind fun n6 =>
 cond (decide (n6>1073741824)) (
 some (.bool false,h)) (
 (idx a1.ref a1.len a2 1).bind fun r7 =>
 ((h.cell r7).bind (AV.asInt .i64)).bind fun n8 =>
 (go (.fn F.khl [a1.v,.int .i64 n8]) h).bind fun q9 =>
 ((some q9.1).bind (AV.asInt .i64)).bind fun n10 =>
 cond (!decide (n10=a2)) (
 some (.bool false,q9.2)) (
 go (.pt F.kia Td.knn [(0,a1.v),(3,.int .i64 (IntKind.wrap .i64 (a2+1)))]) q9.2)))) (
 some (.bool true,h)):=(ke _ h).trans (by kernel_rfl)
theorem kyb(a1:Ref)(a2 a3:Int)(h:AH):go (.pt F.kdd Td.kqr [(1,.ptr (some a1)),(4,.int .i64 a2),(5,.int .i64 a3)]) h =
 ((h.cell (a1.add 0)).bind AV.asSl).bind fun l4 =>
 cond (decide (a3<(l4.len:Int))) (
 ((h.cell (a1.add 2)).bind AV.asSl).bind fun l5 =>
 (idx l5.ref l5.len a2 1).bind fun r6 =>
 ((h.cell r6).bind AV.asSl).bind fun l7 =>
 (idx l7.ref l7.len a3 1).bind fun r8 =>
 ((h.cell r8).bind (AV.asInt .i64)).bind fun n9 =>
 cond (decide (n9<0)) (
 some (.bool false,h)) (
 ((h.cell (a1.add 2)).bind AV.asSl).bind fun l10 =>
 (idx l10.ref l10.len a2 1).bind fun r11 =>
 ((h.cell r11).bind AV.asSl).bind fun l12 =>
 (idx l12.ref l12.len a3 1).bind fun r13 =>
 ((h.cell r13).bind (AV.asInt .i64)).bind fun n14 =>
 ((h.cell (a1.add 1)).bind AV.asSl).bind fun l15 =>
 (idx l15.ref l15.len a2 1).bind fun r16 =>
 ((h.cell r16).bind (AV.asInt .i64)).bind fun n17 =>
 cond (decide (n14≥n17)) (
 some (.bool false,h)) (
 go (.pt F.kdd Td.kqr [(1,.ptr (some a1)),(4,.int .i64 a2),(5,.int .i64 (IntKind.wrap .i64 (a3+1)))]) h))) (
 go (.pt F.kdd Td.kmw [(1,.ptr (some a1)),(4,.int .i64 (IntKind.wrap .i64 (a2+1)))]) h):=(ke _ h).trans (by kernel_rfl)
theorem kbhz(a1:Sl)(h:AH):go (.fn F.kln [a1.v]) h =
 (go (.fn F.kde [a1.v]) h).bind fun q2 =>
 ((some q2.1).bind AV.asBool).bind fun b3 =>
 (go (.fn F.kfz [a1.v]) q2.2).bind fun q4 =>
 ((some q4.1).bind (AV.asInt .i64)).bind fun n5 =>
 cond b3 (
 cond (decide ((a1.len:Int)>0)) (
 (idx a1.ref a1.len 0 1).bind fun r6 =>
 ((q4.2.cell r6).bind (AV.asInt .u64)).bind fun n7 =>
 cond (decide ((Int.tmod n7 2)=1)) (
 cond (decide (n5≥15)) (
 some (.bool (decide (n5≤80)),q4.2)) (
 some (.bool false,q4.2))) (
 some (.bool false,q4.2))) (
 some (.bool false,q4.2))) (
 some (.bool false,q4.2)):=(ke _ h).trans (by kernel_rfl)
theorem kbbn(a1:Sl)(h:AH):go (.fn F.kn0 [a1.v]) h =
 (go (.fn F.kta [a1.v,a1.v]) h).bind fun q2 =>
 (AV.asTup2 q2.1).bind fun p3 =>
 ((some p3.1).bind AV.asSl).bind fun l4 =>
 ((some p3.2).bind (AV.asInt .i64)).bind fun n5 =>
 some (l4.v,q2.2):=(ke _ h).trans (by kernel_rfl)
theorem k5z(a1 a2 a3:Sl)(h:AH):go (.fn F.kqd [a1.v,a2.v,a3.v]) h =
 (go (.fn F.kde [a1.v]) h).bind fun q4 =>
 ((some q4.1).bind AV.asBool).bind fun b5 =>
 cond (!b5) (
 some (.bool false,q4.2)) (
 cond (decide ((a1.len:Int)=0)) (
 some (.bool false,q4.2)) (
 (go (.fn F.kqf [a1.v,a3.v]) q4.2).bind fun q6 =>
 ((some q6.1).bind (AV.asInt .i64)).bind fun n7 =>
 cond (decide (n7≥0)) (
 some (.bool false,q6.2)) (
 (go (.fn F.khd [a1.v,a2.v]) q6.2).bind fun q8 =>
 (AV.asTup2 q8.1).bind fun p9 =>
 ((some p9.1).bind AV.asSl).bind fun l10 =>
 ((some p9.2).bind (AV.asInt .i64)).bind fun n11 =>
 (go (.fn F.krh [.int .u64 1]) q8.2).bind fun q12 =>
 ((some q12.1).bind AV.asSl).bind fun l13 =>
 (go (.fn F.kqf [l10.v,l13.v]) q12.2).bind fun q14 =>
 ((some q14.1).bind (AV.asInt .i64)).bind fun n15 =>
 some (.bool (decide (n15=0)),q14.2)))):=(ke _ h).trans (by kernel_rfl)
theorem kxj(a1 a2:Int)(a3 a4:Ref)(a5:Sl)(a6:Int)(h:AH):go (.pt F.kgl Td.klv [(1,.int .i64 a1),(2,.int .i64 a2),(3,.ptr (some a3)),(6,.ptr (some a4)),(9,a5.v),(10,.int .i64 a6)]) h =
 ((h.cell (a3.add 0)).bind AV.asSl).bind fun l7 =>
 cond (decide (a6<(l7.len:Int))) (
 ((h.cell (a3.add 2)).bind AV.asSl).bind fun l8 =>
 (idx l8.ref l8.len a1 1).bind fun r9 =>
 ((h.cell r9).bind AV.asSl).bind fun l10 =>
 (idx l10.ref l10.len a6 1).bind fun r11 =>
 ((h.cell r11).bind (AV.asInt .i64)).bind fun n12 =>
 cond (decide (n12≤a2)) (
 newK h (.cells [.int .i64 a6] T.int) fun h13r h13 =>
 (ky Pg T.int ((⟨some h13r,1,.is 1⟩:Sl).v) h13).bind fun p15 =>
 (ku Pg a5 p15.1 p15.2 T.int 1 h13).bind fun q14 =>
 (AV.asSl q14.1).bind fun l16 =>
 go (.pt F.kgl Td.klv [(1,.int .i64 a1),(2,.int .i64 a2),(3,.ptr (some a3)),(6,.ptr (some a4)),(9,l16.v),(10,.int .i64 (IntKind.wrap .i64 (a6+1)))]) q14.2) (
 go (.pt F.kgl Td.klv [(1,.int .i64 a1),(2,.int .i64 a2),(3,.ptr (some a3)),(6,.ptr (some a4)),(9,a5.v),(10,.int .i64 (IntKind.wrap .i64 (a6+1)))]) h)) (
 ((h.cell (a3.add 0)).bind AV.asSl).bind fun l17 =>
 (go (.fn F.kcg [.int .i64 (l17.len:Int),a5.v]) h).bind fun q18 =>
 (AV.asTup2 q18.1).bind fun p19 =>
 (AV.asAgg p19.1).bind fun cs20 =>
 cond (Nat.beq cs20.length 2) (
 ((cs20[0]?).bind (AV.asInt .i64)).bind fun n21 =>
 ((cs20[1]?).bind AV.asSl).bind fun l22 =>
 ((some p19.2).bind (AV.asInt .i64)).bind fun n23 =>
 (q18.2.puts a4 [.int .i64 n21,l22.v]).bind fun h24 =>
 ((h24.cell (a4.add 0)).bind (AV.asInt .i64)).bind fun n25 =>
 ((h24.cell (a4.add 1)).bind AV.asSl).bind fun l26 =>
 some (.tup [.agg [.int .i64 n25,l26.v],.int .i64 n23],h24)) none):=(ke _ h).trans (by kernel_rfl)
theorem kbat(a1:Int)(a2:Sl)(a3:Int)(a4:Sl)(a5 a6 a7:Bool)(h:AH):go (.fn F.kw [.agg [.int .i64 a1,a2.v],.agg [.int .i64 a3,a4.v],.bool a5,.bool a6,.bool a7]) h =
 newK h (.cells [.int .i64 a1,a2.v] T.ko) fun h8r h8 =>
 newK h8 (.cells [.int .i64 a3,a4.v] T.ko) fun h9r h9 =>
 newK h9 (.cells [.int .i64 0,(⟨none,0,.is 0⟩:Sl).v] T.ko) fun h10r h10 =>
 ((h10.cell (h8r.add 0)).bind (AV.asInt .i64)).bind fun n11 =>
 ((h10.cell (h8r.add 1)).bind AV.asSl).bind fun l12 =>
 (go (.fn F.kgo [.agg [.int .i64 n11,l12.v]]) h10).bind fun q13 =>
 ((some q13.1).bind AV.asBool).bind fun b14 =>
 ((q13.2.cell (h9r.add 0)).bind (AV.asInt .i64)).bind fun n15 =>
 ((q13.2.cell (h9r.add 1)).bind AV.asSl).bind fun l16 =>
 (go (.fn F.kgo [.agg [.int .i64 n15,l16.v]]) q13.2).bind fun q17 =>
 ((some q17.1).bind AV.asBool).bind fun b18 =>
 cond (!b14) (
 (q17.2.puts h10r [.int .i64 0,(⟨none,0,.is 0⟩:Sl).v]).bind fun h19 =>
 ((h19.cell (h10r.add 0)).bind (AV.asInt .i64)).bind fun n20 =>
 ((h19.cell (h10r.add 1)).bind AV.asSl).bind fun l21 =>
 some (.tup [.agg [.int .i64 n20,l21.v],.int .i64 1],h19)) (
 cond (!b18) (
 (q17.2.puts h10r [.int .i64 0,(⟨none,0,.is 0⟩:Sl).v]).bind fun h22 =>
 ((h22.cell (h10r.add 0)).bind (AV.asInt .i64)).bind fun n23 =>
 ((h22.cell (h10r.add 1)).bind AV.asSl).bind fun l24 =>
 some (.tup [.agg [.int .i64 n23,l24.v],.int .i64 1],h22)) (
 ((q17.2.cell (h8r.add 0)).bind (AV.asInt .i64)).bind fun n25 =>
 ((q17.2.cell (h9r.add 0)).bind (AV.asInt .i64)).bind fun n26 =>
 cond (!decide (n25=n26)) (
 (q17.2.puts h10r [.int .i64 0,(⟨none,0,.is 0⟩:Sl).v]).bind fun h27 =>
 ((h27.cell (h10r.add 0)).bind (AV.asInt .i64)).bind fun n28 =>
 ((h27.cell (h10r.add 1)).bind AV.asSl).bind fun l29 =>
 some (.tup [.agg [.int .i64 n28,l29.v],.int .i64 1],h27)) (
 go (.pt F.kw Td.kx [(2,.bool a5),(3,.bool a6),(4,.bool a7),(5,.ptr (some h8r)),(6,.ptr (some h9r)),(10,.ptr (some h10r)),(14,(⟨none,0,.is 0⟩:Sl).v),(15,.int .i64 0)]) q17.2))):=(ke _ h).trans (by kernel_rfl)
theorem kbi7(a1 a2 a3:Sl)(h:AH):go (.fn F.ktj [a1.v,a2.v,a3.v]) h =
 (go (.fn F.kl8 [a1.v]) h).bind fun q4 =>
 ((some q4.1).bind AV.asBool).bind fun b5 =>
 cond (!b5) (
 some (.tup [(⟨none,0,.is 0⟩:Sl).v,.int .i64 1],q4.2)) (
 (go (.fn F.kkc [a1.v,a2.v]) q4.2).bind fun q6 =>
 ((some q6.1).bind AV.asBool).bind fun b7 =>
 cond (!b7) (
 some (.tup [(⟨none,0,.is 0⟩:Sl).v,.int .i64 11],q6.2)) (
 (go (.fn F.kkc [a1.v,a3.v]) q6.2).bind fun q8 =>
 ((some q8.1).bind AV.asBool).bind fun b9 =>
 cond (!b9) (
 some (.tup [(⟨none,0,.is 0⟩:Sl).v,.int .i64 11],q8.2)) (
 (go (.fn F.kdm [a1.v,a1.v]) q8.2).bind fun q10 =>
 (AV.asTup2 q10.1).bind fun p11 =>
 ((some p11.1).bind AV.asSl).bind fun l12 =>
 ((some p11.2).bind (AV.asInt .i64)).bind fun n13 =>
 (go (.fn F.kev [a3.v,l12.v]) q10.2).bind fun q14 =>
 (AV.asTup2 q14.1).bind fun p15 =>
 ((some p15.1).bind AV.asSl).bind fun l16 =>
 ((some p15.2).bind (AV.asInt .i64)).bind fun n17 =>
 (go (.fn F.kpk [a1.v]) q14.2).bind fun q18 =>
 yieldK q18.1 [a2.v,l16.v] (fun y20 =>
 (go (.round y20.1 y20.2) q18.2).bind fun q19 =>
 ((some q19.1).bind AV.asSl).bind fun l22 =>
 some (.tup [l22.v,.int .i64 n17],q19.2)) (
 (callV Pg go q18.1 [a2.v,l16.v] q18.2).bind fun q21 =>
 ((some q21.1).bind AV.asSl).bind fun l23 =>
 some (.tup [l23.v,.int .i64 n17],q21.2))))):=(ke _ h).trans (by kernel_rfl)
theorem k4x(a1 a2:Sl)(h:AH):go (.fn F.khy [a1.v,a2.v]) h =
 cond (!decide ((a1.len:Int)=(a2.len:Int))) (
 some (.bool false,h)) (
 go (.pt F.khy Td.kqz [(0,a1.v),(1,a2.v),(5,.int .i64 0)]) h):=(ke _ h).trans (by kernel_rfl)
theorem k7n(a1 a2 a3:Sl)(a4 a5:Int)(h:AH):go (.fn F.kfj [.agg [a1.v,a2.v,a3.v],.int .i64 a4,.int .i64 a5]) h =
 newK h (.cells [a1.v,a2.v,a3.v] T.kbt) fun h6r h6 =>
 newK h6 (.cells [.int .i64 0,(⟨none,0,.is 0⟩:Sl).v] T.ko) fun h7r h7 =>
 ((h7.cell (h6r.add 0)).bind AV.asSl).bind fun l8 =>
 ((h7.cell (h6r.add 1)).bind AV.asSl).bind fun l9 =>
 ((h7.cell (h6r.add 2)).bind AV.asSl).bind fun l10 =>
 (go (.fn F.kgd [.agg [l8.v,l9.v,l10.v]]) h7).bind fun q11 =>
 ((some q11.1).bind AV.asBool).bind fun b12 =>
 cond (!b12) (
 (q11.2.puts h7r [.int .i64 0,(⟨none,0,.is 0⟩:Sl).v]).bind fun h13 =>
 ((h13.cell (h7r.add 0)).bind (AV.asInt .i64)).bind fun n14 =>
 ((h13.cell (h7r.add 1)).bind AV.asSl).bind fun l15 =>
 some (.tup [.agg [.int .i64 n14,l15.v],.int .i64 20],h13)) (
 cond (decide (a4<0)) (
 (q11.2.puts h7r [.int .i64 0,(⟨none,0,.is 0⟩:Sl).v]).bind fun h16 =>
 ((h16.cell (h7r.add 0)).bind (AV.asInt .i64)).bind fun n17 =>
 ((h16.cell (h7r.add 1)).bind AV.asSl).bind fun l18 =>
 some (.tup [.agg [.int .i64 n17,l18.v],.int .i64 1],h16)) (
 ((q11.2.cell (h6r.add 2)).bind AV.asSl).bind fun l19 =>
 cond (decide (a4≥(l19.len:Int))) (
 (q11.2.puts h7r [.int .i64 0,(⟨none,0,.is 0⟩:Sl).v]).bind fun h20 =>
 ((h20.cell (h7r.add 0)).bind (AV.asInt .i64)).bind fun n21 =>
 ((h20.cell (h7r.add 1)).bind AV.asSl).bind fun l22 =>
 some (.tup [.agg [.int .i64 n21,l22.v],.int .i64 1],h20)) (
 cond (decide (a5<0)) (
 (q11.2.puts h7r [.int .i64 0,(⟨none,0,.is 0⟩:Sl).v]).bind fun h23 =>
 ((h23.cell (h7r.add 0)).bind (AV.asInt .i64)).bind fun n24 =>
 ((h23.cell (h7r.add 1)).bind AV.asSl).bind fun l25 =>
 some (.tup [.agg [.int .i64 n24,l25.v],.int .i64 1],h23)) (
 ((q11.2.cell (h6r.add 1)).bind AV.asSl).bind fun l26 =>
 (idx l26.ref l26.len a4 1).bind fun r27 =>
 ((q11.2.cell r27).bind (AV.asInt .i64)).bind fun n28 =>
 cond (decide (a5≥n28)) (
 (q11.2.puts h7r [.int .i64 0,(⟨none,0,.is 0⟩:Sl).v]).bind fun h29 =>
 ((h29.cell (h7r.add 0)).bind (AV.asInt .i64)).bind fun n30 =>
 ((h29.cell (h7r.add 1)).bind AV.asSl).bind fun l31 =>
 some (.tup [.agg [.int .i64 n30,l31.v],.int .i64 1],h29)) (
 ((q11.2.cell (h6r.add 2)).bind AV.asSl).bind fun l32 =>
 (idx l32.ref l32.len a4 1).bind fun r33 =>
 ((q11.2.cell r33).bind AV.asSl).bind fun l34 =>
 go (.pt F.kfj Td.knf [(2,.int .i64 a5),(3,.ptr (some h6r)),(6,.ptr (some h7r)),(8,(⟨none,0,.is 0⟩:Sl).v),(44,l34.v),(45,.int .i64 (l34.len:Int)),(46,.int .i64 0)]) q11.2))))):=(ke _ h).trans (by kernel_rfl)
theorem kbbc(a1:Int)(a2:Sl)(a3:Int)(a4:Sl)(h:AH):go (.fn F.kql [.agg [.int .i64 a1,a2.v],.agg [.int .i64 a3,a4.v]]) h =
 newK h (.cells [.int .i64 a1,a2.v] T.ko) fun h5r h5 =>
 newK h5 (.cells [.int .i64 a3,a4.v] T.ko) fun h6r h6 =>
 newK h6 (.cells [.int .i64 0,(⟨none,0,.is 0⟩:Sl).v] T.ko) fun h7r h7 =>
 ((h7.cell (h5r.add 0)).bind (AV.asInt .i64)).bind fun n8 =>
 ((h7.cell (h5r.add 1)).bind AV.asSl).bind fun l9 =>
 ((h7.cell (h6r.add 0)).bind (AV.asInt .i64)).bind fun n10 =>
 ((h7.cell (h6r.add 1)).bind AV.asSl).bind fun l11 =>
 (go (.fn F.kir [.agg [.int .i64 n8,l9.v],.agg [.int .i64 n10,l11.v],.func (.func F.kfv) [] []]) h7).bind fun q12 =>
 (AV.asTup2 q12.1).bind fun p13 =>
 (AV.asAgg p13.1).bind fun cs14 =>
 cond (Nat.beq cs14.length 2) (
 ((cs14[0]?).bind (AV.asInt .i64)).bind fun n15 =>
 ((cs14[1]?).bind AV.asSl).bind fun l16 =>
 ((some p13.2).bind (AV.asInt .i64)).bind fun n17 =>
 (q12.2.puts h7r [.int .i64 n15,l16.v]).bind fun h18 =>
 ((h18.cell (h7r.add 0)).bind (AV.asInt .i64)).bind fun n19 =>
 ((h18.cell (h7r.add 1)).bind AV.asSl).bind fun l20 =>
 some (.tup [.agg [.int .i64 n19,l20.v],.int .i64 n17],h18)) none:=(ke _ h).trans (by kernel_rfl)
theorem k62(a1:Int)(a2:Sl)(h:AH):go (.fn F.kp1 [.agg [.int .i64 a1,a2.v]]) h =
 newK h (.cells [.int .i64 a1,a2.v] T.ko) fun h3r h3 =>
 ((h3.cell (h3r.add 0)).bind (AV.asInt .i64)).bind fun n4 =>
 ((h3.cell (h3r.add 1)).bind AV.asSl).bind fun l5 =>
 (go (.fn F.ki9 [.agg [.int .i64 n4,l5.v]]) h3).bind fun q6 =>
 ((some q6.1).bind AV.asBool).bind fun b7 =>
 cond (!b7) (
 some ((⟨none,0,.is 0⟩:Sl).v,q6.2)) (
 ((q6.2.cell (h3r.add 0)).bind (AV.asInt .i64)).bind fun n8 =>
 ((q6.2.cell (h3r.add 1)).bind AV.asSl).bind fun l9 =>
 (go (.fn F.kro [.agg [.int .i64 n8,l9.v]]) q6.2).bind fun q10 =>
 (go (.fn F.kuj [q10.1]) q10.2).bind fun q11 =>
 ((some q11.1).bind AV.asSl).bind fun l12 =>
 some (l12.v,q11.2)):=(ke _ h).trans (by kernel_rfl)
theorem k99(a1:Int)(h:AH):go (.fn F.kvn [.int .u64 a1]) h =
 cond (decide (a1=0)) (
 some (.int .i64 64,h)) (
 (idx (some (.old ⟨Gl.math_bits_deBruijn64tab,0,none⟩)) 64 (ishr .u64 (IntKind.wrap .u64 ((iand .u64 a1 (IntKind.wrap .u64 (0-a1)))*285870213051353865)) 58) 1).bind fun r2 =>
 ((h.cell r2).bind (AV.asInt .u8)).bind fun n3 =>
 some (.int .i64 (IntKind.wrap .i64 n3),h)):=(ke _ h).trans (by kernel_rfl)
theorem kbk0(a1:Sl)(h:AH):go (.fn F.kgh [a1.v,.func (.func F.kem) [] []]) h =
 (go (.fn F.kb6 [a1.v,.func (.func F.kem) [] []]) h).bind fun q2 =>
 ((some q2.1).bind (AV.asInt .i64)).bind fun n3 =>
 some (.bool (decide (n3≥0)),q2.2):=(ke _ h).trans (by kernel_rfl)
theorem kzl(a1 a2:Sl)(a3:Int)(h:AH):go (.pt F.ke3 Td.kn7 [(0,a1.v),(1,a2.v),(5,.int .i64 a3)]) h =
 cond (decide (a3≥0)) (
 (idx a1.ref a1.len a3 1).bind fun r4 =>
 ((h.cell r4).bind (AV.asInt .u64)).bind fun n5 =>
 (idx a2.ref a2.len a3 1).bind fun r6 =>
 ((h.cell r6).bind (AV.asInt .u64)).bind fun n7 =>
 cond (!decide (n5=n7)) (
 (idx a1.ref a1.len a3 1).bind fun r8 =>
 ((h.cell r8).bind (AV.asInt .u64)).bind fun n9 =>
 (idx a2.ref a2.len a3 1).bind fun r10 =>
 ((h.cell r10).bind (AV.asInt .u64)).bind fun n11 =>
 cond (decide (n9<n11)) (
 some (.int .i64 (-1),h)) (
 some (.int .i64 1,h))) (
 go (.pt F.ke3 Td.kn7 [(0,a1.v),(1,a2.v),(5,.int .i64 (IntKind.wrap .i64 (a3-1)))]) h)) (
 some (.int .i64 0,h)):=(ke _ h).trans (by kernel_rfl)
theorem k5y(a1:Sl)(a2:Int)(a3:Sl)(a4 a5:Int)(h:AH):go (.pt F.kfi Td.knz [(0,a1.v),(1,.int .u64 a2),(6,a3.v),(7,.int .u64 a4),(8,.int .i64 a5)]) h =
 cond (decide (a5≥0)) (
 (idx a1.ref a1.len a5 1).bind fun r6 =>
 ((h.cell r6).bind (AV.asInt .u64)).bind fun n7 =>
 (go (.fn F.kbu [.int .u64 a4,.int .u64 n7,.int .u64 a2]) h).bind fun q8 =>
 (AV.asTup2 q8.1).bind fun p9 =>
 ((some p9.1).bind (AV.asInt .u64)).bind fun n10 =>
 ((some p9.2).bind (AV.asInt .u64)).bind fun n11 =>
 (idx a3.ref a3.len a5 1).bind fun r12 =>
 (q8.2.puts r12 [.int .u64 n10]).bind fun h13 =>
 go (.pt F.kfi Td.knz [(0,a1.v),(1,.int .u64 a2),(6,a3.v),(7,.int .u64 n11),(8,.int .i64 (IntKind.wrap .i64 (a5-1)))]) h13) (
 (go (.fn F.kbq [a3.v]) h).bind fun q14 =>
 ((some q14.1).bind AV.asSl).bind fun l15 =>
 some (.tup [l15.v,.int .u64 a4],q14.2)):=(ke _ h).trans (by kernel_rfl)
theorem kbac(a1:Int)(h:AH):go (.fn F.kqp [.int .u64 a1]) h =
 (go (.fn F.khf [.int .u64 a1]) h).bind fun q2 =>
 ((some q2.1).bind (AV.asInt .i64)).bind fun n3 =>
 some (.int .i64 (IntKind.wrap .i64 (64-n3)),q2.2):=(ke _ h).trans (by kernel_rfl)
theorem k43(a1:Sl)(a2:Int)(h:AH):go (.fn F.kez [a1.v,.int .u64 a2]) h =
 (kbr (IntKind.wrap .i64 ((a1.len:Int)+1)) (IntKind.wrap .i64 ((a1.len:Int)+1)) T.kf (Pg.bytesOf T.kf) [.int .u64 0] h).bind fun q3 =>
 go (.pt F.kez Td.kk0 [(1,.int .u64 a2),(5,q3.1.v),(12,a1.v),(13,.int .i64 (a1.len:Int)),(14,.int .i64 0)]) q3.2:=(ke _ h).trans (by kernel_rfl)
theorem kbfd(a1:Int)(a2 a3:Sl)(a4:Int)(a5:Sl)(a6:Int)(h:AH):go (.pt F.kb8 Td.kpf [(6,.int .u64 a1),(7,a2.v),(8,a3.v),(9,.int .i64 a4),(10,a5.v),(11,.int .i64 a6)]) h =
 cond (decide (a6≥0)) (
 (idx a2.ref a2.len (IntKind.wrap .i64 (a6+a4)) 1).bind fun r7 =>
 ((h.cell r7).bind (AV.asInt .u64)).bind fun n8 =>
 (idx a2.ref a2.len (IntKind.wrap .i64 ((IntKind.wrap .i64 (a6+a4))-1)) 1).bind fun r9 =>
 ((h.cell r9).bind (AV.asInt .u64)).bind fun n10 =>
 (idx a2.ref a2.len (IntKind.wrap .i64 ((IntKind.wrap .i64 (a6+a4))-2)) 1).bind fun r11 =>
 ((h.cell r11).bind (AV.asInt .u64)).bind fun n12 =>
 (idx a3.ref a3.len (IntKind.wrap .i64 (a4-1)) 1).bind fun r13 =>
 ((h.cell r13).bind (AV.asInt .u64)).bind fun n14 =>
 (idx a3.ref a3.len (IntKind.wrap .i64 (a4-2)) 1).bind fun r15 =>
 ((h.cell r15).bind (AV.asInt .u64)).bind fun n16 =>
 (go (.fn F.kgc [.int .u64 n8,.int .u64 n10,.int .u64 n12,.int .u64 n14,.int .u64 n16]) h).bind fun q17 =>
 ((some q17.1).bind (AV.asInt .u64)).bind fun n18 =>
 (cutSl a2 a6 (IntKind.wrap .i64 ((IntKind.wrap .i64 (a6+a4))+1)) 1).bind fun l19 =>
 go (.pt F.kb8 Td.kpn [(6,.int .u64 a1),(7,a2.v),(8,a3.v),(9,.int .i64 a4),(10,a5.v),(11,.int .i64 a6),(12,.int .u64 n18),(13,l19.v)]) q17.2) (
 (go (.fn F.kbq [a2.v]) h).bind fun q20 =>
 ((some q20.1).bind AV.asSl).bind fun l21 =>
 (kbr (l21.len:Int) (l21.len:Int) T.kf (Pg.bytesOf T.kf) [.int .u64 0] q20.2).bind fun q22 =>
 go (.pt F.kb8 Td.kkm [(6,.int .u64 a1),(10,a5.v),(15,l21.v),(16,q22.1.v),(112,.int .i64 (l21.len:Int)),(113,.int .i64 0)]) q22.2):=(ke _ h).trans (by kernel_rfl)
theorem k5r(a1 a2:Sl)(a3 a4 a5:Int)(a6:Sl)(a7 a8:Int)(a9:Sl)(a10 a11:Int)(h:AH):go (.pt F.kcv Td.ko3 [(1,a1.v),(5,a2.v),(6,.int .i64 a3),(7,.int .u64 a4),(8,.int .u64 a5),(20,a6.v),(21,.int .i64 a7),(22,.int .i64 a8),(27,a9.v),(28,.int .i64 a10),(29,.int .i64 a11)]) h =
 cond (decide (a11<a10)) (
 (idx a9.ref a9.len a11 1).bind fun r12 =>
 ((h.cell r12).bind (AV.asInt .u64)).bind fun n13 =>
 (go (.fn F.klk [.int .u64 a4,.int .u64 n13]) h).bind fun q14 =>
 (AV.asTup2 q14.1).bind fun p15 =>
 ((some p15.1).bind (AV.asInt .u64)).bind fun n16 =>
 ((some p15.2).bind (AV.asInt .u64)).bind fun n17 =>
 (idx a2.ref a2.len (IntKind.wrap .i64 (a3+a11)) 1).bind fun r18 =>
 ((q14.2.cell r18).bind (AV.asInt .u64)).bind fun n19 =>
 ((prim "math/bits.Add64" [.int .u64 n17,.int .u64 n19,.int .u64 0]).map fun v=>(v,q14.2)).bind fun q20 =>
 (AV.asTup2 q20.1).bind fun p21 =>
 ((some p21.1).bind (AV.asInt .u64)).bind fun n22 =>
 ((some p21.2).bind (AV.asInt .u64)).bind fun n23 =>
 ((prim "math/bits.Add64" [.int .u64 n22,.int .u64 a5,.int .u64 0]).map fun v=>(v,q20.2)).bind fun q24 =>
 (AV.asTup2 q24.1).bind fun p25 =>
 ((some p25.1).bind (AV.asInt .u64)).bind fun n26 =>
 ((some p25.2).bind (AV.asInt .u64)).bind fun n27 =>
 (idx a2.ref a2.len (IntKind.wrap .i64 (a3+a11)) 1).bind fun r28 =>
 (q24.2.puts r28 [.int .u64 n26]).bind fun h29 =>
 go (.pt F.kcv Td.ko3 [(1,a1.v),(5,a2.v),(6,.int .i64 a3),(7,.int .u64 a4),(8,.int .u64 (IntKind.wrap .u64 ((IntKind.wrap .u64 (n16+n23))+n27))),(20,a6.v),(21,.int .i64 a7),(22,.int .i64 a8),(27,a9.v),(28,.int .i64 a10),(29,.int .i64 (IntKind.wrap .i64 (a11+1)))]) h29) (
 (idx a2.ref a2.len (IntKind.wrap .i64 (a3+(a1.len:Int))) 1).bind fun r30 =>
 (h.puts r30 [.int .u64 a5]).bind fun h31 =>
 go (.pt F.kcv Td.kqh [(1,a1.v),(5,a2.v),(20,a6.v),(21,.int .i64 a7),(22,.int .i64 (IntKind.wrap .i64 (a8+1)))]) h31):=(ke _ h).trans (by kernel_rfl)
theorem kbke(a1:Sl)(h:AH):go (.fn F.kbm [a1.v,.func (.func F.kdv) [] []]) h =
 go (.pt F.kbm Td.kcl [(0,a1.v),(1,.func (.func F.kdv) [] []),(7,.int .i64 (a1.len:Int)),(8,.int .i64 0)]) h:=(ke _ h).trans (by kernel_rfl)
theorem k8s(l:Nat)(pe:Option Code)(a1 a2 a3:Sl)(a4:Int)(a5 a6:Sl)(a7 a8 a9:Ref)(a10:Sl)(a11 a12:Int)(a13:Ref)(a14 a15 a16:Sl)(a17:Int)(a18 a19:Sl)(a20 a21 a22:Int)(a23:Bool)(a24:Sl)(a25:Bool)(a26 a27 a28:Sl)(a29:Int)(a30:Sl)(a31 a32:AV)(a33:Sl)(h:AH)(hb:h.blks[l]?=some (kcx Fx.ku7 F.kcu 0 .ready pe [(0,.agg [a1.v,a2.v,a3.v]),(1,.agg [.int .i64 a4,a5.v]),(2,a6.v),(3,.ptr (some a7)),(4,.ptr (some a8)),(5,.ptr (some a9)),(6,a10.v),(7,.int .i64 a11),(8,.int .i64 a12),(9,.ptr (some a13)),(15,.agg [a14.v,a15.v,a16.v]),(16,.agg [.int .i64 a17,a18.v]),(17,a19.v),(18,.int .i64 a20),(19,.int .i64 a21),(20,.int .i64 a22),(21,.bool a23),(23,a24.v),(24,.bool a25),(25,.agg [a26.v,a27.v,a28.v]),(26,.agg [.int .i64 a29,a30.v]),(27,a31)])):go (.round l [a32,a33.v]) h =
 (beginA l h).bind fun h34 =>
 newK h34 (.cells [.int .i64 0,.int .i64 0] T.kca) fun h35r h35 =>
 (h35.puts h35r [.int .i64 0,.int .i64 (a33.len:Int)]).bind fun h36 =>
 go (.rpt l F.kcu Td.knx [(5,.ptr (some a9)),(6,a10.v),(7,.int .i64 a11),(9,.ptr (some a13)),(12,.ptr (some h35r)),(33,a33.v),(34,.int .i64 (a33.len:Int)),(35,.int .i64 0)]) h36:=(ke _ h).trans ((kon hb).trans (by kernel_rfl))
theorem kbck(a1 a2 a3:Sl)(a4:Int)(a5 a6:Sl)(a7 a8 a9:Ref)(a10:Sl)(a11 a12:Int)(a13:Ref)(a14 a15 a16:Sl)(a17:Int)(a18 a19:Sl)(a20 a21 a22:Int)(a23:Bool)(a24:Sl)(a25:Bool)(a26 a27 a28:Sl)(a29:Int)(a30:Sl)(a31:AV)(h:AH):go (.pt F.kcu ((Option.map Item.code none).toList++Ta.kwp) [(0,.agg [a1.v,a2.v,a3.v]),(1,.agg [.int .i64 a4,a5.v]),(2,a6.v),(3,.ptr (some a7)),(4,.ptr (some a8)),(5,.ptr (some a9)),(6,a10.v),(7,.int .i64 a11),(8,.int .i64 a12),(9,.ptr (some a13)),(15,.agg [a14.v,a15.v,a16.v]),(16,.agg [.int .i64 a17,a18.v]),(17,a19.v),(18,.int .i64 a20),(19,.int .i64 a21),(20,.int .i64 a22),(21,.bool a23),(23,a24.v),(24,.bool a25),(25,.agg [a26.v,a27.v,a28.v]),(26,.agg [.int .i64 a29,a30.v]),(27,a31)]) h =
 ((h.cell a13).bind AV.asSl).bind fun l32 =>
 some (.tup [l32.v,.int .i64 0],h):=(ke _ h).trans (by kernel_rfl)
theorem k0k(a1:Int)(a2:Sl)(a3 a4:Ref)(a5:Int)(h:AH):go (.pt F.kcg Td.kkg [(0,.int .i64 a1),(1,a2.v),(4,.ptr (some a3)),(6,.ptr (some a4)),(7,.int .i64 a5)]) h =
 cond (decide (a5<(a2.len:Int))) (
 (idx a2.ref a2.len a5 1).bind fun r6 =>
 ((h.cell r6).bind (AV.asInt .i64)).bind fun n7 =>
 cond (decide (n7<0)) (
 (h.puts a3 [.int .i64 0,(⟨none,0,.is 0⟩:Sl).v]).bind fun h8 =>
 ((h8.cell (a3.add 0)).bind (AV.asInt .i64)).bind fun n9 =>
 ((h8.cell (a3.add 1)).bind AV.asSl).bind fun l10 =>
 some (.tup [.agg [.int .i64 n9,l10.v],.int .i64 1],h8)) (
 (idx a2.ref a2.len a5 1).bind fun r11 =>
 ((h.cell r11).bind (AV.asInt .i64)).bind fun n12 =>
 cond (decide (n12≥a1)) (
 (h.puts a3 [.int .i64 0,(⟨none,0,.is 0⟩:Sl).v]).bind fun h13 =>
 ((h13.cell (a3.add 0)).bind (AV.asInt .i64)).bind fun n14 =>
 ((h13.cell (a3.add 1)).bind AV.asSl).bind fun l15 =>
 some (.tup [.agg [.int .i64 n14,l15.v],.int .i64 1],h13)) (
 ((h.cell (a4.add 0)).bind (AV.asInt .i64)).bind fun n16 =>
 ((h.cell (a4.add 1)).bind AV.asSl).bind fun l17 =>
 (idx a2.ref a2.len a5 1).bind fun r18 =>
 ((h.cell r18).bind (AV.asInt .i64)).bind fun n19 =>
 (go (.fn F.ke7 [.agg [.int .i64 n16,l17.v],.int .i64 n19]) h).bind fun q20 =>
 ((some q20.1).bind AV.asBool).bind fun b21 =>
 cond b21 (
 go (.pt F.kcg Td.kkg [(0,.int .i64 a1),(1,a2.v),(4,.ptr (some a3)),(6,.ptr (some a4)),(7,.int .i64 (IntKind.wrap .i64 (a5+1)))]) q20.2) (
 go (.pt F.kcg Td.kow [(0,.int .i64 a1),(1,a2.v),(4,.ptr (some a3)),(6,.ptr (some a4)),(7,.int .i64 a5),(9,.int .u64 1),(10,.int .i64 0)]) q20.2)))) (
 ((h.cell (a4.add 0)).bind (AV.asInt .i64)).bind fun n22 =>
 ((h.cell (a4.add 1)).bind AV.asSl).bind fun l23 =>
 (h.puts a3 [.int .i64 n22,l23.v]).bind fun h24 =>
 ((h24.cell (a3.add 0)).bind (AV.asInt .i64)).bind fun n25 =>
 ((h24.cell (a3.add 1)).bind AV.asSl).bind fun l26 =>
 some (.tup [.agg [.int .i64 n25,l26.v],.int .i64 0],h24)):=(ke _ h).trans (by kernel_rfl)
theorem kbcq(a1:Int)(h:AH):go (.fn F.kcm [.int .u64 a1]) h =
 newK h (.cells [.int .u64 a1] T.kf) fun h2r h2 =>
 newK h2 (.cells [.int .u64 0] T.kf) fun h3r h3 =>
 ((h3.cell h2r).bind (AV.asInt .u64)).bind fun n4 =>
 (go (.fn F.kxs [.int .u64 n4]) h3).bind fun q5 =>
 go (.pt F.kcm Tr.ksc [(0,.int .u64 a1),(1,.ptr (some h2r)),(2,.ptr (some h3r)),(4,.int .u64 n4),(5,q5.1)]) q5.2:=(ke _ h).trans (by kernel_rfl)
theorem k73(a1 a2:Sl)(h:AH):go (.pt F.kfk Td.kqy [(0,a1.v),(1,a2.v)]) h =
 cond (decide ((a2.len:Int)>0)) (
 (go (.fn F.kdq [a1.v,a2.v]) h).bind fun q3 =>
 (AV.asTup3 q3.1).bind fun p4 =>
 ((some p4.1).bind AV.asSl).bind fun l5 =>
 ((some p4.2.1).bind AV.asSl).bind fun l6 =>
 ((some p4.2.2).bind (AV.asInt .i64)).bind fun n7 =>
 go (.pt F.kfk Td.kqy [(0,a2.v),(1,l6.v)]) q3.2) (
 some (.tup [a1.v,.int .i64 0],h)):=(ke _ h).trans (by kernel_rfl)
theorem kbe1(a1:Sl)(h:AH):go (.fn F.ksg [a1.v]) h =
 cond (decide ((a1.len:Int)≤256)) (
 (go (.fn F.kdu [a1.v,.func (.func F.kdo) [] []]) h).bind fun q2 =>
 ((some q2.1).bind AV.asBool).bind fun b3 =>
 cond (!b3) (
 (go (.fn F.khi [a1.v]) q2.2).bind fun q4 =>
 ((some q4.1).bind AV.asMap).bind fun m5 =>
 (mapLen q4.2 m5).bind fun n6 =>
 some (.bool (decide ((n6:Int)=(a1.len:Int))),q4.2)) (
 some (.bool false,q2.2))) (
 some (.bool false,h)):=(ke _ h).trans (by kernel_rfl)
theorem k1f(a1:Ref)(a2:Sl)(a3 a4:Int)(h:AH):go (.pt F.kgd Td.kpc [(1,.ptr (some a1)),(27,a2.v),(28,.int .i64 a3),(29,.int .i64 a4)]) h =
 cond (decide (a4<a3)) (
 (idx a2.ref a2.len a4 1).bind fun r5 =>
 ((h.cell r5).bind AV.asSl).bind fun l6 =>
 ((h.cell (a1.add 1)).bind AV.asSl).bind fun l7 =>
 (idx l7.ref l7.len a4 1).bind fun r8 =>
 ((h.cell r8).bind (AV.asInt .i64)).bind fun n9 =>
 newK h (.cells [.int .i64 0] T.int) fun h10r h10 =>
 (h10.puts h10r [.int .i64 n9]).bind fun h11 =>
 ((h11.cell h10r).bind (AV.asInt .i64)).bind fun n12 =>
 cond (decide (n12<2)) (
 some (.bool false,h11)) (
 ((h11.cell h10r).bind (AV.asInt .i64)).bind fun n13 =>
 cond (decide (n13>32)) (
 some (.bool false,h11)) (
 ((h11.cell (a1.add 0)).bind AV.asSl).bind fun l14 =>
 cond (!decide ((l6.len:Int)=(l14.len:Int))) (
 some (.bool false,h11)) (
 (go (.fn F.kdu [l6.v,.func (.func F.kdn) [] [.ptr (some h10r)]]) h11).bind fun q15 =>
 ((some q15.1).bind AV.asBool).bind fun b16 =>
 cond b16 (
 some (.bool false,q15.2)) (
 go (.pt F.kgd Td.kpc [(1,.ptr (some a1)),(27,a2.v),(28,.int .i64 a3),(29,.int .i64 (IntKind.wrap .i64 (a4+1)))]) q15.2))))) (
 some (.bool true,h)):=(ke _ h).trans (by kernel_rfl)
theorem k04(a1:Sl)(a2:Option Ref)(a3 a4:Int)(h:AH):go (.pt F.kb6 Td.keb [(0,a1.v),(1,.func (.func F.kb2) [] [.ptr a2]),(7,.int .i64 a3),(8,.int .i64 a4)]) h =
 cond (decide (a4<a3)) (
 (idx a1.ref a1.len a4 1).bind fun r5 =>
 ((h.cell r5).bind AV.asSl).bind fun l6 =>
 (go (.fn F.kb2 [l6.v,.ptr a2]) h).bind fun q7 =>
 ((some q7.1).bind AV.asBool).bind fun b8 =>
 cond b8 (
 some (.int .i64 a4,q7.2)) (
 go (.pt F.kb6 Td.keb [(0,a1.v),(1,.func (.func F.kb2) [] [.ptr a2]),(7,.int .i64 a3),(8,.int .i64 (IntKind.wrap .i64 (a4+1)))]) q7.2)) (
 some (.int .i64 (-1),h)):=(ke _ h).trans (by kernel_rfl)
theorem kzi(a1:Ref)(a2:Sl)(a3:Int)(a4 a5:Ref)(a6 a7:Sl)(a8 a9:Int)(l:Nat)(h:AH):go (.rpt l F.kch Td.kra [(7,.ptr (some a1)),(8,a2.v),(9,.int .i64 a3),(11,.ptr (some a4)),(12,.ptr (some a5)),(15,a6.v),(40,a7.v),(41,.int .i64 a8),(42,.int .i64 a9)]) h =
 cond (decide (a9<a8)) (
 (idx a7.ref a7.len a9 1).bind fun r10 =>
 ((h.cell r10).bind (AV.asInt .i64)).bind fun n11 =>
 (h.cell a4).bind fun v12 =>
 ((h.cell a1).bind AV.asSl).bind fun l13 =>
 (idx l13.ref l13.len n11 1).bind fun r14 =>
 ((h.cell r14).bind AV.asSl).bind fun l15 =>
 (callV Pg go v12 [a6.v,l15.v] h).bind fun q16 =>
 ((some q16.1).bind AV.asSl).bind fun l17 =>
 go (.rpt l F.kch Td.kra [(7,.ptr (some a1)),(8,a2.v),(9,.int .i64 a3),(11,.ptr (some a4)),(12,.ptr (some a5)),(15,l17.v),(40,a7.v),(41,.int .i64 a8),(42,.int .i64 (IntKind.wrap .i64 (a9+1)))]) q16.2) (
 ((h.cell a5).bind AV.asSl).bind fun l18 =>
 newK h (.cells [a6.v] T.kr) fun h19r h19 =>
 (ky Pg T.kr ((⟨some h19r,1,.is 1⟩:Sl).v) h19).bind fun p21 =>
 (ku Pg l18 p21.1 p21.2 T.kr 1 h19).bind fun q20 =>
 (AV.asSl q20.1).bind fun l22 =>
 (q20.2.puts a5 [l22.v]).bind fun h23 =>
 kcc l none h23):=(ke _ h).trans (by kernel_rfl)
theorem kbdb(a1:Sl)(h:AH):go (.fn F.kl3 [a1.v]) h =
 (go (.fn F.kdm [a1.v,a1.v]) h).bind fun q2 =>
 (AV.asTup2 q2.1).bind fun p3 =>
 ((some p3.1).bind AV.asSl).bind fun l4 =>
 ((some p3.2).bind (AV.asInt .i64)).bind fun n5 =>
 some (l4.v,q2.2):=(ke _ h).trans (by kernel_rfl)
theorem k5x(a1 a2 a3:Sl)(h:AH):go (.fn F.ku1 [a1.v,a2.v,a3.v]) h =
 (go (.fn F.kcf [a1.v]) h).bind fun q4 =>
 ((some q4.1).bind AV.asBool).bind fun b5 =>
 cond (!b5) (
 some (.bool false,q4.2)) (
 cond (decide ((a1.len:Int)=0)) (
 some (.bool false,q4.2)) (
 (go (.fn F.kda [a1.v,a3.v]) q4.2).bind fun q6 =>
 ((some q6.1).bind (AV.asInt .i64)).bind fun n7 =>
 cond (decide (n7≥0)) (
 some (.bool false,q6.2)) (
 (go (.fn F.kfk [a1.v,a2.v]) q6.2).bind fun q8 =>
 (AV.asTup2 q8.1).bind fun p9 =>
 ((some p9.1).bind AV.asSl).bind fun l10 =>
 ((some p9.2).bind (AV.asInt .i64)).bind fun n11 =>
 newK q8.2 (.cells [.int .u64 1] T.kf) fun h12r h12 =>
 (go (.fn F.kda [l10.v,(⟨some h12r,1,.is 1⟩:Sl).v]) h12).bind fun q13 =>
 ((some q13.1).bind (AV.asInt .i64)).bind fun n14 =>
 some (.bool (decide (n14=0)),q13.2)))):=(ke _ h).trans (by kernel_rfl)
theorem kbgm(a1:Sl)(h:AH):go (.fn F.kew [a1.v]) h =
 (go (.fn F.kcf [a1.v]) h).bind fun q2 =>
 ((some q2.1).bind AV.asBool).bind fun b3 =>
 cond (!b3) (
 some (.tup [.ptr none,.int .i64 1],q2.2)) (
 cond (decide ((a1.len:Int)=0)) (
 some (.tup [.ptr none,.int .i64 1],q2.2)) (
 cond (decide ((a1.len:Int)>8)) (
 some (.tup [.ptr none,.int .i64 1],q2.2)) (
 (idx a1.ref a1.len 0 1).bind fun r4 =>
 ((q2.2.cell r4).bind (AV.asInt .u64)).bind fun n5 =>
 cond (decide ((iand .u64 n5 1)=0)) (
 some (.tup [.ptr none,.int .i64 1],q2.2)) (
 cond (decide ((a1.len:Int)=1)) (
 (idx a1.ref a1.len 0 1).bind fun r6 =>
 ((q2.2.cell r6).bind (AV.asInt .u64)).bind fun n7 =>
 cond (decide (n7=1)) (
 some (.tup [.ptr none,.int .i64 1],q2.2)) (
 (idx a1.ref a1.len 0 1).bind fun r8 =>
 ((q2.2.cell r8).bind (AV.asInt .u64)).bind fun n9 =>
 go (.pt F.kew Td.ki8 [(0,a1.v),(4,.int .u64 n9),(40,.int .i64 0)]) q2.2)) (
 (idx a1.ref a1.len 0 1).bind fun r10 =>
 ((q2.2.cell r10).bind (AV.asInt .u64)).bind fun n11 =>
 go (.pt F.kew Td.ki8 [(0,a1.v),(4,.int .u64 n11),(40,.int .i64 0)]) q2.2))))):=(ke _ h).trans (by kernel_rfl)
theorem kbfo(a1 a2:Sl)(h:AH):go (.fn F.kto [a1.v,a2.v]) h =
 (go (.fn F.kdm [a2.v,a1.v]) h).bind fun q3 =>
 (AV.asTup2 q3.1).bind fun p4 =>
 ((some p4.1).bind AV.asSl).bind fun l5 =>
 ((some p4.2).bind (AV.asInt .i64)).bind fun n6 =>
 newK q3.2 (.cells [.int .u64 1] T.kf) fun h7r h7 =>
 (go (.fn F.kkh [l5.v,(⟨some h7r,1,.is 1⟩:Sl).v]) h7).bind fun q8 =>
 (AV.asTup2 q8.1).bind fun p9 =>
 ((some p9.1).bind AV.asSl).bind fun l10 =>
 ((some p9.2).bind (AV.asInt .i64)).bind fun n11 =>
 some (l10.v,q8.2):=(ke _ h).trans (by kernel_rfl)
theorem kbjk(a1:Sl)(a2 a3 a4:Ref)(h:AH):go (.fn F.knw [a1.v,.ptr (some a2),.ptr (some a3),.ptr (some a4)]) h =
 ((h.cell a2).bind AV.asSl).bind fun l5 =>
 (go (.fn F.kl3 [l5.v]) h).bind fun q6 =>
 ((some q6.1).bind AV.asSl).bind fun l7 =>
 (go (.fn F.kdq [a1.v,l7.v]) q6.2).bind fun q8 =>
 (AV.asTup3 q8.1).bind fun p9 =>
 ((some p9.1).bind AV.asSl).bind fun l10 =>
 ((some p9.2.1).bind AV.asSl).bind fun l11 =>
 ((some p9.2.2).bind (AV.asInt .i64)).bind fun n12 =>
 ((q8.2.cell a3).bind AV.asPtr).bind fun p13 =>
 ((q8.2.cell a4).bind (AV.asInt .u64)).bind fun n14 =>
 newK q8.2 (.cells [.int .u64 (IntKind.wrap .u64 (n14-1))] T.kf) fun h15r h15 =>
 (go (.fn F.kb7 [.ptr p13,l11.v,(⟨some h15r,1,.is 1⟩:Sl).v]) h15).bind fun q16 =>
 (AV.asTup2 q16.1).bind fun p17 =>
 ((some p17.1).bind AV.asSl).bind fun l18 =>
 ((some p17.2).bind (AV.asInt .i64)).bind fun n19 =>
 newK q16.2 (.cells [.int .u64 1] T.kf) fun h20r h20 =>
 (go (.fn F.ki3 [l18.v,(⟨some h20r,1,.is 1⟩:Sl).v]) h20).bind fun q21 =>
 (AV.asTup2 q21.1).bind fun p22 =>
 ((some p22.1).bind AV.asSl).bind fun l23 =>
 ((some p22.2).bind (AV.asInt .i64)).bind fun n24 =>
 ((q21.2.cell a2).bind AV.asSl).bind fun l25 =>
 (go (.fn F.kdq [l23.v,l25.v]) q21.2).bind fun q26 =>
 (AV.asTup3 q26.1).bind fun p27 =>
 ((some p27.1).bind AV.asSl).bind fun l28 =>
 ((some p27.2.1).bind AV.asSl).bind fun l29 =>
 ((some p27.2.2).bind (AV.asInt .i64)).bind fun n30 =>
 some (l28.v,q26.2):=(ke _ h).trans (by kernel_rfl)
theorem kbb6(a1 a2:Sl)(h:AH):go (.fn F.kev [a1.v,a2.v]) h =
 (go (.fn F.kcf [a1.v]) h).bind fun q3 =>
 ((some q3.1).bind AV.asBool).bind fun b4 =>
 cond (!b4) (
 some (.tup [(⟨none,0,.is 0⟩:Sl).v,.int .i64 1],q3.2)) (
 (go (.fn F.kcf [a2.v]) q3.2).bind fun q5 =>
 ((some q5.1).bind AV.asBool).bind fun b6 =>
 cond (!b6) (
 some (.tup [(⟨none,0,.is 0⟩:Sl).v,.int .i64 1],q5.2)) (
 newK q5.2 (.cells [.int .u64 1] T.kf) fun h7r h7 =>
 (go (.fn F.kda [a2.v,(⟨some h7r,1,.is 1⟩:Sl).v]) h7).bind fun q8 =>
 ((some q8.1).bind (AV.asInt .i64)).bind fun n9 =>
 cond (decide (n9≤0)) (
 some (.tup [(⟨none,0,.is 0⟩:Sl).v,.int .i64 1],q8.2)) (
 (go (.fn F.kdq [a1.v,a2.v]) q8.2).bind fun q10 =>
 (AV.asTup3 q10.1).bind fun p11 =>
 ((some p11.1).bind AV.asSl).bind fun l12 =>
 ((some p11.2.1).bind AV.asSl).bind fun l13 =>
 ((some p11.2.2).bind (AV.asInt .i64)).bind fun n14 =>
 newK q10.2 (.cells [(⟨none,0,.is 0⟩:Sl).v] T.kr) fun h15r h15 =>
 (h15.puts h15r [l13.v]).bind fun h16 =>
 newK h16 (.cells [(⟨none,0,.is 0⟩:Sl).v] T.kr) fun h17r h17 =>
 (h17.puts h17r [a2.v]).bind fun h18 =>
 (go (.fn F.kpy [.int .i64 1]) h18).bind fun q19 =>
 (AV.asAgg q19.1).bind fun cs20 =>
 cond (Nat.beq cs20.length 2) (
 ((cs20[0]?).bind AV.asBool).bind fun b21 =>
 ((cs20[1]?).bind AV.asSl).bind fun l22 =>
 newK q19.2 (.cells [.bool false,(⟨none,0,.is 0⟩:Sl).v] T.kn) fun h23r h23 =>
 newK h23 (.cells [.bool false,(⟨none,0,.is 0⟩:Sl).v] T.kn) fun h24r h24 =>
 (h24.puts h23r [.bool false,(⟨none,0,.is 0⟩:Sl).v]).bind fun h25 =>
 (h25.puts h24r [.bool b21,l22.v]).bind fun h26 =>
 go (.pt F.kev Td.kqe [(1,a2.v),(7,.ptr (some h15r)),(9,.ptr (some h17r)),(10,.ptr (some h23r)),(12,.func (.func F.kkf) [] [.ptr (some h17r),.ptr (some h15r),.ptr (some h24r),.ptr (some h23r)])]) h26) none))):=(ke _ h).trans (by kernel_rfl)
theorem kbky(a1:Sl)(h:AH):go (.fn F.kko [a1.v]) h =
 (go (.fn F.kcf [a1.v]) h).bind fun q2 =>
 ((some q2.1).bind AV.asBool).bind fun b3 =>
 cond (!b3) (
 some (.bool true,q2.2)) (
 some (.bool (decide ((a1.len:Int)>8)),q2.2)):=(ke _ h).trans (by kernel_rfl)
theorem k3m(a1:Sl)(h:AH):go (.fn F.krn [a1.v]) h =
 newK h (.cells [.int .u64 1] T.kf) fun h2r h2 =>
 (go (.fn F.kda [a1.v,(⟨some h2r,1,.is 1⟩:Sl).v]) h2).bind fun q3 =>
 ((some q3.1).bind (AV.asInt .i64)).bind fun n4 =>
 some (.bool (decide (n4≤0)),q3.2):=(ke _ h).trans (by kernel_rfl)
theorem kbio(a1:Bool)(a2:Sl)(h:AH):go (.fn F.kbs [.bool a1,a2.v]) h =
 newK h (.cells [.bool false,(⟨none,0,.is 0⟩:Sl).v] T.kn) fun h3r h3 =>
 (go (.fn F.kcf [a2.v]) h3).bind fun q4 =>
 ((some q4.1).bind AV.asBool).bind fun b5 =>
 cond (!b5) (
 (q4.2.puts h3r [.bool false,(⟨none,0,.is 0⟩:Sl).v]).bind fun h6 =>
 ((h6.cell (h3r.add 0)).bind AV.asBool).bind fun b7 =>
 ((h6.cell (h3r.add 1)).bind AV.asSl).bind fun l8 =>
 some (.agg [.bool b7,l8.v],h6)) (
 cond (decide ((a2.len:Int)=0)) (
 (q4.2.puts h3r [.bool false,(⟨none,0,.is 0⟩:Sl).v]).bind fun h9 =>
 ((h9.cell (h3r.add 0)).bind AV.asBool).bind fun b10 =>
 ((h9.cell (h3r.add 1)).bind AV.asSl).bind fun l11 =>
 some (.agg [.bool b10,l11.v],h9)) (
 (go (.fn F.kge [a2.v]) q4.2).bind fun q12 =>
 ((some q12.1).bind AV.asSl).bind fun l13 =>
 (q12.2.puts h3r [.bool a1,l13.v]).bind fun h14 =>
 ((h14.cell (h3r.add 0)).bind AV.asBool).bind fun b15 =>
 ((h14.cell (h3r.add 1)).bind AV.asSl).bind fun l16 =>
 some (.agg [.bool b15,l16.v],h14))):=(ke _ h).trans (by kernel_rfl)
theorem k9x(a1:Bool)(a2:Sl)(a3:Bool)(a4:Sl)(h:AH):go (.fn F.kri [.agg [.bool a1,a2.v],.agg [.bool a3,a4.v]]) h =
 newK h (.cells [.bool a1,a2.v] T.kn) fun h5r h5 =>
 newK h5 (.cells [.bool a3,a4.v] T.kn) fun h6r h6 =>
 newK h6 (.cells [.bool false,(⟨none,0,.is 0⟩:Sl).v] T.kn) fun h7r h7 =>
 ((h7.cell (h5r.add 0)).bind AV.asBool).bind fun b8 =>
 ((h7.cell (h5r.add 1)).bind AV.asSl).bind fun l9 =>
 ((h7.cell (h6r.add 0)).bind AV.asBool).bind fun b10 =>
 ((h7.cell (h6r.add 1)).bind AV.asSl).bind fun l11 =>
 newK h7 (.cells [.bool b8,l9.v,.bool b10,l11.v] T.kn) fun h12r h12 =>
 (go (.fn F.khj [(⟨some h12r,2,.is 2⟩:Sl).v]) h12).bind fun q13 =>
 ((some q13.1).bind AV.asBool).bind fun b14 =>
 cond (!b14) (
 (q13.2.puts h7r [.bool false,(⟨none,0,.is 0⟩:Sl).v]).bind fun h15 =>
 ((h15.cell (h7r.add 0)).bind AV.asBool).bind fun b16 =>
 ((h15.cell (h7r.add 1)).bind AV.asSl).bind fun l17 =>
 some (.tup [.agg [.bool b16,l17.v],.int .i64 1],h15)) (
 ((q13.2.cell (h5r.add 0)).bind AV.asBool).bind fun b18 =>
 ((q13.2.cell (h5r.add 1)).bind AV.asSl).bind fun l19 =>
 ((q13.2.cell (h6r.add 0)).bind AV.asBool).bind fun b20 =>
 ((q13.2.cell (h6r.add 1)).bind AV.asSl).bind fun l21 =>
 (go (.fn F.kuy [.agg [.bool b20,l21.v]]) q13.2).bind fun q22 =>
 (AV.asAgg q22.1).bind fun cs23 =>
 cond (Nat.beq cs23.length 2) (
 ((cs23[0]?).bind AV.asBool).bind fun b24 =>
 ((cs23[1]?).bind AV.asSl).bind fun l25 =>
 whenK (SameAt q13.2 q22.2 h5r 2) (
 (go (.fn F.krr [.agg [.bool b18,l19.v],.agg [.bool b24,l25.v]]) q22.2).bind fun q26 =>
 (AV.asTup2 q26.1).bind fun p27 =>
 (AV.asAgg p27.1).bind fun cs28 =>
 cond (Nat.beq cs28.length 2) (
 ((cs28[0]?).bind AV.asBool).bind fun b29 =>
 ((cs28[1]?).bind AV.asSl).bind fun l30 =>
 ((some p27.2).bind (AV.asInt .i64)).bind fun n31 =>
 (q26.2.puts h7r [.bool b29,l30.v]).bind fun h32 =>
 ((h32.cell (h7r.add 0)).bind AV.asBool).bind fun b33 =>
 ((h32.cell (h7r.add 1)).bind AV.asSl).bind fun l34 =>
 some (.tup [.agg [.bool b33,l34.v],.int .i64 n31],h32)) none)) none):=(ke _ h).trans (by kernel_rfl)
theorem kbh6(a1:Bool)(a2:Sl)(a3:Bool)(a4:Sl)(h:AH):go (.fn F.knj [.agg [.bool a1,a2.v],.agg [.bool a3,a4.v]]) h =
 newK h (.cells [.bool a1,a2.v] T.kn) fun h5r h5 =>
 newK h5 (.cells [.bool a3,a4.v] T.kn) fun h6r h6 =>
 newK h6 (.cells [.bool false,(⟨none,0,.is 0⟩:Sl).v] T.kn) fun h7r h7 =>
 ((h7.cell (h5r.add 0)).bind AV.asBool).bind fun b8 =>
 ((h7.cell (h5r.add 1)).bind AV.asSl).bind fun l9 =>
 ((h7.cell (h6r.add 0)).bind AV.asBool).bind fun b10 =>
 ((h7.cell (h6r.add 1)).bind AV.asSl).bind fun l11 =>
 newK h7 (.cells [.bool b8,l9.v,.bool b10,l11.v] T.kn) fun h12r h12 =>
 (go (.fn F.khj [(⟨some h12r,2,.is 2⟩:Sl).v]) h12).bind fun q13 =>
 ((some q13.1).bind AV.asBool).bind fun b14 =>
 cond (!b14) (
 (q13.2.puts h7r [.bool false,(⟨none,0,.is 0⟩:Sl).v]).bind fun h15 =>
 ((h15.cell (h7r.add 0)).bind AV.asBool).bind fun b16 =>
 ((h15.cell (h7r.add 1)).bind AV.asSl).bind fun l17 =>
 some (.tup [.agg [.bool b16,l17.v],.int .i64 1],h15)) (
 ((q13.2.cell (h5r.add 1)).bind AV.asSl).bind fun l18 =>
 ((q13.2.cell (h6r.add 1)).bind AV.asSl).bind fun l19 =>
 (go (.fn F.kdm [l18.v,l19.v]) q13.2).bind fun q20 =>
 (AV.asTup2 q20.1).bind fun p21 =>
 ((some p21.1).bind AV.asSl).bind fun l22 =>
 ((some p21.2).bind (AV.asInt .i64)).bind fun n23 =>
 ((q20.2.cell (h5r.add 0)).bind AV.asBool).bind fun b24 =>
 ((q20.2.cell (h6r.add 0)).bind AV.asBool).bind fun b25 =>
 (go (.fn F.kbs [.bool (!(b24==b25)),l22.v]) q20.2).bind fun q26 =>
 (AV.asAgg q26.1).bind fun cs27 =>
 cond (Nat.beq cs27.length 2) (
 ((cs27[0]?).bind AV.asBool).bind fun b28 =>
 ((cs27[1]?).bind AV.asSl).bind fun l29 =>
 (q26.2.puts h7r [.bool b28,l29.v]).bind fun h30 =>
 ((h30.cell (h7r.add 0)).bind AV.asBool).bind fun b31 =>
 ((h30.cell (h7r.add 1)).bind AV.asSl).bind fun l32 =>
 some (.tup [.agg [.bool b31,l32.v],.int .i64 n23],h30)) none):=(ke _ h).trans (by kernel_rfl)
theorem k57(a1:Bool)(a2:Sl)(a3:Bool)(a4:Sl)(h:AH):go (.fn F.kmf [.agg [.bool a1,a2.v],.agg [.bool a3,a4.v]]) h =
 newK h (.cells [.bool a1,a2.v] T.kn) fun h5r h5 =>
 newK h5 (.cells [.bool a3,a4.v] T.kn) fun h6r h6 =>
 newK h6 (.cells [.bool false,(⟨none,0,.is 0⟩:Sl).v] T.kn) fun h7r h7 =>
 newK h7 (.cells [.bool false,(⟨none,0,.is 0⟩:Sl).v] T.kn) fun h8r h8 =>
 ((h8.cell (h5r.add 0)).bind AV.asBool).bind fun b9 =>
 ((h8.cell (h5r.add 1)).bind AV.asSl).bind fun l10 =>
 ((h8.cell (h6r.add 0)).bind AV.asBool).bind fun b11 =>
 ((h8.cell (h6r.add 1)).bind AV.asSl).bind fun l12 =>
 newK h8 (.cells [.bool b9,l10.v,.bool b11,l12.v] T.kn) fun h13r h13 =>
 (go (.fn F.khj [(⟨some h13r,2,.is 2⟩:Sl).v]) h13).bind fun q14 =>
 ((some q14.1).bind AV.asBool).bind fun b15 =>
 cond (!b15) (
 (q14.2.puts h7r [.bool false,(⟨none,0,.is 0⟩:Sl).v]).bind fun h16 =>
 (h16.puts h8r [.bool false,(⟨none,0,.is 0⟩:Sl).v]).bind fun h17 =>
 ((h17.cell (h7r.add 0)).bind AV.asBool).bind fun b18 =>
 ((h17.cell (h7r.add 1)).bind AV.asSl).bind fun l19 =>
 ((h17.cell (h8r.add 0)).bind AV.asBool).bind fun b20 =>
 ((h17.cell (h8r.add 1)).bind AV.asSl).bind fun l21 =>
 some (.tup [.agg [.bool b18,l19.v],.agg [.bool b20,l21.v],.int .i64 1],h17)) (
 ((q14.2.cell (h6r.add 1)).bind AV.asSl).bind fun l22 =>
 cond (decide ((l22.len:Int)=0)) (
 (q14.2.puts h7r [.bool false,(⟨none,0,.is 0⟩:Sl).v]).bind fun h23 =>
 (h23.puts h8r [.bool false,(⟨none,0,.is 0⟩:Sl).v]).bind fun h24 =>
 ((h24.cell (h7r.add 0)).bind AV.asBool).bind fun b25 =>
 ((h24.cell (h7r.add 1)).bind AV.asSl).bind fun l26 =>
 ((h24.cell (h8r.add 0)).bind AV.asBool).bind fun b27 =>
 ((h24.cell (h8r.add 1)).bind AV.asSl).bind fun l28 =>
 some (.tup [.agg [.bool b25,l26.v],.agg [.bool b27,l28.v],.int .i64 3],h24)) (
 ((q14.2.cell (h6r.add 0)).bind AV.asBool).bind fun b29 =>
 cond b29 (
 (q14.2.puts h7r [.bool false,(⟨none,0,.is 0⟩:Sl).v]).bind fun h30 =>
 (h30.puts h8r [.bool false,(⟨none,0,.is 0⟩:Sl).v]).bind fun h31 =>
 ((h31.cell (h7r.add 0)).bind AV.asBool).bind fun b32 =>
 ((h31.cell (h7r.add 1)).bind AV.asSl).bind fun l33 =>
 ((h31.cell (h8r.add 0)).bind AV.asBool).bind fun b34 =>
 ((h31.cell (h8r.add 1)).bind AV.asSl).bind fun l35 =>
 some (.tup [.agg [.bool b32,l33.v],.agg [.bool b34,l35.v],.int .i64 1],h31)) (
 ((q14.2.cell (h5r.add 1)).bind AV.asSl).bind fun l36 =>
 ((q14.2.cell (h6r.add 1)).bind AV.asSl).bind fun l37 =>
 (go (.fn F.kdq [l36.v,l37.v]) q14.2).bind fun q38 =>
 (AV.asTup3 q38.1).bind fun p39 =>
 ((some p39.1).bind AV.asSl).bind fun l40 =>
 ((some p39.2.1).bind AV.asSl).bind fun l41 =>
 ((some p39.2.2).bind (AV.asInt .i64)).bind fun n42 =>
 ((q38.2.cell (h5r.add 0)).bind AV.asBool).bind fun b43 =>
 cond b43 (
 cond (decide ((l41.len:Int)>0)) (
 (go (.fn F.kfw [.int .u64 1]) q38.2).bind fun q44 =>
 ((some q44.1).bind AV.asSl).bind fun l45 =>
 (go (.fn F.kkh [l40.v,l45.v]) q44.2).bind fun q46 =>
 (AV.asTup2 q46.1).bind fun p47 =>
 ((some p47.1).bind AV.asSl).bind fun l48 =>
 ((some p47.2).bind (AV.asInt .i64)).bind fun n49 =>
 cond (!decide (n49=0)) (
 (q46.2.puts h7r [.bool false,(⟨none,0,.is 0⟩:Sl).v]).bind fun h50 =>
 (h50.puts h8r [.bool false,(⟨none,0,.is 0⟩:Sl).v]).bind fun h51 =>
 ((h51.cell (h7r.add 0)).bind AV.asBool).bind fun b52 =>
 ((h51.cell (h7r.add 1)).bind AV.asSl).bind fun l53 =>
 ((h51.cell (h8r.add 0)).bind AV.asBool).bind fun b54 =>
 ((h51.cell (h8r.add 1)).bind AV.asSl).bind fun l55 =>
 some (.tup [.agg [.bool b52,l53.v],.agg [.bool b54,l55.v],.int .i64 n49],h51)) (
 ((q46.2.cell (h6r.add 1)).bind AV.asSl).bind fun l56 =>
 (go (.fn F.ki3 [l56.v,l41.v]) q46.2).bind fun q57 =>
 (AV.asTup2 q57.1).bind fun p58 =>
 ((some p58.1).bind AV.asSl).bind fun l59 =>
 ((some p58.2).bind (AV.asInt .i64)).bind fun n60 =>
 ((q57.2.cell (h5r.add 0)).bind AV.asBool).bind fun b61 =>
 (go (.fn F.kbs [.bool b61,l48.v]) q57.2).bind fun q62 =>
 (AV.asAgg q62.1).bind fun cs63 =>
 cond (Nat.beq cs63.length 2) (
 ((cs63[0]?).bind AV.asBool).bind fun b64 =>
 ((cs63[1]?).bind AV.asSl).bind fun l65 =>
 (go (.fn F.kbs [.bool false,l59.v]) q62.2).bind fun q66 =>
 (AV.asAgg q66.1).bind fun cs67 =>
 cond (Nat.beq cs67.length 2) (
 ((cs67[0]?).bind AV.asBool).bind fun b68 =>
 ((cs67[1]?).bind AV.asSl).bind fun l69 =>
 (q66.2.puts h7r [.bool b64,l65.v]).bind fun h70 =>
 (h70.puts h8r [.bool b68,l69.v]).bind fun h71 =>
 ((h71.cell (h7r.add 0)).bind AV.asBool).bind fun b72 =>
 ((h71.cell (h7r.add 1)).bind AV.asSl).bind fun l73 =>
 ((h71.cell (h8r.add 0)).bind AV.asBool).bind fun b74 =>
 ((h71.cell (h8r.add 1)).bind AV.asSl).bind fun l75 =>
 some (.tup [.agg [.bool b72,l73.v],.agg [.bool b74,l75.v],.int .i64 0],h71)) none) none)) (
 ((q38.2.cell (h5r.add 0)).bind AV.asBool).bind fun b76 =>
 (go (.fn F.kbs [.bool b76,l40.v]) q38.2).bind fun q77 =>
 (AV.asAgg q77.1).bind fun cs78 =>
 cond (Nat.beq cs78.length 2) (
 ((cs78[0]?).bind AV.asBool).bind fun b79 =>
 ((cs78[1]?).bind AV.asSl).bind fun l80 =>
 (go (.fn F.kbs [.bool false,l41.v]) q77.2).bind fun q81 =>
 (AV.asAgg q81.1).bind fun cs82 =>
 cond (Nat.beq cs82.length 2) (
 ((cs82[0]?).bind AV.asBool).bind fun b83 =>
 ((cs82[1]?).bind AV.asSl).bind fun l84 =>
 (q81.2.puts h7r [.bool b79,l80.v]).bind fun h85 =>
 (h85.puts h8r [.bool b83,l84.v]).bind fun h86 =>
 ((h86.cell (h7r.add 0)).bind AV.asBool).bind fun b87 =>
 ((h86.cell (h7r.add 1)).bind AV.asSl).bind fun l88 =>
 ((h86.cell (h8r.add 0)).bind AV.asBool).bind fun b89 =>
 ((h86.cell (h8r.add 1)).bind AV.asSl).bind fun l90 =>
 some (.tup [.agg [.bool b87,l88.v],.agg [.bool b89,l90.v],.int .i64 0],h86)) none) none)) (
 ((q38.2.cell (h5r.add 0)).bind AV.asBool).bind fun b91 =>
 (go (.fn F.kbs [.bool b91,l40.v]) q38.2).bind fun q92 =>
 (AV.asAgg q92.1).bind fun cs93 =>
 cond (Nat.beq cs93.length 2) (
 ((cs93[0]?).bind AV.asBool).bind fun b94 =>
 ((cs93[1]?).bind AV.asSl).bind fun l95 =>
 (go (.fn F.kbs [.bool false,l41.v]) q92.2).bind fun q96 =>
 (AV.asAgg q96.1).bind fun cs97 =>
 cond (Nat.beq cs97.length 2) (
 ((cs97[0]?).bind AV.asBool).bind fun b98 =>
 ((cs97[1]?).bind AV.asSl).bind fun l99 =>
 (q96.2.puts h7r [.bool b94,l95.v]).bind fun h100 =>
 (h100.puts h8r [.bool b98,l99.v]).bind fun h101 =>
 ((h101.cell (h7r.add 0)).bind AV.asBool).bind fun b102 =>
 ((h101.cell (h7r.add 1)).bind AV.asSl).bind fun l103 =>
 ((h101.cell (h8r.add 0)).bind AV.asBool).bind fun b104 =>
 ((h101.cell (h8r.add 1)).bind AV.asSl).bind fun l105 =>
 some (.tup [.agg [.bool b102,l103.v],.agg [.bool b104,l105.v],.int .i64 0],h101)) none) none)))):=(ke _ h).trans (by kernel_rfl)
theorem kbk7(a1 a2:Sl)(h:AH):go (.fn F.kkh [a1.v,a2.v]) h =
 newK h (.cells [a1.v,a2.v] T.kr) fun h3r h3 =>
 (go (.fn F.kgn [(⟨some h3r,2,.is 2⟩:Sl).v]) h3).bind fun q4 =>
 ((some q4.1).bind AV.asBool).bind fun b5 =>
 cond (!b5) (
 some (.tup [(⟨none,0,.is 0⟩:Sl).v,.int .i64 1],q4.2)) (
 (go (.fn F.kdl [a1.v,a2.v]) q4.2).bind fun q6 =>
 ((some q6.1).bind AV.asSl).bind fun l7 =>
 (go (.fn F.kle [l7.v]) q6.2).bind fun q8 =>
 (AV.asTup2 q8.1).bind fun p9 =>
 ((some p9.1).bind AV.asSl).bind fun l10 =>
 ((some p9.2).bind (AV.asInt .i64)).bind fun n11 =>
 some (.tup [l10.v,.int .i64 n11],q8.2)):=(ke _ h).trans (by kernel_rfl)
theorem k4n(a1 a2:Sl)(h:AH):go (.fn F.kub [a1.v,a2.v]) h =
 (go (.fn F.krm [a1.v,a2.v]) h).bind fun q3 =>
 (AV.asTup3 q3.1).bind fun p4 =>
 ((some p4.1).bind AV.asSl).bind fun l5 =>
 ((some p4.2.1).bind AV.asSl).bind fun l6 =>
 ((some p4.2.2).bind (AV.asInt .i64)).bind fun n7 =>
 some (l6.v,q3.2):=(ke _ h).trans (by kernel_rfl)
theorem k3x(a1:Sl)(a2:Int)(h:AH):go (.fn F.khl [a1.v,.int .i64 a2]) h =
 go (.pt F.khl Td.kqq [(0,a1.v),(1,.int .i64 a2),(5,.int .i64 0)]) h:=(ke _ h).trans (by kernel_rfl)
theorem k7q(a1:Sl)(h:AH):go (.fn F.kde [a1.v]) h =
 cond (decide ((a1.len:Int)≤64)) (
 cond (decide ((a1.len:Int)=0)) (
 some (.bool true,h)) (
 (idx a1.ref a1.len (IntKind.wrap .i64 ((a1.len:Int)-1)) 1).bind fun r2 =>
 ((h.cell r2).bind (AV.asInt .u64)).bind fun n3 =>
 some (.bool (!decide (n3=0)),h))) (
 some (.bool false,h)):=(ke _ h).trans (by kernel_rfl)
theorem kbgg(a1:Sl)(h:AH):go (.fn F.kfz [a1.v]) h =
 (go (.fn F.kde [a1.v]) h).bind fun q2 =>
 ((some q2.1).bind AV.asBool).bind fun b3 =>
 cond (!b3) (
 some (.int .i64 0,q2.2)) (
 cond (decide ((a1.len:Int)=0)) (
 some (.int .i64 0,q2.2)) (
 (idx a1.ref a1.len (IntKind.wrap .i64 ((a1.len:Int)-1)) 1).bind fun r4 =>
 ((q2.2.cell r4).bind (AV.asInt .u64)).bind fun n5 =>
 go (.pt F.kfz Td.ko9 [(0,a1.v),(4,.int .i64 0),(5,.int .u64 n5)]) q2.2)):=(ke _ h).trans (by kernel_rfl)
theorem k5w(a1 a2:Sl)(h:AH):go (.fn F.kta [a1.v,a2.v]) h =
 (go (.fn F.kde [a1.v]) h).bind fun q3 =>
 ((some q3.1).bind AV.asBool).bind fun b4 =>
 (go (.fn F.kde [a2.v]) q3.2).bind fun q5 =>
 ((some q5.1).bind AV.asBool).bind fun b6 =>
 cond (!b4) (
 some (.tup [(⟨none,0,.is 0⟩:Sl).v,.int .i64 1],q5.2)) (
 cond (!b6) (
 some (.tup [(⟨none,0,.is 0⟩:Sl).v,.int .i64 1],q5.2)) (
 (go (.fn F.kce [a1.v]) q5.2).bind fun q7 =>
 ((some q7.1).bind AV.asSl).bind fun l8 =>
 (go (.fn F.kce [a2.v]) q7.2).bind fun q9 =>
 ((some q9.1).bind AV.asSl).bind fun l10 =>
 (go (.fn F.kc1 [l8.v,l10.v]) q9.2).bind fun q11 =>
 ((some q11.1).bind AV.asSl).bind fun l12 =>
 (go (.fn F.kr2 [l12.v]) q11.2).bind fun q13 =>
 (AV.asTup2 q13.1).bind fun p14 =>
 ((some p14.1).bind AV.asSl).bind fun l15 =>
 ((some p14.2).bind (AV.asInt .i64)).bind fun n16 =>
 some (.tup [l15.v,.int .i64 n16],q13.2))):=(ke _ h).trans (by kernel_rfl)
theorem k60(a1 a2:Sl)(h:AH):go (.fn F.kqf [a1.v,a2.v]) h =
 (go (.fn F.kde [a1.v]) h).bind fun q3 =>
 ((some q3.1).bind AV.asBool).bind fun b4 =>
 (go (.fn F.kde [a2.v]) q3.2).bind fun q5 =>
 ((some q5.1).bind AV.asBool).bind fun b6 =>
 cond (!b4) (
 some (.int .i64 0,q5.2)) (
 cond (!b6) (
 some (.int .i64 0,q5.2)) (
 (go (.fn F.kce [a1.v]) q5.2).bind fun q7 =>
 ((some q7.1).bind AV.asSl).bind fun l8 =>
 (go (.fn F.kce [a2.v]) q7.2).bind fun q9 =>
 ((some q9.1).bind AV.asSl).bind fun l10 =>
 (go (.fn F.khc [l8.v,l10.v]) q9.2).bind fun q11 =>
 ((some q11.1).bind (AV.asInt .i64)).bind fun n12 =>
 some (.int .i64 n12,q11.2))):=(ke _ h).trans (by kernel_rfl)
theorem k8b(a1 a2:Sl)(h:AH):go (.fn F.khd [a1.v,a2.v]) h =
 (go (.fn F.kde [a1.v]) h).bind fun q3 =>
 ((some q3.1).bind AV.asBool).bind fun b4 =>
 (go (.fn F.kde [a2.v]) q3.2).bind fun q5 =>
 ((some q5.1).bind AV.asBool).bind fun b6 =>
 cond (!b4) (
 some (.tup [(⟨none,0,.is 0⟩:Sl).v,.int .i64 1],q5.2)) (
 cond (!b6) (
 some (.tup [(⟨none,0,.is 0⟩:Sl).v,.int .i64 1],q5.2)) (
 newK q5.2 (.cells [] T.kf) fun h7r h7 =>
 (ky Pg T.kf a1.v h7).bind fun p9 =>
 (ku Pg (⟨some h7r,0,.is 0⟩:Sl) p9.1 p9.2 T.kf 1 h7).bind fun q8 =>
 (AV.asSl q8.1).bind fun l10 =>
 newK q8.2 (.cells [] T.kf) fun h11r h11 =>
 (ky Pg T.kf a2.v h11).bind fun p13 =>
 (ku Pg (⟨some h11r,0,.is 0⟩:Sl) p13.1 p13.2 T.kf 1 h11).bind fun q12 =>
 (AV.asSl q12.1).bind fun l14 =>
 go (.pt F.khd Td.ko5 [(8,l10.v),(9,l14.v)]) q12.2)):=(ke _ h).trans (by kernel_rfl)
theorem k6k(a1:Int)(h:AH):go (.fn F.krh [.int .u64 a1]) h =
 cond (decide (a1=0)) (
 some ((⟨none,0,.is 0⟩:Sl).v,h)) (
 newK h (.cells [.int .u64 a1] T.kf) fun h2r h2 =>
 some ((⟨some h2r,1,.is 1⟩:Sl).v,h2)):=(ke _ h).trans (by kernel_rfl)
theorem k59(a1:Int)(a2:Sl)(h:AH):go (.fn F.kgo [.agg [.int .i64 a1,a2.v]]) h =
 newK h (.cells [.int .i64 a1,a2.v] T.ko) fun h3r h3 =>
 ((h3.cell (h3r.add 0)).bind (AV.asInt .i64)).bind fun n4 =>
 cond (decide (n4<0)) (
 some (.bool false,h3)) (
 ((h3.cell (h3r.add 0)).bind (AV.asInt .i64)).bind fun n5 =>
 cond (decide (n5>65536)) (
 some (.bool false,h3)) (
 ((h3.cell (h3r.add 1)).bind AV.asSl).bind fun l6 =>
 ((h3.cell (h3r.add 0)).bind (AV.asInt .i64)).bind fun n7 =>
 cond (!decide ((l6.len:Int)=(IntKind.wrap .i64 (Int.tdiv (IntKind.wrap .i64 (n7+63)) 64)))) (
 some (.bool false,h3)) (
 ((h3.cell (h3r.add 0)).bind (AV.asInt .i64)).bind fun n8 =>
 go (.pt F.kgo Td.knm [(1,.ptr (some h3r)),(3,.int .i64 n8)]) h3))):=(ke _ h).trans (by kernel_rfl)
theorem k2m(a1 a2 a3:Bool)(a4 a5 a6:Ref)(a7:Sl)(a8:Int)(h:AH):go (.pt F.kw Td.kx [(2,.bool a1),(3,.bool a2),(4,.bool a3),(5,.ptr (some a4)),(6,.ptr (some a5)),(10,.ptr (some a6)),(14,a7.v),(15,.int .i64 a8)]) h =
 ((h.cell (a4.add 0)).bind (AV.asInt .i64)).bind fun n9 =>
 cond (decide (a8<n9)) (
 ((h.cell (a4.add 0)).bind (AV.asInt .i64)).bind fun n10 =>
 ((h.cell (a4.add 1)).bind AV.asSl).bind fun l11 =>
 (go (.fn F.ke7 [.agg [.int .i64 n10,l11.v],.int .i64 a8]) h).bind fun q12 =>
 ((some q12.1).bind AV.asBool).bind fun b13 =>
 ((q12.2.cell (a5.add 0)).bind (AV.asInt .i64)).bind fun n14 =>
 ((q12.2.cell (a5.add 1)).bind AV.asSl).bind fun l15 =>
 (go (.fn F.ke7 [.agg [.int .i64 n14,l15.v],.int .i64 a8]) q12.2).bind fun q16 =>
 ((some q16.1).bind AV.asBool).bind fun b17 =>
 cond b13 (
 cond b17 (
 cond a1 (
 newK q16.2 (.cells [.int .i64 a8] T.int) fun h18r h18 =>
 (ky Pg T.int ((⟨some h18r,1,.is 1⟩:Sl).v) h18).bind fun p20 =>
 (ku Pg a7 p20.1 p20.2 T.int 1 h18).bind fun q19 =>
 (AV.asSl q19.1).bind fun l21 =>
 go (.pt F.kw Td.kx [(2,.bool a1),(3,.bool a2),(4,.bool a3),(5,.ptr (some a4)),(6,.ptr (some a5)),(10,.ptr (some a6)),(14,l21.v),(15,.int .i64 (IntKind.wrap .i64 (a8+1)))]) q19.2) (
 cond b13 (
 cond (!b17) (
 cond a2 (
 newK q16.2 (.cells [.int .i64 a8] T.int) fun h22r h22 =>
 (ky Pg T.int ((⟨some h22r,1,.is 1⟩:Sl).v) h22).bind fun p24 =>
 (ku Pg a7 p24.1 p24.2 T.int 1 h22).bind fun q23 =>
 (AV.asSl q23.1).bind fun l25 =>
 go (.pt F.kw Td.kx [(2,.bool a1),(3,.bool a2),(4,.bool a3),(5,.ptr (some a4)),(6,.ptr (some a5)),(10,.ptr (some a6)),(14,l25.v),(15,.int .i64 (IntKind.wrap .i64 (a8+1)))]) q23.2) (
 cond (!b13) (
 cond b17 (
 cond a3 (
 newK q16.2 (.cells [.int .i64 a8] T.int) fun h26r h26 =>
 (ky Pg T.int ((⟨some h26r,1,.is 1⟩:Sl).v) h26).bind fun p28 =>
 (ku Pg a7 p28.1 p28.2 T.int 1 h26).bind fun q27 =>
 (AV.asSl q27.1).bind fun l29 =>
 go (.pt F.kw Td.kx [(2,.bool a1),(3,.bool a2),(4,.bool a3),(5,.ptr (some a4)),(6,.ptr (some a5)),(10,.ptr (some a6)),(14,l29.v),(15,.int .i64 (IntKind.wrap .i64 (a8+1)))]) q27.2) (
 go (.pt F.kw Td.kx [(2,.bool a1),(3,.bool a2),(4,.bool a3),(5,.ptr (some a4)),(6,.ptr (some a5)),(10,.ptr (some a6)),(14,a7.v),(15,.int .i64 (IntKind.wrap .i64 (a8+1)))]) q16.2)) (
 go (.pt F.kw Td.kx [(2,.bool a1),(3,.bool a2),(4,.bool a3),(5,.ptr (some a4)),(6,.ptr (some a5)),(10,.ptr (some a6)),(14,a7.v),(15,.int .i64 (IntKind.wrap .i64 (a8+1)))]) q16.2)) (
 go (.pt F.kw Td.kx [(2,.bool a1),(3,.bool a2),(4,.bool a3),(5,.ptr (some a4)),(6,.ptr (some a5)),(10,.ptr (some a6)),(14,a7.v),(15,.int .i64 (IntKind.wrap .i64 (a8+1)))]) q16.2))) (
 cond (!b13) (
 cond b17 (
 cond a3 (
 newK q16.2 (.cells [.int .i64 a8] T.int) fun h30r h30 =>
 (ky Pg T.int ((⟨some h30r,1,.is 1⟩:Sl).v) h30).bind fun p32 =>
 (ku Pg a7 p32.1 p32.2 T.int 1 h30).bind fun q31 =>
 (AV.asSl q31.1).bind fun l33 =>
 go (.pt F.kw Td.kx [(2,.bool a1),(3,.bool a2),(4,.bool a3),(5,.ptr (some a4)),(6,.ptr (some a5)),(10,.ptr (some a6)),(14,l33.v),(15,.int .i64 (IntKind.wrap .i64 (a8+1)))]) q31.2) (
 go (.pt F.kw Td.kx [(2,.bool a1),(3,.bool a2),(4,.bool a3),(5,.ptr (some a4)),(6,.ptr (some a5)),(10,.ptr (some a6)),(14,a7.v),(15,.int .i64 (IntKind.wrap .i64 (a8+1)))]) q16.2)) (
 go (.pt F.kw Td.kx [(2,.bool a1),(3,.bool a2),(4,.bool a3),(5,.ptr (some a4)),(6,.ptr (some a5)),(10,.ptr (some a6)),(14,a7.v),(15,.int .i64 (IntKind.wrap .i64 (a8+1)))]) q16.2)) (
 go (.pt F.kw Td.kx [(2,.bool a1),(3,.bool a2),(4,.bool a3),(5,.ptr (some a4)),(6,.ptr (some a5)),(10,.ptr (some a6)),(14,a7.v),(15,.int .i64 (IntKind.wrap .i64 (a8+1)))]) q16.2))) (
 cond (!b13) (
 cond b17 (
 cond a3 (
 newK q16.2 (.cells [.int .i64 a8] T.int) fun h34r h34 =>
 (ky Pg T.int ((⟨some h34r,1,.is 1⟩:Sl).v) h34).bind fun p36 =>
 (ku Pg a7 p36.1 p36.2 T.int 1 h34).bind fun q35 =>
 (AV.asSl q35.1).bind fun l37 =>
 go (.pt F.kw Td.kx [(2,.bool a1),(3,.bool a2),(4,.bool a3),(5,.ptr (some a4)),(6,.ptr (some a5)),(10,.ptr (some a6)),(14,l37.v),(15,.int .i64 (IntKind.wrap .i64 (a8+1)))]) q35.2) (
 go (.pt F.kw Td.kx [(2,.bool a1),(3,.bool a2),(4,.bool a3),(5,.ptr (some a4)),(6,.ptr (some a5)),(10,.ptr (some a6)),(14,a7.v),(15,.int .i64 (IntKind.wrap .i64 (a8+1)))]) q16.2)) (
 go (.pt F.kw Td.kx [(2,.bool a1),(3,.bool a2),(4,.bool a3),(5,.ptr (some a4)),(6,.ptr (some a5)),(10,.ptr (some a6)),(14,a7.v),(15,.int .i64 (IntKind.wrap .i64 (a8+1)))]) q16.2)) (
 go (.pt F.kw Td.kx [(2,.bool a1),(3,.bool a2),(4,.bool a3),(5,.ptr (some a4)),(6,.ptr (some a5)),(10,.ptr (some a6)),(14,a7.v),(15,.int .i64 (IntKind.wrap .i64 (a8+1)))]) q16.2)))) (
 cond b13 (
 cond (!b17) (
 cond a2 (
 newK q16.2 (.cells [.int .i64 a8] T.int) fun h38r h38 =>
 (ky Pg T.int ((⟨some h38r,1,.is 1⟩:Sl).v) h38).bind fun p40 =>
 (ku Pg a7 p40.1 p40.2 T.int 1 h38).bind fun q39 =>
 (AV.asSl q39.1).bind fun l41 =>
 go (.pt F.kw Td.kx [(2,.bool a1),(3,.bool a2),(4,.bool a3),(5,.ptr (some a4)),(6,.ptr (some a5)),(10,.ptr (some a6)),(14,l41.v),(15,.int .i64 (IntKind.wrap .i64 (a8+1)))]) q39.2) (
 cond (!b13) (
 cond b17 (
 cond a3 (
 newK q16.2 (.cells [.int .i64 a8] T.int) fun h42r h42 =>
 (ky Pg T.int ((⟨some h42r,1,.is 1⟩:Sl).v) h42).bind fun p44 =>
 (ku Pg a7 p44.1 p44.2 T.int 1 h42).bind fun q43 =>
 (AV.asSl q43.1).bind fun l45 =>
 go (.pt F.kw Td.kx [(2,.bool a1),(3,.bool a2),(4,.bool a3),(5,.ptr (some a4)),(6,.ptr (some a5)),(10,.ptr (some a6)),(14,l45.v),(15,.int .i64 (IntKind.wrap .i64 (a8+1)))]) q43.2) (
 go (.pt F.kw Td.kx [(2,.bool a1),(3,.bool a2),(4,.bool a3),(5,.ptr (some a4)),(6,.ptr (some a5)),(10,.ptr (some a6)),(14,a7.v),(15,.int .i64 (IntKind.wrap .i64 (a8+1)))]) q16.2)) (
 go (.pt F.kw Td.kx [(2,.bool a1),(3,.bool a2),(4,.bool a3),(5,.ptr (some a4)),(6,.ptr (some a5)),(10,.ptr (some a6)),(14,a7.v),(15,.int .i64 (IntKind.wrap .i64 (a8+1)))]) q16.2)) (
 go (.pt F.kw Td.kx [(2,.bool a1),(3,.bool a2),(4,.bool a3),(5,.ptr (some a4)),(6,.ptr (some a5)),(10,.ptr (some a6)),(14,a7.v),(15,.int .i64 (IntKind.wrap .i64 (a8+1)))]) q16.2))) (
 cond (!b13) (
 cond b17 (
 cond a3 (
 newK q16.2 (.cells [.int .i64 a8] T.int) fun h46r h46 =>
 (ky Pg T.int ((⟨some h46r,1,.is 1⟩:Sl).v) h46).bind fun p48 =>
 (ku Pg a7 p48.1 p48.2 T.int 1 h46).bind fun q47 =>
 (AV.asSl q47.1).bind fun l49 =>
 go (.pt F.kw Td.kx [(2,.bool a1),(3,.bool a2),(4,.bool a3),(5,.ptr (some a4)),(6,.ptr (some a5)),(10,.ptr (some a6)),(14,l49.v),(15,.int .i64 (IntKind.wrap .i64 (a8+1)))]) q47.2) (
 go (.pt F.kw Td.kx [(2,.bool a1),(3,.bool a2),(4,.bool a3),(5,.ptr (some a4)),(6,.ptr (some a5)),(10,.ptr (some a6)),(14,a7.v),(15,.int .i64 (IntKind.wrap .i64 (a8+1)))]) q16.2)) (
 go (.pt F.kw Td.kx [(2,.bool a1),(3,.bool a2),(4,.bool a3),(5,.ptr (some a4)),(6,.ptr (some a5)),(10,.ptr (some a6)),(14,a7.v),(15,.int .i64 (IntKind.wrap .i64 (a8+1)))]) q16.2)) (
 go (.pt F.kw Td.kx [(2,.bool a1),(3,.bool a2),(4,.bool a3),(5,.ptr (some a4)),(6,.ptr (some a5)),(10,.ptr (some a6)),(14,a7.v),(15,.int .i64 (IntKind.wrap .i64 (a8+1)))]) q16.2))) (
 cond (!b13) (
 cond b17 (
 cond a3 (
 newK q16.2 (.cells [.int .i64 a8] T.int) fun h50r h50 =>
 (ky Pg T.int ((⟨some h50r,1,.is 1⟩:Sl).v) h50).bind fun p52 =>
 (ku Pg a7 p52.1 p52.2 T.int 1 h50).bind fun q51 =>
 (AV.asSl q51.1).bind fun l53 =>
 go (.pt F.kw Td.kx [(2,.bool a1),(3,.bool a2),(4,.bool a3),(5,.ptr (some a4)),(6,.ptr (some a5)),(10,.ptr (some a6)),(14,l53.v),(15,.int .i64 (IntKind.wrap .i64 (a8+1)))]) q51.2) (
 go (.pt F.kw Td.kx [(2,.bool a1),(3,.bool a2),(4,.bool a3),(5,.ptr (some a4)),(6,.ptr (some a5)),(10,.ptr (some a6)),(14,a7.v),(15,.int .i64 (IntKind.wrap .i64 (a8+1)))]) q16.2)) (
 go (.pt F.kw Td.kx [(2,.bool a1),(3,.bool a2),(4,.bool a3),(5,.ptr (some a4)),(6,.ptr (some a5)),(10,.ptr (some a6)),(14,a7.v),(15,.int .i64 (IntKind.wrap .i64 (a8+1)))]) q16.2)) (
 go (.pt F.kw Td.kx [(2,.bool a1),(3,.bool a2),(4,.bool a3),(5,.ptr (some a4)),(6,.ptr (some a5)),(10,.ptr (some a6)),(14,a7.v),(15,.int .i64 (IntKind.wrap .i64 (a8+1)))]) q16.2)))) (
 cond b13 (
 cond (!b17) (
 cond a2 (
 newK q16.2 (.cells [.int .i64 a8] T.int) fun h54r h54 =>
 (ky Pg T.int ((⟨some h54r,1,.is 1⟩:Sl).v) h54).bind fun p56 =>
 (ku Pg a7 p56.1 p56.2 T.int 1 h54).bind fun q55 =>
 (AV.asSl q55.1).bind fun l57 =>
 go (.pt F.kw Td.kx [(2,.bool a1),(3,.bool a2),(4,.bool a3),(5,.ptr (some a4)),(6,.ptr (some a5)),(10,.ptr (some a6)),(14,l57.v),(15,.int .i64 (IntKind.wrap .i64 (a8+1)))]) q55.2) (
 cond (!b13) (
 cond b17 (
 cond a3 (
 newK q16.2 (.cells [.int .i64 a8] T.int) fun h58r h58 =>
 (ky Pg T.int ((⟨some h58r,1,.is 1⟩:Sl).v) h58).bind fun p60 =>
 (ku Pg a7 p60.1 p60.2 T.int 1 h58).bind fun q59 =>
 (AV.asSl q59.1).bind fun l61 =>
 go (.pt F.kw Td.kx [(2,.bool a1),(3,.bool a2),(4,.bool a3),(5,.ptr (some a4)),(6,.ptr (some a5)),(10,.ptr (some a6)),(14,l61.v),(15,.int .i64 (IntKind.wrap .i64 (a8+1)))]) q59.2) (
 go (.pt F.kw Td.kx [(2,.bool a1),(3,.bool a2),(4,.bool a3),(5,.ptr (some a4)),(6,.ptr (some a5)),(10,.ptr (some a6)),(14,a7.v),(15,.int .i64 (IntKind.wrap .i64 (a8+1)))]) q16.2)) (
 go (.pt F.kw Td.kx [(2,.bool a1),(3,.bool a2),(4,.bool a3),(5,.ptr (some a4)),(6,.ptr (some a5)),(10,.ptr (some a6)),(14,a7.v),(15,.int .i64 (IntKind.wrap .i64 (a8+1)))]) q16.2)) (
 go (.pt F.kw Td.kx [(2,.bool a1),(3,.bool a2),(4,.bool a3),(5,.ptr (some a4)),(6,.ptr (some a5)),(10,.ptr (some a6)),(14,a7.v),(15,.int .i64 (IntKind.wrap .i64 (a8+1)))]) q16.2))) (
 cond (!b13) (
 cond b17 (
 cond a3 (
 newK q16.2 (.cells [.int .i64 a8] T.int) fun h62r h62 =>
 (ky Pg T.int ((⟨some h62r,1,.is 1⟩:Sl).v) h62).bind fun p64 =>
 (ku Pg a7 p64.1 p64.2 T.int 1 h62).bind fun q63 =>
 (AV.asSl q63.1).bind fun l65 =>
 go (.pt F.kw Td.kx [(2,.bool a1),(3,.bool a2),(4,.bool a3),(5,.ptr (some a4)),(6,.ptr (some a5)),(10,.ptr (some a6)),(14,l65.v),(15,.int .i64 (IntKind.wrap .i64 (a8+1)))]) q63.2) (
 go (.pt F.kw Td.kx [(2,.bool a1),(3,.bool a2),(4,.bool a3),(5,.ptr (some a4)),(6,.ptr (some a5)),(10,.ptr (some a6)),(14,a7.v),(15,.int .i64 (IntKind.wrap .i64 (a8+1)))]) q16.2)) (
 go (.pt F.kw Td.kx [(2,.bool a1),(3,.bool a2),(4,.bool a3),(5,.ptr (some a4)),(6,.ptr (some a5)),(10,.ptr (some a6)),(14,a7.v),(15,.int .i64 (IntKind.wrap .i64 (a8+1)))]) q16.2)) (
 go (.pt F.kw Td.kx [(2,.bool a1),(3,.bool a2),(4,.bool a3),(5,.ptr (some a4)),(6,.ptr (some a5)),(10,.ptr (some a6)),(14,a7.v),(15,.int .i64 (IntKind.wrap .i64 (a8+1)))]) q16.2))) (
 cond (!b13) (
 cond b17 (
 cond a3 (
 newK q16.2 (.cells [.int .i64 a8] T.int) fun h66r h66 =>
 (ky Pg T.int ((⟨some h66r,1,.is 1⟩:Sl).v) h66).bind fun p68 =>
 (ku Pg a7 p68.1 p68.2 T.int 1 h66).bind fun q67 =>
 (AV.asSl q67.1).bind fun l69 =>
 go (.pt F.kw Td.kx [(2,.bool a1),(3,.bool a2),(4,.bool a3),(5,.ptr (some a4)),(6,.ptr (some a5)),(10,.ptr (some a6)),(14,l69.v),(15,.int .i64 (IntKind.wrap .i64 (a8+1)))]) q67.2) (
 go (.pt F.kw Td.kx [(2,.bool a1),(3,.bool a2),(4,.bool a3),(5,.ptr (some a4)),(6,.ptr (some a5)),(10,.ptr (some a6)),(14,a7.v),(15,.int .i64 (IntKind.wrap .i64 (a8+1)))]) q16.2)) (
 go (.pt F.kw Td.kx [(2,.bool a1),(3,.bool a2),(4,.bool a3),(5,.ptr (some a4)),(6,.ptr (some a5)),(10,.ptr (some a6)),(14,a7.v),(15,.int .i64 (IntKind.wrap .i64 (a8+1)))]) q16.2)) (
 go (.pt F.kw Td.kx [(2,.bool a1),(3,.bool a2),(4,.bool a3),(5,.ptr (some a4)),(6,.ptr (some a5)),(10,.ptr (some a6)),(14,a7.v),(15,.int .i64 (IntKind.wrap .i64 (a8+1)))]) q16.2)))) (
 ((h.cell (a4.add 0)).bind (AV.asInt .i64)).bind fun n70 =>
 (go (.fn F.kcg [.int .i64 n70,a7.v]) h).bind fun q71 =>
 (AV.asTup2 q71.1).bind fun p72 =>
 (AV.asAgg p72.1).bind fun cs73 =>
 cond (Nat.beq cs73.length 2) (
 ((cs73[0]?).bind (AV.asInt .i64)).bind fun n74 =>
 ((cs73[1]?).bind AV.asSl).bind fun l75 =>
 ((some p72.2).bind (AV.asInt .i64)).bind fun n76 =>
 (q71.2.puts a6 [.int .i64 n74,l75.v]).bind fun h77 =>
 ((h77.cell (a6.add 0)).bind (AV.asInt .i64)).bind fun n78 =>
 ((h77.cell (a6.add 1)).bind AV.asSl).bind fun l79 =>
 some (.tup [.agg [.int .i64 n78,l79.v],.int .i64 n76],h77)) none):=(ke _ h).trans (by kernel_rfl)
theorem kv8(a1 a2:Sl)(a3:Int)(h:AH):go (.pt F.khy Td.kqz [(0,a1.v),(1,a2.v),(5,.int .i64 a3)]) h =
 cond (decide (a3<(a1.len:Int))) (
 (idx a1.ref a1.len a3 1).bind fun r4 =>
 ((h.cell r4).bind (AV.asInt .u64)).bind fun n5 =>
 (idx a2.ref a2.len a3 1).bind fun r6 =>
 ((h.cell r6).bind (AV.asInt .u64)).bind fun n7 =>
 cond (!decide (n5=n7)) (
 some (.bool false,h)) (
 go (.pt F.khy Td.kqz [(0,a1.v),(1,a2.v),(5,.int .i64 (IntKind.wrap .i64 (a3+1)))]) h)) (
 some (.bool true,h)):=(ke _ h).trans (by kernel_rfl)
theorem kzt(a1:Int)(a2 a3:Ref)(a4 a5:Sl)(a6 a7:Int)(h:AH):go (.pt F.kfj Td.knf [(2,.int .i64 a1),(3,.ptr (some a2)),(6,.ptr (some a3)),(8,a4.v),(44,a5.v),(45,.int .i64 a6),(46,.int .i64 a7)]) h =
 cond (decide (a7<a6)) (
 (idx a5.ref a5.len a7 1).bind fun r8 =>
 ((h.cell r8).bind (AV.asInt .i64)).bind fun n9 =>
 cond (decide (n9≤a1)) (
 newK h (.cells [.int .i64 a7] T.int) fun h10r h10 =>
 (ky Pg T.int ((⟨some h10r,1,.is 1⟩:Sl).v) h10).bind fun p12 =>
 (ku Pg a4 p12.1 p12.2 T.int 1 h10).bind fun q11 =>
 (AV.asSl q11.1).bind fun l13 =>
 go (.pt F.kfj Td.knf [(2,.int .i64 a1),(3,.ptr (some a2)),(6,.ptr (some a3)),(8,l13.v),(44,a5.v),(45,.int .i64 a6),(46,.int .i64 (IntKind.wrap .i64 (a7+1)))]) q11.2) (
 go (.pt F.kfj Td.knf [(2,.int .i64 a1),(3,.ptr (some a2)),(6,.ptr (some a3)),(8,a4.v),(44,a5.v),(45,.int .i64 a6),(46,.int .i64 (IntKind.wrap .i64 (a7+1)))]) h)) (
 ((h.cell (a2.add 0)).bind AV.asSl).bind fun l14 =>
 (go (.fn F.kic [.int .i64 (l14.len:Int),a4.v]) h).bind fun q15 =>
 (AV.asTup2 q15.1).bind fun p16 =>
 (AV.asAgg p16.1).bind fun cs17 =>
 cond (Nat.beq cs17.length 2) (
 ((cs17[0]?).bind (AV.asInt .i64)).bind fun n18 =>
 ((cs17[1]?).bind AV.asSl).bind fun l19 =>
 ((some p16.2).bind (AV.asInt .i64)).bind fun n20 =>
 (q15.2.puts a3 [.int .i64 n18,l19.v]).bind fun h21 =>
 ((h21.cell (a3.add 0)).bind (AV.asInt .i64)).bind fun n22 =>
 ((h21.cell (a3.add 1)).bind AV.asSl).bind fun l23 =>
 some (.tup [.agg [.int .i64 n22,l23.v],.int .i64 n20],h21)) none):=(ke _ h).trans (by kernel_rfl)
theorem k4t(a1:Int)(a2:Sl)(a3:Int)(a4:Sl)(h:AH):go (.fn F.kir [.agg [.int .i64 a1,a2.v],.agg [.int .i64 a3,a4.v],.func (.func F.kfv) [] []]) h =
 newK h (.cells [.int .i64 a1,a2.v] T.ko) fun h5r h5 =>
 newK h5 (.cells [.int .i64 a3,a4.v] T.ko) fun h6r h6 =>
 newK h6 (.cells [.int .i64 0,(⟨none,0,.is 0⟩:Sl).v] T.ko) fun h7r h7 =>
 ((h7.cell (h5r.add 0)).bind (AV.asInt .i64)).bind fun n8 =>
 ((h7.cell (h5r.add 1)).bind AV.asSl).bind fun l9 =>
 (go (.fn F.ki9 [.agg [.int .i64 n8,l9.v]]) h7).bind fun q10 =>
 ((some q10.1).bind AV.asBool).bind fun b11 =>
 cond (!b11) (
 (q10.2.puts h7r [.int .i64 0,(⟨none,0,.is 0⟩:Sl).v]).bind fun h12 =>
 ((h12.cell (h7r.add 0)).bind (AV.asInt .i64)).bind fun n13 =>
 ((h12.cell (h7r.add 1)).bind AV.asSl).bind fun l14 =>
 some (.tup [.agg [.int .i64 n13,l14.v],.int .i64 1],h12)) (
 ((q10.2.cell (h6r.add 0)).bind (AV.asInt .i64)).bind fun n15 =>
 ((q10.2.cell (h6r.add 1)).bind AV.asSl).bind fun l16 =>
 (go (.fn F.ki9 [.agg [.int .i64 n15,l16.v]]) q10.2).bind fun q17 =>
 ((some q17.1).bind AV.asBool).bind fun b18 =>
 cond (!b18) (
 (q17.2.puts h7r [.int .i64 0,(⟨none,0,.is 0⟩:Sl).v]).bind fun h19 =>
 ((h19.cell (h7r.add 0)).bind (AV.asInt .i64)).bind fun n20 =>
 ((h19.cell (h7r.add 1)).bind AV.asSl).bind fun l21 =>
 some (.tup [.agg [.int .i64 n20,l21.v],.int .i64 1],h19)) (
 ((q17.2.cell (h5r.add 0)).bind (AV.asInt .i64)).bind fun n22 =>
 ((q17.2.cell (h6r.add 0)).bind (AV.asInt .i64)).bind fun n23 =>
 cond (!decide (n22=n23)) (
 (q17.2.puts h7r [.int .i64 0,(⟨none,0,.is 0⟩:Sl).v]).bind fun h24 =>
 ((h24.cell (h7r.add 0)).bind (AV.asInt .i64)).bind fun n25 =>
 ((h24.cell (h7r.add 1)).bind AV.asSl).bind fun l26 =>
 some (.tup [.agg [.int .i64 n25,l26.v],.int .i64 1],h24)) (
 ((q17.2.cell (h5r.add 0)).bind (AV.asInt .i64)).bind fun n27 =>
 (go (.fn F.knv [.int .i64 n27]) q17.2).bind fun q28 =>
 (AV.asTup2 q28.1).bind fun p29 =>
 (AV.asAgg p29.1).bind fun cs30 =>
 cond (Nat.beq cs30.length 2) (
 ((cs30[0]?).bind (AV.asInt .i64)).bind fun n31 =>
 ((cs30[1]?).bind AV.asSl).bind fun l32 =>
 ((some p29.2).bind (AV.asInt .i64)).bind fun n33 =>
 newK q28.2 (.cells [.int .i64 0,(⟨none,0,.is 0⟩:Sl).v] T.ko) fun h34r h34 =>
 (h34.puts h34r [.int .i64 n31,l32.v]).bind fun h35 =>
 ((h35.cell (h34r.add 1)).bind AV.asSl).bind fun l36 =>
 go (.pt F.kir Td.kq2 [(2,.func (.func F.kfv) [] []),(3,.ptr (some h5r)),(4,.ptr (some h6r)),(6,.ptr (some h7r)),(8,.ptr (some h34r)),(9,.int .i64 n33),(35,.int .i64 (l36.len:Int)),(36,.int .i64 0)]) h35) none))):=(ke _ h).trans (by kernel_rfl)
theorem kbea(a1:Int)(a2:Sl)(h:AH):go (.fn F.kro [.agg [.int .i64 a1,a2.v]]) h =
 newK h (.cells [.int .i64 a1,a2.v] T.ko) fun h3r h3 =>
 some (.func (.func F.kb4) [] [.ptr (some h3r)],h3):=(ke _ h).trans (by kernel_rfl)
theorem kbdh(a1:AV)(h:AH):go (.fn F.kuj [a1]) h =
 (go (.fn F.kfd [(⟨none,0,.is 0⟩:Sl).v,a1]) h).bind fun q2 =>
 ((some q2.1).bind AV.asSl).bind fun l3 =>
 some (l3.v,q2.2):=(ke _ h).trans (by kernel_rfl)
theorem k8d(a1:Sl)(h:AH):go (.fn F.kb6 [a1.v,.func (.func F.kem) [] []]) h =
 go (.pt F.kb6 Td.keb [(0,a1.v),(1,.func (.func F.kem) [] []),(7,.int .i64 (a1.len:Int)),(8,.int .i64 0)]) h:=(ke _ h).trans (by kernel_rfl)
theorem k8g(a1 a2 a3:Int)(h:AH):go (.fn F.kbu [.int .u64 a1,.int .u64 a2,.int .u64 a3]) h =
 cond (decide (a3=0)) (
 (h.cell (.old ⟨Gl.math_bits_divideError,0,none⟩)).bind fun v4 =>
 none) (
 go (.pt F.kbu Td.kte [(0,.int .u64 a1),(1,.int .u64 a2),(2,.int .u64 a3)]) h):=(ke _ h).trans (by kernel_rfl)
theorem kbdj(a1:Int)(a2 a3:Sl)(a4 a5:Int)(h:AH):go (.pt F.kez Td.kk0 [(1,.int .u64 a1),(5,a2.v),(12,a3.v),(13,.int .i64 a4),(14,.int .i64 a5)]) h =
 cond (decide (a5<a4)) (
 (idx a3.ref a3.len a5 1).bind fun r6 =>
 ((h.cell r6).bind (AV.asInt .u64)).bind fun n7 =>
 (idx a2.ref a2.len a5 1).bind fun r8 =>
 ((h.cell r8).bind (AV.asInt .u64)).bind fun n9 =>
 cond (decide (a1<0)) none (
 (idx a2.ref a2.len a5 1).bind fun r10 =>
 (h.puts r10 [.int .u64 (ior .u64 n9 (ishl .u64 n7 a1))]).bind fun h11 =>
 cond (decide (a1>0)) (
 cond (decide ((IntKind.wrap .u64 (64-a1))<0)) none (
 (idx a2.ref a2.len (IntKind.wrap .i64 (a5+1)) 1).bind fun r12 =>
 (h11.puts r12 [.int .u64 (ishr .u64 n7 (IntKind.wrap .u64 (64-a1)))]).bind fun h13 =>
 go (.pt F.kez Td.kk0 [(1,.int .u64 a1),(5,a2.v),(12,a3.v),(13,.int .i64 a4),(14,.int .i64 (IntKind.wrap .i64 (a5+1)))]) h13)) (
 go (.pt F.kez Td.kk0 [(1,.int .u64 a1),(5,a2.v),(12,a3.v),(13,.int .i64 a4),(14,.int .i64 (IntKind.wrap .i64 (a5+1)))]) h11))) (
 some (a2.v,h)):=(ke _ h).trans (by kernel_rfl)
theorem kbbx(a1 a2 a3 a4 a5:Int)(h:AH):go (.fn F.kgc [.int .u64 a1,.int .u64 a2,.int .u64 a3,.int .u64 a4,.int .u64 a5]) h =
 cond (decide (a1≥a4)) (
 some (.int .u64 18446744073709551615,h)) (
 (go (.fn F.kbu [.int .u64 a1,.int .u64 a2,.int .u64 a4]) h).bind fun q6 =>
 (AV.asTup2 q6.1).bind fun p7 =>
 ((some p7.1).bind (AV.asInt .u64)).bind fun n8 =>
 ((some p7.2).bind (AV.asInt .u64)).bind fun n9 =>
 go (.pt F.kgc Td.kll [(2,.int .u64 a3),(3,.int .u64 a4),(4,.int .u64 a5),(11,.int .u64 n8),(12,.int .u64 n9)]) q6.2):=(ke _ h).trans (by kernel_rfl)
theorem kbfj(a1:Int)(a2 a3:Sl)(a4:Int)(a5:Sl)(a6 a7:Int)(a8:Sl)(h:AH):go (.pt F.kb8 Td.kpn [(6,.int .u64 a1),(7,a2.v),(8,a3.v),(9,.int .i64 a4),(10,a5.v),(11,.int .i64 a6),(12,.int .u64 a7),(13,a8.v)]) h =
 (go (.fn F.kfw [.int .u64 a7]) h).bind fun q9 =>
 ((some q9.1).bind AV.asSl).bind fun l10 =>
 (go (.fn F.kcv [a3.v,l10.v]) q9.2).bind fun q11 =>
 ((some q11.1).bind AV.asSl).bind fun l12 =>
 (go (.fn F.kge [a8.v]) q11.2).bind fun q13 =>
 ((some q13.1).bind AV.asSl).bind fun l14 =>
 (go (.fn F.kbq [l14.v]) q13.2).bind fun q15 =>
 ((some q15.1).bind AV.asSl).bind fun l16 =>
 (go (.fn F.ke3 [l16.v,l12.v]) q15.2).bind fun q17 =>
 ((some q17.1).bind (AV.asInt .i64)).bind fun n18 =>
 cond (decide (n18≥0)) (
 (go (.fn F.kdf [a8.v,l12.v]) q17.2).bind fun q19 =>
 ((some q19.1).bind AV.asSl).bind fun l20 =>
 (copyH l20 a8 1 q19.2).bind fun h21 =>
 (idx a5.ref a5.len a6 1).bind fun r22 =>
 (h21.puts r22 [.int .u64 a7]).bind fun h23 =>
 go (.pt F.kb8 Td.kpf [(6,.int .u64 a1),(7,a2.v),(8,a3.v),(9,.int .i64 a4),(10,a5.v),(11,.int .i64 (IntKind.wrap .i64 (a6-1)))]) h23) (
 go (.pt F.kb8 Td.kpn [(6,.int .u64 a1),(7,a2.v),(8,a3.v),(9,.int .i64 a4),(10,a5.v),(11,.int .i64 a6),(12,.int .u64 (IntKind.wrap .u64 (a7-1))),(13,a8.v)]) q17.2):=(ke _ h).trans (by kernel_rfl)
theorem kbcv(a1:Int)(a2 a3 a4:Sl)(a5 a6:Int)(h:AH):go (.pt F.kb8 Td.kkm [(6,.int .u64 a1),(10,a2.v),(15,a3.v),(16,a4.v),(112,.int .i64 a5),(113,.int .i64 a6)]) h =
 cond (decide (a6<a5)) (
 (idx a3.ref a3.len a6 1).bind fun r7 =>
 ((h.cell r7).bind (AV.asInt .u64)).bind fun n8 =>
 cond (decide (a1<0)) none (
 (idx a4.ref a4.len a6 1).bind fun r9 =>
 (h.puts r9 [.int .u64 (ishr .u64 n8 a1)]).bind fun h10 =>
 cond (decide (a1>0)) (
 cond (decide ((IntKind.wrap .i64 (a6+1))<(a3.len:Int))) (
 (idx a4.ref a4.len a6 1).bind fun r11 =>
 ((h10.cell r11).bind (AV.asInt .u64)).bind fun n12 =>
 (idx a3.ref a3.len (IntKind.wrap .i64 (a6+1)) 1).bind fun r13 =>
 ((h10.cell r13).bind (AV.asInt .u64)).bind fun n14 =>
 cond (decide ((IntKind.wrap .u64 (64-a1))<0)) none (
 (idx a4.ref a4.len a6 1).bind fun r15 =>
 (h10.puts r15 [.int .u64 (ior .u64 n12 (ishl .u64 n14 (IntKind.wrap .u64 (64-a1))))]).bind fun h16 =>
 go (.pt F.kb8 Td.kkm [(6,.int .u64 a1),(10,a2.v),(15,a3.v),(16,a4.v),(112,.int .i64 a5),(113,.int .i64 (IntKind.wrap .i64 (a6+1)))]) h16)) (
 go (.pt F.kb8 Td.kkm [(6,.int .u64 a1),(10,a2.v),(15,a3.v),(16,a4.v),(112,.int .i64 a5),(113,.int .i64 (IntKind.wrap .i64 (a6+1)))]) h10)) (
 go (.pt F.kb8 Td.kkm [(6,.int .u64 a1),(10,a2.v),(15,a3.v),(16,a4.v),(112,.int .i64 a5),(113,.int .i64 (IntKind.wrap .i64 (a6+1)))]) h10))) (
 (go (.fn F.kbq [a2.v]) h).bind fun q17 =>
 ((some q17.1).bind AV.asSl).bind fun l18 =>
 (go (.fn F.kbq [a4.v]) q17.2).bind fun q19 =>
 ((some q19.1).bind AV.asSl).bind fun l20 =>
 some (.tup [l18.v,l20.v],q19.2)):=(ke _ h).trans (by kernel_rfl)
theorem kbgj(a1 a2:Int)(h:AH):go (.fn F.klk [.int .u64 a1,.int .u64 a2]) h =
 some (.tup [.int .u64 (IntKind.wrap .u64 ((IntKind.wrap .u64 ((IntKind.wrap .u64 ((ishr .u64 a1 32)*(ishr .u64 a2 32)))+(ishr .u64 (IntKind.wrap .u64 ((IntKind.wrap .u64 ((ishr .u64 a1 32)*(iand .u64 a2 4294967295)))+(ishr .u64 (IntKind.wrap .u64 ((iand .u64 a1 4294967295)*(iand .u64 a2 4294967295))) 32))) 32)))+(ishr .u64 (IntKind.wrap .u64 ((iand .u64 (IntKind.wrap .u64 ((IntKind.wrap .u64 ((ishr .u64 a1 32)*(iand .u64 a2 4294967295)))+(ishr .u64 (IntKind.wrap .u64 ((iand .u64 a1 4294967295)*(iand .u64 a2 4294967295))) 32))) 4294967295)+(IntKind.wrap .u64 ((iand .u64 a1 4294967295)*(ishr .u64 a2 32))))) 32))),.int .u64 (IntKind.wrap .u64 (a1*a2))],h):=(ke _ h).trans (by kernel_rfl)
theorem k2s(a1:Sl)(a2 a3:Int)(h:AH):go (.pt F.kbm Td.kcl [(0,a1.v),(1,.func (.func F.kdv) [] []),(7,.int .i64 a2),(8,.int .i64 a3)]) h =
 cond (decide (a3<a2)) (
 (idx a1.ref a1.len a3 1).bind fun r4 =>
 ((h.cell r4).bind (AV.asInt .i64)).bind fun n5 =>
 (go (.fn F.kdv [.int .i64 n5]) h).bind fun q6 =>
 ((some q6.1).bind AV.asBool).bind fun b7 =>
 cond b7 (
 some (.int .i64 a3,q6.2)) (
 go (.pt F.kbm Td.kcl [(0,a1.v),(1,.func (.func F.kdv) [] []),(7,.int .i64 a2),(8,.int .i64 (IntKind.wrap .i64 (a3+1)))]) q6.2)) (
 some (.int .i64 (-1),h)):=(ke _ h).trans (by kernel_rfl)
theorem ky9(a1:Ref)(a2:Sl)(a3:Int)(a4 a5:Ref)(a6:Sl)(a7 a8:Int)(l:Nat)(h:AH):go (.rpt l F.kcu Td.knx [(5,.ptr (some a1)),(6,a2.v),(7,.int .i64 a3),(9,.ptr (some a4)),(12,.ptr (some a5)),(33,a6.v),(34,.int .i64 a7),(35,.int .i64 a8)]) h =
 cond (decide (a8<a7)) (
 (idx a6.ref a6.len a8 1).bind fun r9 =>
 ((h.cell r9).bind (AV.asInt .i64)).bind fun n10 =>
 ((h.cell (a5.add 0)).bind (AV.asInt .i64)).bind fun n11 =>
 ((h.cell a1).bind AV.asSl).bind fun l12 =>
 (idx l12.ref l12.len n10 1).bind fun r13 =>
 ((h.cell r13).bind (AV.asInt .i64)).bind fun n14 =>
 (h.puts (a5.add 0) [.int .i64 (IntKind.wrap .i64 (n11+n14))]).bind fun h15 =>
 go (.rpt l F.kcu Td.knx [(5,.ptr (some a1)),(6,a2.v),(7,.int .i64 a3),(9,.ptr (some a4)),(12,.ptr (some a5)),(33,a6.v),(34,.int .i64 a7),(35,.int .i64 (IntKind.wrap .i64 (a8+1)))]) h15) (
 ((h.cell a4).bind AV.asSl).bind fun l16 =>
 ((h.cell (a5.add 0)).bind (AV.asInt .i64)).bind fun n17 =>
 ((h.cell (a5.add 1)).bind (AV.asInt .i64)).bind fun n18 =>
 newK h (.cells [.int .i64 n17,.int .i64 n18] T.kca) fun h19r h19 =>
 (ky Pg T.kca ((⟨some h19r,1,.is 1⟩:Sl).v) h19).bind fun p21 =>
 (ku Pg l16 p21.1 p21.2 T.kca 2 h19).bind fun q20 =>
 (AV.asSl q20.1).bind fun l22 =>
 (q20.2.puts a4 [l22.v]).bind fun h23 =>
 kcc l none h23):=(ke _ h).trans (by kernel_rfl)
theorem kbib(a1:Int)(a2:Sl)(a3:Int)(h:AH):go (.fn F.ke7 [.agg [.int .i64 a1,a2.v],.int .i64 a3]) h =
 newK h (.cells [.int .i64 a1,a2.v] T.ko) fun h4r h4 =>
 ((h4.cell (h4r.add 1)).bind AV.asSl).bind fun l5 =>
 (idx l5.ref l5.len (IntKind.wrap .i64 (Int.tdiv a3 64)) 1).bind fun r6 =>
 ((h4.cell r6).bind (AV.asInt .u64)).bind fun n7 =>
 go (.pt F.ke7 Td.kqk [(1,.int .i64 a3),(5,.int .u64 n7),(6,.int .i64 0)]) h4:=(ke _ h).trans (by kernel_rfl)
theorem kw4(a1:Int)(a2:Sl)(a3 a4:Ref)(a5 a6 a7:Int)(h:AH):go (.pt F.kcg Td.kow [(0,.int .i64 a1),(1,a2.v),(4,.ptr (some a3)),(6,.ptr (some a4)),(7,.int .i64 a5),(9,.int .u64 a6),(10,.int .i64 a7)]) h =
 (idx a2.ref a2.len a5 1).bind fun r8 =>
 ((h.cell r8).bind (AV.asInt .i64)).bind fun n9 =>
 cond (decide (a7<(Int.tmod n9 64))) (
 go (.pt F.kcg Td.kow [(0,.int .i64 a1),(1,a2.v),(4,.ptr (some a3)),(6,.ptr (some a4)),(7,.int .i64 a5),(9,.int .u64 (IntKind.wrap .u64 (a6*2))),(10,.int .i64 (IntKind.wrap .i64 (a7+1)))]) h) (
 ((h.cell (a4.add 1)).bind AV.asSl).bind fun l10 =>
 (idx a2.ref a2.len a5 1).bind fun r11 =>
 ((h.cell r11).bind (AV.asInt .i64)).bind fun n12 =>
 ((h.cell (a4.add 1)).bind AV.asSl).bind fun l13 =>
 (idx a2.ref a2.len a5 1).bind fun r14 =>
 ((h.cell r14).bind (AV.asInt .i64)).bind fun n15 =>
 (idx l13.ref l13.len (IntKind.wrap .i64 (Int.tdiv n15 64)) 1).bind fun r16 =>
 ((h.cell r16).bind (AV.asInt .u64)).bind fun n17 =>
 (idx l10.ref l10.len (IntKind.wrap .i64 (Int.tdiv n12 64)) 1).bind fun r18 =>
 (h.puts r18 [.int .u64 (IntKind.wrap .u64 (n17+a6))]).bind fun h19 =>
 go (.pt F.kcg Td.kkg [(0,.int .i64 a1),(1,a2.v),(4,.ptr (some a3)),(6,.ptr (some a4)),(7,.int .i64 (IntKind.wrap .i64 (a5+1)))]) h19):=(ke _ h).trans (by kernel_rfl)
theorem k6c(a1:Int)(h:AH):go (.fn F.kxs [.int .u64 a1]) h =
 newK h (.cells [.int .u64 a1] T.kf) fun h2r h2 =>
 some (.func (.func F.kb1) [] [.ptr (some h2r)],h2):=(ke _ h).trans (by kernel_rfl)
theorem kbgu(a1:Int)(a2 a3:Ref)(a4:Int)(a5:AV)(h:AH):go (.pt F.kcm Tr.ksc [(0,.int .u64 a1),(1,.ptr (some a2)),(2,.ptr (some a3)),(4,.int .u64 a4),(5,a5)]) h =
 funcK a5 fun g10 f11 c12 =>
 newM h (kcx Fx.kvd F.kcm 0 .ready none [(0,.int .u64 a1),(1,.ptr (some a2)),(2,.ptr (some a3)),(4,.int .u64 a4),(5,a5)]) fun m6 h7 =>
 (callF Pg go g10 (f11++[.func (.yield m6) [] []]++c12) h7).bind fun q8 =>
 (kc2 m6 q8.2).bind fun p9 =>
 go (.pt F.kcm ((p9.1.map Item.code).toList++Ta.kl9) [(0,.int .u64 a1),(1,.ptr (some a2)),(2,.ptr (some a3)),(4,.int .u64 a4),(5,a5)]) p9.2:=(ke _ h).trans (by kernel_rfl)
theorem k8k(a1:Sl)(h:AH):go (.fn F.kdu [a1.v,.func (.func F.kdo) [] []]) h =
 (go (.fn F.kbm [a1.v,.func (.func F.kdo) [] []]) h).bind fun q2 =>
 ((some q2.1).bind (AV.asInt .i64)).bind fun n3 =>
 some (.bool (decide (n3≥0)),q2.2):=(ke _ h).trans (by kernel_rfl)
theorem k9i(a1:Sl)(h:AH):go (.fn F.khi [a1.v]) h =
 newM h (.map [] 0) fun h2m h2 =>
 go (.pt F.khi Td.kqa [(3,.map (some h2m)),(7,a1.v),(8,.int .i64 (a1.len:Int)),(9,.int .i64 0)]) h2:=(ke _ h).trans (by kernel_rfl)
theorem k38(a1:Sl)(a2:Option Ref)(h:AH):go (.fn F.kdu [a1.v,.func (.func F.kdn) [] [.ptr a2]]) h =
 (go (.fn F.kbm [a1.v,.func (.func F.kdn) [] [.ptr a2]]) h).bind fun q3 =>
 ((some q3.1).bind (AV.asInt .i64)).bind fun n4 =>
 some (.bool (decide (n4≥0)),q3.2):=(ke _ h).trans (by kernel_rfl)
theorem kbez(a1:Sl)(a2:Option Ref)(h:AH):go (.fn F.kb2 [a1.v,.ptr a2]) h =
 a2.bind fun r3 =>
 ((h.cell r3).bind AV.asSl).bind fun l4 =>
 (go (.fn F.kkc [l4.v,a1.v]) h).bind fun q5 =>
 ((some q5.1).bind AV.asBool).bind fun b6 =>
 some (.bool (!b6),q5.2):=(ke _ h).trans (by kernel_rfl)
theorem kyq(a1:Sl)(a2 a3:Int)(h:AH):go (.pt F.kew Td.ki8 [(0,a1.v),(4,.int .u64 a2),(40,.int .i64 a3)]) h =
 cond (decide (a3<6)) (
 (idx a1.ref a1.len 0 1).bind fun r4 =>
 ((h.cell r4).bind (AV.asInt .u64)).bind fun n5 =>
 go (.pt F.kew Td.ki8 [(0,a1.v),(4,.int .u64 (IntKind.wrap .u64 (a2*(IntKind.wrap .u64 (2-(IntKind.wrap .u64 (n5*a2))))))),(40,.int .i64 (IntKind.wrap .i64 (a3+1)))]) h) (
 (go (.fn F.kge [a1.v]) h).bind fun q6 =>
 ((some q6.1).bind AV.asSl).bind fun l7 =>
 newK q6.2 (.cells [l7.v,.int .u64 (IntKind.wrap .u64 (0-a2)),(⟨none,0,.is 0⟩:Sl).v,(⟨none,0,.is 0⟩:Sl).v] T.kco) fun h8r h8 =>
 (go (.fn F.klj [.ptr (some h8r),.int .i64 1]) h8).bind fun q9 =>
 ((some q9.1).bind AV.asSl).bind fun l10 =>
 (q9.2.puts (h8r.add 2) [l10.v]).bind fun h11 =>
 (go (.fn F.klj [.ptr (some h8r),.int .i64 2]) h11).bind fun q12 =>
 ((some q12.1).bind AV.asSl).bind fun l13 =>
 (q12.2.puts (h8r.add 3) [l13.v]).bind fun h14 =>
 some (.tup [.ptr (some h8r),.int .i64 0],h14)):=(ke _ h).trans (by kernel_rfl)
theorem kbe6(a1:Option Ref)(a2 a3:Sl)(h:AH):go (.fn F.kb7 [.ptr a1,a2.v,a3.v]) h =
 newK h (.cells [a2.v] T.kr) fun h4r h4 =>
 (go (.fn F.ks8 [.ptr a1,(⟨some h4r,1,.is 1⟩:Sl).v]) h4).bind fun q5 =>
 ((some q5.1).bind AV.asBool).bind fun b6 =>
 cond (!b6) (
 some (.tup [(⟨none,0,.is 0⟩:Sl).v,.int .i64 1],q5.2)) (
 (go (.fn F.kcf [a3.v]) q5.2).bind fun q7 =>
 ((some q7.1).bind AV.asBool).bind fun b8 =>
 cond (!b8) (
 some (.tup [(⟨none,0,.is 0⟩:Sl).v,.int .i64 1],q7.2)) (
 cond (decide ((a3.len:Int)>8)) (
 some (.tup [(⟨none,0,.is 0⟩:Sl).v,.int .i64 1],q7.2)) (
 a1.bind fun r9 =>
 ((q7.2.cell (r9.add 2)).bind AV.asSl).bind fun l10 =>
 newK q7.2 (.cells [l10.v] T.kr) fun h11r h11 =>
 a1.bind fun r12 =>
 ((h11.cell (r12.add 3)).bind AV.asSl).bind fun l13 =>
 (go (.fn F.kbk [.ptr a1,a2.v,l13.v]) h11).bind fun q14 =>
 ((some q14.1).bind AV.asSl).bind fun l15 =>
 go (.pt F.kb7 Td.krl [(0,.ptr a1),(2,a3.v),(8,.func (.func F.kbk) [.ptr a1] []),(9,(⟨some h11r,1,.is 1⟩:Sl).v),(10,l15.v),(44,.int .i64 0)]) q14.2))):=(ke _ h).trans (by kernel_rfl)
theorem k41(a1 a2:Sl)(h:AH):go (.fn F.ki3 [a1.v,a2.v]) h =
 newK h (.cells [a1.v,a2.v] T.kr) fun h3r h3 =>
 (go (.fn F.kgn [(⟨some h3r,2,.is 2⟩:Sl).v]) h3).bind fun q4 =>
 ((some q4.1).bind AV.asBool).bind fun b5 =>
 cond (!b5) (
 some (.tup [(⟨none,0,.is 0⟩:Sl).v,.int .i64 1],q4.2)) (
 (go (.fn F.ke3 [a1.v,a2.v]) q4.2).bind fun q6 =>
 ((some q6.1).bind (AV.asInt .i64)).bind fun n7 =>
 cond (decide (n7<0)) (
 some (.tup [(⟨none,0,.is 0⟩:Sl).v,.int .i64 2],q6.2)) (
 (go (.fn F.kdf [a1.v,a2.v]) q6.2).bind fun q8 =>
 ((some q8.1).bind AV.asSl).bind fun l9 =>
 (go (.fn F.kle [l9.v]) q8.2).bind fun q10 =>
 (AV.asTup2 q10.1).bind fun p11 =>
 ((some p11.1).bind AV.asSl).bind fun l12 =>
 ((some p11.2).bind (AV.asInt .i64)).bind fun n13 =>
 some (.tup [l12.v,.int .i64 n13],q10.2))):=(ke _ h).trans (by kernel_rfl)
theorem kbhx(a1:Int)(h:AH):go (.fn F.kpy [.int .i64 a1]) h =
 newK h (.cells [.bool false,(⟨none,0,.is 0⟩:Sl).v] T.kn) fun h2r h2 =>
 cond (decide (a1<0)) (
 (go (.fn F.kfw [.int .u64 (IntKind.wrap .u64 (0-(IntKind.wrap .u64 a1)))]) h2).bind fun q3 =>
 ((some q3.1).bind AV.asSl).bind fun l4 =>
 (go (.fn F.kbs [.bool true,l4.v]) q3.2).bind fun q5 =>
 (AV.asAgg q5.1).bind fun cs6 =>
 cond (Nat.beq cs6.length 2) (
 ((cs6[0]?).bind AV.asBool).bind fun b7 =>
 ((cs6[1]?).bind AV.asSl).bind fun l8 =>
 (q5.2.puts h2r [.bool b7,l8.v]).bind fun h9 =>
 ((h9.cell (h2r.add 0)).bind AV.asBool).bind fun b10 =>
 ((h9.cell (h2r.add 1)).bind AV.asSl).bind fun l11 =>
 some (.agg [.bool b10,l11.v],h9)) none) (
 (go (.fn F.kfw [.int .u64 (IntKind.wrap .u64 a1)]) h2).bind fun q12 =>
 ((some q12.1).bind AV.asSl).bind fun l13 =>
 (go (.fn F.kbs [.bool false,l13.v]) q12.2).bind fun q14 =>
 (AV.asAgg q14.1).bind fun cs15 =>
 cond (Nat.beq cs15.length 2) (
 ((cs15[0]?).bind AV.asBool).bind fun b16 =>
 ((cs15[1]?).bind AV.asSl).bind fun l17 =>
 (q14.2.puts h2r [.bool b16,l17.v]).bind fun h18 =>
 ((h18.cell (h2r.add 0)).bind AV.asBool).bind fun b19 =>
 ((h18.cell (h2r.add 1)).bind AV.asSl).bind fun l20 =>
 some (.agg [.bool b19,l20.v],h18)) none):=(ke _ h).trans (by kernel_rfl)
theorem kbg5(a1:Sl)(a2 a3 a4 a5 a6 a7 a8:Ref)(h:AH):go (.pt F.kev Td.kqe [(1,a1.v),(7,.ptr (some a2)),(9,.ptr (some a3)),(10,.ptr (some a4)),(12,.func (.func F.kkf) [] [.ptr (some a5),.ptr (some a6),.ptr (some a7),.ptr (some a8)])]) h =
 ((h.cell a2).bind AV.asSl).bind fun l9 =>
 cond (decide ((l9.len:Int)>0)) (
 (go (.fn F.kkf [.ptr (some a5),.ptr (some a6),.ptr (some a7),.ptr (some a8)]) h).bind fun q10 =>
 (AV.asTup0 q10.1).bind fun _ =>
 go (.pt F.kev Td.kqe [(1,a1.v),(7,.ptr (some a2)),(9,.ptr (some a3)),(10,.ptr (some a4)),(12,.func (.func F.kkf) [] [.ptr (some a5),.ptr (some a6),.ptr (some a7),.ptr (some a8)])]) q10.2) (
 ((h.cell a3).bind AV.asSl).bind fun l11 =>
 newK h (.cells [.int .u64 1] T.kf) fun h12r h12 =>
 (go (.fn F.kda [l11.v,(⟨some h12r,1,.is 1⟩:Sl).v]) h12).bind fun q13 =>
 ((some q13.1).bind (AV.asInt .i64)).bind fun n14 =>
 cond (!decide (n14=0)) (
 some (.tup [(⟨none,0,.is 0⟩:Sl).v,.int .i64 6],q13.2)) (
 newK q13.2 (.cells [.bool false,(⟨none,0,.is 0⟩:Sl).v] T.kn) fun h15r h15 =>
 newK h15 (.cells [.bool false,(⟨none,0,.is 0⟩:Sl).v] T.kn) fun h16r h16 =>
 ((h16.cell (a4.add 0)).bind AV.asBool).bind fun b17 =>
 ((h16.cell (a4.add 1)).bind AV.asSl).bind fun l18 =>
 (go (.fn F.kbs [.bool false,a1.v]) h16).bind fun q19 =>
 (AV.asAgg q19.1).bind fun cs20 =>
 cond (Nat.beq cs20.length 2) (
 ((cs20[0]?).bind AV.asBool).bind fun b21 =>
 ((cs20[1]?).bind AV.asSl).bind fun l22 =>
 whenK (SameAt h16 q19.2 a4 2) (
 whenK (SameAt h16 q19.2 h16r 0) (
 whenK (SameAt h16 q19.2 h15r 0) (
 (go (.fn F.kmf [.agg [.bool b17,l18.v],.agg [.bool b21,l22.v]]) q19.2).bind fun q23 =>
 (AV.asTup3 q23.1).bind fun p24 =>
 (AV.asAgg p24.1).bind fun cs25 =>
 cond (Nat.beq cs25.length 2) (
 ((cs25[0]?).bind AV.asBool).bind fun b26 =>
 ((cs25[1]?).bind AV.asSl).bind fun l27 =>
 (AV.asAgg p24.2.1).bind fun cs28 =>
 cond (Nat.beq cs28.length 2) (
 ((cs28[0]?).bind AV.asBool).bind fun b29 =>
 ((cs28[1]?).bind AV.asSl).bind fun l30 =>
 ((some p24.2.2).bind (AV.asInt .i64)).bind fun n31 =>
 whenK (SameAt q19.2 q23.2 h16r 0) (
 whenK (SameAt q19.2 q23.2 h15r 0) (
 (q23.2.puts h15r [.bool b26,l27.v]).bind fun h32 =>
 (h32.puts h16r [.bool b29,l30.v]).bind fun h33 =>
 ((h33.cell (h16r.add 1)).bind AV.asSl).bind fun l34 =>
 some (.tup [l34.v,.int .i64 n31],h33)))) none) none)))) none)):=(ke _ h).trans (by kernel_rfl)
theorem kbeu(a1:Sl)(h:AH):go (.fn F.khj [a1.v]) h =
 (go (.fn F.k3g [a1.v,.func (.func F.kei) [] []]) h).bind fun q2 =>
 ((some q2.1).bind AV.asBool).bind fun b3 =>
 some (.bool (!b3),q2.2):=(ke _ h).trans (by kernel_rfl)
theorem kbdc(a1:Bool)(a2:Sl)(h:AH):go (.fn F.kuy [.agg [.bool a1,a2.v]]) h =
 newK h (.cells [.bool a1,a2.v] T.kn) fun h3r h3 =>
 newK h3 (.cells [.bool false,(⟨none,0,.is 0⟩:Sl).v] T.kn) fun h4r h4 =>
 ((h4.cell (h3r.add 0)).bind AV.asBool).bind fun b5 =>
 ((h4.cell (h3r.add 1)).bind AV.asSl).bind fun l6 =>
 (go (.fn F.kp9 [.agg [.bool b5,l6.v]]) h4).bind fun q7 =>
 ((some q7.1).bind AV.asBool).bind fun b8 =>
 cond (!b8) (
 (q7.2.puts h4r [.bool false,(⟨none,0,.is 0⟩:Sl).v]).bind fun h9 =>
 ((h9.cell (h4r.add 0)).bind AV.asBool).bind fun b10 =>
 ((h9.cell (h4r.add 1)).bind AV.asSl).bind fun l11 =>
 some (.agg [.bool b10,l11.v],h9)) (
 ((q7.2.cell (h3r.add 0)).bind AV.asBool).bind fun b12 =>
 ((q7.2.cell (h3r.add 1)).bind AV.asSl).bind fun l13 =>
 (go (.fn F.kbs [.bool (!b12),l13.v]) q7.2).bind fun q14 =>
 (AV.asAgg q14.1).bind fun cs15 =>
 cond (Nat.beq cs15.length 2) (
 ((cs15[0]?).bind AV.asBool).bind fun b16 =>
 ((cs15[1]?).bind AV.asSl).bind fun l17 =>
 (q14.2.puts h4r [.bool b16,l17.v]).bind fun h18 =>
 ((h18.cell (h4r.add 0)).bind AV.asBool).bind fun b19 =>
 ((h18.cell (h4r.add 1)).bind AV.asSl).bind fun l20 =>
 some (.agg [.bool b19,l20.v],h18)) none):=(ke _ h).trans (by kernel_rfl)
theorem k5n(a1:Bool)(a2:Sl)(a3:Bool)(a4:Sl)(h:AH):go (.fn F.krr [.agg [.bool a1,a2.v],.agg [.bool a3,a4.v]]) h =
 newK h (.cells [.bool a1,a2.v] T.kn) fun h5r h5 =>
 newK h5 (.cells [.bool a3,a4.v] T.kn) fun h6r h6 =>
 newK h6 (.cells [.bool false,(⟨none,0,.is 0⟩:Sl).v] T.kn) fun h7r h7 =>
 ((h7.cell (h5r.add 0)).bind AV.asBool).bind fun b8 =>
 ((h7.cell (h5r.add 1)).bind AV.asSl).bind fun l9 =>
 ((h7.cell (h6r.add 0)).bind AV.asBool).bind fun b10 =>
 ((h7.cell (h6r.add 1)).bind AV.asSl).bind fun l11 =>
 newK h7 (.cells [.bool b8,l9.v,.bool b10,l11.v] T.kn) fun h12r h12 =>
 (go (.fn F.khj [(⟨some h12r,2,.is 2⟩:Sl).v]) h12).bind fun q13 =>
 ((some q13.1).bind AV.asBool).bind fun b14 =>
 cond (!b14) (
 (q13.2.puts h7r [.bool false,(⟨none,0,.is 0⟩:Sl).v]).bind fun h15 =>
 ((h15.cell (h7r.add 0)).bind AV.asBool).bind fun b16 =>
 ((h15.cell (h7r.add 1)).bind AV.asSl).bind fun l17 =>
 some (.tup [.agg [.bool b16,l17.v],.int .i64 1],h15)) (
 ((q13.2.cell (h5r.add 0)).bind AV.asBool).bind fun b18 =>
 ((q13.2.cell (h6r.add 0)).bind AV.asBool).bind fun b19 =>
 cond (b18==b19) (
 ((q13.2.cell (h5r.add 1)).bind AV.asSl).bind fun l20 =>
 ((q13.2.cell (h6r.add 1)).bind AV.asSl).bind fun l21 =>
 (go (.fn F.kkh [l20.v,l21.v]) q13.2).bind fun q22 =>
 (AV.asTup2 q22.1).bind fun p23 =>
 ((some p23.1).bind AV.asSl).bind fun l24 =>
 ((some p23.2).bind (AV.asInt .i64)).bind fun n25 =>
 ((q22.2.cell (h5r.add 0)).bind AV.asBool).bind fun b26 =>
 (go (.fn F.kbs [.bool b26,l24.v]) q22.2).bind fun q27 =>
 (AV.asAgg q27.1).bind fun cs28 =>
 cond (Nat.beq cs28.length 2) (
 ((cs28[0]?).bind AV.asBool).bind fun b29 =>
 ((cs28[1]?).bind AV.asSl).bind fun l30 =>
 (q27.2.puts h7r [.bool b29,l30.v]).bind fun h31 =>
 ((h31.cell (h7r.add 0)).bind AV.asBool).bind fun b32 =>
 ((h31.cell (h7r.add 1)).bind AV.asSl).bind fun l33 =>
 some (.tup [.agg [.bool b32,l33.v],.int .i64 n25],h31)) none) (
 ((q13.2.cell (h5r.add 1)).bind AV.asSl).bind fun l34 =>
 ((q13.2.cell (h6r.add 1)).bind AV.asSl).bind fun l35 =>
 (go (.fn F.kda [l34.v,l35.v]) q13.2).bind fun q36 =>
 ((some q36.1).bind (AV.asInt .i64)).bind fun n37 =>
 cond (decide (n37<0)) (
 ((q36.2.cell (h6r.add 0)).bind AV.asBool).bind fun b38 =>
 ((q36.2.cell (h6r.add 1)).bind AV.asSl).bind fun l39 =>
 ((q36.2.cell (h5r.add 0)).bind AV.asBool).bind fun b40 =>
 ((q36.2.cell (h5r.add 1)).bind AV.asSl).bind fun l41 =>
 (q36.2.puts h5r [.bool b38,l39.v]).bind fun h42 =>
 (h42.puts h6r [.bool b40,l41.v]).bind fun h43 =>
 ((h43.cell (h5r.add 1)).bind AV.asSl).bind fun l44 =>
 ((h43.cell (h6r.add 1)).bind AV.asSl).bind fun l45 =>
 (go (.fn F.ki3 [l44.v,l45.v]) h43).bind fun q46 =>
 (AV.asTup2 q46.1).bind fun p47 =>
 ((some p47.1).bind AV.asSl).bind fun l48 =>
 ((some p47.2).bind (AV.asInt .i64)).bind fun n49 =>
 ((q46.2.cell (h5r.add 0)).bind AV.asBool).bind fun b50 =>
 (go (.fn F.kbs [.bool b50,l48.v]) q46.2).bind fun q51 =>
 (AV.asAgg q51.1).bind fun cs52 =>
 cond (Nat.beq cs52.length 2) (
 ((cs52[0]?).bind AV.asBool).bind fun b53 =>
 ((cs52[1]?).bind AV.asSl).bind fun l54 =>
 (q51.2.puts h7r [.bool b53,l54.v]).bind fun h55 =>
 ((h55.cell (h7r.add 0)).bind AV.asBool).bind fun b56 =>
 ((h55.cell (h7r.add 1)).bind AV.asSl).bind fun l57 =>
 some (.tup [.agg [.bool b56,l57.v],.int .i64 n49],h55)) none) (
 ((q36.2.cell (h5r.add 1)).bind AV.asSl).bind fun l58 =>
 ((q36.2.cell (h6r.add 1)).bind AV.asSl).bind fun l59 =>
 (go (.fn F.ki3 [l58.v,l59.v]) q36.2).bind fun q60 =>
 (AV.asTup2 q60.1).bind fun p61 =>
 ((some p61.1).bind AV.asSl).bind fun l62 =>
 ((some p61.2).bind (AV.asInt .i64)).bind fun n63 =>
 ((q60.2.cell (h5r.add 0)).bind AV.asBool).bind fun b64 =>
 (go (.fn F.kbs [.bool b64,l62.v]) q60.2).bind fun q65 =>
 (AV.asAgg q65.1).bind fun cs66 =>
 cond (Nat.beq cs66.length 2) (
 ((cs66[0]?).bind AV.asBool).bind fun b67 =>
 ((cs66[1]?).bind AV.asSl).bind fun l68 =>
 (q65.2.puts h7r [.bool b67,l68.v]).bind fun h69 =>
 ((h69.cell (h7r.add 0)).bind AV.asBool).bind fun b70 =>
 ((h69.cell (h7r.add 1)).bind AV.asSl).bind fun l71 =>
 some (.tup [.agg [.bool b70,l71.v],.int .i64 n63],h69)) none))):=(ke _ h).trans (by kernel_rfl)
theorem kbkb(a1:Sl)(h:AH):go (.fn F.kce [a1.v]) h =
 go (.pt F.kce Td.km3 [(0,a1.v),(3,(⟨none,0,.is 0⟩:Sl).v),(4,.int .i64 0)]) h:=(ke _ h).trans (by kernel_rfl)
theorem kbcf(a1:Sl)(h:AH):go (.fn F.kr2 [a1.v]) h =
 (go (.fn F.kcj [a1.v]) h).bind fun q2 =>
 (AV.asTup2 q2.1).bind fun p3 =>
 ((some p3.1).bind AV.asSl).bind fun l4 =>
 ((some p3.2).bind AV.asBool).bind fun b5 =>
 cond (!b5) (
 some (.tup [(⟨none,0,.is 0⟩:Sl).v,.int .i64 4],q2.2)) (
 some (.tup [l4.v,.int .i64 0],q2.2)):=(ke _ h).trans (by kernel_rfl)
theorem k34(a1 a2:Sl)(h:AH):go (.fn F.krm [a1.v,a2.v]) h =
 (go (.fn F.kde [a1.v]) h).bind fun q3 =>
 ((some q3.1).bind AV.asBool).bind fun b4 =>
 (go (.fn F.kde [a2.v]) q3.2).bind fun q5 =>
 ((some q5.1).bind AV.asBool).bind fun b6 =>
 cond (!b4) (
 some (.tup [(⟨none,0,.is 0⟩:Sl).v,(⟨none,0,.is 0⟩:Sl).v,.int .i64 1],q5.2)) (
 cond (!b6) (
 some (.tup [(⟨none,0,.is 0⟩:Sl).v,(⟨none,0,.is 0⟩:Sl).v,.int .i64 1],q5.2)) (
 cond (decide ((a2.len:Int)=0)) (
 some (.tup [(⟨none,0,.is 0⟩:Sl).v,(⟨none,0,.is 0⟩:Sl).v,.int .i64 3],q5.2)) (
 (go (.fn F.kce [a1.v]) q5.2).bind fun q7 =>
 ((some q7.1).bind AV.asSl).bind fun l8 =>
 (go (.fn F.kce [a2.v]) q7.2).bind fun q9 =>
 ((some q9.1).bind AV.asSl).bind fun l10 =>
 (go (.fn F.kdh [l8.v,l10.v]) q9.2).bind fun q11 =>
 (AV.asTup2 q11.1).bind fun p12 =>
 ((some p12.1).bind AV.asSl).bind fun l13 =>
 ((some p12.2).bind AV.asSl).bind fun l14 =>
 (go (.fn F.kcj [l13.v]) q11.2).bind fun q15 =>
 (AV.asTup2 q15.1).bind fun p16 =>
 ((some p16.1).bind AV.asSl).bind fun l17 =>
 ((some p16.2).bind AV.asBool).bind fun b18 =>
 (go (.fn F.kcj [l14.v]) q15.2).bind fun q19 =>
 (AV.asTup2 q19.1).bind fun p20 =>
 ((some p20.1).bind AV.asSl).bind fun l21 =>
 ((some p20.2).bind AV.asBool).bind fun b22 =>
 some (.tup [l17.v,l21.v,.int .i64 0],q19.2)))):=(ke _ h).trans (by kernel_rfl)
theorem kyv(a1:Sl)(a2 a3:Int)(h:AH):go (.pt F.khl Td.kqq [(0,a1.v),(1,.int .i64 a2),(5,.int .i64 a3)]) h =
 cond (decide (a3<(a1.len:Int))) (
 (idx a1.ref a1.len a3 1).bind fun r4 =>
 ((h.cell r4).bind (AV.asInt .i64)).bind fun n5 =>
 cond (decide (n5=a2)) (
 some (.int .i64 a3,h)) (
 go (.pt F.khl Td.kqq [(0,a1.v),(1,.int .i64 a2),(5,.int .i64 (IntKind.wrap .i64 (a3+1)))]) h)) (
 some (.int .i64 (-1),h)):=(ke _ h).trans (by kernel_rfl)
theorem k4l(a1:Sl)(a2 a3:Int)(h:AH):go (.pt F.kfz Td.ko9 [(0,a1.v),(4,.int .i64 a2),(5,.int .u64 a3)]) h =
 cond (decide (a3>0)) (
 go (.pt F.kfz Td.ko9 [(0,a1.v),(4,.int .i64 (IntKind.wrap .i64 (a2+1))),(5,.int .u64 (IntKind.wrap .u64 (Int.tdiv a3 2)))]) h) (
 some (.int .i64 (IntKind.wrap .i64 (a2+(IntKind.wrap .i64 (64*(IntKind.wrap .i64 ((a1.len:Int)-1)))))),h)):=(ke _ h).trans (by kernel_rfl)
theorem k4h(a1 a2:Sl)(h:AH):go (.fn F.kc1 [a1.v,a2.v]) h =
 (kbr (IntKind.wrap .i64 ((a1.len:Int)+(a2.len:Int))) (IntKind.wrap .i64 ((a1.len:Int)+(a2.len:Int))) T.kf (Pg.bytesOf T.kf) [.int .u64 0] h).bind fun q3 =>
 go (.pt F.kc1 Td.kng [(0,a1.v),(1,a2.v),(5,q3.1.v),(6,.int .i64 0)]) q3.2:=(ke _ h).trans (by kernel_rfl)
theorem k6y(a1 a2:Sl)(h:AH):go (.fn F.khc [a1.v,a2.v]) h =
 cond (!decide ((a1.len:Int)=(a2.len:Int))) (
 cond (decide ((a1.len:Int)<(a2.len:Int))) (
 some (.int .i64 (-1),h)) (
 some (.int .i64 1,h))) (
 go (.pt F.khc Td.krf [(0,a1.v),(1,a2.v),(5,.int .i64 (IntKind.wrap .i64 ((a1.len:Int)-1)))]) h):=(ke _ h).trans (by kernel_rfl)
theorem k9n(a1 a2:Sl)(h:AH):go (.pt F.khd Td.ko5 [(8,a1.v),(9,a2.v)]) h =
 cond (decide ((a2.len:Int)>0)) (
 (go (.fn F.kub [a1.v,a2.v]) h).bind fun q3 =>
 ((some q3.1).bind AV.asSl).bind fun l4 =>
 go (.pt F.khd Td.ko5 [(8,a2.v),(9,l4.v)]) q3.2) (
 some (.tup [a1.v,.int .i64 0],h)):=(ke _ h).trans (by kernel_rfl)
theorem kzu(a1:Ref)(a2:Int)(h:AH):go (.pt F.kgo Td.knm [(1,.ptr (some a1)),(3,.int .i64 a2)]) h =
 ((h.cell (a1.add 1)).bind AV.asSl).bind fun l3 =>
 cond (decide (a2<(IntKind.wrap .i64 (64*(l3.len:Int))))) (
 ((h.cell (a1.add 0)).bind (AV.asInt .i64)).bind fun n4 =>
 ((h.cell (a1.add 1)).bind AV.asSl).bind fun l5 =>
 (go (.fn F.ke7 [.agg [.int .i64 n4,l5.v],.int .i64 a2]) h).bind fun q6 =>
 ((some q6.1).bind AV.asBool).bind fun b7 =>
 cond b7 (
 some (.bool false,q6.2)) (
 go (.pt F.kgo Td.knm [(1,.ptr (some a1)),(3,.int .i64 (IntKind.wrap .i64 (a2+1)))]) q6.2)) (
 some (.bool true,h)):=(ke _ h).trans (by kernel_rfl)
theorem kbhv(a1:Int)(a2:Sl)(h:AH):go (.fn F.kic [.int .i64 a1,a2.v]) h =
 newK h (.cells [.int .i64 a1] T.int) fun h3r h3 =>
 newK h3 (.cells [.int .i64 0,(⟨none,0,.is 0⟩:Sl).v] T.ko) fun h4r h4 =>
 ((h4.cell h3r).bind (AV.asInt .i64)).bind fun n5 =>
 (go (.fn F.knv [.int .i64 n5]) h4).bind fun q6 =>
 (AV.asTup2 q6.1).bind fun p7 =>
 (AV.asAgg p7.1).bind fun cs8 =>
 cond (Nat.beq cs8.length 2) (
 ((cs8[0]?).bind (AV.asInt .i64)).bind fun n9 =>
 ((cs8[1]?).bind AV.asSl).bind fun l10 =>
 ((some p7.2).bind (AV.asInt .i64)).bind fun n11 =>
 newK q6.2 (.cells [.int .i64 0,(⟨none,0,.is 0⟩:Sl).v] T.ko) fun h12r h12 =>
 (h12.puts h12r [.int .i64 n9,l10.v]).bind fun h13 =>
 cond (!decide (n11=0)) (
 (h13.puts h4r [.int .i64 0,(⟨none,0,.is 0⟩:Sl).v]).bind fun h14 =>
 ((h14.cell (h4r.add 0)).bind (AV.asInt .i64)).bind fun n15 =>
 ((h14.cell (h4r.add 1)).bind AV.asSl).bind fun l16 =>
 some (.tup [.agg [.int .i64 n15,l16.v],.int .i64 1],h14)) (
 (go (.fn F.kdu [a2.v,.func (.func F.kd3) [] [.ptr (some h3r)]]) h13).bind fun q17 =>
 ((some q17.1).bind AV.asBool).bind fun b18 =>
 cond b18 (
 (q17.2.puts h4r [.int .i64 0,(⟨none,0,.is 0⟩:Sl).v]).bind fun h19 =>
 ((h19.cell (h4r.add 0)).bind (AV.asInt .i64)).bind fun n20 =>
 ((h19.cell (h4r.add 1)).bind AV.asSl).bind fun l21 =>
 some (.tup [.agg [.int .i64 n20,l21.v],.int .i64 1],h19)) (
 go (.pt F.kic Td.knq [(4,.ptr (some h4r)),(6,.ptr (some h12r)),(23,a2.v),(24,.int .i64 (a2.len:Int)),(25,.int .i64 0)]) q17.2))) none:=(ke _ h).trans (by kernel_rfl)
theorem kbd9(a1:Int)(h:AH):go (.fn F.knv [.int .i64 a1]) h =
 newK h (.cells [.int .i64 0,(⟨none,0,.is 0⟩:Sl).v] T.ko) fun h2r h2 =>
 cond (decide (a1<0)) (
 (h2.puts h2r [.int .i64 0,(⟨none,0,.is 0⟩:Sl).v]).bind fun h3 =>
 ((h3.cell (h2r.add 0)).bind (AV.asInt .i64)).bind fun n4 =>
 ((h3.cell (h2r.add 1)).bind AV.asSl).bind fun l5 =>
 some (.tup [.agg [.int .i64 n4,l5.v],.int .i64 1],h3)) (
 cond (decide (a1>65536)) (
 (h2.puts h2r [.int .i64 0,(⟨none,0,.is 0⟩:Sl).v]).bind fun h6 =>
 ((h6.cell (h2r.add 0)).bind (AV.asInt .i64)).bind fun n7 =>
 ((h6.cell (h2r.add 1)).bind AV.asSl).bind fun l8 =>
 some (.tup [.agg [.int .i64 n7,l8.v],.int .i64 1],h6)) (
 (kbr (IntKind.wrap .i64 (Int.tdiv (IntKind.wrap .i64 ((IntKind.wrap .i64 (a1+64))-1)) 64)) (IntKind.wrap .i64 (Int.tdiv (IntKind.wrap .i64 ((IntKind.wrap .i64 (a1+64))-1)) 64)) T.kf (Pg.bytesOf T.kf) [.int .u64 0] h2).bind fun q9 =>
 (q9.2.puts h2r [.int .i64 a1,q9.1.v]).bind fun h10 =>
 ((h10.cell (h2r.add 0)).bind (AV.asInt .i64)).bind fun n11 =>
 ((h10.cell (h2r.add 1)).bind AV.asSl).bind fun l12 =>
 some (.tup [.agg [.int .i64 n11,l12.v],.int .i64 0],h10))):=(ke _ h).trans (by kernel_rfl)
theorem kw3(a1 a2 a3 a4:Ref)(a5 a6 a7:Int)(h:AH):go (.pt F.kir Td.kq2 [(2,.func (.func F.kfv) [] []),(3,.ptr (some a1)),(4,.ptr (some a2)),(6,.ptr (some a3)),(8,.ptr (some a4)),(9,.int .i64 a5),(35,.int .i64 a6),(36,.int .i64 a7)]) h =
 cond (decide (a7<a6)) (
 ((h.cell (a4.add 1)).bind AV.asSl).bind fun l8 =>
 ((h.cell (a1.add 1)).bind AV.asSl).bind fun l9 =>
 (idx l9.ref l9.len a7 1).bind fun r10 =>
 ((h.cell r10).bind (AV.asInt .u64)).bind fun n11 =>
 ((h.cell (a2.add 1)).bind AV.asSl).bind fun l12 =>
 (idx l12.ref l12.len a7 1).bind fun r13 =>
 ((h.cell r13).bind (AV.asInt .u64)).bind fun n14 =>
 (go (.fn F.kfv [.int .u64 n11,.int .u64 n14]) h).bind fun q15 =>
 ((some q15.1).bind (AV.asInt .u64)).bind fun n16 =>
 whenK (SameAt h q15.2 (a4.add 1) 1) (
 (idx l8.ref l8.len a7 1).bind fun r17 =>
 (q15.2.puts r17 [.int .u64 n16]).bind fun h18 =>
 go (.pt F.kir Td.kq2 [(2,.func (.func F.kfv) [] []),(3,.ptr (some a1)),(4,.ptr (some a2)),(6,.ptr (some a3)),(8,.ptr (some a4)),(9,.int .i64 a5),(35,.int .i64 a6),(36,.int .i64 (IntKind.wrap .i64 (a7+1)))]) h18)) (
 ((h.cell (a4.add 0)).bind (AV.asInt .i64)).bind fun n19 =>
 ((h.cell (a4.add 1)).bind AV.asSl).bind fun l20 =>
 (h.puts a3 [.int .i64 n19,l20.v]).bind fun h21 =>
 ((h21.cell (a3.add 0)).bind (AV.asInt .i64)).bind fun n22 =>
 ((h21.cell (a3.add 1)).bind AV.asSl).bind fun l23 =>
 some (.tup [.agg [.int .i64 n22,l23.v],.int .i64 a5],h21)):=(ke _ h).trans (by kernel_rfl)
theorem kbb0(a1:Sl)(a2:AV)(h:AH):go (.fn F.kfd [a1.v,a2]) h =
 newK h (.cells [a1.v] T.kcp) fun h3r h3 =>
 go (.pt F.kfd Tr.kw6 [(0,a1.v),(1,a2),(2,.ptr (some h3r)),(4,(⟨none,0,.is 0⟩:Sl).v),(6,a2)]) h3:=(ke _ h).trans (by kernel_rfl)
theorem k05(a1:Sl)(a2 a3:Int)(h:AH):go (.pt F.kb6 Td.keb [(0,a1.v),(1,.func (.func F.kem) [] []),(7,.int .i64 a2),(8,.int .i64 a3)]) h =
 cond (decide (a3<a2)) (
 (idx a1.ref a1.len a3 1).bind fun r4 =>
 ((h.cell r4).bind AV.asSl).bind fun l5 =>
 (go (.fn F.kem [l5.v]) h).bind fun q6 =>
 ((some q6.1).bind AV.asBool).bind fun b7 =>
 cond b7 (
 some (.int .i64 a3,q6.2)) (
 go (.pt F.kb6 Td.keb [(0,a1.v),(1,.func (.func F.kem) [] []),(7,.int .i64 a2),(8,.int .i64 (IntKind.wrap .i64 (a3+1)))]) q6.2)) (
 some (.int .i64 (-1),h)):=(ke _ h).trans (by kernel_rfl)
theorem k93(a1 a2 a3:Int)(h:AH):go (.pt F.kbu Td.kte [(0,.int .u64 a1),(1,.int .u64 a2),(2,.int .u64 a3)]) h =
 cond (decide (a3≤a1)) (
 (h.cell (.old ⟨Gl.math_bits_overflowError,0,none⟩)).bind fun v4 =>
 none) (
 cond (decide (a1=0)) (
 cond (decide (a3=0)) none (
 cond (decide (a3=0)) none (
 some (.tup [.int .u64 (IntKind.wrap .u64 (Int.tdiv a2 a3)),.int .u64 (Int.tmod a2 a3)],h)))) (
 (go (.fn F.kqp [.int .u64 a3]) h).bind fun q5 =>
 ((some q5.1).bind (AV.asInt .i64)).bind fun n6 =>
 cond (decide ((IntKind.wrap .u64 n6)<0)) none (
 cond (decide ((IntKind.wrap .u64 n6)<0)) none (
 cond (decide ((IntKind.wrap .u64 (64-(IntKind.wrap .u64 n6)))<0)) none (
 cond (decide ((IntKind.wrap .u64 n6)<0)) none (
 cond (decide ((ishr .u64 (ishl .u64 a3 (IntKind.wrap .u64 n6)) 32)=0)) none (
 go (.pt F.kbu Td.kky [(2,.int .u64 (ishl .u64 a3 (IntKind.wrap .u64 n6))),(8,.int .u64 (IntKind.wrap .u64 n6)),(9,.int .u64 (ishr .u64 (ishl .u64 a3 (IntKind.wrap .u64 n6)) 32)),(10,.int .u64 (iand .u64 (ishl .u64 a3 (IntKind.wrap .u64 n6)) 4294967295)),(11,.int .u64 (ior .u64 (ishl .u64 a1 (IntKind.wrap .u64 n6)) (ishr .u64 a2 (IntKind.wrap .u64 (64-(IntKind.wrap .u64 n6)))))),(13,.int .u64 (ishr .u64 (ishl .u64 a2 (IntKind.wrap .u64 n6)) 32)),(14,.int .u64 (iand .u64 (ishl .u64 a2 (IntKind.wrap .u64 n6)) 4294967295)),(15,.int .u64 (IntKind.wrap .u64 (Int.tdiv (ior .u64 (ishl .u64 a1 (IntKind.wrap .u64 n6)) (ishr .u64 a2 (IntKind.wrap .u64 (64-(IntKind.wrap .u64 n6))))) (ishr .u64 (ishl .u64 a3 (IntKind.wrap .u64 n6)) 32)))),(16,.int .u64 (IntKind.wrap .u64 ((ior .u64 (ishl .u64 a1 (IntKind.wrap .u64 n6)) (ishr .u64 a2 (IntKind.wrap .u64 (64-(IntKind.wrap .u64 n6)))))-(IntKind.wrap .u64 ((IntKind.wrap .u64 (Int.tdiv (ior .u64 (ishl .u64 a1 (IntKind.wrap .u64 n6)) (ishr .u64 a2 (IntKind.wrap .u64 (64-(IntKind.wrap .u64 n6))))) (ishr .u64 (ishl .u64 a3 (IntKind.wrap .u64 n6)) 32)))*(ishr .u64 (ishl .u64 a3 (IntKind.wrap .u64 n6)) 32))))))]) q5.2))))))):=(ke _ h).trans (by kernel_rfl)
theorem kbgi(a1 a2 a3 a4 a5:Int)(h:AH):go (.pt F.kgc Td.kll [(2,.int .u64 a1),(3,.int .u64 a2),(4,.int .u64 a3),(11,.int .u64 a4),(12,.int .u64 a5)]) h =
 (go (.fn F.klk [.int .u64 a4,.int .u64 a3]) h).bind fun q6 =>
 (AV.asTup2 q6.1).bind fun p7 =>
 ((some p7.1).bind (AV.asInt .u64)).bind fun n8 =>
 ((some p7.2).bind (AV.asInt .u64)).bind fun n9 =>
 cond (decide (n8<a5)) (
 some (.int .u64 a4,q6.2)) (
 cond (decide (n8=a5)) (
 cond (decide (n9≤a1)) (
 some (.int .u64 a4,q6.2)) (
 cond (decide ((IntKind.wrap .u64 (a5+a2))<a5)) (
 some (.int .u64 (IntKind.wrap .u64 (a4-1)),q6.2)) (
 go (.pt F.kgc Td.kll [(2,.int .u64 a1),(3,.int .u64 a2),(4,.int .u64 a3),(11,.int .u64 (IntKind.wrap .u64 (a4-1))),(12,.int .u64 (IntKind.wrap .u64 (a5+a2)))]) q6.2))) (
 cond (decide ((IntKind.wrap .u64 (a5+a2))<a5)) (
 some (.int .u64 (IntKind.wrap .u64 (a4-1)),q6.2)) (
 go (.pt F.kgc Td.kll [(2,.int .u64 a1),(3,.int .u64 a2),(4,.int .u64 a3),(11,.int .u64 (IntKind.wrap .u64 (a4-1))),(12,.int .u64 (IntKind.wrap .u64 (a5+a2)))]) q6.2))):=(ke _ h).trans (by kernel_rfl)
theorem kbah(a1:Int)(h:AH):go (.fn F.kdv [.int .i64 a1]) h =
 cond (decide (a1<(-1048576))) (
 some (.bool true,h)) (
 some (.bool (decide (a1>1048576)),h)):=(ke _ h).trans (by kernel_rfl)
theorem k0b(a1 a2 a3:Int)(h:AH):go (.pt F.ke7 Td.kqk [(1,.int .i64 a1),(5,.int .u64 a2),(6,.int .i64 a3)]) h =
 cond (decide (a3<(Int.tmod a1 64))) (
 go (.pt F.ke7 Td.kqk [(1,.int .i64 a1),(5,.int .u64 (IntKind.wrap .u64 (Int.tdiv a2 2))),(6,.int .i64 (IntKind.wrap .i64 (a3+1)))]) h) (
 some (.bool (decide ((Int.tmod a2 2)=1)),h)):=(ke _ h).trans (by kernel_rfl)
theorem k9r(l:Nat)(pe:Option Code)(a1:Int)(a2 a3:Ref)(a4:Int)(a5:AV)(a6:Int)(h:AH)(hb:h.blks[l]?=some (kcx Fx.kvd F.kcm 0 .ready pe [(0,.int .u64 a1),(1,.ptr (some a2)),(2,.ptr (some a3)),(4,.int .u64 a4),(5,a5)])):go (.round l [.int .u64 a6]) h =
 (beginA l h).bind fun h7 =>
 ((h7.cell a2).bind (AV.asInt .u64)).bind fun n8 =>
 cond (decide (a6=0)) none (
 cond (decide ((Int.tmod n8 a6)=0)) (
 (h7.puts a3 [.int .u64 a6]).bind fun h9 =>
 kcc l (some .ret) h9) (
 kcc l none h7)):=(ke _ h).trans ((kon hb).trans (by kernel_rfl))
theorem kbd8(a1:Int)(a2 a3:Ref)(a4:Int)(a5:AV)(h:AH):go (.pt F.kcm ((Option.map Item.code none).toList++Ta.kl9) [(0,.int .u64 a1),(1,.ptr (some a2)),(2,.ptr (some a3)),(4,.int .u64 a4),(5,a5)]) h =
 ((h.cell a2).bind (AV.asInt .u64)).bind fun n6 =>
 (h.puts a3 [.int .u64 n6]).bind fun h7 =>
 ((h7.cell a3).bind (AV.asInt .u64)).bind fun n8 =>
 some (.int .u64 n8,h7):=(ke _ h).trans (by kernel_rfl)
theorem kbg3(a1:Int)(a2 a3:Ref)(a4:Int)(a5:AV)(h:AH):go (.pt F.kcm ((Option.map Item.code (some .ret)).toList++Ta.kl9) [(0,.int .u64 a1),(1,.ptr (some a2)),(2,.ptr (some a3)),(4,.int .u64 a4),(5,a5)]) h =
 ((h.cell a3).bind (AV.asInt .u64)).bind fun n6 =>
 some (.int .u64 n6,h):=(ke _ h).trans (by kernel_rfl)
theorem kbjj(a1:Sl)(h:AH):go (.fn F.kbm [a1.v,.func (.func F.kdo) [] []]) h =
 go (.pt F.kbm Td.kcl [(0,a1.v),(1,.func (.func F.kdo) [] []),(7,.int .i64 (a1.len:Int)),(8,.int .i64 0)]) h:=(ke _ h).trans (by kernel_rfl)
theorem kzk(a1:Nat)(a2:Sl)(a3 a4:Int)(h:AH):go (.pt F.khi Td.kqa [(3,.map (some a1)),(7,a2.v),(8,.int .i64 a3),(9,.int .i64 a4)]) h =
 cond (decide (a4<a3)) (
 (idx a2.ref a2.len a4 1).bind fun r5 =>
 ((h.cell r5).bind (AV.asInt .i64)).bind fun n6 =>
 (mapPut h a1 .i64 n6 (.int .i64 a4)).bind fun h7 =>
 go (.pt F.khi Td.kqa [(3,.map (some a1)),(7,a2.v),(8,.int .i64 a3),(9,.int .i64 (IntKind.wrap .i64 (a4+1)))]) h7) (
 some (.map (some a1),h)):=(ke _ h).trans (by kernel_rfl)
theorem kbg8(a1:Sl)(a2:Option Ref)(h:AH):go (.fn F.kbm [a1.v,.func (.func F.kdn) [] [.ptr a2]]) h =
 go (.pt F.kbm Td.kcl [(0,a1.v),(1,.func (.func F.kdn) [] [.ptr a2]),(7,.int .i64 (a1.len:Int)),(8,.int .i64 0)]) h:=(ke _ h).trans (by kernel_rfl)
theorem kbjr(a1:Option Ref)(a2:Int)(h:AH):go (.fn F.klj [.ptr a1,.int .i64 a2]) h =
 a1.bind fun r3 =>
 ((h.cell (r3.add 0)).bind AV.asSl).bind fun l4 =>
 (kbr (IntKind.wrap .i64 ((IntKind.wrap .i64 (a2*(l4.len:Int)))+1)) (IntKind.wrap .i64 ((IntKind.wrap .i64 (a2*(l4.len:Int)))+1)) T.kf (Pg.bytesOf T.kf) [.int .u64 0] h).bind fun q5 =>
 a1.bind fun r6 =>
 ((q5.2.cell (r6.add 0)).bind AV.asSl).bind fun l7 =>
 (idx q5.1.ref q5.1.len (IntKind.wrap .i64 (a2*(l7.len:Int))) 1).bind fun r8 =>
 (q5.2.puts r8 [.int .u64 1]).bind fun h9 =>
 a1.bind fun r10 =>
 ((h9.cell (r10.add 0)).bind AV.asSl).bind fun l11 =>
 (go (.fn F.kdq [q5.1.v,l11.v]) h9).bind fun q12 =>
 (AV.asTup3 q12.1).bind fun p13 =>
 ((some p13.1).bind AV.asSl).bind fun l14 =>
 ((some p13.2.1).bind AV.asSl).bind fun l15 =>
 ((some p13.2.2).bind (AV.asInt .i64)).bind fun n16 =>
 some (l15.v,q12.2):=(ke _ h).trans (by kernel_rfl)
theorem k65(a1:Option Ref)(a2:Sl)(h:AH):go (.fn F.ks8 [.ptr a1,a2.v]) h =
 newK h (.cells [.ptr a1] T.kq7) fun h3r h3 =>
 (go (.fn F.kgh [a2.v,.func (.func F.kd0) [] [.ptr (some h3r)]]) h3).bind fun q4 =>
 ((some q4.1).bind AV.asBool).bind fun b5 =>
 some (.bool (!b5),q4.2):=(ke _ h).trans (by kernel_rfl)
theorem k4w(a1:Option Ref)(a2 a3:Sl)(h:AH):go (.fn F.kbk [.ptr a1,a2.v,a3.v]) h =
 a1.bind fun r4 =>
 ((h.cell (r4.add 0)).bind AV.asSl).bind fun l5 =>
 (kbr (IntKind.wrap .i64 ((l5.len:Int)+2)) (IntKind.wrap .i64 ((l5.len:Int)+2)) T.kf (Pg.bytesOf T.kf) [.int .u64 0] h).bind fun q6 =>
 go (.pt F.kbk Td.km9 [(0,.ptr a1),(1,a2.v),(2,a3.v),(7,.int .i64 (l5.len:Int)),(8,q6.1.v),(20,.int .i64 (l5.len:Int)),(21,.int .i64 0)]) q6.2:=(ke _ h).trans (by kernel_rfl)
theorem kbiz(a1:Option Ref)(a2:Sl)(a3:Option Ref)(a4 a5:Sl)(a6:Int)(h:AH):go (.pt F.kb7 Td.krl [(0,.ptr a1),(2,a2.v),(8,.func (.func F.kbk) [.ptr a3] []),(9,a4.v),(10,a5.v),(44,.int .i64 a6)]) h =
 cond (decide (a6<15)) (
 (idx a4.ref a4.len (IntKind.wrap .i64 ((a4.len:Int)-1)) 1).bind fun r7 =>
 ((h.cell r7).bind AV.asSl).bind fun l8 =>
 (go (.fn F.kbk [.ptr a3,l8.v,a5.v]) h).bind fun q9 =>
 ((some q9.1).bind AV.asSl).bind fun l10 =>
 newK q9.2 (.cells [l10.v] T.kr) fun h11r h11 =>
 (ky Pg T.kr ((⟨some h11r,1,.is 1⟩:Sl).v) h11).bind fun p13 =>
 (ku Pg a4 p13.1 p13.2 T.kr 1 h11).bind fun q12 =>
 (AV.asSl q12.1).bind fun l14 =>
 go (.pt F.kb7 Td.krl [(0,.ptr a1),(2,a2.v),(8,.func (.func F.kbk) [.ptr a3] []),(9,l14.v),(10,a5.v),(44,.int .i64 (IntKind.wrap .i64 (a6+1)))]) q12.2) (
 a1.bind fun r15 =>
 ((h.cell (r15.add 2)).bind AV.asSl).bind fun l16 =>
 (go (.fn F.kjy [a2.v]) h).bind fun q17 =>
 ((some q17.1).bind (AV.asInt .i64)).bind fun n18 =>
 go (.pt F.kb7 Td.koc [(2,a2.v),(8,.func (.func F.kbk) [.ptr a3] []),(9,a4.v),(11,l16.v),(12,.int .i64 (IntKind.wrap .i64 (Int.tdiv (IntKind.wrap .i64 ((IntKind.wrap .i64 (n18+4))-1)) 4)))]) q17.2):=(ke _ h).trans (by kernel_rfl)
theorem kbkp(a1 a2 a3 a4:Ref)(h:AH):go (.fn F.kkf [.ptr (some a1),.ptr (some a2),.ptr (some a3),.ptr (some a4)]) h =
 ((h.cell a1).bind AV.asSl).bind fun l5 =>
 ((h.cell a2).bind AV.asSl).bind fun l6 =>
 (go (.fn F.kdq [l5.v,l6.v]) h).bind fun q7 =>
 (AV.asTup3 q7.1).bind fun p8 =>
 ((some p8.1).bind AV.asSl).bind fun l9 =>
 ((some p8.2.1).bind AV.asSl).bind fun l10 =>
 ((some p8.2.2).bind (AV.asInt .i64)).bind fun n11 =>
 newK q7.2 (.cells [.bool false,(⟨none,0,.is 0⟩:Sl).v] T.kn) fun h12r h12 =>
 ((h12.cell (a3.add 0)).bind AV.asBool).bind fun b13 =>
 ((h12.cell (a3.add 1)).bind AV.asSl).bind fun l14 =>
 (go (.fn F.kbs [.bool false,l9.v]) h12).bind fun q15 =>
 (AV.asAgg q15.1).bind fun cs16 =>
 cond (Nat.beq cs16.length 2) (
 ((cs16[0]?).bind AV.asBool).bind fun b17 =>
 ((cs16[1]?).bind AV.asSl).bind fun l18 =>
 whenK (SameAt h12 q15.2 a3 2) (
 whenK (SameAt h12 q15.2 h12r 0) (
 (go (.fn F.knj [.agg [.bool b17,l18.v],.agg [.bool b13,l14.v]]) q15.2).bind fun q19 =>
 (AV.asTup2 q19.1).bind fun p20 =>
 (AV.asAgg p20.1).bind fun cs21 =>
 cond (Nat.beq cs21.length 2) (
 ((cs21[0]?).bind AV.asBool).bind fun b22 =>
 ((cs21[1]?).bind AV.asSl).bind fun l23 =>
 ((some p20.2).bind (AV.asInt .i64)).bind fun n24 =>
 whenK (SameAt q15.2 q19.2 h12r 0) (
 (q19.2.puts h12r [.bool b22,l23.v]).bind fun h25 =>
 ((h25.cell (a4.add 0)).bind AV.asBool).bind fun b26 =>
 ((h25.cell (a4.add 1)).bind AV.asSl).bind fun l27 =>
 ((h25.cell (h12r.add 0)).bind AV.asBool).bind fun b28 =>
 ((h25.cell (h12r.add 1)).bind AV.asSl).bind fun l29 =>
 (go (.fn F.kri [.agg [.bool b26,l27.v],.agg [.bool b28,l29.v]]) h25).bind fun q30 =>
 (AV.asTup2 q30.1).bind fun p31 =>
 (AV.asAgg p31.1).bind fun cs32 =>
 cond (Nat.beq cs32.length 2) (
 ((cs32[0]?).bind AV.asBool).bind fun b33 =>
 ((cs32[1]?).bind AV.asSl).bind fun l34 =>
 ((some p31.2).bind (AV.asInt .i64)).bind fun n35 =>
 newK q30.2 (.cells [.bool false,(⟨none,0,.is 0⟩:Sl).v] T.kn) fun h36r h36 =>
 (h36.puts h36r [.bool b33,l34.v]).bind fun h37 =>
 ((h37.cell a2).bind AV.asSl).bind fun l38 =>
 ((h37.cell (a3.add 0)).bind AV.asBool).bind fun b39 =>
 ((h37.cell (a3.add 1)).bind AV.asSl).bind fun l40 =>
 ((h37.cell (h36r.add 0)).bind AV.asBool).bind fun b41 =>
 ((h37.cell (h36r.add 1)).bind AV.asSl).bind fun l42 =>
 (h37.puts a1 [l38.v]).bind fun h43 =>
 whenK (SameAt h37 h43 h36r 2) (
 whenK (SameAt h37 h43 a3 2) (
 (h43.puts a2 [l10.v]).bind fun h44 =>
 whenK (SameAt h43 h44 h36r 2) (
 whenK (SameAt h43 h44 a3 2) (
 (h44.puts a4 [.bool b39,l40.v]).bind fun h45 =>
 whenK (SameAt h44 h45 h36r 2) (
 (h45.puts a3 [.bool b41,l42.v]).bind fun h46 =>
 some (.tup [],h46))))))) none)) none))) none:=(ke _ h).trans (by kernel_rfl)
theorem kbd0(a1:Sl)(h:AH):go (.fn F.k3g [a1.v,.func (.func F.kei) [] []]) h =
 (go (.fn F.ki6 [a1.v,.func (.func F.kei) [] []]) h).bind fun q2 =>
 ((some q2.1).bind (AV.asInt .i64)).bind fun n3 =>
 some (.bool (decide (n3≥0)),q2.2):=(ke _ h).trans (by kernel_rfl)
theorem kbjb(a1:Bool)(a2:Sl)(h:AH):go (.fn F.kp9 [.agg [.bool a1,a2.v]]) h =
 newK h (.cells [.bool a1,a2.v] T.kn) fun h3r h3 =>
 ((h3.cell (h3r.add 1)).bind AV.asSl).bind fun l4 =>
 (go (.fn F.kcf [l4.v]) h3).bind fun q5 =>
 ((some q5.1).bind AV.asBool).bind fun b6 =>
 cond b6 (
 ((q5.2.cell (h3r.add 0)).bind AV.asBool).bind fun b7 =>
 cond (!b7) (
 some (.bool true,q5.2)) (
 ((q5.2.cell (h3r.add 1)).bind AV.asSl).bind fun l8 =>
 some (.bool (decide ((l8.len:Int)>0)),q5.2))) (
 some (.bool false,q5.2)):=(ke _ h).trans (by kernel_rfl)
theorem kwz(a1 a2:Sl)(a3:Int)(h:AH):go (.pt F.kce Td.km3 [(0,a1.v),(3,a2.v),(4,.int .i64 a3)]) h =
 cond (decide (a3<(a1.len:Int))) (
 (idx a1.ref a1.len a3 1).bind fun r4 =>
 ((h.cell r4).bind (AV.asInt .u64)).bind fun n5 =>
 go (.pt F.kce Td.kot [(0,a1.v),(3,a2.v),(4,.int .i64 a3),(5,.int .u64 n5),(6,.int .i64 0)]) h) (
 (go (.fn F.keg [a2.v]) h).bind fun q6 =>
 ((some q6.1).bind AV.asSl).bind fun l7 =>
 some (l7.v,q6.2)):=(ke _ h).trans (by kernel_rfl)
theorem kbkj(a1:Sl)(h:AH):go (.fn F.kcj [a1.v]) h =
 go (.pt F.kcj Td.kkb [(0,a1.v),(4,(⟨none,0,.is 0⟩:Sl).v),(5,.int .i64 0)]) h:=(ke _ h).trans (by kernel_rfl)
theorem kbci(a1 a2:Sl)(h:AH):go (.fn F.kdh [a1.v,a2.v]) h =
 (kbr (a1.len:Int) (a1.len:Int) T.kf (Pg.bytesOf T.kf) [.int .u64 0] h).bind fun q3 =>
 go (.pt F.kdh Td.kpq [(0,a1.v),(1,a2.v),(6,q3.1.v),(7,(⟨none,0,.is 0⟩:Sl).v),(8,.int .i64 (IntKind.wrap .i64 ((a1.len:Int)-1)))]) q3.2:=(ke _ h).trans (by kernel_rfl)
theorem k5h(a1 a2 a3:Sl)(a4:Int)(h:AH):go (.pt F.kc1 Td.kng [(0,a1.v),(1,a2.v),(5,a3.v),(6,.int .i64 a4)]) h =
 cond (decide (a4<(a1.len:Int))) (
 go (.pt F.kc1 Td.kp3 [(0,a1.v),(1,a2.v),(5,a3.v),(6,.int .i64 a4),(7,.int .u64 0),(8,.int .i64 0)]) h) (
 (go (.fn F.keg [a3.v]) h).bind fun q5 =>
 ((some q5.1).bind AV.asSl).bind fun l6 =>
 some (l6.v,q5.2)):=(ke _ h).trans (by kernel_rfl)
theorem k1l(a1 a2:Sl)(a3:Int)(h:AH):go (.pt F.khc Td.krf [(0,a1.v),(1,a2.v),(5,.int .i64 a3)]) h =
 cond (decide (a3≥0)) (
 (idx a1.ref a1.len a3 1).bind fun r4 =>
 ((h.cell r4).bind (AV.asInt .u64)).bind fun n5 =>
 (idx a2.ref a2.len a3 1).bind fun r6 =>
 ((h.cell r6).bind (AV.asInt .u64)).bind fun n7 =>
 cond (decide (n5<n7)) (
 some (.int .i64 (-1),h)) (
 (idx a1.ref a1.len a3 1).bind fun r8 =>
 ((h.cell r8).bind (AV.asInt .u64)).bind fun n9 =>
 (idx a2.ref a2.len a3 1).bind fun r10 =>
 ((h.cell r10).bind (AV.asInt .u64)).bind fun n11 =>
 cond (decide (n9>n11)) (
 some (.int .i64 1,h)) (
 go (.pt F.khc Td.krf [(0,a1.v),(1,a2.v),(5,.int .i64 (IntKind.wrap .i64 (a3-1)))]) h))) (
 some (.int .i64 0,h)):=(ke _ h).trans (by kernel_rfl)
theorem kbeh(a1:Sl)(a2:Option Ref)(h:AH):go (.fn F.kdu [a1.v,.func (.func F.kd3) [] [.ptr a2]]) h =
 (go (.fn F.kbm [a1.v,.func (.func F.kd3) [] [.ptr a2]]) h).bind fun q3 =>
 ((some q3.1).bind (AV.asInt .i64)).bind fun n4 =>
 some (.bool (decide (n4≥0)),q3.2):=(ke _ h).trans (by kernel_rfl)
theorem k2n(a1 a2:Ref)(a3:Sl)(a4 a5:Int)(h:AH):go (.pt F.kic Td.knq [(4,.ptr (some a1)),(6,.ptr (some a2)),(23,a3.v),(24,.int .i64 a4),(25,.int .i64 a5)]) h =
 cond (decide (a5<a4)) (
 (idx a3.ref a3.len a5 1).bind fun r6 =>
 ((h.cell r6).bind (AV.asInt .i64)).bind fun n7 =>
 ((h.cell (a2.add 1)).bind AV.asSl).bind fun l8 =>
 (idx l8.ref l8.len (IntKind.wrap .i64 (Int.tdiv n7 64)) 1).bind fun r9 =>
 ((h.cell r9).bind (AV.asInt .u64)).bind fun n10 =>
 cond (decide ((Int.tmod n7 64)<0)) none (
 (idx l8.ref l8.len (IntKind.wrap .i64 (Int.tdiv n7 64)) 1).bind fun r11 =>
 (h.puts r11 [.int .u64 (ior .u64 n10 (ishl .u64 1 (Int.tmod n7 64)))]).bind fun h12 =>
 go (.pt F.kic Td.knq [(4,.ptr (some a1)),(6,.ptr (some a2)),(23,a3.v),(24,.int .i64 a4),(25,.int .i64 (IntKind.wrap .i64 (a5+1)))]) h12)) (
 ((h.cell (a2.add 0)).bind (AV.asInt .i64)).bind fun n13 =>
 ((h.cell (a2.add 1)).bind AV.asSl).bind fun l14 =>
 (h.puts a1 [.int .i64 n13,l14.v]).bind fun h15 =>
 ((h15.cell (a1.add 0)).bind (AV.asInt .i64)).bind fun n16 =>
 ((h15.cell (a1.add 1)).bind AV.asSl).bind fun l17 =>
 some (.tup [.agg [.int .i64 n16,l17.v],.int .i64 0],h15)):=(ke _ h).trans (by kernel_rfl)
theorem kbix(a1 a2:Int)(h:AH):go (.fn F.kfv [.int .u64 a1,.int .u64 a2]) h =
 some (.int .u64 (iand .u64 a1 a2),h):=(ke _ h).trans (by kernel_rfl)
theorem kbfz(a1:Sl)(a2:AV)(a3:Ref)(a4:Sl)(a5:AV)(h:AH):go (.pt F.kfd Tr.kw6 [(0,a1.v),(1,a2),(2,.ptr (some a3)),(4,a4.v),(6,a5)]) h =
 funcK a5 fun g10 f11 c12 =>
 newM h (kcx Fx.kt0 F.kfd 0 .ready none [(0,a1.v),(1,a2),(2,.ptr (some a3)),(4,a4.v),(6,a5)]) fun m6 h7 =>
 (callF Pg go g10 (f11++[.func (.yield m6) [] []]++c12) h7).bind fun q8 =>
 (kc2 m6 q8.2).bind fun p9 =>
 go (.pt F.kfd ((p9.1.map Item.code).toList++Ta.k24) [(0,a1.v),(1,a2),(2,.ptr (some a3)),(4,a4.v),(6,a5)]) p9.2:=(ke _ h).trans (by kernel_rfl)
theorem k6p(a1:Sl)(h:AH):go (.fn F.kem [a1.v]) h =
 (go (.fn F.kcf [a1.v]) h).bind fun q2 =>
 ((some q2.1).bind AV.asBool).bind fun b3 =>
 some (.bool (!b3),q2.2):=(ke _ h).trans (by kernel_rfl)
theorem k56(a1 a2 a3 a4 a5 a6 a7 a8 a9:Int)(h:AH):go (.pt F.kbu Td.kky [(2,.int .u64 a1),(8,.int .u64 a2),(9,.int .u64 a3),(10,.int .u64 a4),(11,.int .u64 a5),(13,.int .u64 a6),(14,.int .u64 a7),(15,.int .u64 a8),(16,.int .u64 a9)]) h =
 cond (decide (a8≥4294967296)) (
 cond (decide ((IntKind.wrap .u64 (a9+a3))≥4294967296)) (
 cond (decide (a3=0)) none (
 go (.pt F.kbu Td.khh [(2,.int .u64 a1),(8,.int .u64 a2),(9,.int .u64 a3),(10,.int .u64 a4),(14,.int .u64 a7),(15,.int .u64 (IntKind.wrap .u64 (a8-1))),(16,.int .u64 (IntKind.wrap .u64 ((IntKind.wrap .u64 ((IntKind.wrap .u64 ((IntKind.wrap .u64 (a5*4294967296))+a6))-(IntKind.wrap .u64 ((IntKind.wrap .u64 (a8-1))*a1))))-(IntKind.wrap .u64 ((IntKind.wrap .u64 (Int.tdiv (IntKind.wrap .u64 ((IntKind.wrap .u64 ((IntKind.wrap .u64 (a5*4294967296))+a6))-(IntKind.wrap .u64 ((IntKind.wrap .u64 (a8-1))*a1)))) a3))*a3))))),(17,.int .u64 (IntKind.wrap .u64 ((IntKind.wrap .u64 ((IntKind.wrap .u64 (a5*4294967296))+a6))-(IntKind.wrap .u64 ((IntKind.wrap .u64 (a8-1))*a1))))),(18,.int .u64 (IntKind.wrap .u64 (Int.tdiv (IntKind.wrap .u64 ((IntKind.wrap .u64 ((IntKind.wrap .u64 (a5*4294967296))+a6))-(IntKind.wrap .u64 ((IntKind.wrap .u64 (a8-1))*a1)))) a3)))]) h)) (
 go (.pt F.kbu Td.kky [(2,.int .u64 a1),(8,.int .u64 a2),(9,.int .u64 a3),(10,.int .u64 a4),(11,.int .u64 a5),(13,.int .u64 a6),(14,.int .u64 a7),(15,.int .u64 (IntKind.wrap .u64 (a8-1))),(16,.int .u64 (IntKind.wrap .u64 (a9+a3)))]) h)) (
 cond (decide ((IntKind.wrap .u64 (a8*a4))>(IntKind.wrap .u64 ((IntKind.wrap .u64 (4294967296*a9))+a6)))) (
 cond (decide ((IntKind.wrap .u64 (a9+a3))≥4294967296)) (
 cond (decide (a3=0)) none (
 go (.pt F.kbu Td.khh [(2,.int .u64 a1),(8,.int .u64 a2),(9,.int .u64 a3),(10,.int .u64 a4),(14,.int .u64 a7),(15,.int .u64 (IntKind.wrap .u64 (a8-1))),(16,.int .u64 (IntKind.wrap .u64 ((IntKind.wrap .u64 ((IntKind.wrap .u64 ((IntKind.wrap .u64 (a5*4294967296))+a6))-(IntKind.wrap .u64 ((IntKind.wrap .u64 (a8-1))*a1))))-(IntKind.wrap .u64 ((IntKind.wrap .u64 (Int.tdiv (IntKind.wrap .u64 ((IntKind.wrap .u64 ((IntKind.wrap .u64 (a5*4294967296))+a6))-(IntKind.wrap .u64 ((IntKind.wrap .u64 (a8-1))*a1)))) a3))*a3))))),(17,.int .u64 (IntKind.wrap .u64 ((IntKind.wrap .u64 ((IntKind.wrap .u64 (a5*4294967296))+a6))-(IntKind.wrap .u64 ((IntKind.wrap .u64 (a8-1))*a1))))),(18,.int .u64 (IntKind.wrap .u64 (Int.tdiv (IntKind.wrap .u64 ((IntKind.wrap .u64 ((IntKind.wrap .u64 (a5*4294967296))+a6))-(IntKind.wrap .u64 ((IntKind.wrap .u64 (a8-1))*a1)))) a3)))]) h)) (
 go (.pt F.kbu Td.kky [(2,.int .u64 a1),(8,.int .u64 a2),(9,.int .u64 a3),(10,.int .u64 a4),(11,.int .u64 a5),(13,.int .u64 a6),(14,.int .u64 a7),(15,.int .u64 (IntKind.wrap .u64 (a8-1))),(16,.int .u64 (IntKind.wrap .u64 (a9+a3)))]) h)) (
 cond (decide (a3=0)) none (
 go (.pt F.kbu Td.khh [(2,.int .u64 a1),(8,.int .u64 a2),(9,.int .u64 a3),(10,.int .u64 a4),(14,.int .u64 a7),(15,.int .u64 a8),(16,.int .u64 (IntKind.wrap .u64 ((IntKind.wrap .u64 ((IntKind.wrap .u64 ((IntKind.wrap .u64 (a5*4294967296))+a6))-(IntKind.wrap .u64 (a8*a1))))-(IntKind.wrap .u64 ((IntKind.wrap .u64 (Int.tdiv (IntKind.wrap .u64 ((IntKind.wrap .u64 ((IntKind.wrap .u64 (a5*4294967296))+a6))-(IntKind.wrap .u64 (a8*a1)))) a3))*a3))))),(17,.int .u64 (IntKind.wrap .u64 ((IntKind.wrap .u64 ((IntKind.wrap .u64 (a5*4294967296))+a6))-(IntKind.wrap .u64 (a8*a1))))),(18,.int .u64 (IntKind.wrap .u64 (Int.tdiv (IntKind.wrap .u64 ((IntKind.wrap .u64 ((IntKind.wrap .u64 (a5*4294967296))+a6))-(IntKind.wrap .u64 (a8*a1)))) a3)))]) h))):=(ke _ h).trans (by kernel_rfl)
theorem kx2(a1:Sl)(a2 a3:Int)(h:AH):go (.pt F.kbm Td.kcl [(0,a1.v),(1,.func (.func F.kdo) [] []),(7,.int .i64 a2),(8,.int .i64 a3)]) h =
 cond (decide (a3<a2)) (
 (idx a1.ref a1.len a3 1).bind fun r4 =>
 ((h.cell r4).bind (AV.asInt .i64)).bind fun n5 =>
 (go (.fn F.kdo [.int .i64 n5]) h).bind fun q6 =>
 ((some q6.1).bind AV.asBool).bind fun b7 =>
 cond b7 (
 some (.int .i64 a3,q6.2)) (
 go (.pt F.kbm Td.kcl [(0,a1.v),(1,.func (.func F.kdo) [] []),(7,.int .i64 a2),(8,.int .i64 (IntKind.wrap .i64 (a3+1)))]) q6.2)) (
 some (.int .i64 (-1),h)):=(ke _ h).trans (by kernel_rfl)
theorem kx1(a1:Sl)(a2:Option Ref)(a3 a4:Int)(h:AH):go (.pt F.kbm Td.kcl [(0,a1.v),(1,.func (.func F.kdn) [] [.ptr a2]),(7,.int .i64 a3),(8,.int .i64 a4)]) h =
 cond (decide (a4<a3)) (
 (idx a1.ref a1.len a4 1).bind fun r5 =>
 ((h.cell r5).bind (AV.asInt .i64)).bind fun n6 =>
 (go (.fn F.kdn [.int .i64 n6,.ptr a2]) h).bind fun q7 =>
 ((some q7.1).bind AV.asBool).bind fun b8 =>
 cond b8 (
 some (.int .i64 a4,q7.2)) (
 go (.pt F.kbm Td.kcl [(0,a1.v),(1,.func (.func F.kdn) [] [.ptr a2]),(7,.int .i64 a3),(8,.int .i64 (IntKind.wrap .i64 (a4+1)))]) q7.2)) (
 some (.int .i64 (-1),h)):=(ke _ h).trans (by kernel_rfl)
theorem k84(a1:Sl)(a2:Option Ref)(h:AH):go (.fn F.kgh [a1.v,.func (.func F.kd0) [] [.ptr a2]]) h =
 (go (.fn F.kb6 [a1.v,.func (.func F.kd0) [] [.ptr a2]]) h).bind fun q3 =>
 ((some q3.1).bind (AV.asInt .i64)).bind fun n4 =>
 some (.bool (decide (n4≥0)),q3.2):=(ke _ h).trans (by kernel_rfl)
theorem k8z(a1:Option Ref)(a2 a3:Sl)(a4:Int)(a5:Sl)(a6 a7:Int)(h:AH):go (.pt F.kbk Td.km9 [(0,.ptr a1),(1,a2.v),(2,a3.v),(7,.int .i64 a4),(8,a5.v),(20,.int .i64 a6),(21,.int .i64 a7)]) h =
 cond (decide (a7<a6)) (
 cond (decide (a7<(a2.len:Int))) (
 (idx a2.ref a2.len a7 1).bind fun r8 =>
 ((h.cell r8).bind (AV.asInt .u64)).bind fun n9 =>
 (go (.fn F.kdw [a5.v,a3.v,.int .u64 n9]) h).bind fun q10 =>
 (AV.asTup0 q10.1).bind fun _ =>
 a1.bind fun r11 =>
 ((q10.2.cell (r11.add 0)).bind AV.asSl).bind fun l12 =>
 (idx a5.ref a5.len 0 1).bind fun r13 =>
 ((q10.2.cell r13).bind (AV.asInt .u64)).bind fun n14 =>
 a1.bind fun r15 =>
 ((q10.2.cell (r15.add 1)).bind (AV.asInt .u64)).bind fun n16 =>
 (go (.fn F.kdw [a5.v,l12.v,.int .u64 (IntKind.wrap .u64 (n14*n16))]) q10.2).bind fun q17 =>
 (AV.asTup0 q17.1).bind fun _ =>
 (cutSl a5 1 (a5.len:Int) 1).bind fun l18 =>
 (copyH l18 a5 1 q17.2).bind fun h19 =>
 (idx a5.ref a5.len (IntKind.wrap .i64 (a4+1)) 1).bind fun r20 =>
 (h19.puts r20 [.int .u64 0]).bind fun h21 =>
 go (.pt F.kbk Td.km9 [(0,.ptr a1),(1,a2.v),(2,a3.v),(7,.int .i64 a4),(8,a5.v),(20,.int .i64 a6),(21,.int .i64 (IntKind.wrap .i64 (a7+1)))]) h21) (
 (go (.fn F.kdw [a5.v,a3.v,.int .u64 0]) h).bind fun q22 =>
 (AV.asTup0 q22.1).bind fun _ =>
 a1.bind fun r23 =>
 ((q22.2.cell (r23.add 0)).bind AV.asSl).bind fun l24 =>
 (idx a5.ref a5.len 0 1).bind fun r25 =>
 ((q22.2.cell r25).bind (AV.asInt .u64)).bind fun n26 =>
 a1.bind fun r27 =>
 ((q22.2.cell (r27.add 1)).bind (AV.asInt .u64)).bind fun n28 =>
 (go (.fn F.kdw [a5.v,l24.v,.int .u64 (IntKind.wrap .u64 (n26*n28))]) q22.2).bind fun q29 =>
 (AV.asTup0 q29.1).bind fun _ =>
 (cutSl a5 1 (a5.len:Int) 1).bind fun l30 =>
 (copyH l30 a5 1 q29.2).bind fun h31 =>
 (idx a5.ref a5.len (IntKind.wrap .i64 (a4+1)) 1).bind fun r32 =>
 (h31.puts r32 [.int .u64 0]).bind fun h33 =>
 go (.pt F.kbk Td.km9 [(0,.ptr a1),(1,a2.v),(2,a3.v),(7,.int .i64 a4),(8,a5.v),(20,.int .i64 a6),(21,.int .i64 (IntKind.wrap .i64 (a7+1)))]) h33)) (
 (go (.fn F.khq [a5.v]) h).bind fun q34 =>
 ((some q34.1).bind AV.asSl).bind fun l35 =>
 a1.bind fun r36 =>
 ((q34.2.cell (r36.add 0)).bind AV.asSl).bind fun l37 =>
 (go (.fn F.kda [l35.v,l37.v]) q34.2).bind fun q38 =>
 ((some q38.1).bind (AV.asInt .i64)).bind fun n39 =>
 cond (decide (n39≥0)) (
 a1.bind fun r40 =>
 ((q38.2.cell (r40.add 0)).bind AV.asSl).bind fun l41 =>
 (go (.fn F.ki3 [l35.v,l41.v]) q38.2).bind fun q42 =>
 (AV.asTup2 q42.1).bind fun p43 =>
 ((some p43.1).bind AV.asSl).bind fun l44 =>
 ((some p43.2).bind (AV.asInt .i64)).bind fun n45 =>
 some (l44.v,q42.2)) (
 some (l35.v,q38.2))):=(ke _ h).trans (by kernel_rfl)
theorem kbk9(a1:Sl)(a2:Option Ref)(a3 a4:Sl)(a5:Int)(h:AH):go (.pt F.kb7 Td.koc [(2,a1.v),(8,.func (.func F.kbk) [.ptr a2] []),(9,a3.v),(11,a4.v),(12,.int .i64 a5)]) h =
 cond (decide (a5>0)) (
 go (.pt F.kb7 Td.kkx [(2,a1.v),(8,.func (.func F.kbk) [.ptr a2] []),(9,a3.v),(11,a4.v),(12,.int .i64 a5),(13,.int .i64 0),(72,.int .i64 0)]) h) (
 newK h (.cells [.int .u64 1] T.kf) fun h6r h6 =>
 (go (.fn F.kbk [.ptr a2,a4.v,(⟨some h6r,1,.is 1⟩:Sl).v]) h6).bind fun q7 =>
 ((some q7.1).bind AV.asSl).bind fun l8 =>
 some (.tup [l8.v,.int .i64 0],q7.2)):=(ke _ h).trans (by kernel_rfl)
theorem kbcy(a1:Sl)(h:AH):go (.fn F.ki6 [a1.v,.func (.func F.kei) [] []]) h =
 go (.pt F.ki6 Td.kpw [(0,a1.v),(1,.func (.func F.kei) [] []),(7,.int .i64 (a1.len:Int)),(8,.int .i64 0)]) h:=(ke _ h).trans (by kernel_rfl)
theorem kz8(a1 a2:Sl)(a3 a4 a5:Int)(h:AH):go (.pt F.kce Td.kot [(0,a1.v),(3,a2.v),(4,.int .i64 a3),(5,.int .u64 a4),(6,.int .i64 a5)]) h =
 cond (decide (a5<4)) (
 newK h (.cells [.int .u64 (Int.tmod a4 65536)] T.kf) fun h6r h6 =>
 (ky Pg T.kf ((⟨some h6r,1,.is 1⟩:Sl).v) h6).bind fun p8 =>
 (ku Pg a2 p8.1 p8.2 T.kf 1 h6).bind fun q7 =>
 (AV.asSl q7.1).bind fun l9 =>
 go (.pt F.kce Td.kot [(0,a1.v),(3,l9.v),(4,.int .i64 a3),(5,.int .u64 (IntKind.wrap .u64 (Int.tdiv a4 65536))),(6,.int .i64 (IntKind.wrap .i64 (a5+1)))]) q7.2) (
 go (.pt F.kce Td.km3 [(0,a1.v),(3,a2.v),(4,.int .i64 (IntKind.wrap .i64 (a3+1)))]) h):=(ke _ h).trans (by kernel_rfl)
theorem k6l(a1:Sl)(h:AH):go (.fn F.keg [a1.v]) h =
 go (.pt F.keg Td.kps [(0,a1.v),(3,.int .i64 (a1.len:Int))]) h:=(ke _ h).trans (by kernel_rfl)
theorem kbgp(a1:Sl)(a2:Int)(h:AH):go (.fn F.ksk [a1.v,.int .i64 a2]) h =
 cond (decide (a2<(a1.len:Int))) (
 (idx a1.ref a1.len a2 1).bind fun r3 =>
 ((h.cell r3).bind (AV.asInt .u64)).bind fun n4 =>
 some (.int .u64 n4,h)) (
 some (.int .u64 0,h)):=(ke _ h).trans (by kernel_rfl)
theorem kv4(a1 a2:Sl)(a3:Int)(h:AH):go (.pt F.kcj Td.kkb [(0,a1.v),(4,a2.v),(5,.int .i64 a3)]) h =
 cond (decide (a3<(a1.len:Int))) (
 go (.pt F.kcj Td.klr [(0,a1.v),(4,a2.v),(5,.int .i64 a3),(6,.int .u64 0),(7,.int .i64 3)]) h) (
 some (.tup [a2.v,.bool (decide ((a2.len:Int)≤64))],h)):=(ke _ h).trans (by kernel_rfl)
theorem kbkv(a1 a2 a3 a4:Sl)(a5:Int)(h:AH):go (.pt F.kdh Td.kpq [(0,a1.v),(1,a2.v),(6,a3.v),(7,a4.v),(8,.int .i64 a5)]) h =
 cond (decide (a5≥0)) (
 (idx a1.ref a1.len a5 1).bind fun r6 =>
 ((h.cell r6).bind (AV.asInt .u64)).bind fun n7 =>
 newK h (.cells [.int .u64 n7] T.kf) fun h8r h8 =>
 (ky Pg T.kf a4.v h8).bind fun p10 =>
 (ku Pg (⟨some h8r,1,.is 1⟩:Sl) p10.1 p10.2 T.kf 1 h8).bind fun q9 =>
 (AV.asSl q9.1).bind fun l11 =>
 (go (.fn F.keg [l11.v]) q9.2).bind fun q12 =>
 ((some q12.1).bind AV.asSl).bind fun l13 =>
 go (.pt F.kdh Td.kna [(0,a1.v),(1,a2.v),(6,a3.v),(7,l13.v),(8,.int .i64 a5),(9,.int .u64 0),(10,.int .u64 65535)]) q12.2) (
 (go (.fn F.keg [a3.v]) h).bind fun q14 =>
 ((some q14.1).bind AV.asSl).bind fun l15 =>
 some (.tup [l15.v,a4.v],q14.2)):=(ke _ h).trans (by kernel_rfl)
theorem kbgv(a1 a2 a3:Sl)(a4 a5 a6:Int)(h:AH):go (.pt F.kc1 Td.kp3 [(0,a1.v),(1,a2.v),(5,a3.v),(6,.int .i64 a4),(7,.int .u64 a5),(8,.int .i64 a6)]) h =
 cond (decide (a6<(a2.len:Int))) (
 (idx a3.ref a3.len (IntKind.wrap .i64 (a4+a6)) 1).bind fun r7 =>
 ((h.cell r7).bind (AV.asInt .u64)).bind fun n8 =>
 (idx a1.ref a1.len a4 1).bind fun r9 =>
 ((h.cell r9).bind (AV.asInt .u64)).bind fun n10 =>
 (idx a2.ref a2.len a6 1).bind fun r11 =>
 ((h.cell r11).bind (AV.asInt .u64)).bind fun n12 =>
 (idx a3.ref a3.len (IntKind.wrap .i64 (a4+a6)) 1).bind fun r13 =>
 (h.puts r13 [.int .u64 (Int.tmod (IntKind.wrap .u64 ((IntKind.wrap .u64 (n8+(IntKind.wrap .u64 (n10*n12))))+a5)) 65536)]).bind fun h14 =>
 go (.pt F.kc1 Td.kp3 [(0,a1.v),(1,a2.v),(5,a3.v),(6,.int .i64 a4),(7,.int .u64 (IntKind.wrap .u64 (Int.tdiv (IntKind.wrap .u64 ((IntKind.wrap .u64 (n8+(IntKind.wrap .u64 (n10*n12))))+a5)) 65536))),(8,.int .i64 (IntKind.wrap .i64 (a6+1)))]) h14) (
 (idx a3.ref a3.len (IntKind.wrap .i64 (a4+(a2.len:Int))) 1).bind fun r15 =>
 (h.puts r15 [.int .u64 a5]).bind fun h16 =>
 go (.pt F.kc1 Td.kng [(0,a1.v),(1,a2.v),(5,a3.v),(6,.int .i64 (IntKind.wrap .i64 (a4+1)))]) h16):=(ke _ h).trans (by kernel_rfl)
theorem k3t(a1:Sl)(a2:Option Ref)(h:AH):go (.fn F.kbm [a1.v,.func (.func F.kd3) [] [.ptr a2]]) h =
 go (.pt F.kbm Td.kcl [(0,a1.v),(1,.func (.func F.kd3) [] [.ptr a2]),(7,.int .i64 (a1.len:Int)),(8,.int .i64 0)]) h:=(ke _ h).trans (by kernel_rfl)
theorem kbkk(l:Nat)(pe:Option Code)(a1:Sl)(a2:AV)(a3:Ref)(a4:Sl)(a5:AV)(a6:Int)(h:AH)(hb:h.blks[l]?=some (kcx Fx.kt0 F.kfd 0 .ready pe [(0,a1.v),(1,a2),(2,.ptr (some a3)),(4,a4.v),(6,a5)])):go (.round l [.int .i64 a6]) h =
 (beginA l h).bind fun h7 =>
 ((h7.cell a3).bind AV.asSl).bind fun l8 =>
 newK h7 (.cells [.int .i64 a6] T.int) fun h9r h9 =>
 (ky Pg T.int ((⟨some h9r,1,.is 1⟩:Sl).v) h9).bind fun p11 =>
 (ku Pg l8 p11.1 p11.2 T.int 1 h9).bind fun q10 =>
 (AV.asSl q10.1).bind fun l12 =>
 (q10.2.puts a3 [l12.v]).bind fun h13 =>
 kcc l none h13:=(ke _ h).trans ((kon hb).trans (by kernel_rfl))
theorem k7m(a1:Sl)(a2:AV)(a3:Ref)(a4:Sl)(a5:AV)(h:AH):go (.pt F.kfd ((Option.map Item.code none).toList++Ta.k24) [(0,a1.v),(1,a2),(2,.ptr (some a3)),(4,a4.v),(6,a5)]) h =
 ((h.cell a3).bind AV.asSl).bind fun l6 =>
 some (l6.v,h):=(ke _ h).trans (by kernel_rfl)
theorem k8f(a1 a2 a3 a4 a5 a6 a7 a8 a9:Int)(h:AH):go (.pt F.kbu Td.khh [(2,.int .u64 a1),(8,.int .u64 a2),(9,.int .u64 a3),(10,.int .u64 a4),(14,.int .u64 a5),(15,.int .u64 a6),(16,.int .u64 a7),(17,.int .u64 a8),(18,.int .u64 a9)]) h =
 cond (decide (a9≥4294967296)) (
 cond (decide ((IntKind.wrap .u64 (a7+a3))≥4294967296)) (
 cond (decide (a2<0)) none (
 some (.tup [.int .u64 (IntKind.wrap .u64 ((IntKind.wrap .u64 (a6*4294967296))+(IntKind.wrap .u64 (a9-1)))),.int .u64 (ishr .u64 (IntKind.wrap .u64 ((IntKind.wrap .u64 ((IntKind.wrap .u64 (a8*4294967296))+a5))-(IntKind.wrap .u64 ((IntKind.wrap .u64 (a9-1))*a1)))) a2)],h))) (
 go (.pt F.kbu Td.khh [(2,.int .u64 a1),(8,.int .u64 a2),(9,.int .u64 a3),(10,.int .u64 a4),(14,.int .u64 a5),(15,.int .u64 a6),(16,.int .u64 (IntKind.wrap .u64 (a7+a3))),(17,.int .u64 a8),(18,.int .u64 (IntKind.wrap .u64 (a9-1)))]) h)) (
 cond (decide ((IntKind.wrap .u64 (a9*a4))>(IntKind.wrap .u64 ((IntKind.wrap .u64 (4294967296*a7))+a5)))) (
 cond (decide ((IntKind.wrap .u64 (a7+a3))≥4294967296)) (
 cond (decide (a2<0)) none (
 some (.tup [.int .u64 (IntKind.wrap .u64 ((IntKind.wrap .u64 (a6*4294967296))+(IntKind.wrap .u64 (a9-1)))),.int .u64 (ishr .u64 (IntKind.wrap .u64 ((IntKind.wrap .u64 ((IntKind.wrap .u64 (a8*4294967296))+a5))-(IntKind.wrap .u64 ((IntKind.wrap .u64 (a9-1))*a1)))) a2)],h))) (
 go (.pt F.kbu Td.khh [(2,.int .u64 a1),(8,.int .u64 a2),(9,.int .u64 a3),(10,.int .u64 a4),(14,.int .u64 a5),(15,.int .u64 a6),(16,.int .u64 (IntKind.wrap .u64 (a7+a3))),(17,.int .u64 a8),(18,.int .u64 (IntKind.wrap .u64 (a9-1)))]) h)) (
 cond (decide (a2<0)) none (
 some (.tup [.int .u64 (IntKind.wrap .u64 ((IntKind.wrap .u64 (a6*4294967296))+a9)),.int .u64 (ishr .u64 (IntKind.wrap .u64 ((IntKind.wrap .u64 ((IntKind.wrap .u64 (a8*4294967296))+a5))-(IntKind.wrap .u64 (a9*a1)))) a2)],h)))):=(ke _ h).trans (by kernel_rfl)
theorem kbca(a1:Int)(h:AH):go (.fn F.kdo [.int .i64 a1]) h =
 cond (decide (a1<0)) (
 some (.bool true,h)) (
 some (.bool (decide (a1>1073741824)),h)):=(ke _ h).trans (by kernel_rfl)
theorem k6i(a1:Int)(a2:Option Ref)(h:AH):go (.fn F.kdn [.int .i64 a1,.ptr a2]) h =
 cond (decide (a1<0)) (
 some (.bool true,h)) (
 a2.bind fun r3 =>
 ((h.cell r3).bind (AV.asInt .i64)).bind fun n4 =>
 some (.bool (decide (a1≥n4)),h)):=(ke _ h).trans (by kernel_rfl)
theorem k5g(a1:Sl)(a2:Option Ref)(h:AH):go (.fn F.kb6 [a1.v,.func (.func F.kd0) [] [.ptr a2]]) h =
 go (.pt F.kb6 Td.keb [(0,a1.v),(1,.func (.func F.kd0) [] [.ptr a2]),(7,.int .i64 (a1.len:Int)),(8,.int .i64 0)]) h:=(ke _ h).trans (by kernel_rfl)
theorem kbiw(a1 a2:Sl)(a3:Int)(h:AH):go (.fn F.kdw [a1.v,a2.v,.int .u64 a3]) h =
 go (.pt F.kdw Td.kl0 [(0,a1.v),(1,a2.v),(2,.int .u64 a3),(6,.int .u64 0),(12,.int .i64 (a1.len:Int)),(13,.int .i64 0)]) h:=(ke _ h).trans (by kernel_rfl)
theorem kbkt(a1:Sl)(h:AH):go (.fn F.khq [a1.v]) h =
 go (.pt F.khq Td.kq4 [(0,a1.v),(3,.int .i64 (a1.len:Int))]) h:=(ke _ h).trans (by kernel_rfl)
theorem kbaz(a1:Sl)(a2:Option Ref)(a3 a4:Sl)(a5 a6 a7:Int)(h:AH):go (.pt F.kb7 Td.kkx [(2,a1.v),(8,.func (.func F.kbk) [.ptr a2] []),(9,a3.v),(11,a4.v),(12,.int .i64 a5),(13,.int .i64 a6),(72,.int .i64 a7)]) h =
 cond (decide (a7<4)) (
 (go (.fn F.kbk [.ptr a2,a4.v,a4.v]) h).bind fun q8 =>
 ((some q8.1).bind AV.asSl).bind fun l9 =>
 (go (.fn F.kj8 [a1.v,.int .i64 (IntKind.wrap .i64 ((IntKind.wrap .i64 ((IntKind.wrap .i64 (a5*4))-1))-a7))]) q8.2).bind fun q10 =>
 ((some q10.1).bind AV.asBool).bind fun b11 =>
 cond b11 (
 cond (decide ((IntKind.wrap .i64 (3-a7))<0)) none (
 go (.pt F.kb7 Td.kkx [(2,a1.v),(8,.func (.func F.kbk) [.ptr a2] []),(9,a3.v),(11,l9.v),(12,.int .i64 a5),(13,.int .i64 (ior .i64 a6 (ishl .i64 1 (IntKind.wrap .i64 (3-a7))))),(72,.int .i64 (IntKind.wrap .i64 (a7+1)))]) q10.2)) (
 go (.pt F.kb7 Td.kkx [(2,a1.v),(8,.func (.func F.kbk) [.ptr a2] []),(9,a3.v),(11,l9.v),(12,.int .i64 a5),(13,.int .i64 a6),(72,.int .i64 (IntKind.wrap .i64 (a7+1)))]) q10.2)) (
 (idx a3.ref a3.len a6 1).bind fun r12 =>
 ((h.cell r12).bind AV.asSl).bind fun l13 =>
 (go (.fn F.kbk [.ptr a2,a4.v,l13.v]) h).bind fun q14 =>
 ((some q14.1).bind AV.asSl).bind fun l15 =>
 go (.pt F.kb7 Td.koc [(2,a1.v),(8,.func (.func F.kbk) [.ptr a2] []),(9,a3.v),(11,l15.v),(12,.int .i64 (IntKind.wrap .i64 (a5-1)))]) q14.2):=(ke _ h).trans (by kernel_rfl)
theorem kx0(a1:Sl)(a2 a3:Int)(h:AH):go (.pt F.ki6 Td.kpw [(0,a1.v),(1,.func (.func F.kei) [] []),(7,.int .i64 a2),(8,.int .i64 a3)]) h =
 cond (decide (a3<a2)) (
 (idx a1.ref a1.len a3 2).bind fun r4 =>
 ((h.cell (r4.add 0)).bind AV.asBool).bind fun b5 =>
 ((h.cell (r4.add 1)).bind AV.asSl).bind fun l6 =>
 (go (.fn F.kei [.agg [.bool b5,l6.v]]) h).bind fun q7 =>
 ((some q7.1).bind AV.asBool).bind fun b8 =>
 cond b8 (
 some (.int .i64 a3,q7.2)) (
 go (.pt F.ki6 Td.kpw [(0,a1.v),(1,.func (.func F.kei) [] []),(7,.int .i64 a2),(8,.int .i64 (IntKind.wrap .i64 (a3+1)))]) q7.2)) (
 some (.int .i64 (-1),h)):=(ke _ h).trans (by kernel_rfl)
theorem kzs(a1:Sl)(a2:Int)(h:AH):go (.pt F.keg Td.kps [(0,a1.v),(3,.int .i64 a2)]) h =
 cond (decide (a2>0)) (
 (idx a1.ref a1.len (IntKind.wrap .i64 (a2-1)) 1).bind fun r3 =>
 ((h.cell r3).bind (AV.asInt .u64)).bind fun n4 =>
 cond (decide (n4=0)) (
 go (.pt F.keg Td.kps [(0,a1.v),(3,.int .i64 (IntKind.wrap .i64 (a2-1)))]) h) (
 (cutSl a1 0 a2 1).bind fun l5 =>
 some (l5.v,h))) (
 (cutSl a1 0 a2 1).bind fun l6 =>
 some (l6.v,h)):=(ke _ h).trans (by kernel_rfl)
theorem k0x(a1 a2:Sl)(a3 a4 a5:Int)(h:AH):go (.pt F.kcj Td.klr [(0,a1.v),(4,a2.v),(5,.int .i64 a3),(6,.int .u64 a4),(7,.int .i64 a5)]) h =
 cond (decide (a5≥0)) (
 cond (decide ((IntKind.wrap .i64 (a3+a5))<(a1.len:Int))) (
 (idx a1.ref a1.len (IntKind.wrap .i64 (a3+a5)) 1).bind fun r6 =>
 ((h.cell r6).bind (AV.asInt .u64)).bind fun n7 =>
 go (.pt F.kcj Td.klr [(0,a1.v),(4,a2.v),(5,.int .i64 a3),(6,.int .u64 (IntKind.wrap .u64 ((IntKind.wrap .u64 (a4*65536))+n7))),(7,.int .i64 (IntKind.wrap .i64 (a5-1)))]) h) (
 go (.pt F.kcj Td.klr [(0,a1.v),(4,a2.v),(5,.int .i64 a3),(6,.int .u64 (IntKind.wrap .u64 (a4*65536))),(7,.int .i64 (IntKind.wrap .i64 (a5-1)))]) h)) (
 newK h (.cells [.int .u64 a4] T.kf) fun h8r h8 =>
 (ky Pg T.kf ((⟨some h8r,1,.is 1⟩:Sl).v) h8).bind fun p10 =>
 (ku Pg a2 p10.1 p10.2 T.kf 1 h8).bind fun q9 =>
 (AV.asSl q9.1).bind fun l11 =>
 go (.pt F.kcj Td.kkb [(0,a1.v),(4,l11.v),(5,.int .i64 (IntKind.wrap .i64 (a3+4)))]) q9.2):=(ke _ h).trans (by kernel_rfl)
theorem kbdp(a1 a2 a3 a4:Sl)(a5 a6 a7:Int)(h:AH):go (.pt F.kdh Td.kna [(0,a1.v),(1,a2.v),(6,a3.v),(7,a4.v),(8,.int .i64 a5),(9,.int .u64 a6),(10,.int .u64 a7)]) h =
 cond (decide (a6<a7)) (
 newK h (.cells [.int .u64 (IntKind.wrap .u64 (Int.tdiv (IntKind.wrap .u64 ((IntKind.wrap .u64 (a6+a7))+1)) 2))] T.kf) fun h8r h8 =>
 (go (.fn F.kc1 [a2.v,(⟨some h8r,1,.is 1⟩:Sl).v]) h8).bind fun q9 =>
 ((some q9.1).bind AV.asSl).bind fun l10 =>
 (go (.fn F.khc [l10.v,a4.v]) q9.2).bind fun q11 =>
 ((some q11.1).bind (AV.asInt .i64)).bind fun n12 =>
 cond (decide (n12≤0)) (
 go (.pt F.kdh Td.kna [(0,a1.v),(1,a2.v),(6,a3.v),(7,a4.v),(8,.int .i64 a5),(9,.int .u64 (IntKind.wrap .u64 (Int.tdiv (IntKind.wrap .u64 ((IntKind.wrap .u64 (a6+a7))+1)) 2))),(10,.int .u64 a7)]) q11.2) (
 go (.pt F.kdh Td.kna [(0,a1.v),(1,a2.v),(6,a3.v),(7,a4.v),(8,.int .i64 a5),(9,.int .u64 a6),(10,.int .u64 (IntKind.wrap .u64 ((IntKind.wrap .u64 (Int.tdiv (IntKind.wrap .u64 ((IntKind.wrap .u64 (a6+a7))+1)) 2))-1)))]) q11.2)) (
 (idx a3.ref a3.len a5 1).bind fun r13 =>
 (h.puts r13 [.int .u64 a6]).bind fun h14 =>
 newK h14 (.cells [.int .u64 a6] T.kf) fun h15r h15 =>
 (go (.fn F.kc1 [a2.v,(⟨some h15r,1,.is 1⟩:Sl).v]) h15).bind fun q16 =>
 ((some q16.1).bind AV.asSl).bind fun l17 =>
 (go (.fn F.kg7 [a4.v,l17.v]) q16.2).bind fun q18 =>
 ((some q18.1).bind AV.asSl).bind fun l19 =>
 go (.pt F.kdh Td.kpq [(0,a1.v),(1,a2.v),(6,a3.v),(7,l19.v),(8,.int .i64 (IntKind.wrap .i64 (a5-1)))]) q18.2):=(ke _ h).trans (by kernel_rfl)
theorem kza(a1:Sl)(a2:Option Ref)(a3 a4:Int)(h:AH):go (.pt F.kbm Td.kcl [(0,a1.v),(1,.func (.func F.kd3) [] [.ptr a2]),(7,.int .i64 a3),(8,.int .i64 a4)]) h =
 cond (decide (a4<a3)) (
 (idx a1.ref a1.len a4 1).bind fun r5 =>
 ((h.cell r5).bind (AV.asInt .i64)).bind fun n6 =>
 (go (.fn F.kd3 [.int .i64 n6,.ptr a2]) h).bind fun q7 =>
 ((some q7.1).bind AV.asBool).bind fun b8 =>
 cond b8 (
 some (.int .i64 a4,q7.2)) (
 go (.pt F.kbm Td.kcl [(0,a1.v),(1,.func (.func F.kd3) [] [.ptr a2]),(7,.int .i64 a3),(8,.int .i64 (IntKind.wrap .i64 (a4+1)))]) q7.2)) (
 some (.int .i64 (-1),h)):=(ke _ h).trans (by kernel_rfl)
theorem kzr(a1:Sl)(a2:Option Ref)(a3 a4:Int)(h:AH):go (.pt F.kb6 Td.keb [(0,a1.v),(1,.func (.func F.kd0) [] [.ptr a2]),(7,.int .i64 a3),(8,.int .i64 a4)]) h =
 cond (decide (a4<a3)) (
 (idx a1.ref a1.len a4 1).bind fun r5 =>
 ((h.cell r5).bind AV.asSl).bind fun l6 =>
 (go (.fn F.kd0 [l6.v,.ptr a2]) h).bind fun q7 =>
 ((some q7.1).bind AV.asBool).bind fun b8 =>
 cond b8 (
 some (.int .i64 a4,q7.2)) (
 go (.pt F.kb6 Td.keb [(0,a1.v),(1,.func (.func F.kd0) [] [.ptr a2]),(7,.int .i64 a3),(8,.int .i64 (IntKind.wrap .i64 (a4+1)))]) q7.2)) (
 some (.int .i64 (-1),h)):=(ke _ h).trans (by kernel_rfl)
theorem kbdq(a1 a2:Sl)(a3 a4 a5 a6:Int)(h:AH):go (.pt F.kdw Td.kl0 [(0,a1.v),(1,a2.v),(2,.int .u64 a3),(6,.int .u64 a4),(12,.int .i64 a5),(13,.int .i64 a6)]) h =
 cond (decide (a6<a5)) (
 cond (decide (a6<(a2.len:Int))) (
 (idx a2.ref a2.len a6 1).bind fun r7 =>
 ((h.cell r7).bind (AV.asInt .u64)).bind fun n8 =>
 (go (.fn F.klk [.int .u64 n8,.int .u64 a3]) h).bind fun q9 =>
 (AV.asTup2 q9.1).bind fun p10 =>
 ((some p10.1).bind (AV.asInt .u64)).bind fun n11 =>
 ((some p10.2).bind (AV.asInt .u64)).bind fun n12 =>
 ((prim "math/bits.Add64" [.int .u64 n12,.int .u64 a4,.int .u64 0]).map fun v=>(v,q9.2)).bind fun q13 =>
 (AV.asTup2 q13.1).bind fun p14 =>
 ((some p14.1).bind (AV.asInt .u64)).bind fun n15 =>
 ((some p14.2).bind (AV.asInt .u64)).bind fun n16 =>
 (idx a1.ref a1.len a6 1).bind fun r17 =>
 ((q13.2.cell r17).bind (AV.asInt .u64)).bind fun n18 =>
 ((prim "math/bits.Add64" [.int .u64 n18,.int .u64 n15,.int .u64 0]).map fun v=>(v,q13.2)).bind fun q19 =>
 (AV.asTup2 q19.1).bind fun p20 =>
 ((some p20.1).bind (AV.asInt .u64)).bind fun n21 =>
 ((some p20.2).bind (AV.asInt .u64)).bind fun n22 =>
 (idx a1.ref a1.len a6 1).bind fun r23 =>
 (q19.2.puts r23 [.int .u64 n21]).bind fun h24 =>
 go (.pt F.kdw Td.kl0 [(0,a1.v),(1,a2.v),(2,.int .u64 a3),(6,.int .u64 (IntKind.wrap .u64 ((IntKind.wrap .u64 (n11+n16))+n22))),(12,.int .i64 a5),(13,.int .i64 (IntKind.wrap .i64 (a6+1)))]) h24) (
 ((prim "math/bits.Add64" [.int .u64 0,.int .u64 a4,.int .u64 0]).map fun v=>(v,h)).bind fun q25 =>
 (AV.asTup2 q25.1).bind fun p26 =>
 ((some p26.1).bind (AV.asInt .u64)).bind fun n27 =>
 ((some p26.2).bind (AV.asInt .u64)).bind fun n28 =>
 (idx a1.ref a1.len a6 1).bind fun r29 =>
 ((q25.2.cell r29).bind (AV.asInt .u64)).bind fun n30 =>
 ((prim "math/bits.Add64" [.int .u64 n30,.int .u64 n27,.int .u64 0]).map fun v=>(v,q25.2)).bind fun q31 =>
 (AV.asTup2 q31.1).bind fun p32 =>
 ((some p32.1).bind (AV.asInt .u64)).bind fun n33 =>
 ((some p32.2).bind (AV.asInt .u64)).bind fun n34 =>
 (idx a1.ref a1.len a6 1).bind fun r35 =>
 (q31.2.puts r35 [.int .u64 n33]).bind fun h36 =>
 go (.pt F.kdw Td.kl0 [(0,a1.v),(1,a2.v),(2,.int .u64 a3),(6,.int .u64 (IntKind.wrap .u64 ((IntKind.wrap .u64 (0+n28))+n34))),(12,.int .i64 a5),(13,.int .i64 (IntKind.wrap .i64 (a6+1)))]) h36)) (
 some (.tup [],h)):=(ke _ h).trans (by kernel_rfl)
theorem kws(a1:Sl)(a2:Int)(h:AH):go (.pt F.khq Td.kq4 [(0,a1.v),(3,.int .i64 a2)]) h =
 cond (decide (a2>0)) (
 (idx a1.ref a1.len (IntKind.wrap .i64 (a2-1)) 1).bind fun r3 =>
 ((h.cell r3).bind (AV.asInt .u64)).bind fun n4 =>
 cond (decide (n4=0)) (
 go (.pt F.khq Td.kq4 [(0,a1.v),(3,.int .i64 (IntKind.wrap .i64 (a2-1)))]) h) (
 (cutSl a1 0 a2 1).bind fun l5 =>
 some (l5.v,h))) (
 (cutSl a1 0 a2 1).bind fun l6 =>
 some (l6.v,h)):=(ke _ h).trans (by kernel_rfl)
theorem kbik(a1:Bool)(a2:Sl)(h:AH):go (.fn F.kei [.agg [.bool a1,a2.v]]) h =
 newK h (.cells [.bool a1,a2.v] T.kn) fun h3r h3 =>
 ((h3.cell (h3r.add 0)).bind AV.asBool).bind fun b4 =>
 ((h3.cell (h3r.add 1)).bind AV.asSl).bind fun l5 =>
 (go (.fn F.kp9 [.agg [.bool b4,l5.v]]) h3).bind fun q6 =>
 ((some q6.1).bind AV.asBool).bind fun b7 =>
 some (.bool (!b7),q6.2):=(ke _ h).trans (by kernel_rfl)
theorem k3s(a1 a2:Sl)(h:AH):go (.fn F.kg7 [a1.v,a2.v]) h =
 go (.pt F.kg7 Td.kk6 [(0,a1.v),(1,a2.v),(5,(⟨none,0,.is 0⟩:Sl).v),(6,.int .u64 0),(7,.int .i64 0)]) h:=(ke _ h).trans (by kernel_rfl)
theorem kbit(a1:Int)(a2:Option Ref)(h:AH):go (.fn F.kd3 [.int .i64 a1,.ptr a2]) h =
 cond (decide (a1<0)) (
 some (.bool true,h)) (
 a2.bind fun r3 =>
 ((h.cell r3).bind (AV.asInt .i64)).bind fun n4 =>
 some (.bool (decide (a1≥n4)),h)):=(ke _ h).trans (by kernel_rfl)
theorem k5s(a1:Sl)(a2:Option Ref)(h:AH):go (.fn F.kd0 [a1.v,.ptr a2]) h =
 (go (.fn F.kcf [a1.v]) h).bind fun q3 =>
 ((some q3.1).bind AV.asBool).bind fun b4 =>
 cond (!b4) (
 some (.bool true,q3.2)) (
 a2.bind fun r5 =>
 ((q3.2.cell r5).bind AV.asPtr).bind fun p6 =>
 p6.bind fun r7 =>
 ((q3.2.cell (r7.add 0)).bind AV.asSl).bind fun l8 =>
 (go (.fn F.kda [a1.v,l8.v]) q3.2).bind fun q9 =>
 ((some q9.1).bind (AV.asInt .i64)).bind fun n10 =>
 some (.bool (decide (n10≥0)),q9.2)):=(ke _ h).trans (by kernel_rfl)
theorem kxg(a1 a2 a3:Sl)(a4 a5:Int)(h:AH):go (.pt F.kg7 Td.kk6 [(0,a1.v),(1,a2.v),(5,a3.v),(6,.int .u64 a4),(7,.int .i64 a5)]) h =
 cond (decide (a5<(a1.len:Int))) (
 (idx a1.ref a1.len a5 1).bind fun r6 =>
 ((h.cell r6).bind (AV.asInt .u64)).bind fun n7 =>
 (go (.fn F.ksk [a2.v,.int .i64 a5]) h).bind fun q8 =>
 ((some q8.1).bind (AV.asInt .u64)).bind fun n9 =>
 whenK (SameAt h q8.2 r6 1) (
 newK q8.2 (.cells [.int .u64 (Int.tmod (IntKind.wrap .u64 ((IntKind.wrap .u64 ((IntKind.wrap .u64 (65536+n7))-n9))-a4)) 65536)] T.kf) fun h10r h10 =>
 (ky Pg T.kf ((⟨some h10r,1,.is 1⟩:Sl).v) h10).bind fun p12 =>
 (ku Pg a3 p12.1 p12.2 T.kf 1 h10).bind fun q11 =>
 (AV.asSl q11.1).bind fun l13 =>
 go (.pt F.kg7 Td.kk6 [(0,a1.v),(1,a2.v),(5,l13.v),(6,.int .u64 (IntKind.wrap .u64 (1-(IntKind.wrap .u64 (Int.tdiv (IntKind.wrap .u64 ((IntKind.wrap .u64 ((IntKind.wrap .u64 (65536+n7))-n9))-a4)) 65536))))),(7,.int .i64 (IntKind.wrap .i64 (a5+1)))]) q11.2)) (
 (go (.fn F.keg [a3.v]) h).bind fun q14 =>
 ((some q14.1).bind AV.asSl).bind fun l15 =>
 some (l15.v,q14.2)):=(ke _ h).trans (by kernel_rfl)
end Go.Ab
