/- Words and laws that the last text joins. -/
import Derived.Test.YtndomkpijjibiaaGreatDoorPAbsDra
import Derived.Test.YtndomkpijjibiaaGreatDoorProg
set_option linter.unusedVariables false
set_option linter.unusedSimpArgs false
set_option linter.unusedSectionVars false
set_option maxRecDepth 100000
namespace Go.Ab
open Go.Proofs
@[reducible] def kz:FuncId:=3
@[reducible] def knx:FuncId:=4
@[reducible] def kgw:FuncId:=5
@[reducible] def kdl:FuncId:=6
@[reducible] def kc7:FuncId:=7
@[reducible] def kgq:FuncId:=8
@[reducible] def kfp:FuncId:=9
@[reducible] def klw:FuncId:=10
@[reducible] def kly:FuncId:=11
@[reducible] def ko6:FuncId:=12
@[reducible] def kp3:FuncId:=13
@[reducible] def khw:FuncId:=14
@[reducible] def kct:FuncId:=15
@[reducible] def kc0:FuncId:=16
@[reducible] def kpt:FuncId:=17
@[reducible] def kkw:FuncId:=18
@[reducible] def kiy:FuncId:=19
@[reducible] def kg5:FuncId:=20
@[reducible] def kc3:FuncId:=21
@[reducible] def kc5:FuncId:=22
@[reducible] def kb6:FuncId:=23
@[reducible] def koc:FuncId:=24
@[reducible] def kpr:FuncId:=25
@[reducible] def kd1:FuncId:=26
@[reducible] def kpa:FuncId:=27
@[reducible] def kiv:FuncId:=28
@[reducible] def kii:FuncId:=29
@[reducible] def kby:FuncId:=30
@[reducible] def kjt:FuncId:=31
@[reducible] def kni:FuncId:=32
@[reducible] def kc4:FuncId:=33
@[reducible] def kkh:FuncId:=34
@[reducible] def kpj:FuncId:=35
@[reducible] def khh:FuncId:=36
@[reducible] def ko9:FuncId:=37
@[reducible] def kng:FuncId:=38
@[reducible] def kf8:FuncId:=39
@[reducible] def knl:FuncId:=40
@[reducible] def kov:FuncId:=41
@[reducible] def kf4:FuncId:=42
@[reducible] def kkx:FuncId:=43
@[reducible] def ko5:FuncId:=44
@[reducible] def kde:FuncId:=45
@[reducible] def kca:FuncId:=46
@[reducible] def khs:FuncId:=47
@[reducible] def kn6:FuncId:=48
@[reducible] def kbq:FuncId:=49
@[reducible] def kb9:FuncId:=50
@[reducible] def kc9:FuncId:=51
@[reducible] def km4:FuncId:=52
@[reducible] def knp:FuncId:=53
@[reducible] def klm:FuncId:=54
@[reducible] def kda:FuncId:=55
@[reducible] def knd:FuncId:=56
@[reducible] def knm:FuncId:=57
@[reducible] def krh:FuncId:=58
@[reducible] def kfb:FuncId:=59
@[reducible] def koq:FuncId:=60
@[reducible] def kgx:FuncId:=61
@[reducible] def kdt:FuncId:=62
@[reducible] def kdj:FuncId:=63
@[reducible] def ko4:FuncId:=64
@[reducible] def kow:FuncId:=65
@[reducible] def kfd:FuncId:=66
@[reducible] def kbx:FuncId:=67
@[reducible] def kcy:FuncId:=68
@[reducible] def kgy:FuncId:=69
@[reducible] def kba:FuncId:=70
@[reducible] def kdg:FuncId:=71
@[reducible] def kh5:FuncId:=72
@[reducible] def kih:FuncId:=73
@[reducible] def kft:FuncId:=74
@[reducible] def kcu:FuncId:=75
@[reducible] def kmm:FuncId:=76
@[reducible] def kep:FuncId:=77
@[reducible] def kf1:FuncId:=78
@[reducible] def kd9:FuncId:=79
@[reducible] def kcg:FuncId:=80
@[reducible] def ker:FuncId:=82
@[reducible] def knf:FuncId:=83
@[reducible] def klp:FuncId:=84
@[reducible] def kbe:FuncId:=86
@[reducible] def khi:FuncId:=87
@[reducible] def kjc:FuncId:=88
@[reducible] def kox:FuncId:=89
@[reducible] def kqr:FuncId:=90
@[reducible] def kmw:FuncId:=91
@[reducible] def kcx:FuncId:=92
@[reducible] def kmy:FuncId:=93
@[reducible] def kdr:FuncId:=94
@[reducible] def kje:FuncId:=95
@[reducible] def kqu:FuncId:=96
@[reducible] def kbv:FuncId:=97
@[reducible] def kn2:FuncId:=98
@[reducible] def kgz:FuncId:=101
@[reducible] def kev:FuncId:=102
@[reducible] def kho:FuncId:=103
@[reducible] def kph:FuncId:=104
@[reducible] def kn8:FuncId:=105
@[reducible] def khx:FuncId:=106
@[reducible] def kfe:FuncId:=107
@[reducible] def kfj:FuncId:=108
@[reducible] def kjx:FuncId:=109
@[reducible] def kg4:FuncId:=110
@[reducible] def kbn:FuncId:=111
@[reducible] def kd0:FuncId:=112
@[reducible] def kiq:FuncId:=113
@[reducible] def kef:FuncId:=115
@[reducible] def kb5:FuncId:=116
@[reducible] def kqi:FuncId:=117
@[reducible] def kg3:FuncId:=118
@[reducible] def keg:FuncId:=119
@[reducible] def kjb:FuncId:=120
@[reducible] def kki:FuncId:=121
@[reducible] def kq4:FuncId:=122
@[reducible] def kic:FuncId:=123
@[reducible] def kpo:FuncId:=124
@[reducible] def ket:FuncId:=125
@[reducible] def kb1:FuncId:=126
@[reducible] def kdq:FuncId:=127
@[reducible] def kbf:FuncId:=128
@[reducible] def ki7:FuncId:=129
@[reducible] def kcl:FuncId:=130
@[reducible] def kh7:FuncId:=131
@[reducible] def khc:FuncId:=132
@[reducible] def kcv:FuncId:=133
@[reducible] def kcp:FuncId:=134
@[reducible] def kdh:FuncId:=135
@[reducible] def kp8:FuncId:=136
@[reducible] def kej:FuncId:=137
@[reducible] def kc8:FuncId:=138
@[reducible] def kbl:FuncId:=139
@[reducible] def knj:FuncId:=140
@[reducible] def kd4:FuncId:=141
@[reducible] def kes:FuncId:=142
@[reducible] def knk:FuncId:=143
@[reducible] def kex:FuncId:=146
@[reducible] def kfu:FuncId:=147
@[reducible] def kd3:FuncId:=148
@[reducible] def T.func:TypeId:=1
@[reducible] def T.int:TypeId:=3
@[reducible] def T.bool:TypeId:=4
@[reducible] def kcw:TypeId:=5
@[reducible] def T.string:TypeId:=9
@[reducible] def T.any:TypeId:=20
@[reducible] def kq8:TypeId:=22
@[reducible] def kbh:TypeId:=24
@[reducible] def kpq:TypeId:=25
@[reducible] def kbr:TypeId:=26
@[reducible] def kqb:TypeId:=27
@[reducible] def ku:TypeId:=29
@[reducible] def kkd:TypeId:=34
@[reducible] def kik:TypeId:=36
@[reducible] def kea:TypeId:=37
@[reducible] def kot:TypeId:=45
@[reducible] def kb2:TypeId:=47
@[reducible] def kbc:TypeId:=49
@[reducible] def kbp:TypeId:=51
@[reducible] def kem:TypeId:=54
@[reducible] def kbu:TypeId:=56
@[reducible] def kqt:TypeId:=58
@[reducible] def kj:TypeId:=75
@[reducible] def kr:TypeId:=77
@[reducible] def kbc8:TypeId:=84
@[reducible] def kb0:TypeId:=86
@[reducible] def kky:TypeId:=94
@[reducible] def kty:TypeId:=103
@[reducible] def ktw:TypeId:=111
@[reducible] def km2:TypeId:=123
@[reducible] def ktt:TypeId:=124
@[reducible] def kcr:TypeId:=126
@[reducible] def koz:TypeId:=128
@[reducible] def kui:TypeId:=129
@[reducible] def kv9:TypeId:=136
@[reducible] def kyn:TypeId:=140
@[reducible] def k4b:TypeId:=147
@[reducible] def ky:TypeId:=155
@[reducible] def khf:TypeId:=160
@[reducible] def kzv:TypeId:=166
@[reducible] def kvs:TypeId:=183
@[reducible] noncomputable def Pg:Program:=Tryz.prog
@[reducible] def Gl.math_bits_deBruijn64tab:Nat:=0
@[reducible] def Gl.math_bits_divideError:Nat:=1
@[reducible] def Gl.math_bits_overflowError:Nat:=2
def keepTab:List (Nat×Nat×List Nat):=[(3,8,[1,3,5,9,10,11]),(3,24,[1,3,5,9,10,15,17,18]),(3,28,[1,3,5,9,10,15,17,18,19,20]),(3,38,[1,5,9,10,15,17,23]),(3,52,[10,17,29,31]),(3,1000031,[0,1,2,3,4,5,6,7,8,9,10,11,12,13,18,14,15,16,17,19,20]),(3,1000044,[0,1,2,3,4,5,6,7,8,9,10,11,12,13,14,19,15,16,17,18,20,21]),(3,2000031,[18]),(3,2000044,[19]),(5,3,[2,3,5,6]),(6,9,[5,9,11,12]),(6,15,[9,13]),(7,5,[1,4]),(7,10,[1,4,5]),(8,4,[0,1,5]),(9,8,[8,9,37,38,39]),(13,1000008,[0,1,3,4,5,7,8,2,6,9,10]),(14,1000001,[0,1,2,3,5,6,7,8,9,4,10,11,12,13]),(15,6,[1,2,7,8]),(15,10,[1,2,7,8,9,10]),(16,3,[0,1,5,6]),(16,7,[0,1,5,6,7,8]),(18,1000009,[0,2,3,1,4,5,6,7]),(19,1000010,[1,2,4,0,3,5]),(19,2000010,[4]),(20,4,[0,3]),(21,4,[12,13,14]),(21,9,[4,12,13,14,29,30,31]),(22,4,[1,27,28,29]),(26,0,[0]),(26,1000004,[0,1,2,3,4,5,6,7,8,9,10,11,12,13,14,15,16,17,18,19,20,22,23,21,24,25]),(30,6,[1,4,43,44,45]),(30,15,[1,84,85]),(33,4,[1,3]),(33,10,[1,3,4,5]),(40,1000011,[0,1,2,3,4,7,8,5,6,9,10,11]),(42,2,[0,1,5]),(47,2,[0,1,7,8]),(61,1000006,[0,1,2,3,4,5,7,8,6,9,10,11,12,13,14]),(62,9,[2,55,56,57]),(62,2000007,[5]),(63,14,[0,3,6,10,11,87,88,89]),(63,1000003,[0,1,2,3,4,5,6,7,12,8,9,10,11,13,14]),(63,2000003,[12]),(69,3,[3,7,8,9]),(70,2,[0,1,7,8]),(72,2,[0,1,7,8]),(77,5,[4,6,23,24,25]),(78,10,[0,4,14,15,17,60,61,62]),(80,14,[7,8,9,11,12,15,40,41,42]),(82,7,[2,3,6,8,44,45,46]),(86,2,[0,1,7,8]),(94,5,[0,1,6,25,26]),(94,11,[6,8,9]),(101,5,[2,3,4,6,8,9,35,36]),(108,4,[0,1]),(111,1,[0,1,2,10,11,12]),(111,4,[0,1,2,4,10,11,12,18,19]),(116,1,[0,6,7,8]),(116,3,[0,3,4,6,7,8]),(119,6,[0,1,5]),(125,4,[0,1,6,7,8]),(126,6,[6,7,8,9,10,11]),(126,10,[6,7,8,9,10,11,12,13]),(126,18,[6,10,15,16,112,113]),(128,2,[0,3]),(129,1000006,[0,1,2,4,5,8,9,10,12,13,3,6,7,11,14,15,16,17]),(129,1000007,[0,1,2,4,5,9,10,12,13,3,6,7,8,11,14,15,16,17,18]),(130,3,[1,5,20,21,22]),(130,7,[1,5,6,7,8,20,21,22,27,28,29]),(133,6,[0,1,5,6,21,22]),(134,4,[0,1,5,6,13,14]),(135,2,[0,1,2,6,7]),(137,1,[0,1,2]),(139,3,[0,1,2]),(139,17,[2,8,9,10,11,13,14,15,16]),(139,24,[2,8,9,10,14,15,16,17,18]),(141,3,[1,5,12,13,14]),(142,4,[2,3,4,11,12]),(146,9,[0,5,23,24]),(147,2,[0,1,7,8])]
noncomputable def go:Rec:=run Pg (keepOf keepTab)
theorem ke(k:Key)(h:AH):go k h=stepA Pg (keepOf keepTab) go k h:=k5b _ k h
theorem kf6:Pg.underlying T.int=some (.int .i64):=Tryz.underlying3
theorem kf5:Pg.cellsOf T.int=1:=by kernel_rfl
theorem kpd:kbs Pg T.int=some [.int .i64 0]:=by kernel_rfl
theorem kks:Pg.bytesOf T.int=8:=by kernel_rfl
theorem k2j:Pg.underlying T.bool=some .bool:=Tryz.underlying4
theorem ky1:Pg.cellsOf T.bool=1:=by kernel_rfl
theorem kbdz:Pg.underlying kcw=some (.int .u8):=Tryz.underlying5
theorem kwa:Pg.cellsOf kcw=1:=by kernel_rfl
theorem kz9:kbs Pg kcw=some [.int .u8 0]:=by kernel_rfl
theorem k93:Pg.bytesOf kcw=1:=by kernel_rfl
theorem k3v:Pg.underlying kq8=some (.slice kb2):=Tryz.underlying22
theorem kyf:Pg.cellsOf kq8=1:=by kernel_rfl
theorem ksc:Pg.underlying kbh=some (.struct #[{name := "Trees",type:=kq8,offset:=0,embedded:=false,tag := "",pkgPath := "",byteOffset:=0}]):=Tryz.underlying24
theorem k1k:Pg.cellsOf kbh=1:=by kernel_rfl
theorem kxw:Pg.underlying kpq=some (.slice kik):=Tryz.underlying25
theorem kbdn:Pg.underlying kbr=some (.slice T.int):=Tryz.underlying26
theorem kir:Pg.cellsOf kbr=1:=by kernel_rfl
theorem kbdx:kbs Pg kbr=some [(⟨none,0,.is 0⟩:Sl).v]:=by kernel_rfl
theorem kbad:Pg.bytesOf kbr=24:=by kernel_rfl
theorem kxx:Pg.underlying kqb=some (.slice kbr):=Tryz.underlying27
theorem ks5:Pg.cellsOf kqb=1:=by kernel_rfl
theorem knt:Pg.underlying ku=some (.struct #[{name := "Ids",type:=kbr,offset:=0,embedded:=false,tag := "",pkgPath := "",byteOffset:=0},{name := "Bins",type:=kbr,offset:=1,embedded:=false,tag := "",pkgPath := "",byteOffset:=24},{name := "Cols",type:=kqb,offset:=2,embedded:=false,tag := "",pkgPath := "",byteOffset:=48}]):=Tryz.underlying29
theorem klu:Pg.cellsOf ku=3:=by kernel_rfl
theorem k1g:kbs Pg ku=some [(⟨none,0,.is 0⟩:Sl).v,(⟨none,0,.is 0⟩:Sl).v,(⟨none,0,.is 0⟩:Sl).v]:=by kernel_rfl
theorem k60:Pg.bytesOf ku=72:=by kernel_rfl
theorem k6r:Pg.underlying kkd=some (.slice kcw):=Tryz.underlying34
theorem k8l:Pg.cellsOf kkd=1:=by kernel_rfl
theorem kbcy:Pg.underlying kik=some (.struct #[{name := "Table",type:=ku,offset:=0,embedded:=false,tag := "",pkgPath := "",byteOffset:=0},{name := "Tape",type:=kkd,offset:=3,embedded:=false,tag := "",pkgPath := "",byteOffset:=72},{name := "Queries",type:=ku,offset:=4,embedded:=false,tag := "",pkgPath := "",byteOffset:=96}]):=Tryz.underlying36
theorem ks4:Pg.cellsOf kik=7:=by kernel_rfl
theorem k6p:Pg.cellsOf kea=1:=by kernel_rfl
theorem kzb:kbs Pg kea=some [.ptr none]:=by kernel_rfl
theorem k1v:Pg.bytesOf kea=8:=by kernel_rfl
theorem k5p:Pg.underlying kot=some (.slice kbc):=Tryz.underlying45
theorem k4c:Pg.cellsOf kot=1:=by kernel_rfl
theorem k0c:Pg.underlying kb2=some (.struct #[{name := "Nodes",type:=kot,offset:=0,embedded:=false,tag := "",pkgPath := "",byteOffset:=0}]):=Tryz.underlying47
theorem knb:Pg.cellsOf kb2=1:=by kernel_rfl
theorem kbe9:kbs Pg kb2=some [(⟨none,0,.is 0⟩:Sl).v]:=by kernel_rfl
theorem k34:Pg.bytesOf kb2=24:=by kernel_rfl
theorem k8h:Pg.underlying kbc=some (.struct #[{name := "Leaf",type:=T.bool,offset:=0,embedded:=false,tag := "",pkgPath := "",byteOffset:=0},{name := "Weight",type:=T.int,offset:=1,embedded:=false,tag := "",pkgPath := "",byteOffset:=8},{name := "Party",type:=T.int,offset:=2,embedded:=false,tag := "",pkgPath := "",byteOffset:=16},{name := "Feature",type:=T.int,offset:=3,embedded:=false,tag := "",pkgPath := "",byteOffset:=24},{name := "Cut",type:=T.int,offset:=4,embedded:=false,tag := "",pkgPath := "",byteOffset:=32},{name := "Left",type:=T.int,offset:=5,embedded:=false,tag := "",pkgPath := "",byteOffset:=40},{name := "Right",type:=T.int,offset:=6,embedded:=false,tag := "",pkgPath := "",byteOffset:=48}]):=Tryz.underlying49
theorem kls:Pg.cellsOf kbc=7:=by kernel_rfl
theorem k4y:kbs Pg kbc=some [.bool false,.int .i64 0,.int .i64 0,.int .i64 0,.int .i64 0,.int .i64 0,.int .i64 0]:=by kernel_rfl
theorem k54:Pg.bytesOf kbc=56:=by kernel_rfl
theorem kbcl:Pg.cellsOf kbp=2:=by kernel_rfl
theorem k4p:kbs Pg kbp=some [.int .i64 0,.int .i64 0]:=by kernel_rfl
theorem k3g:Pg.bytesOf kbp=16:=by kernel_rfl
theorem kbd6:Pg.cellsOf kj=1:=by kernel_rfl
theorem k3i:kbs Pg kj=some [.int .u64 0]:=by kernel_rfl
theorem kdw:Pg.bytesOf kj=8:=by kernel_rfl
theorem kkk:Pg.cellsOf kr=1:=by kernel_rfl
theorem k61:kbs Pg kr=some [(⟨none,0,.is 0⟩:Sl).v]:=by kernel_rfl
theorem k5o:Pg.bytesOf kr=24:=by kernel_rfl
theorem kyx:Pg.cellsOf kcr=4:=by kernel_rfl
theorem kbdf:kbs Pg kcr=some [.int .i64 0,.int .i64 0,.int .i64 0,.int .i64 0]:=by kernel_rfl
theorem k0d:Pg.bytesOf kcr=32:=by kernel_rfl
noncomputable def kie:List Item:=todoAt Tryz.f3 8
noncomputable def ki1:List Item:=todoAt Tryz.f3 24
noncomputable def kgs:List Item:=todoAt Tryz.f3 28
noncomputable def kjf:List Item:=todoAt Tryz.f3 38
noncomputable def kht:List Item:=todoAt Tryz.f3 52
noncomputable def kkp:List Item:=todoAt Tryz.f5 3
noncomputable def kll:List Item:=todoAt Tryz.f6 9
noncomputable def kk1:List Item:=todoAt Tryz.f6 15
noncomputable def ki3:List Item:=todoAt Tryz.f7 5
noncomputable def km7:List Item:=todoAt Tryz.f7 10
noncomputable def km9:List Item:=todoAt Tryz.f8 4
noncomputable def kk9:List Item:=todoAt Tryz.f9 8
noncomputable def kjk:List Item:=todoAt Tryz.f15 6
noncomputable def kjj:List Item:=todoAt Tryz.f15 10
noncomputable def kjz:List Item:=todoAt Tryz.f16 3
noncomputable def kl2:List Item:=todoAt Tryz.f16 7
noncomputable def kkn:List Item:=todoAt Tryz.f20 4
noncomputable def kiu:List Item:=todoAt Tryz.f21 4
noncomputable def kk4:List Item:=todoAt Tryz.f21 9
noncomputable def kkg:List Item:=todoAt Tryz.f22 4
noncomputable def kgo:List Item:=todoAt Tryz.f26 0
noncomputable def kez:List Item:=todoAt Tryz.f30 6
noncomputable def kjg:List Item:=todoAt Tryz.f30 15
noncomputable def kiw:List Item:=todoAt Tryz.f33 4
noncomputable def knh:List Item:=todoAt Tryz.f33 10
noncomputable def kmf:List Item:=todoAt Tryz.f42 2
noncomputable def klt:List Item:=todoAt Tryz.f47 2
noncomputable def kk7:List Item:=todoAt Tryz.f62 9
noncomputable def kkq:List Item:=todoAt Tryz.f63 14
noncomputable def kk5:List Item:=todoAt Tryz.f69 3
noncomputable def kbo:List Item:=todoAt Tryz.f70 2
noncomputable def knc:List Item:=todoAt Tryz.f72 2
noncomputable def klx:List Item:=todoAt Tryz.f77 5
noncomputable def kna:List Item:=todoAt Tryz.f78 10
noncomputable def kli:List Item:=todoAt Tryz.f80 14
noncomputable def kjo:List Item:=todoAt Tryz.f82 7
noncomputable def kb8:List Item:=todoAt Tryz.f86 2
noncomputable def kml:List Item:=todoAt Tryz.f94 5
noncomputable def klo:List Item:=todoAt Tryz.f94 11
noncomputable def klz:List Item:=todoAt Tryz.f101 5
noncomputable def kmr:List Item:=todoAt Tryz.f108 4
noncomputable def kif:List Item:=todoAt Tryz.f111 1
noncomputable def kil:List Item:=todoAt Tryz.f111 4
noncomputable def kjm:List Item:=todoAt Tryz.f116 1
noncomputable def kmo:List Item:=todoAt Tryz.f116 3
noncomputable def kl6:List Item:=todoAt Tryz.f119 6
noncomputable def kl0:List Item:=todoAt Tryz.f125 4
noncomputable def klc:List Item:=todoAt Tryz.f126 6
noncomputable def kmk:List Item:=todoAt Tryz.f126 10
noncomputable def khg:List Item:=todoAt Tryz.f126 18
noncomputable def kin:List Item:=todoAt Tryz.f128 2
noncomputable def klr:List Item:=todoAt Tryz.f130 3
noncomputable def klh:List Item:=todoAt Tryz.f130 7
noncomputable def kfc:List Item:=todoAt Tryz.f133 6
noncomputable def kh1:List Item:=todoAt Tryz.f134 4
noncomputable def kgg:List Item:=todoAt Tryz.f135 2
noncomputable def kgk:List Item:=todoAt Tryz.f137 1
noncomputable def kpi:List Item:=todoAt Tryz.f139 3
noncomputable def kja:List Item:=todoAt Tryz.f139 17
noncomputable def kf9:List Item:=todoAt Tryz.f139 24
noncomputable def ki5:List Item:=todoAt Tryz.f141 3
noncomputable def kka:List Item:=todoAt Tryz.f142 4
noncomputable def kk6:List Item:=todoAt Tryz.f146 9
noncomputable def kib:List Item:=todoAt Tryz.f147 2
noncomputable def kqy:Func:=Tryz.f79
noncomputable def kwf:List Item:=koa Tryz.f79 0 (.tmp 9)
noncomputable def kt3:List Item:=(loopAt Tryz.f79 0).2.2.2
noncomputable def kp5:Func:=Tryz.f80
noncomputable def ktz:List Item:=koa Tryz.f80 0 (.tmp 36)
noncomputable def kwe:List Item:=(loopAt Tryz.f80 0).2.2.2
noncomputable def kqw:Func:=Tryz.f115
noncomputable def kwz:List Item:=koa Tryz.f115 0 (.tmp 6)
noncomputable def kr6:List Item:=(loopAt Tryz.f115 0).2.2.2
def lit1:ByteArray:=(⟨((List.append (List.append ([0,1,2,2,3,3,3,3,4,4,4,4,4,4,4,4,5,5,5,5,5,5,5,5,5,5,5,5,5,5,5,5,6,6,6,6,6,6,6,6,6,6,6,6,6,6,6,6,6,6,6,6,6,6,6,6,6,6,6,6,6,6,6,6]:List UInt8) ([7,7,7,7,7,7,7,7,7,7,7,7,7,7,7,7,7,7,7,7,7,7,7,7,7,7,7,7,7,7,7,7,7,7,7,7,7,7,7,7,7,7,7,7,7,7,7,7,7,7,7,7,7,7,7,7,7,7,7,7,7,7,7,7]:List UInt8)) (List.append ([8,8,8,8,8,8,8,8,8,8,8,8,8,8,8,8,8,8,8,8,8,8,8,8,8,8,8,8,8,8,8,8,8,8,8,8,8,8,8,8,8,8,8,8,8,8,8,8,8,8,8,8,8,8,8,8,8,8,8,8,8,8,8,8]:List UInt8) ([8,8,8,8,8,8,8,8,8,8,8,8,8,8,8,8,8,8,8,8,8,8,8,8,8,8,8,8,8,8,8,8,8,8,8,8,8,8,8,8,8,8,8,8,8,8,8,8,8,8,8,8,8,8,8,8,8,8,8,8,8,8,8,8]:List UInt8)))).toArray⟩:ByteArray)
theorem kx3(args:List AV)(h:AH):callF Pg go kbn args h=go (.fn kbn args) h:=by kernel_rfl
theorem k0k(args:List AV)(h:AH):callF Pg go kb5 args h=go (.fn kb5 args) h:=by kernel_rfl
theorem kbdk(args:List AV)(h:AH):callF Pg go kd0 args h=go (.fn kd0 args) h:=by kernel_rfl
theorem kbdi(args:List AV)(h:AH):callF Pg go kfd args h=go (.fn kfd args) h:=by kernel_rfl
theorem k7v(a1 a2 a3 a4 a5:Sl)(h:AH):go (.fn kz [.agg [a1.v],a2.v,.agg [a3.v,a4.v,a5.v]]) h =
 newK h (.cells [a1.v] kbh) fun h6r h6 =>
 newK h6 (.cells [a3.v,a4.v,a5.v] ku) fun h7r h7 =>
 (go (.fn knx []) h7).bind fun q8 =>
 ((some q8.1).bind AV.asBool).bind fun b9 =>
 ((q8.2.cell (h6r.add 0)).bind AV.asSl).bind fun l10 =>
 ((q8.2.cell (h7r.add 0)).bind AV.asSl).bind fun l11 =>
 ((q8.2.cell (h7r.add 1)).bind AV.asSl).bind fun l12 =>
 ((q8.2.cell (h7r.add 2)).bind AV.asSl).bind fun l13 =>
 (go (.fn kgw [.agg [l10.v],.agg [l11.v,l12.v,l13.v]]) q8.2).bind fun q14 =>
 ((some q14.1).bind AV.asBool).bind fun b15 =>
 cond (!b9) (
 some (.bool b9,q14.2)) (
 cond (!b15) (
 some (.bool b9,q14.2)) (
 cond (decide ((a2.len:Int)=0)) (
 some (.bool b9,q14.2)) (
 cond (decide ((a2.len:Int)>8)) (
 some (.bool b9,q14.2)) (
 ((q14.2.cell (h7r.add 0)).bind AV.asSl).bind fun l16 =>
 ((q14.2.cell (h7r.add 1)).bind AV.asSl).bind fun l17 =>
 ((q14.2.cell (h7r.add 2)).bind AV.asSl).bind fun l18 =>
 newK q14.2 (.cells [l16.v,l17.v,l18.v] ku) fun h19r h19 =>
 go (.pt kz kie [(1,a2.v),(3,.ptr (some h6r)),(5,.ptr (some h7r)),(9,(⟨none,0,.is 0⟩:Sl).v),(10,(⟨some h19r,1,.is 1⟩:Sl).v),(11,.int .i64 0)]) h19)))):=(ke _ h).trans (by kernel_rfl)
theorem kzj(a1:Option Ref)(a2 a3 a4 a5:Int)(a6 a7 a8:Sl)(h:AH):go (.fn kgx [.ptr a1,.agg [.int .i64 a2,.int .i64 a3,.int .i64 a4,.int .i64 a5,a6.v,a7.v,a8.v]]) h =
 newK h (.cells [.int .i64 a2,.int .i64 a3,.int .i64 a4,.int .i64 a5,a6.v,a7.v,a8.v] kbu) fun h9r h9 =>
 a1.bind fun r10 =>
 ((h9.cell ((r10.add 2).add 0)).bind AV.asSl).bind fun l11 =>
 ((h9.cell (h9r.add 1)).bind (AV.asInt .i64)).bind fun n12 =>
 cond (!decide (n12=(l11.len:Int))) (
 some (.tup [(⟨none,0,.is 0⟩:Sl).v,.int .i64 20],h9)) (
 ((h9.cell (h9r.add 2)).bind (AV.asInt .i64)).bind fun n13 =>
 cond (decide (n13<1)) (
 some (.tup [(⟨none,0,.is 0⟩:Sl).v,.int .i64 1],h9)) (
 ((h9.cell (h9r.add 2)).bind (AV.asInt .i64)).bind fun n14 =>
 cond (decide (n14>16)) (
 some (.tup [(⟨none,0,.is 0⟩:Sl).v,.int .i64 1],h9)) (
 ((h9.cell (h9r.add 6)).bind AV.asSl).bind fun l15 =>
 (idx l15.ref l15.len 0 1).bind fun r16 =>
 ((h9.cell r16).bind AV.asSl).bind fun l17 =>
 (go (.fn kih [l17.v]) h9).bind fun q18 =>
 ((some q18.1).bind AV.asBool).bind fun b19 =>
 cond (!b19) (
 some (.tup [(⟨none,0,.is 0⟩:Sl).v,.int .i64 1],q18.2)) (
 ((q18.2.cell (h9r.add 6)).bind AV.asSl).bind fun l20 =>
 (idx l20.ref l20.len 0 1).bind fun r21 =>
 ((q18.2.cell r21).bind AV.asSl).bind fun l22 =>
 ((q18.2.cell (h9r.add 2)).bind (AV.asInt .i64)).bind fun n23 =>
 (go (.fn kft [l22.v]) q18.2).bind fun q24 =>
 ((some q24.1).bind AV.asSl).bind fun l25 =>
 whenK (SameAt q18.2 q24.2 (h9r.add 2) 1) (
 a1.bind fun r26 =>
 (q24.2.puts (r26.add 6) [l25.v]).bind fun h27 =>
 whenK (SameAt q24.2 h27 (h9r.add 2) 1) (
 a1.bind fun r28 =>
 (h27.puts (r28.add 7) [.int .i64 n23]).bind fun h29 =>
 a1.bind fun r30 =>
 ((h29.cell ((r30.add 2).add 2)).bind AV.asSl).bind fun l31 =>
 newK h29 (.cells [.int .i64 2,.int .i64 (l11.len:Int),.int .i64 (l31.len:Int),.int .i64 0,(⟨none,0,.is 0⟩:Sl).v,(⟨none,0,.is 0⟩:Sl).v,(⟨none,0,.is 0⟩:Sl).v] kbu) fun h32r h32 =>
 some (.tup [(⟨some h32r,1,.is 1⟩:Sl).v,.int .i64 0],h32))))))):=(ke _ h).trans (by kernel_rfl)
theorem kzd(a1:Option Ref)(a2 a3 a4 a5:Int)(a6 a7 a8:Sl)(h:AH):go (.fn kdt [.ptr a1,.agg [.int .i64 a2,.int .i64 a3,.int .i64 a4,.int .i64 a5,a6.v,a7.v,a8.v]]) h =
 newK h (.cells [.ptr a1] kea) fun h9r h9 =>
 newK h9 (.cells [.int .i64 a2,.int .i64 a3,.int .i64 a4,.int .i64 a5,a6.v,a7.v,a8.v] kbu) fun h10r h10 =>
 ((h10.cell (h10r.add 1)).bind (AV.asInt .i64)).bind fun n11 =>
 ((h10.cell h9r).bind AV.asPtr).bind fun p12 =>
 p12.bind fun r13 =>
 ((h10.cell (r13.add 8)).bind (AV.asInt .i64)).bind fun n14 =>
 cond (!decide (n11=(IntKind.wrap .i64 (n14+1)))) (
 some (.tup [(⟨none,0,.is 0⟩:Sl).v,.int .i64 18],h10)) (
 ((h10.cell (h10r.add 1)).bind (AV.asInt .i64)).bind fun n15 =>
 ((h10.cell h9r).bind AV.asPtr).bind fun p16 =>
 p16.bind fun r17 =>
 ((h10.cell (r17.add 7)).bind (AV.asInt .i64)).bind fun n18 =>
 cond (decide (n15≥n18)) (
 some (.tup [(⟨none,0,.is 0⟩:Sl).v,.int .i64 18],h10)) (
 ((h10.cell (h10r.add 6)).bind AV.asSl).bind fun l19 =>
 ((h10.cell h9r).bind AV.asPtr).bind fun p20 =>
 p20.bind fun r21 =>
 ((h10.cell ((r21.add 2).add 0)).bind AV.asSl).bind fun l22 =>
 cond (!decide ((l19.len:Int)=(l22.len:Int))) (
 some (.tup [(⟨none,0,.is 0⟩:Sl).v,.int .i64 1],h10)) (
 ((h10.cell (h10r.add 6)).bind AV.asSl).bind fun l23 =>
 (go (.fn kdg [l23.v,.func (.func kcu) [] [.ptr (some h9r)]]) h10).bind fun q24 =>
 ((some q24.1).bind AV.asBool).bind fun b25 =>
 cond b25 (
 some (.tup [(⟨none,0,.is 0⟩:Sl).v,.int .i64 11],q24.2)) (
 newM q24.2 (.map [] 0) fun h26m h26 =>
 ((h26.cell h9r).bind AV.asPtr).bind fun p27 =>
 ((h26.cell h9r).bind AV.asPtr).bind fun p28 =>
 ((h26.cell h9r).bind AV.asPtr).bind fun p29 =>
 ((h26.cell (h10r.add 1)).bind (AV.asInt .i64)).bind fun n30 =>
 p27.bind fun r31 =>
 (h26.puts (r31.add 8) [.int .i64 n30]).bind fun h32 =>
 whenK (SameAt h26 h32 h9r 1) (
 whenK (SameAt h26 h32 h9r 1) (
 whenK (SameAt h26 h32 (q24.2.next) 0) (
 p28.bind fun r33 =>
 (h32.puts (r33.add 9) [(⟨none,0,.is 0⟩:Sl).v]).bind fun h34 =>
 whenK (SameAt h32 h34 h9r 1) (
 whenK (SameAt h32 h34 (q24.2.next) 0) (
 p29.bind fun r35 =>
 (h34.puts (r35.add 10) [.map (some h26m)]).bind fun h36 =>
 ((h36.cell (h10r.add 6)).bind AV.asSl).bind fun l37 =>
 go (.pt kdt kk7 [(2,.ptr (some h9r)),(55,l37.v),(56,.int .i64 (l37.len:Int)),(57,.int .i64 0)]) h36))))))))):=(ke _ h).trans (by kernel_rfl)
theorem k9f(a1:Option Ref)(a2 a3 a4 a5:Int)(a6 a7 a8:Sl)(h:AH):go (.fn kdj [.ptr a1,.agg [.int .i64 a2,.int .i64 a3,.int .i64 a4,.int .i64 a5,a6.v,a7.v,a8.v]]) h =
 newK h (.cells [.int .i64 a2,.int .i64 a3,.int .i64 a4,.int .i64 a5,a6.v,a7.v,a8.v] kbu) fun h9r h9 =>
 ((h9.cell (h9r.add 1)).bind (AV.asInt .i64)).bind fun n10 =>
 a1.bind fun r11 =>
 ((h9.cell (r11.add 8)).bind (AV.asInt .i64)).bind fun n12 =>
 cond (!decide (n10=n12)) (
 some (.tup [(⟨none,0,.is 0⟩:Sl).v,.int .i64 18],h9)) (
 newK h9 (.cells [.int .i64 0,(⟨none,0,.is 0⟩:Sl).v] ky) fun h13r h13 =>
 a1.bind fun r14 =>
 ((h13.cell ((r14.add 2).add 0)).bind AV.asSl).bind fun l15 =>
 ((h13.cell (h9r.add 5)).bind AV.asSl).bind fun l16 =>
 (go (.fn kep [.int .i64 (l15.len:Int),l16.v]) h13).bind fun q17 =>
 (AV.asTup2 q17.1).bind fun p18 =>
 (AV.asAgg p18.1).bind fun cs19 =>
 cond (Nat.beq cs19.length 2) (
 ((cs19[0]?).bind (AV.asInt .i64)).bind fun n20 =>
 ((cs19[1]?).bind AV.asSl).bind fun l21 =>
 ((some p18.2).bind (AV.asInt .i64)).bind fun n22 =>
 whenK (SameAt h13 q17.2 h13r 0) (
 (q17.2.puts h13r [.int .i64 n20,l21.v]).bind fun h23 =>
 cond (!decide (n22=0)) (
 some (.tup [(⟨none,0,.is 0⟩:Sl).v,.int .i64 n22],h23)) (
 a1.bind fun r24 =>
 ((h23.cell (r24.add 1)).bind AV.asPtr).bind fun p25 =>
 a1.bind fun r26 =>
 ((h23.cell (r26.add 5)).bind AV.asPtr).bind fun p27 =>
 ((h23.cell (h9r.add 1)).bind (AV.asInt .i64)).bind fun n28 =>
 ((h23.cell (h9r.add 2)).bind (AV.asInt .i64)).bind fun n29 =>
 a1.bind fun r30 =>
 ((h23.cell ((r30.add 2).add 0)).bind AV.asSl).bind fun l31 =>
 ((h23.cell ((r30.add 2).add 1)).bind AV.asSl).bind fun l32 =>
 ((h23.cell ((r30.add 2).add 2)).bind AV.asSl).bind fun l33 =>
 (go (.fn kd9 [.agg [l31.v,l32.v,l33.v]]) h23).bind fun q34 =>
 ((some q34.1).bind AV.asSl).bind fun l35 =>
 whenK (SameAt h23 q34.2 (h9r.add 2) 1) (
 whenK (SameAt h23 q34.2 (h9r.add 1) 1) (
 whenK (SameAt h23 q34.2 (r26.add 5) 1) (
 whenK (SameAt h23 q34.2 (r24.add 1) 1) (
 (go (.fn kf1 [.ptr p25,.ptr p27,.int .i64 n28,.int .i64 n29,l35.v]) q34.2).bind fun q36 =>
 (AV.asTup3 q36.1).bind fun p37 =>
 ((some p37.1).bind AV.asSl).bind fun l38 =>
 ((some p37.2.1).bind AV.asSl).bind fun l39 =>
 ((some p37.2.2).bind (AV.asInt .i64)).bind fun n40 =>
 cond (!decide (n40=0)) (
 some (.tup [(⟨none,0,.is 0⟩:Sl).v,.int .i64 n40],q36.2)) (
 a1.bind fun r41 =>
 ((q36.2.cell (r41.add 6)).bind AV.asSl).bind fun l42 =>
 a1.bind fun r43 =>
 ((q36.2.cell ((r43.add 2).add 0)).bind AV.asSl).bind fun l44 =>
 ((q36.2.cell ((r43.add 2).add 1)).bind AV.asSl).bind fun l45 =>
 ((q36.2.cell ((r43.add 2).add 2)).bind AV.asSl).bind fun l46 =>
 ((q36.2.cell (h13r.add 0)).bind (AV.asInt .i64)).bind fun n47 =>
 ((q36.2.cell (h13r.add 1)).bind AV.asSl).bind fun l48 =>
 a1.bind fun r49 =>
 ((q36.2.cell (r49.add 9)).bind AV.asSl).bind fun l50 =>
 (go (.fn kcg [l42.v,.agg [l44.v,l45.v,l46.v],.agg [.int .i64 n47,l48.v],l50.v]) q36.2).bind fun q51 =>
 (AV.asTup2 q51.1).bind fun p52 =>
 ((some p52.1).bind AV.asSl).bind fun l53 =>
 ((some p52.2).bind (AV.asInt .i64)).bind fun n54 =>
 cond (!decide (n54=0)) (
 some (.tup [(⟨none,0,.is 0⟩:Sl).v,.int .i64 n54],q51.2)) (
 ((q51.2.cell (h9r.add 1)).bind (AV.asInt .i64)).bind fun n55 =>
 ((q51.2.cell (h9r.add 2)).bind (AV.asInt .i64)).bind fun n56 =>
 newK q51.2 (.cells [.int .i64 0,.int .i64 0,.int .i64 0,.int .i64 0,(⟨none,0,.is 0⟩:Sl).v,(⟨none,0,.is 0⟩:Sl).v,(⟨none,0,.is 0⟩:Sl).v] kbu) fun h57r h57 =>
 (h57.puts h57r [.int .i64 5,.int .i64 n55,.int .i64 n56,.int .i64 0,l39.v,(⟨none,0,.is 0⟩:Sl).v,(⟨none,0,.is 0⟩:Sl).v]).bind fun h58 =>
 go (.pt kdj kkq [(0,.ptr a1),(3,.ptr (some h9r)),(6,.ptr (some h13r)),(10,l53.v),(11,.ptr (some h57r)),(87,l38.v),(88,.int .i64 (l38.len:Int)),(89,.int .i64 0)]) h58))))))))) none):=(ke _ h).trans (by kernel_rfl)
theorem k3y(a1:Nat)(a2 a3:Ref)(h:AH):go (.fn kbn [.func (.yield a1) [] [],.ptr (some a2),.ptr (some a3)]) h =
 ((h.cell (a2.add 1)).bind AV.asSl).bind fun l4 =>
 go (.pt kbn kif [(0,.func (.yield a1) [] []),(1,.ptr (some a2)),(2,.ptr (some a3)),(10,l4.v),(11,.int .i64 (l4.len:Int)),(12,.int .i64 0)]) h:=(ke _ h).trans (by kernel_rfl)
theorem k0h(a1:Nat)(a2:Ref)(h:AH):go (.fn kb5 [.func (.yield a1) [] [],.ptr (some a2)]) h =
 ((h.cell (a2.add 1)).bind AV.asSl).bind fun l3 =>
 go (.pt kb5 kjm [(0,.func (.yield a1) [] []),(6,l3.v),(7,.int .i64 (l3.len:Int)),(8,.int .i64 0)]) h:=(ke _ h).trans (by kernel_rfl)
theorem kbfh(a1 a2:Sl)(a3:Ref)(h:AH):go (.fn kd0 [a1.v,a2.v,.ptr (some a3)]) h =
 (go (.fn kjx [a1.v,a2.v]) h).bind fun q4 =>
 (AV.asTup2 q4.1).bind fun p5 =>
 ((some p5.1).bind AV.asSl).bind fun l6 =>
 ((some p5.2).bind (AV.asInt .i64)).bind fun n7 =>
 ((q4.2.cell a3).bind AV.asSl).bind fun l8 =>
 (go (.fn kiq [l6.v,l8.v]) q4.2).bind fun q9 =>
 (AV.asTup3 q9.1).bind fun p10 =>
 ((some p10.1).bind AV.asSl).bind fun l11 =>
 ((some p10.2.1).bind AV.asSl).bind fun l12 =>
 ((some p10.2.2).bind (AV.asInt .i64)).bind fun n13 =>
 some (l12.v,q9.2):=(ke _ h).trans (by kernel_rfl)
theorem kbfc(a1 a2:Sl)(a3:Ref)(h:AH):go (.fn ki7 [a1.v,a2.v,.ptr (some a3)]) h =
 cond (decide ((a1.len:Int)<24)) (
 (go (.fn kcl [a1.v,a2.v]) h).bind fun q4 =>
 ((some q4.1).bind AV.asSl).bind fun l5 =>
 some (l5.v,q4.2)) (
 cond (decide ((a2.len:Int)<24)) (
 (go (.fn kcl [a1.v,a2.v]) h).bind fun q6 =>
 ((some q6.1).bind AV.asSl).bind fun l7 =>
 some (l7.v,q6.2)) (
 newK h (.cells [.int .i64 0] T.int) fun h8r h8 =>
 (h8.puts h8r [.int .i64 (IntKind.wrap .i64 (Int.tdiv (IntKind.wrap .i64 ((imax (a1.len:Int) (a2.len:Int))+1)) 2))]).bind fun h9 =>
 (h9.cell a3).bind fun v10 =>
 (h9.cell a3).bind fun v11 =>
 (go (.fn kh7 [a1.v,.ptr (some h8r)]) h9).bind fun q12 =>
 ((some q12.1).bind AV.asSl).bind fun l13 =>
 whenK (SameAt h9 q12.2 a3 1) (
 whenK (SameAt h9 q12.2 a3 1) (
 (go (.fn kh7 [a2.v,.ptr (some h8r)]) q12.2).bind fun q14 =>
 ((some q14.1).bind AV.asSl).bind fun l15 =>
 whenK (SameAt q12.2 q14.2 a3 1) (
 whenK (SameAt q12.2 q14.2 a3 1) (
 (callV Pg go v10 [l13.v,l15.v] q14.2).bind fun q16 =>
 ((some q16.1).bind AV.asSl).bind fun l17 =>
 whenK (SameAt q14.2 q16.2 a3 1) (
 (go (.fn khc [a1.v,.ptr (some h8r)]) q16.2).bind fun q18 =>
 ((some q18.1).bind AV.asSl).bind fun l19 =>
 whenK (SameAt q16.2 q18.2 a3 1) (
 (go (.fn khc [a2.v,.ptr (some h8r)]) q18.2).bind fun q20 =>
 ((some q20.1).bind AV.asSl).bind fun l21 =>
 whenK (SameAt q18.2 q20.2 a3 1) (
 (callV Pg go v11 [l19.v,l21.v] q20.2).bind fun q22 =>
 ((some q22.1).bind AV.asSl).bind fun l23 =>
 (q22.2.cell a3).bind fun v24 =>
 (go (.fn kh7 [a1.v,.ptr (some h8r)]) q22.2).bind fun q25 =>
 ((some q25.1).bind AV.asSl).bind fun l26 =>
 whenK (SameAt q22.2 q25.2 a3 1) (
 (go (.fn khc [a1.v,.ptr (some h8r)]) q25.2).bind fun q27 =>
 ((some q27.1).bind AV.asSl).bind fun l28 =>
 whenK (SameAt q25.2 q27.2 a3 1) (
 (go (.fn kcv [l26.v,l28.v]) q27.2).bind fun q29 =>
 ((some q29.1).bind AV.asSl).bind fun l30 =>
 whenK (SameAt q27.2 q29.2 a3 1) (
 (go (.fn kbf [l30.v]) q29.2).bind fun q31 =>
 ((some q31.1).bind AV.asSl).bind fun l32 =>
 whenK (SameAt q29.2 q31.2 a3 1) (
 (go (.fn kh7 [a2.v,.ptr (some h8r)]) q31.2).bind fun q33 =>
 ((some q33.1).bind AV.asSl).bind fun l34 =>
 whenK (SameAt q31.2 q33.2 a3 1) (
 (go (.fn khc [a2.v,.ptr (some h8r)]) q33.2).bind fun q35 =>
 ((some q35.1).bind AV.asSl).bind fun l36 =>
 whenK (SameAt q33.2 q35.2 a3 1) (
 (go (.fn kcv [l34.v,l36.v]) q35.2).bind fun q37 =>
 ((some q37.1).bind AV.asSl).bind fun l38 =>
 whenK (SameAt q35.2 q37.2 a3 1) (
 (go (.fn kbf [l38.v]) q37.2).bind fun q39 =>
 ((some q39.1).bind AV.asSl).bind fun l40 =>
 whenK (SameAt q37.2 q39.2 a3 1) (
 (callV Pg go v24 [l32.v,l40.v] q39.2).bind fun q41 =>
 ((some q41.1).bind AV.asSl).bind fun l42 =>
 (go (.fn kcp [l42.v,l17.v]) q41.2).bind fun q43 =>
 ((some q43.1).bind AV.asSl).bind fun l44 =>
 (go (.fn kbf [l44.v]) q43.2).bind fun q45 =>
 ((some q45.1).bind AV.asSl).bind fun l46 =>
 (go (.fn kcp [l46.v,l23.v]) q45.2).bind fun q47 =>
 ((some q47.1).bind AV.asSl).bind fun l48 =>
 (go (.fn kbf [l48.v]) q47.2).bind fun q49 =>
 ((some q49.1).bind AV.asSl).bind fun l50 =>
 (kbg (IntKind.wrap .i64 ((IntKind.wrap .i64 ((a1.len:Int)+(a2.len:Int)))+1)) (IntKind.wrap .i64 ((IntKind.wrap .i64 ((a1.len:Int)+(a2.len:Int)))+1)) kj (Pg.bytesOf kj) [.int .u64 0] q49.2).bind fun q51 =>
 (copyH l17 q51.1 1 q51.2).bind fun h52 =>
 ((h52.cell h8r).bind (AV.asInt .i64)).bind fun n53 =>
 (go (.fn kdh [q51.1.v,l50.v,.int .i64 n53]) h52).bind fun q54 =>
 (AV.asTup0 q54.1).bind fun _ =>
 ((q54.2.cell h8r).bind (AV.asInt .i64)).bind fun n55 =>
 (go (.fn kdh [q51.1.v,l23.v,.int .i64 (IntKind.wrap .i64 (2*n55))]) q54.2).bind fun q56 =>
 (AV.asTup0 q56.1).bind fun _ =>
 (go (.fn kbf [q51.1.v]) q56.2).bind fun q57 =>
 ((some q57.1).bind AV.asSl).bind fun l58 =>
 some (l58.v,q57.2)))))))))))))))))):=(ke _ h).trans (by kernel_rfl)
theorem k1c(a1 a2 a3:Int)(h:AH):go (.fn kfd [.int .i64 a1,.int .i64 a2,.int .i64 a3]) h =
 cond (decide (a1≥a2)) (
 some (.bool (decide (a1≤a3)),h)) (
 some (.bool false,h)):=(ke _ h).trans (by kernel_rfl)
theorem k1o  (h:AH):go (.fn knx []) h =
 newK h (.cells [.bool true,.int .i64 3,.int .i64 0,.int .i64 0,.int .i64 0,.int .i64 0,.int .i64 0] kbc) fun h1r h1 =>
 newK h1 (.cells [(⟨some h1r,1,.is 1⟩:Sl).v] kb2) fun h2r h2 =>
 newK h2 (.cells [.int .i64 5,.int .i64 6] T.int) fun h3r h3 =>
 (go (.fn kfp [.agg [(⟨some h2r,1,.is 1⟩:Sl).v],.int .i64 1,.agg [(⟨some h3r,2,.is 2⟩:Sl).v,(⟨none,0,.is 0⟩:Sl).v,(⟨none,0,.is 0⟩:Sl).v]]) h3).bind fun q4 =>
 (AV.asTup2 q4.1).bind fun p5 =>
 ((some p5.1).bind AV.asPtr).bind fun p6 =>
 ((some p5.2).bind (AV.asInt .i64)).bind fun n7 =>
 cond (!decide (n7=0)) (
 some (.bool false,q4.2)) (
 cond p6.isNone (
 some (.bool false,q4.2)) (
 (go (.fn khw [.ptr p6]) q4.2).bind fun q8 =>
 (AV.asTup2 q8.1).bind fun p9 =>
 ((some p9.1).bind AV.asSl).bind fun l10 =>
 ((some p9.2).bind AV.asBool).bind fun b11 =>
 cond b11 (
 cond (decide ((l10.len:Int)=2)) (
 (idx l10.ref l10.len 0 1).bind fun r12 =>
 ((q8.2.cell r12).bind (AV.asInt .i64)).bind fun n13 =>
 cond (decide (n13=3)) (
 (idx l10.ref l10.len 1 1).bind fun r14 =>
 ((q8.2.cell r14).bind (AV.asInt .i64)).bind fun n15 =>
 some (.bool (decide (n15=3)),q8.2)) (
 some (.bool false,q8.2))) (
 some (.bool false,q8.2))) (
 some (.bool false,q8.2)))):=(ke _ h).trans (by kernel_rfl)
theorem k3m(a1 a2 a3 a4:Sl)(h:AH):go (.fn kgw [.agg [a1.v],.agg [a2.v,a3.v,a4.v]]) h =
 newK h (.cells [a1.v] kbh) fun h5r h5 =>
 newK h5 (.cells [a2.v,a3.v,a4.v] ku) fun h6r h6 =>
 ((h6.cell (h6r.add 0)).bind AV.asSl).bind fun l7 =>
 go (.pt kgw kkp [(2,.ptr (some h5r)),(3,.ptr (some h6r)),(5,.int .i64 (l7.len:Int)),(6,.int .i64 0)]) h6:=(ke _ h).trans (by kernel_rfl)
theorem kxz(a1:Sl)(a2 a3:Ref)(a4 a5:Sl)(a6:Int)(h:AH):go (.pt kz kie [(1,a1.v),(3,.ptr (some a2)),(5,.ptr (some a3)),(9,a4.v),(10,a5.v),(11,.int .i64 a6)]) h =
 cond (decide (a6<(a1.len:Int))) (
 (idx a1.ref a1.len a6 7).bind fun r7 =>
 ((h.cell ((r7.add 0).add 0)).bind AV.asSl).bind fun l8 =>
 cond (decide ((l8.len:Int)>60)) (
 some (.bool true,h)) (
 (idx a1.ref a1.len a6 7).bind fun r9 =>
 ((h.cell (r9.add 3)).bind AV.asSl).bind fun l10 =>
 cond (decide ((l10.len:Int)>2000)) (
 some (.bool true,h)) (
 (idx a1.ref a1.len a6 7).bind fun r11 =>
 ((h.cell (r11.add 0)).bind AV.asSl).bind fun l12 =>
 ((h.cell (r11.add 1)).bind AV.asSl).bind fun l13 =>
 ((h.cell (r11.add 2)).bind AV.asSl).bind fun l14 =>
 ((h.cell (r11.add 3)).bind AV.asSl).bind fun l15 =>
 ((h.cell (r11.add 4)).bind AV.asSl).bind fun l16 =>
 ((h.cell (r11.add 5)).bind AV.asSl).bind fun l17 =>
 ((h.cell (r11.add 6)).bind AV.asSl).bind fun l18 =>
 (go (.fn kdl [.int .i64 (IntKind.wrap .i64 (a6+1)),.int .i64 (IntKind.wrap .i64 ((a1.len:Int)+1)),.agg [l12.v,l13.v,l14.v,l15.v,l16.v,l17.v,l18.v]]) h).bind fun q19 =>
 ((some q19.1).bind AV.asPtr).bind fun p20 =>
 (idx a1.ref a1.len a6 7).bind fun r21 =>
 ((q19.2.cell ((r21.add 4).add 0)).bind AV.asSl).bind fun l22 =>
 ((q19.2.cell ((r21.add 4).add 1)).bind AV.asSl).bind fun l23 =>
 ((q19.2.cell ((r21.add 4).add 2)).bind AV.asSl).bind fun l24 =>
 (go (.fn kc7 [.agg [l22.v,l23.v,l24.v]]) q19.2).bind fun q25 =>
 ((some q25.1).bind AV.asBool).bind fun b26 =>
 (idx a1.ref a1.len a6 7).bind fun r27 =>
 ((q25.2.cell ((r27.add 4).add 0)).bind AV.asSl).bind fun l28 =>
 ((q25.2.cell (a3.add 0)).bind AV.asSl).bind fun l29 =>
 (go (.fn kgq [l28.v,l29.v]) q25.2).bind fun q30 =>
 ((some q30.1).bind AV.asBool).bind fun b31 =>
 cond p20.isNone (
 some (.bool true,q30.2)) (
 cond (!b26) (
 some (.bool true,q30.2)) (
 cond (!b31) (
 some (.bool true,q30.2)) (
 newK q30.2 (.cells [.ptr p20] kea) fun h32r h32 =>
 (kbb Pg kea ((⟨some h32r,1,.is 1⟩:Sl).v) h32).bind fun p34 =>
 (kw Pg a4 p34.1 p34.2 kea 1 h32).bind fun q33 =>
 (AV.asSl q33.1).bind fun l35 =>
 (idx a1.ref a1.len a6 7).bind fun r36 =>
 ((q33.2.cell ((r36.add 4).add 0)).bind AV.asSl).bind fun l37 =>
 ((q33.2.cell ((r36.add 4).add 1)).bind AV.asSl).bind fun l38 =>
 ((q33.2.cell ((r36.add 4).add 2)).bind AV.asSl).bind fun l39 =>
 newK q33.2 (.cells [l37.v,l38.v,l39.v] ku) fun h40r h40 =>
 (kbb Pg ku ((⟨some h40r,1,.is 1⟩:Sl).v) h40).bind fun p42 =>
 (kw Pg a5 p42.1 p42.2 ku 3 h40).bind fun q41 =>
 (AV.asSl q41.1).bind fun l43 =>
 go (.pt kz kie [(1,a1.v),(3,.ptr (some a2)),(5,.ptr (some a3)),(9,l35.v),(10,l43.v),(11,.int .i64 (IntKind.wrap .i64 (a6+1)))]) q41.2)))))) (
 ((h.cell (a2.add 0)).bind AV.asSl).bind fun l44 =>
 ((h.cell (a3.add 0)).bind AV.asSl).bind fun l45 =>
 ((h.cell (a3.add 1)).bind AV.asSl).bind fun l46 =>
 ((h.cell (a3.add 2)).bind AV.asSl).bind fun l47 =>
 (go (.fn kfp [.agg [l44.v],.int .i64 (IntKind.wrap .i64 ((a1.len:Int)+1)),.agg [l45.v,l46.v,l47.v]]) h).bind fun q48 =>
 (AV.asTup2 q48.1).bind fun p49 =>
 ((some p49.1).bind AV.asPtr).bind fun p50 =>
 ((some p49.2).bind (AV.asInt .i64)).bind fun n51 =>
 cond (!decide (n51=0)) (
 cond (decide (n51=1)) (
 some (.bool true,q48.2)) (
 some (.bool (decide (n51=20)),q48.2))) (
 cond p50.isNone (
 cond (decide (n51=1)) (
 some (.bool true,q48.2)) (
 some (.bool (decide (n51=20)),q48.2))) (
 newK q48.2 (.cells [(⟨none,0,.is 0⟩:Sl).v] kbh) fun h52r h52 =>
 go (.pt kz ki1 [(1,a1.v),(3,.ptr (some a2)),(5,.ptr (some a3)),(9,a4.v),(10,a5.v),(15,.ptr p50),(17,.ptr (some h52r)),(18,.int .i64 0)]) h52))):=(ke _ h).trans (by kernel_rfl)
theorem k82(a1:Sl)(h:AH):go (.fn kih [a1.v]) h =
 (go (.fn khi [a1.v]) h).bind fun q2 =>
 ((some q2.1).bind (AV.asInt .i64)).bind fun n3 =>
 (go (.fn kc9 [a1.v]) q2.2).bind fun q4 =>
 ((some q4.1).bind AV.asBool).bind fun b5 =>
 cond b5 (
 (go (.fn kjc [a1.v,.int .i64 0]) q4.2).bind fun q6 =>
 ((some q6.1).bind AV.asBool).bind fun b7 =>
 cond b7 (
 cond (decide (n3≥15)) (
 some (.bool (decide (n3≤80)),q6.2)) (
 some (.bool false,q6.2))) (
 some (.bool false,q6.2))) (
 some (.bool false,q4.2)):=(ke _ h).trans (by kernel_rfl)
theorem k6f(a1:Sl)(h:AH):go (.fn kft [a1.v]) h =
 cond a1.ref.isNone (
 some ((⟨none,0,.is 0⟩:Sl).v,h)) (
 newK h (.cells [] kj) fun h2r h2 =>
 (kbb Pg kj a1.v h2).bind fun p4 =>
 (kw Pg (⟨some h2r,0,.is 0⟩:Sl) p4.1 p4.2 kj 1 h2).bind fun q3 =>
 (AV.asSl q3.1).bind fun l5 =>
 some (l5.v,q3.2)):=(ke _ h).trans (by kernel_rfl)
theorem kbe6(a1:Sl)(a2:Option Ref)(h:AH):go (.fn kdg [a1.v,.func (.func kcu) [] [.ptr a2]]) h =
 (go (.fn kbe [a1.v,.func (.func kcu) [] [.ptr a2]]) h).bind fun q3 =>
 ((some q3.1).bind (AV.asInt .i64)).bind fun n4 =>
 some (.bool (decide (n4≥0)),q3.2):=(ke _ h).trans (by kernel_rfl)
theorem kst(a1:Ref)(a2:Sl)(a3 a4:Int)(h:AH):go (.pt kdt kk7 [(2,.ptr (some a1)),(55,a2.v),(56,.int .i64 a3),(57,.int .i64 a4)]) h =
 cond (decide (a4<a3)) (
 (idx a2.ref a2.len a4 1).bind fun r5 =>
 ((h.cell r5).bind AV.asSl).bind fun l6 =>
 ((h.cell a1).bind AV.asPtr).bind fun p7 =>
 ((h.cell a1).bind AV.asPtr).bind fun p8 =>
 p8.bind fun r9 =>
 ((h.cell (r9.add 9)).bind AV.asSl).bind fun l10 =>
 (go (.fn kft [l6.v]) h).bind fun q11 =>
 ((some q11.1).bind AV.asSl).bind fun l12 =>
 whenK (SameAt h q11.2 (r9.add 9) 1) (
 whenK (SameAt h q11.2 a1 1) (
 whenK (SameAt h q11.2 a1 1) (
 newK q11.2 (.cells [l12.v] kr) fun h13r h13 =>
 whenK (SameAt q11.2 h13 (r9.add 9) 1) (
 whenK (SameAt q11.2 h13 a1 1) (
 whenK (SameAt q11.2 h13 a1 1) (
 (kbb Pg kr ((⟨some h13r,1,.is 1⟩:Sl).v) h13).bind fun p15 =>
 (kw Pg l10 p15.1 p15.2 kr 1 h13).bind fun q14 =>
 (AV.asSl q14.1).bind fun l16 =>
 whenK (SameAt h13 q14.2 a1 1) (
 p7.bind fun r17 =>
 (q14.2.puts (r17.add 9) [l16.v]).bind fun h18 =>
 go (.pt kdt kk7 [(2,.ptr (some a1)),(55,a2.v),(56,.int .i64 a3),(57,.int .i64 (IntKind.wrap .i64 (a4+1)))]) h18)))))))) (
 some (.tup [(⟨none,0,.is 0⟩:Sl).v,.int .i64 0],h)):=(ke _ h).trans (by kernel_rfl)
theorem kua(a1:Int)(a2:Sl)(h:AH):go (.fn kep [.int .i64 a1,a2.v]) h =
 newK h (.cells [.int .i64 a1] T.int) fun h3r h3 =>
 newK h3 (.cells [.int .i64 0,(⟨none,0,.is 0⟩:Sl).v] ky) fun h4r h4 =>
 ((h4.cell h3r).bind (AV.asInt .i64)).bind fun n5 =>
 (go (.fn kmw [.int .i64 n5]) h4).bind fun q6 =>
 (AV.asTup2 q6.1).bind fun p7 =>
 (AV.asAgg p7.1).bind fun cs8 =>
 cond (Nat.beq cs8.length 2) (
 ((cs8[0]?).bind (AV.asInt .i64)).bind fun n9 =>
 ((cs8[1]?).bind AV.asSl).bind fun l10 =>
 ((some p7.2).bind (AV.asInt .i64)).bind fun n11 =>
 newK q6.2 (.cells [.int .i64 0,(⟨none,0,.is 0⟩:Sl).v] ky) fun h12r h12 =>
 (h12.puts h12r [.int .i64 n9,l10.v]).bind fun h13 =>
 cond (!decide (n11=0)) (
 (h13.puts h4r [.int .i64 0,(⟨none,0,.is 0⟩:Sl).v]).bind fun h14 =>
 ((h14.cell (h4r.add 0)).bind (AV.asInt .i64)).bind fun n15 =>
 ((h14.cell (h4r.add 1)).bind AV.asSl).bind fun l16 =>
 some (.tup [.agg [.int .i64 n15,l16.v],.int .i64 1],h14)) (
 (go (.fn kca [a2.v,.func (.func kcx) [] [.ptr (some h3r)]]) h13).bind fun q17 =>
 ((some q17.1).bind AV.asBool).bind fun b18 =>
 cond b18 (
 (q17.2.puts h4r [.int .i64 0,(⟨none,0,.is 0⟩:Sl).v]).bind fun h19 =>
 ((h19.cell (h4r.add 0)).bind (AV.asInt .i64)).bind fun n20 =>
 ((h19.cell (h4r.add 1)).bind AV.asSl).bind fun l21 =>
 some (.tup [.agg [.int .i64 n20,l21.v],.int .i64 1],h19)) (
 go (.pt kep klx [(4,.ptr (some h4r)),(6,.ptr (some h12r)),(23,a2.v),(24,.int .i64 (a2.len:Int)),(25,.int .i64 0)]) q17.2))) none:=(ke _ h).trans (by kernel_rfl)
theorem k0l(a1 a2 a3:Sl)(h:AH):go (.fn kd9 [.agg [a1.v,a2.v,a3.v]]) h =
 newK h (.cells [a1.v,a2.v,a3.v] ku) fun h4r h4 =>
 newK h4 (.cells [(⟨none,0,.is 0⟩:Sl).v] khf) fun h5r h5 =>
 ((h5.cell (h4r.add 0)).bind AV.asSl).bind fun l6 =>
 ((h5.cell (h4r.add 1)).bind AV.asSl).bind fun l7 =>
 ((h5.cell (h4r.add 2)).bind AV.asSl).bind fun l8 =>
 (go (.fn kc5 [.agg [l6.v,l7.v,l8.v]]) h5).bind fun q9 =>
 ((some q9.1).bind AV.asBool).bind fun b10 =>
 cond b10 (
 ((q9.2.cell (h4r.add 0)).bind AV.asSl).bind fun l11 =>
 ((q9.2.cell (h4r.add 1)).bind AV.asSl).bind fun l12 =>
 ((q9.2.cell (h4r.add 2)).bind AV.asSl).bind fun l13 =>
 (go (.fn kje [.agg [l11.v,l12.v,l13.v],.agg [.int .i64 0,(⟨none,0,.is 0⟩:Sl).v]]) q9.2).bind fun q14 =>
 go (.pt kd9 kwf [(0,.agg [a1.v,a2.v,a3.v]),(1,.ptr (some h4r)),(2,(⟨none,0,.is 0⟩:Sl).v),(3,.ptr (some h5r)),(5,.agg [l6.v,l7.v,l8.v]),(6,.bool true),(7,.agg [l11.v,l12.v,l13.v]),(8,.agg [.int .i64 0,(⟨none,0,.is 0⟩:Sl).v]),(9,q14.1)]) q14.2) (
 ((q9.2.cell h5r).bind AV.asSl).bind fun l15 =>
 some (l15.v,q9.2)):=(ke _ h).trans (by kernel_rfl)
theorem kbdw(a1 a2:Option Ref)(a3 a4:Int)(a5:Sl)(h:AH):go (.fn kf1 [.ptr a1,.ptr a2,.int .i64 a3,.int .i64 a4,a5.v]) h =
 newK h (.cells [.int .i64 0,.int .i64 0] ktt) fun h6r h6 =>
 (h6.puts h6r [.int .i64 a3,.int .i64 a4]).bind fun h7 =>
 (go (.fn kmy [.int .i64 a3]) h7).bind fun q8 =>
 ((some q8.1).bind AV.asBool).bind fun b9 =>
 cond b9 (
 some (.tup [(⟨none,0,.is 0⟩:Sl).v,(⟨none,0,.is 0⟩:Sl).v,.int .i64 1],q8.2)) (
 (go (.fn kmy [.int .i64 a4]) q8.2).bind fun q10 =>
 ((some q10.1).bind AV.asBool).bind fun b11 =>
 cond b11 (
 some (.tup [(⟨none,0,.is 0⟩:Sl).v,(⟨none,0,.is 0⟩:Sl).v,.int .i64 1],q10.2)) (
 a1.bind fun r12 =>
 ((q10.2.cell (r12.add 1)).bind AV.asMap).bind fun m13 =>
 ((q10.2.cell (h6r.add 0)).bind (AV.asInt .i64)).bind fun n14 =>
 ((q10.2.cell (h6r.add 1)).bind (AV.asInt .i64)).bind fun n15 =>
 (khd q10.2 m13 .i64 n14 n15).bind fun q16 =>
 ((some (q16.getD (.bool false))).bind AV.asBool).bind fun b17 =>
 cond b17 (
 some (.tup [(⟨none,0,.is 0⟩:Sl).v,(⟨none,0,.is 0⟩:Sl).v,.int .i64 1],q10.2)) (
 a1.bind fun r18 =>
 ((q10.2.cell (r18.add 0)).bind AV.asSl).bind fun l19 =>
 cond (decide ((IntKind.wrap .i64 ((l19.len:Int)+(a5.len:Int)))>1048576)) (
 some (.tup [(⟨none,0,.is 0⟩:Sl).v,(⟨none,0,.is 0⟩:Sl).v,.int .i64 1],q10.2)) (
 (go (.fn kdr [.ptr a2,.int .i64 (a5.len:Int)]) q10.2).bind fun q20 =>
 (AV.asTup2 q20.1).bind fun p21 =>
 ((some p21.1).bind AV.asSl).bind fun l22 =>
 ((some p21.2).bind (AV.asInt .i64)).bind fun n23 =>
 cond (!decide (n23=0)) (
 some (.tup [(⟨none,0,.is 0⟩:Sl).v,(⟨none,0,.is 0⟩:Sl).v,.int .i64 n23],q20.2)) (
 go (.pt kf1 kna [(0,.ptr a1),(4,a5.v),(14,.ptr (some h6r)),(15,l22.v),(17,(⟨none,0,.is 0⟩:Sl).v),(60,l22.v),(61,.int .i64 (l22.len:Int)),(62,.int .i64 0)]) q20.2))))):=(ke _ h).trans (by kernel_rfl)
theorem kbds(a1 a2 a3 a4:Sl)(a5:Int)(a6 a7:Sl)(h:AH):go (.fn kcg [a1.v,.agg [a2.v,a3.v,a4.v],.agg [.int .i64 a5,a6.v],a7.v]) h =
 newK h (.cells [a1.v] kr) fun h8r h8 =>
 newK h8 (.cells [a2.v,a3.v,a4.v] ku) fun h9r h9 =>
 newK h9 (.cells [.int .i64 a5,a6.v] ky) fun h10r h10 =>
 newK h10 (.cells [a7.v] kem) fun h11r h11 =>
 ((h11.cell h8r).bind AV.asSl).bind fun l12 =>
 (go (.fn kih [l12.v]) h11).bind fun q13 =>
 ((some q13.1).bind AV.asBool).bind fun b14 =>
 cond (!b14) (
 some (.tup [(⟨none,0,.is 0⟩:Sl).v,.int .i64 1],q13.2)) (
 ((q13.2.cell (h9r.add 0)).bind AV.asSl).bind fun l15 =>
 ((q13.2.cell (h9r.add 1)).bind AV.asSl).bind fun l16 =>
 ((q13.2.cell (h9r.add 2)).bind AV.asSl).bind fun l17 =>
 ((q13.2.cell (h10r.add 0)).bind (AV.asInt .i64)).bind fun n18 =>
 ((q13.2.cell (h10r.add 1)).bind AV.asSl).bind fun l19 =>
 ((q13.2.cell h11r).bind AV.asSl).bind fun l20 =>
 (go (.fn kqu [.agg [l15.v,l16.v,l17.v],.agg [.int .i64 n18,l19.v],.int .i64 (l20.len:Int)]) q13.2).bind fun q21 =>
 ((some q21.1).bind (AV.asInt .i64)).bind fun n22 =>
 cond (!decide (n22=0)) (
 some (.tup [(⟨none,0,.is 0⟩:Sl).v,.int .i64 n22],q21.2)) (
 ((q21.2.cell h11r).bind AV.asSl).bind fun l23 =>
 (go (.fn kdg [l23.v,.func (.func kbv) [] [.ptr (some h8r)]]) q21.2).bind fun q24 =>
 ((some q24.1).bind AV.asBool).bind fun b25 =>
 cond b25 (
 some (.tup [(⟨none,0,.is 0⟩:Sl).v,.int .i64 11],q24.2)) (
 ((q24.2.cell h8r).bind AV.asSl).bind fun l26 =>
 (go (.fn kn2 [l26.v]) q24.2).bind fun q27 =>
 newK q27.2 (.cells [.nilFunc] kvs) fun h28r h28 =>
 cond (AV.one q27.1) (
 (h28.puts h28r [q27.1]).bind fun h29 =>
 newK h29 (.cells [(⟨none,0,.is 0⟩:Sl).v] kem) fun h30r h30 =>
 ((h30.cell (h9r.add 0)).bind AV.asSl).bind fun l31 =>
 ((h30.cell (h9r.add 1)).bind AV.asSl).bind fun l32 =>
 ((h30.cell (h9r.add 2)).bind AV.asSl).bind fun l33 =>
 ((h30.cell (h10r.add 0)).bind (AV.asInt .i64)).bind fun n34 =>
 ((h30.cell (h10r.add 1)).bind AV.asSl).bind fun l35 =>
 (go (.fn kje [.agg [l31.v,l32.v,l33.v],.agg [.int .i64 n34,l35.v]]) h30).bind fun q36 =>
 go (.pt kcg ktz [(0,a1.v),(1,.agg [a2.v,a3.v,a4.v]),(2,.agg [.int .i64 a5,a6.v]),(3,a7.v),(4,.ptr (some h8r)),(5,.ptr (some h9r)),(6,.ptr (some h10r)),(7,.ptr (some h11r)),(8,(⟨none,0,.is 0⟩:Sl).v),(9,.int .i64 0),(10,.int .i64 n22),(11,.ptr (some h28r)),(12,.ptr (some h30r)),(18,l12.v),(19,.bool b14),(20,.bool false),(21,.agg [l15.v,l16.v,l17.v]),(22,.agg [.int .i64 n18,l19.v]),(23,l20.v),(24,.int .i64 (l20.len:Int)),(25,.int .i64 n22),(26,.int .i64 n22),(27,.bool false),(29,l23.v),(30,.func (.func kbv) [] [.ptr (some h8r)]),(31,.bool false),(32,l26.v),(33,q27.1),(34,.agg [l31.v,l32.v,l33.v]),(35,.agg [.int .i64 n34,l35.v]),(36,q36.1)]) q36.2) none))):=(ke _ h).trans (by kernel_rfl)
theorem kxb(a1:Option Ref)(a2 a3:Ref)(a4:Sl)(a5:Ref)(a6:Sl)(a7 a8:Int)(h:AH):go (.pt kdj kkq [(0,.ptr a1),(3,.ptr (some a2)),(6,.ptr (some a3)),(10,a4.v),(11,.ptr (some a5)),(87,a6.v),(88,.int .i64 a7),(89,.int .i64 a8)]) h =
 cond (decide (a8<a7)) (
 (idx a6.ref a6.len a8 1).bind fun r9 =>
 ((h.cell r9).bind (AV.asInt .i64)).bind fun n10 =>
 ((h.cell (a5.add 6)).bind AV.asSl).bind fun l11 =>
 (idx a4.ref a4.len n10 1).bind fun r12 =>
 ((h.cell r12).bind AV.asSl).bind fun l13 =>
 newK h (.cells [l13.v] kr) fun h14r h14 =>
 whenK (SameAt h h14 (a5.add 6) 1) (
 (kbb Pg kr ((⟨some h14r,1,.is 1⟩:Sl).v) h14).bind fun p16 =>
 (kw Pg l11 p16.1 p16.2 kr 1 h14).bind fun q15 =>
 (AV.asSl q15.1).bind fun l17 =>
 (q15.2.puts (a5.add 6) [l17.v]).bind fun h18 =>
 go (.pt kdj kkq [(0,.ptr a1),(3,.ptr (some a2)),(6,.ptr (some a3)),(10,a4.v),(11,.ptr (some a5)),(87,a6.v),(88,.int .i64 a7),(89,.int .i64 (IntKind.wrap .i64 (a8+1)))]) h18)) (
 a1.bind fun r19 =>
 ((h.cell (r19.add 10)).bind AV.asMap).bind fun m20 =>
 ((h.cell (a2.add 2)).bind (AV.asInt .i64)).bind fun n21 =>
 ((h.cell (a3.add 0)).bind (AV.asInt .i64)).bind fun n22 =>
 ((h.cell (a3.add 1)).bind AV.asSl).bind fun l23 =>
 newK h (.cells [.int .i64 n22,l23.v,.bool false] kzv) fun h24r h24 =>
 whenK (SameAt h h24 (a2.add 2) 1) (
 whenK (SameAt h h24 (r19.add 10) 1) (
 m20.bind fun m26 =>
 (mapPut h24 m26 .i64 n21 (.ptr (some h24r))).bind fun h25 =>
 ((h25.cell (a5.add 0)).bind (AV.asInt .i64)).bind fun n27 =>
 ((h25.cell (a5.add 1)).bind (AV.asInt .i64)).bind fun n28 =>
 ((h25.cell (a5.add 2)).bind (AV.asInt .i64)).bind fun n29 =>
 ((h25.cell (a5.add 3)).bind (AV.asInt .i64)).bind fun n30 =>
 ((h25.cell (a5.add 4)).bind AV.asSl).bind fun l31 =>
 ((h25.cell (a5.add 5)).bind AV.asSl).bind fun l32 =>
 ((h25.cell (a5.add 6)).bind AV.asSl).bind fun l33 =>
 newK h25 (.cells [.int .i64 n27,.int .i64 n28,.int .i64 n29,.int .i64 n30,l31.v,l32.v,l33.v] kbu) fun h34r h34 =>
 some (.tup [(⟨some h34r,1,.is 1⟩:Sl).v,.int .i64 0],h34)))):=(ke _ h).trans (by kernel_rfl)
theorem kxm(a1:Nat)(a2 a3:Ref)(a4:Sl)(a5 a6:Int)(h:AH):go (.pt kbn kif [(0,.func (.yield a1) [] []),(1,.ptr (some a2)),(2,.ptr (some a3)),(10,a4.v),(11,.int .i64 a5),(12,.int .i64 a6)]) h =
 cond (decide (a6<a5)) (
 (idx a4.ref a4.len a6 1).bind fun r7 =>
 ((h.cell r7).bind (AV.asInt .i64)).bind fun n8 =>
 go (.pt kbn kil [(0,.func (.yield a1) [] []),(1,.ptr (some a2)),(2,.ptr (some a3)),(4,.int .i64 a6),(10,a4.v),(11,.int .i64 a5),(12,.int .i64 a6),(18,.int .i64 (IntKind.wrap .i64 (n8-1))),(19,.int .i64 0)]) h) (
 some (.tup [],h)):=(ke _ h).trans (by kernel_rfl)
theorem krx(a1:Nat)(a2:Sl)(a3 a4:Int)(h:AH):go (.pt kb5 kjm [(0,.func (.yield a1) [] []),(6,a2.v),(7,.int .i64 a3),(8,.int .i64 a4)]) h =
 cond (decide (a4<a3)) (
 (idx a2.ref a2.len a4 1).bind fun r5 =>
 ((h.cell r5).bind (AV.asInt .u64)).bind fun n6 =>
 go (.pt kb5 kmo [(0,.func (.yield a1) [] []),(3,.int .i64 a4),(4,.int .u64 n6),(6,a2.v),(7,.int .i64 a3),(8,.int .i64 a4)]) h) (
 some (.tup [],h)):=(ke _ h).trans (by kernel_rfl)
theorem kbda(a1 a2:Sl)(h:AH):go (.fn kjx [a1.v,a2.v]) h =
 newK h (.cells [a1.v,a2.v] kr) fun h3r h3 =>
 (go (.fn kg3 [(⟨some h3r,2,.is 2⟩:Sl).v]) h3).bind fun q4 =>
 ((some q4.1).bind AV.asBool).bind fun b5 =>
 cond (!b5) (
 some (.tup [(⟨none,0,.is 0⟩:Sl).v,.int .i64 1],q4.2)) (
 (go (.fn kki [a1.v,a2.v]) q4.2).bind fun q6 =>
 ((some q6.1).bind AV.asSl).bind fun l7 =>
 (go (.fn kjb [l7.v]) q6.2).bind fun q8 =>
 (AV.asTup2 q8.1).bind fun p9 =>
 ((some p9.1).bind AV.asSl).bind fun l10 =>
 ((some p9.2).bind (AV.asInt .i64)).bind fun n11 =>
 some (.tup [l10.v,.int .i64 n11],q8.2)):=(ke _ h).trans (by kernel_rfl)
theorem k6t(a1 a2:Sl)(h:AH):go (.fn kiq [a1.v,a2.v]) h =
 newK h (.cells [a1.v,a2.v] kr) fun h3r h3 =>
 (go (.fn kg3 [(⟨some h3r,2,.is 2⟩:Sl).v]) h3).bind fun q4 =>
 ((some q4.1).bind AV.asBool).bind fun b5 =>
 cond (!b5) (
 some (.tup [(⟨none,0,.is 0⟩:Sl).v,(⟨none,0,.is 0⟩:Sl).v,.int .i64 1],q4.2)) (
 cond (decide ((a2.len:Int)=0)) (
 some (.tup [(⟨none,0,.is 0⟩:Sl).v,(⟨none,0,.is 0⟩:Sl).v,.int .i64 3],q4.2)) (
 (go (.fn keg [a1.v,a2.v]) q4.2).bind fun q6 =>
 ((some q6.1).bind (AV.asInt .i64)).bind fun n7 =>
 cond (decide (n7<0)) (
 (go (.fn kft [a1.v]) q6.2).bind fun q8 =>
 ((some q8.1).bind AV.asSl).bind fun l9 =>
 some (.tup [(⟨none,0,.is 0⟩:Sl).v,l9.v,.int .i64 0],q8.2)) (
 cond (decide ((a2.len:Int)=1)) (
 (idx a2.ref a2.len 0 1).bind fun r10 =>
 ((q6.2.cell r10).bind (AV.asInt .u64)).bind fun n11 =>
 (go (.fn ket [a1.v,.int .u64 n11]) q6.2).bind fun q12 =>
 (AV.asTup2 q12.1).bind fun p13 =>
 ((some p13.1).bind AV.asSl).bind fun l14 =>
 ((some p13.2).bind (AV.asInt .u64)).bind fun n15 =>
 (go (.fn kic [.int .u64 n15]) q12.2).bind fun q16 =>
 ((some q16.1).bind AV.asSl).bind fun l17 =>
 some (.tup [l14.v,l17.v,.int .i64 0],q16.2)) (
 (go (.fn kb1 [a1.v,a2.v]) q6.2).bind fun q18 =>
 (AV.asTup2 q18.1).bind fun p19 =>
 ((some p19.1).bind AV.asSl).bind fun l20 =>
 ((some p19.2).bind AV.asSl).bind fun l21 =>
 some (.tup [l20.v,l21.v,.int .i64 0],q18.2))))):=(ke _ h).trans (by kernel_rfl)
theorem k9u(a1 a2:Sl)(h:AH):go (.fn kcl [a1.v,a2.v]) h =
 (kbg (IntKind.wrap .i64 ((a1.len:Int)+(a2.len:Int))) (IntKind.wrap .i64 ((a1.len:Int)+(a2.len:Int))) kj (Pg.bytesOf kj) [.int .u64 0] h).bind fun q3 =>
 go (.pt kcl klr [(1,a2.v),(5,q3.1.v),(20,a1.v),(21,.int .i64 (a1.len:Int)),(22,.int .i64 0)]) q3.2:=(ke _ h).trans (by kernel_rfl)
theorem k4k(a1:Sl)(a2:Ref)(h:AH):go (.fn kh7 [a1.v,.ptr (some a2)]) h =
 ((h.cell a2).bind (AV.asInt .i64)).bind fun n3 =>
 (cutSl a1 0 (imin n3 (a1.len:Int)) 1).bind fun l4 =>
 (go (.fn kbf [l4.v]) h).bind fun q5 =>
 ((some q5.1).bind AV.asSl).bind fun l6 =>
 some (l6.v,q5.2):=(ke _ h).trans (by kernel_rfl)
theorem kbev(a1:Sl)(a2:Ref)(h:AH):go (.fn khc [a1.v,.ptr (some a2)]) h =
 ((h.cell a2).bind (AV.asInt .i64)).bind fun n3 =>
 (cutSl a1 (imin n3 (a1.len:Int)) (a1.len:Int) 1).bind fun l4 =>
 some (l4.v,h):=(ke _ h).trans (by kernel_rfl)
theorem kbbv(a1 a2:Sl)(h:AH):go (.fn kcv [a1.v,a2.v]) h =
 cond (decide ((a1.len:Int)<(a2.len:Int))) (
 (kbg (IntKind.wrap .i64 ((a2.len:Int)+1)) (IntKind.wrap .i64 ((a2.len:Int)+1)) kj (Pg.bytesOf kj) [.int .u64 0] h).bind fun q3 =>
 go (.pt kcv kfc [(0,a2.v),(1,a1.v),(5,q3.1.v),(6,.int .u64 0),(21,.int .i64 (a2.len:Int)),(22,.int .i64 0)]) q3.2) (
 (kbg (IntKind.wrap .i64 ((a1.len:Int)+1)) (IntKind.wrap .i64 ((a1.len:Int)+1)) kj (Pg.bytesOf kj) [.int .u64 0] h).bind fun q4 =>
 go (.pt kcv kfc [(0,a1.v),(1,a2.v),(5,q4.1.v),(6,.int .u64 0),(21,.int .i64 (a1.len:Int)),(22,.int .i64 0)]) q4.2):=(ke _ h).trans (by kernel_rfl)
theorem koy(a1:Sl)(h:AH):go (.fn kbf [a1.v]) h =
 go (.pt kbf kin [(0,a1.v),(3,.int .i64 (a1.len:Int))]) h:=(ke _ h).trans (by kernel_rfl)
theorem k83(a1 a2:Sl)(h:AH):go (.fn kcp [a1.v,a2.v]) h =
 (kbg (a1.len:Int) (a1.len:Int) kj (Pg.bytesOf kj) [.int .u64 0] h).bind fun q3 =>
 go (.pt kcp kh1 [(0,a1.v),(1,a2.v),(5,q3.1.v),(6,.int .u64 0),(13,.int .i64 (a1.len:Int)),(14,.int .i64 0)]) q3.2:=(ke _ h).trans (by kernel_rfl)
theorem kz2(a1 a2:Sl)(a3:Int)(h:AH):go (.fn kdh [a1.v,a2.v,.int .i64 a3]) h =
 go (.pt kdh kgg [(0,a1.v),(1,a2.v),(2,.int .i64 a3),(6,.int .u64 0),(7,.int .i64 a3)]) h:=(ke _ h).trans (by kernel_rfl)
theorem kbfj(a1:Sl)(a2:Int)(a3 a4 a5:Sl)(h:AH):go (.fn kfp [.agg [a1.v],.int .i64 a2,.agg [a3.v,a4.v,a5.v]]) h =
 newK h (.cells [a1.v] kbh) fun h6r h6 =>
 newK h6 (.cells [.int .i64 a2] T.int) fun h7r h7 =>
 newK h7 (.cells [a3.v,a4.v,a5.v] ku) fun h8r h8 =>
 ((h8.cell (h6r.add 0)).bind AV.asSl).bind fun l9 =>
 (go (.fn kc3 [.agg [l9.v]]) h8).bind fun q10 =>
 ((some q10.1).bind AV.asBool).bind fun b11 =>
 cond (!b11) (
 some (.tup [.ptr none,.int .i64 1],q10.2)) (
 ((q10.2.cell h7r).bind (AV.asInt .i64)).bind fun n12 =>
 cond (decide (n12<1)) (
 some (.tup [.ptr none,.int .i64 1],q10.2)) (
 ((q10.2.cell h7r).bind (AV.asInt .i64)).bind fun n13 =>
 cond (decide (n13>16)) (
 some (.tup [.ptr none,.int .i64 1],q10.2)) (
 ((q10.2.cell (h8r.add 0)).bind AV.asSl).bind fun l14 =>
 ((q10.2.cell (h8r.add 1)).bind AV.asSl).bind fun l15 =>
 ((q10.2.cell (h8r.add 2)).bind AV.asSl).bind fun l16 =>
 (go (.fn kc5 [.agg [l14.v,l15.v,l16.v]]) q10.2).bind fun q17 =>
 ((some q17.1).bind AV.asBool).bind fun b18 =>
 cond (!b18) (
 some (.tup [.ptr none,.int .i64 20],q17.2)) (
 ((q17.2.cell (h8r.add 0)).bind AV.asSl).bind fun l19 =>
 ((q17.2.cell (h8r.add 1)).bind AV.asSl).bind fun l20 =>
 ((q17.2.cell (h8r.add 2)).bind AV.asSl).bind fun l21 =>
 ((q17.2.cell (h8r.add 0)).bind AV.asSl).bind fun l22 =>
 (kbg (l22.len:Int) (l22.len:Int) T.int (Pg.bytesOf T.int) [.int .i64 0] q17.2).bind fun q23 =>
 whenK (SameAt q17.2 q23.2 h8r 3) (
 newK q23.2 (.cells [(⟨none,0,.is 0⟩:Sl).v,l19.v,l20.v,l21.v,.int .i64 0,.int .i64 0,.int .i64 0,q23.1.v] kb0) fun h24r h24 =>
 ((h24.cell (h6r.add 0)).bind AV.asSl).bind fun l25 =>
 go (.pt kfp kk9 [(8,.func (.func kb6) [] [.ptr (some h7r),.ptr (some h8r)]),(9,.ptr (some h24r)),(37,l25.v),(38,.int .i64 (l25.len:Int)),(39,.int .i64 0)]) h24))))):=(ke _ h).trans (by kernel_rfl)
theorem kbb4(a1:Option Ref)(h:AH):go (.fn khw [.ptr a1]) h =
 a1.bind fun r2 =>
 ((h.cell (r2.add 7)).bind AV.asSl).bind fun l3 =>
 a1.bind fun r4 =>
 ((h.cell ((r4.add 4).add 0)).bind (AV.asInt .i64)).bind fun n5 =>
 ((h.cell ((r4.add 4).add 1)).bind (AV.asInt .i64)).bind fun n6 =>
 ((h.cell ((r4.add 4).add 2)).bind (AV.asInt .i64)).bind fun n7 =>
 (go (.fn kni [l3.v]) h).bind fun q8 =>
 ((some q8.1).bind AV.asSl).bind fun l9 =>
 whenK (SameAt h q8.2 (r4.add 4) 3) (
 (go (.fn kiv [.ptr a1]) q8.2).bind fun q10 =>
 (AV.asAgg q10.1).bind fun cs11 =>
 cond (Nat.beq cs11.length 3) (
 ((cs11[0]?).bind (AV.asInt .i64)).bind fun n12 =>
 ((cs11[1]?).bind (AV.asInt .i64)).bind fun n13 =>
 ((cs11[2]?).bind (AV.asInt .i64)).bind fun n14 =>
 whenK (SameAt q8.2 q10.2 (r4.add 4) 3) (
 some (.tup [l9.v,.bool ((decide (n5=n12))&&((decide (n6=n13))&&((decide (n7=n14))&&true)))],q10.2))) none):=(ke _ h).trans (by kernel_rfl)
theorem kuf(a1 a2:Ref)(a3 a4:Int)(h:AH):go (.pt kgw kkp [(2,.ptr (some a1)),(3,.ptr (some a2)),(5,.int .i64 a3),(6,.int .i64 a4)]) h =
 ((h.cell (a1.add 0)).bind AV.asSl).bind fun l5 =>
 cond (decide (a4<(l5.len:Int))) (
 cond (decide (a4<20)) (
 ((h.cell (a1.add 0)).bind AV.asSl).bind fun l6 =>
 (idx l6.ref l6.len a4 1).bind fun r7 =>
 ((h.cell (r7.add 0)).bind AV.asSl).bind fun l8 =>
 go (.pt kgw kkp [(2,.ptr (some a1)),(3,.ptr (some a2)),(5,.int .i64 (IntKind.wrap .i64 (a3+(l8.len:Int)))),(6,.int .i64 (IntKind.wrap .i64 (a4+1)))]) h) (
 cond (decide (a3<1500)) (
 ((h.cell (a1.add 0)).bind AV.asSl).bind fun l9 =>
 cond (decide ((l9.len:Int)<20)) (
 ((h.cell (a2.add 0)).bind AV.asSl).bind fun l10 =>
 ((h.cell (a2.add 0)).bind AV.asSl).bind fun l11 =>
 some (.bool (decide ((IntKind.wrap .i64 ((IntKind.wrap .i64 (a3-(l10.len:Int)))*(l11.len:Int)))≤60000)),h)) (
 some (.bool false,h))) (
 some (.bool false,h)))) (
 cond (decide (a3<1500)) (
 ((h.cell (a1.add 0)).bind AV.asSl).bind fun l12 =>
 cond (decide ((l12.len:Int)<20)) (
 ((h.cell (a2.add 0)).bind AV.asSl).bind fun l13 =>
 ((h.cell (a2.add 0)).bind AV.asSl).bind fun l14 =>
 some (.bool (decide ((IntKind.wrap .i64 ((IntKind.wrap .i64 (a3-(l13.len:Int)))*(l14.len:Int)))≤60000)),h)) (
 some (.bool false,h))) (
 some (.bool false,h))):=(ke _ h).trans (by kernel_rfl)
theorem kbcq(a1 a2:Int)(a3 a4 a5 a6 a7 a8 a9:Sl)(h:AH):go (.fn kdl [.int .i64 a1,.int .i64 a2,.agg [a3.v,a4.v,a5.v,a6.v,a7.v,a8.v,a9.v]]) h =
 newK h (.cells [a3.v,a4.v,a5.v,a6.v,a7.v,a8.v,a9.v] kik) fun h10r h10 =>
 ((h10.cell (h10r.add 3)).bind AV.asSl).bind fun l11 =>
 (go (.fn kpt [l11.v]) h10).bind fun q12 =>
 (AV.asTup2 q12.1).bind fun p13 =>
 ((some p13.1).bind AV.asPtr).bind fun p14 =>
 ((some p13.2).bind (AV.asInt .i64)).bind fun n15 =>
 cond (!decide (n15=0)) (
 some (.ptr none,q12.2)) (
 cond p14.isNone (
 some (.ptr none,q12.2)) (
 ((q12.2.cell ((h10r.add 0).add 0)).bind AV.asSl).bind fun l16 =>
 ((q12.2.cell ((h10r.add 0).add 1)).bind AV.asSl).bind fun l17 =>
 ((q12.2.cell ((h10r.add 0).add 2)).bind AV.asSl).bind fun l18 =>
 (go (.fn kkw [.int .i64 a1,.int .i64 a2,.int .i64 1000,.agg [l16.v,l17.v,l18.v],.ptr p14]) q12.2).bind fun q19 =>
 (AV.asTup2 q19.1).bind fun p20 =>
 ((some p20.1).bind AV.asPtr).bind fun p21 =>
 ((some p20.2).bind (AV.asInt .i64)).bind fun n22 =>
 cond (!decide (n22=0)) (
 some (.ptr none,q19.2)) (
 cond p21.isNone (
 some (.ptr none,q19.2)) (
 go (.pt kdl kll [(5,.ptr (some h10r)),(9,.ptr p21),(11,(⟨none,0,.is 0⟩:Sl).v),(12,.int .i64 0)]) q19.2)))):=(ke _ h).trans (by kernel_rfl)
theorem k7e(a1 a2 a3:Sl)(h:AH):go (.fn kc7 [.agg [a1.v,a2.v,a3.v]]) h =
 newK h (.cells [a1.v,a2.v,a3.v] ku) fun h4r h4 =>
 ((h4.cell (h4r.add 0)).bind AV.asSl).bind fun l5 =>
 (go (.fn kg5 [l5.v]) h4).bind fun q6 =>
 ((some q6.1).bind AV.asBool).bind fun b7 =>
 cond (!b7) (
 some (.bool false,q6.2)) (
 ((q6.2.cell (h4r.add 2)).bind AV.asSl).bind fun l8 =>
 cond (decide ((l8.len:Int)>16)) (
 some (.bool false,q6.2)) (
 ((q6.2.cell (h4r.add 1)).bind AV.asSl).bind fun l9 =>
 ((q6.2.cell (h4r.add 2)).bind AV.asSl).bind fun l10 =>
 cond (!decide ((l9.len:Int)=(l10.len:Int))) (
 some (.bool false,q6.2)) (
 go (.pt kc7 ki3 [(1,.ptr (some h4r)),(4,.int .i64 0)]) q6.2))):=(ke _ h).trans (by kernel_rfl)
theorem kbar(a1 a2:Sl)(h:AH):go (.fn kgq [a1.v,a2.v]) h =
 cond (!decide ((a1.len:Int)=(a2.len:Int))) (
 some (.bool false,h)) (
 go (.pt kgq km9 [(0,a1.v),(1,a2.v),(5,.int .i64 0)]) h):=(ke _ h).trans (by kernel_rfl)
theorem kxf(a1:Sl)(a2 a3:Ref)(a4 a5:Sl)(a6:Option Ref)(a7:Ref)(a8:Int)(h:AH):go (.pt kz ki1 [(1,a1.v),(3,.ptr (some a2)),(5,.ptr (some a3)),(9,a4.v),(10,a5.v),(15,.ptr a6),(17,.ptr (some a7)),(18,.int .i64 a8)]) h =
 ((h.cell (a2.add 0)).bind AV.asSl).bind fun l9 =>
 cond (decide (a8<(l9.len:Int))) (
 newK h (.cells [] kbc) fun h10r h10 =>
 ((h10.cell (a2.add 0)).bind AV.asSl).bind fun l11 =>
 (idx l11.ref l11.len a8 1).bind fun r12 =>
 ((h10.cell (r12.add 0)).bind AV.asSl).bind fun l13 =>
 (kbb Pg kbc l13.v h10).bind fun p15 =>
 (kw Pg (⟨some h10r,0,.is 0⟩:Sl) p15.1 p15.2 kbc 7 h10).bind fun q14 =>
 (AV.asSl q14.1).bind fun l16 =>
 go (.pt kz kgs [(1,a1.v),(3,.ptr (some a2)),(5,.ptr (some a3)),(9,a4.v),(10,a5.v),(15,.ptr a6),(17,.ptr (some a7)),(18,.int .i64 a8),(19,l16.v),(20,.int .i64 0)]) q14.2) (
 go (.pt kz kjf [(1,a1.v),(5,.ptr (some a3)),(9,a4.v),(10,a5.v),(15,.ptr a6),(17,.ptr (some a7)),(23,.int .i64 0)]) h):=(ke _ h).trans (by kernel_rfl)
theorem k2o(a1:Sl)(h:AH):go (.fn khi [a1.v]) h =
 (go (.fn kc9 [a1.v]) h).bind fun q2 =>
 ((some q2.1).bind AV.asBool).bind fun b3 =>
 cond (!b3) (
 some (.int .i64 0,q2.2)) (
 cond (decide ((a1.len:Int)=0)) (
 some (.int .i64 0,q2.2)) (
 (idx a1.ref a1.len (IntKind.wrap .i64 ((a1.len:Int)-1)) 1).bind fun r4 =>
 ((q2.2.cell r4).bind (AV.asInt .u64)).bind fun n5 =>
 (go (.fn khx [.int .u64 n5]) q2.2).bind fun q6 =>
 ((some q6.1).bind (AV.asInt .i64)).bind fun n7 =>
 some (.int .i64 (IntKind.wrap .i64 ((IntKind.wrap .i64 (64*(IntKind.wrap .i64 ((a1.len:Int)-1))))+n7)),q6.2))):=(ke _ h).trans (by kernel_rfl)
theorem k01(a1:Sl)(h:AH):go (.fn kc9 [a1.v]) h =
 cond (decide ((a1.len:Int)≤64)) (
 cond (decide ((a1.len:Int)=0)) (
 some (.bool true,h)) (
 (idx a1.ref a1.len (IntKind.wrap .i64 ((a1.len:Int)-1)) 1).bind fun r2 =>
 ((h.cell r2).bind (AV.asInt .u64)).bind fun n3 =>
 some (.bool (!decide (n3=0)),h))) (
 some (.bool false,h)):=(ke _ h).trans (by kernel_rfl)
theorem k5x(a1:Sl)(a2:Int)(h:AH):go (.fn kjc [a1.v,.int .i64 a2]) h =
 (go (.fn kc9 [a1.v]) h).bind fun q3 =>
 ((some q3.1).bind AV.asBool).bind fun b4 =>
 cond b4 (
 cond (decide (a2≥0)) (
 cond (decide ((IntKind.wrap .i64 (Int.tdiv a2 64))<(a1.len:Int))) (
 (idx a1.ref a1.len (IntKind.wrap .i64 (Int.tdiv a2 64)) 1).bind fun r5 =>
 ((q3.2.cell r5).bind (AV.asInt .u64)).bind fun n6 =>
 cond (decide ((Int.tmod a2 64)<0)) none (
 some (.bool (decide ((iand .u64 (ishr .u64 n6 (Int.tmod a2 64)) 1)=1)),q3.2))) (
 some (.bool false,q3.2))) (
 some (.bool false,q3.2))) (
 some (.bool false,q3.2)):=(ke _ h).trans (by kernel_rfl)
theorem kbd7(a1:Sl)(a2:Option Ref)(h:AH):go (.fn kbe [a1.v,.func (.func kcu) [] [.ptr a2]]) h =
 go (.pt kbe kb8 [(0,a1.v),(1,.func (.func kcu) [] [.ptr a2]),(7,.int .i64 (a1.len:Int)),(8,.int .i64 0)]) h:=(ke _ h).trans (by kernel_rfl)
theorem kbcu(a1:Int)(h:AH):go (.fn kmw [.int .i64 a1]) h =
 newK h (.cells [.int .i64 0,(⟨none,0,.is 0⟩:Sl).v] ky) fun h2r h2 =>
 cond (decide (a1<0)) (
 (h2.puts h2r [.int .i64 0,(⟨none,0,.is 0⟩:Sl).v]).bind fun h3 =>
 ((h3.cell (h2r.add 0)).bind (AV.asInt .i64)).bind fun n4 =>
 ((h3.cell (h2r.add 1)).bind AV.asSl).bind fun l5 =>
 some (.tup [.agg [.int .i64 n4,l5.v],.int .i64 1],h3)) (
 cond (decide (a1>65536)) (
 (h2.puts h2r [.int .i64 0,(⟨none,0,.is 0⟩:Sl).v]).bind fun h6 =>
 ((h6.cell (h2r.add 0)).bind (AV.asInt .i64)).bind fun n7 =>
 ((h6.cell (h2r.add 1)).bind AV.asSl).bind fun l8 =>
 some (.tup [.agg [.int .i64 n7,l8.v],.int .i64 1],h6)) (
 (kbg (IntKind.wrap .i64 (Int.tdiv (IntKind.wrap .i64 ((IntKind.wrap .i64 (a1+64))-1)) 64)) (IntKind.wrap .i64 (Int.tdiv (IntKind.wrap .i64 ((IntKind.wrap .i64 (a1+64))-1)) 64)) kj (Pg.bytesOf kj) [.int .u64 0] h2).bind fun q9 =>
 (q9.2.puts h2r [.int .i64 a1,q9.1.v]).bind fun h10 =>
 ((h10.cell (h2r.add 0)).bind (AV.asInt .i64)).bind fun n11 =>
 ((h10.cell (h2r.add 1)).bind AV.asSl).bind fun l12 =>
 some (.tup [.agg [.int .i64 n11,l12.v],.int .i64 0],h10))):=(ke _ h).trans (by kernel_rfl)
theorem k3r(a1:Sl)(a2:Option Ref)(h:AH):go (.fn kca [a1.v,.func (.func kcx) [] [.ptr a2]]) h =
 (go (.fn kba [a1.v,.func (.func kcx) [] [.ptr a2]]) h).bind fun q3 =>
 ((some q3.1).bind (AV.asInt .i64)).bind fun n4 =>
 some (.bool (decide (n4≥0)),q3.2):=(ke _ h).trans (by kernel_rfl)
theorem ksw(a1 a2:Ref)(a3:Sl)(a4 a5:Int)(h:AH):go (.pt kep klx [(4,.ptr (some a1)),(6,.ptr (some a2)),(23,a3.v),(24,.int .i64 a4),(25,.int .i64 a5)]) h =
 cond (decide (a5<a4)) (
 (idx a3.ref a3.len a5 1).bind fun r6 =>
 ((h.cell r6).bind (AV.asInt .i64)).bind fun n7 =>
 ((h.cell (a2.add 1)).bind AV.asSl).bind fun l8 =>
 (idx l8.ref l8.len (IntKind.wrap .i64 (Int.tdiv n7 64)) 1).bind fun r9 =>
 ((h.cell r9).bind (AV.asInt .u64)).bind fun n10 =>
 cond (decide ((Int.tmod n7 64)<0)) none (
 (idx l8.ref l8.len (IntKind.wrap .i64 (Int.tdiv n7 64)) 1).bind fun r11 =>
 (h.puts r11 [.int .u64 (ior .u64 n10 (ishl .u64 1 (Int.tmod n7 64)))]).bind fun h12 =>
 go (.pt kep klx [(4,.ptr (some a1)),(6,.ptr (some a2)),(23,a3.v),(24,.int .i64 a4),(25,.int .i64 (IntKind.wrap .i64 (a5+1)))]) h12)) (
 ((h.cell (a2.add 0)).bind (AV.asInt .i64)).bind fun n13 =>
 ((h.cell (a2.add 1)).bind AV.asSl).bind fun l14 =>
 (h.puts a1 [.int .i64 n13,l14.v]).bind fun h15 =>
 ((h15.cell (a1.add 0)).bind (AV.asInt .i64)).bind fun n16 =>
 ((h15.cell (a1.add 1)).bind AV.asSl).bind fun l17 =>
 some (.tup [.agg [.int .i64 n16,l17.v],.int .i64 0],h15)):=(ke _ h).trans (by kernel_rfl)
theorem k7t(a1 a2 a3:Sl)(h:AH):go (.fn kc5 [.agg [a1.v,a2.v,a3.v]]) h =
 newK h (.cells [a1.v,a2.v,a3.v] ku) fun h4r h4 =>
 ((h4.cell (h4r.add 0)).bind AV.asSl).bind fun l5 =>
 (go (.fn ko5 [l5.v]) h4).bind fun q6 =>
 ((some q6.1).bind AV.asBool).bind fun b7 =>
 cond (!b7) (
 some (.bool false,q6.2)) (
 ((q6.2.cell (h4r.add 2)).bind AV.asSl).bind fun l8 =>
 cond (decide ((l8.len:Int)>16)) (
 some (.bool false,q6.2)) (
 ((q6.2.cell (h4r.add 1)).bind AV.asSl).bind fun l9 =>
 ((q6.2.cell (h4r.add 2)).bind AV.asSl).bind fun l10 =>
 cond (!decide ((l9.len:Int)=(l10.len:Int))) (
 some (.bool false,q6.2)) (
 ((q6.2.cell (h4r.add 2)).bind AV.asSl).bind fun l11 =>
 go (.pt kc5 kkg [(1,.ptr (some h4r)),(27,l11.v),(28,.int .i64 (l11.len:Int)),(29,.int .i64 0)]) q6.2))):=(ke _ h).trans (by kernel_rfl)
theorem kuc(a1 a2 a3:Sl)(a4:Int)(a5:Sl)(h:AH):go (.fn kje [.agg [a1.v,a2.v,a3.v],.agg [.int .i64 a4,a5.v]]) h =
 newK h (.cells [a1.v,a2.v,a3.v] ku) fun h6r h6 =>
 newK h6 (.cells [.int .i64 a4,a5.v] ky) fun h7r h7 =>
 some (.func (.func kbn) [] [.ptr (some h6r),.ptr (some h7r)],h7):=(ke _ h).trans (by kernel_rfl)
theorem k9c(a1 a2 a3:Sl)(a4:Ref)(a5:Sl)(a6:Ref)(a7 a8 a9:Sl)(a10:Bool)(a11 a12 a13:Sl)(a14:Int)(a15:Sl)(a16:AV)(h:AH):go (.pt kd9 kwf [(0,.agg [a1.v,a2.v,a3.v]),(1,.ptr (some a4)),(2,a5.v),(3,.ptr (some a6)),(5,.agg [a7.v,a8.v,a9.v]),(6,.bool a10),(7,.agg [a11.v,a12.v,a13.v]),(8,.agg [.int .i64 a14,a15.v]),(9,a16)]) h =
 funcK a16 fun g21 f22 c23 =>
 newM h (kec kqy kd9 0 .ready none [(0,.agg [a1.v,a2.v,a3.v]),(1,.ptr (some a4)),(2,a5.v),(3,.ptr (some a6)),(5,.agg [a7.v,a8.v,a9.v]),(6,.bool a10),(7,.agg [a11.v,a12.v,a13.v]),(8,.agg [.int .i64 a14,a15.v]),(9,a16)]) fun m17 h18 =>
 (callF Pg go g21 (f22++[.func (.yield m17) [] []]++c23) h18).bind fun q19 =>
 (kff m17 q19.2).bind fun p20 =>
 go (.pt kd9 ((p20.1.map Item.code).toList++kt3) [(0,.agg [a1.v,a2.v,a3.v]),(1,.ptr (some a4)),(2,a5.v),(3,.ptr (some a6)),(5,.agg [a7.v,a8.v,a9.v]),(6,.bool a10),(7,.agg [a11.v,a12.v,a13.v]),(8,.agg [.int .i64 a14,a15.v]),(9,a16)]) p20.2:=(ke _ h).trans (by kernel_rfl)
theorem k3u(a1:Int)(h:AH):go (.fn kmy [.int .i64 a1]) h =
 cond (decide (a1<0)) (
 some (.bool true,h)) (
 some (.bool (decide (a1>1073741824)),h)):=(ke _ h).trans (by kernel_rfl)
theorem k3x(a1:Option Ref)(a2:Int)(h:AH):go (.fn kdr [.ptr a1,.int .i64 a2]) h =
 cond a1.isNone (
 some (.tup [(⟨none,0,.is 0⟩:Sl).v,.int .i64 1],h)) (
 cond (decide (a2<0)) (
 some (.tup [(⟨none,0,.is 0⟩:Sl).v,.int .i64 1],h)) (
 cond (decide (a2>16384)) (
 some (.tup [(⟨none,0,.is 0⟩:Sl).v,.int .i64 1],h)) (
 (kbg a2 a2 T.int (Pg.bytesOf T.int) [.int .i64 0] h).bind fun q3 =>
 go (.pt kdr kml [(0,.ptr a1),(1,.int .i64 a2),(6,q3.1.v),(25,.int .i64 (q3.1.len:Int)),(26,.int .i64 0)]) q3.2))):=(ke _ h).trans (by kernel_rfl)
theorem kr2(a1:Option Ref)(a2:Sl)(a3:Ref)(a4 a5 a6:Sl)(a7 a8:Int)(h:AH):go (.pt kf1 kna [(0,.ptr a1),(4,a2.v),(14,.ptr (some a3)),(15,a4.v),(17,a5.v),(60,a6.v),(61,.int .i64 a7),(62,.int .i64 a8)]) h =
 cond (decide (a8<a7)) (
 (idx a6.ref a6.len a8 1).bind fun r9 =>
 ((h.cell r9).bind (AV.asInt .i64)).bind fun n10 =>
 a1.bind fun r11 =>
 ((h.cell (r11.add 0)).bind AV.asSl).bind fun l12 =>
 newK h (.cells [.int .i64 (l12.len:Int)] T.int) fun h13r h13 =>
 (kbb Pg T.int ((⟨some h13r,1,.is 1⟩:Sl).v) h13).bind fun p15 =>
 (kw Pg a5 p15.1 p15.2 T.int 1 h13).bind fun q14 =>
 (AV.asSl q14.1).bind fun l16 =>
 a1.bind fun r17 =>
 ((q14.2.cell (r17.add 0)).bind AV.asSl).bind fun l18 =>
 (idx a2.ref a2.len n10 2).bind fun r19 =>
 ((q14.2.cell (r19.add 0)).bind (AV.asInt .i64)).bind fun n20 =>
 ((q14.2.cell (r19.add 1)).bind (AV.asInt .i64)).bind fun n21 =>
 ((q14.2.cell (a3.add 0)).bind (AV.asInt .i64)).bind fun n22 =>
 ((q14.2.cell (a3.add 1)).bind (AV.asInt .i64)).bind fun n23 =>
 newK q14.2 (.cells [.int .i64 n20,.int .i64 n21,.int .i64 n22,.int .i64 n23] kcr) fun h24r h24 =>
 whenK (SameAt q14.2 h24 (r17.add 0) 1) (
 (kbb Pg kcr ((⟨some h24r,1,.is 1⟩:Sl).v) h24).bind fun p26 =>
 (kw Pg l18 p26.1 p26.2 kcr 4 h24).bind fun q25 =>
 (AV.asSl q25.1).bind fun l27 =>
 a1.bind fun r28 =>
 (q25.2.puts (r28.add 0) [l27.v]).bind fun h29 =>
 go (.pt kf1 kna [(0,.ptr a1),(4,a2.v),(14,.ptr (some a3)),(15,a4.v),(17,l16.v),(60,a6.v),(61,.int .i64 a7),(62,.int .i64 (IntKind.wrap .i64 (a8+1)))]) h29)) (
 a1.bind fun r30 =>
 ((h.cell (r30.add 1)).bind AV.asMap).bind fun m31 =>
 ((h.cell (a3.add 0)).bind (AV.asInt .i64)).bind fun n32 =>
 ((h.cell (a3.add 1)).bind (AV.asInt .i64)).bind fun n33 =>
 m31.bind fun m35 =>
 (kix h m35 .i64 n32 n33 (.bool true)).bind fun h34 =>
 some (.tup [a4.v,a5.v,.int .i64 0],h34)):=(ke _ h).trans (by kernel_rfl)
theorem k91(a1 a2 a3:Sl)(a4:Int)(a5:Sl)(a6:Int)(h:AH):go (.fn kqu [.agg [a1.v,a2.v,a3.v],.agg [.int .i64 a4,a5.v],.int .i64 a6]) h =
 newK h (.cells [a1.v,a2.v,a3.v] ku) fun h7r h7 =>
 newK h7 (.cells [.int .i64 a4,a5.v] ky) fun h8r h8 =>
 ((h8.cell (h7r.add 0)).bind AV.asSl).bind fun l9 =>
 ((h8.cell (h7r.add 1)).bind AV.asSl).bind fun l10 =>
 ((h8.cell (h7r.add 2)).bind AV.asSl).bind fun l11 =>
 (go (.fn kc5 [.agg [l9.v,l10.v,l11.v]]) h8).bind fun q12 =>
 ((some q12.1).bind AV.asBool).bind fun b13 =>
 cond (!b13) (
 some (.int .i64 20,q12.2)) (
 ((q12.2.cell (h8r.add 0)).bind (AV.asInt .i64)).bind fun n14 =>
 ((q12.2.cell (h8r.add 1)).bind AV.asSl).bind fun l15 =>
 (go (.fn kho [.agg [.int .i64 n14,l15.v]]) q12.2).bind fun q16 =>
 ((some q16.1).bind AV.asBool).bind fun b17 =>
 cond (!b17) (
 some (.int .i64 1,q16.2)) (
 ((q16.2.cell (h8r.add 0)).bind (AV.asInt .i64)).bind fun n18 =>
 ((q16.2.cell (h7r.add 0)).bind AV.asSl).bind fun l19 =>
 cond (!decide (n18=(l19.len:Int))) (
 some (.int .i64 1,q16.2)) (
 ((q16.2.cell (h7r.add 0)).bind AV.asSl).bind fun l20 =>
 cond (!decide (a6=(l20.len:Int))) (
 some (.int .i64 1,q16.2)) (
 some (.int .i64 0,q16.2))))):=(ke _ h).trans (by kernel_rfl)
theorem k3k(a1:Sl)(a2:Option Ref)(h:AH):go (.fn kdg [a1.v,.func (.func kbv) [] [.ptr a2]]) h =
 (go (.fn kbe [a1.v,.func (.func kbv) [] [.ptr a2]]) h).bind fun q3 =>
 ((some q3.1).bind (AV.asInt .i64)).bind fun n4 =>
 some (.bool (decide (n4≥0)),q3.2):=(ke _ h).trans (by kernel_rfl)
theorem ky7(a1:Sl)(h:AH):go (.fn kn2 [a1.v]) h =
 (go (.fn kjx [a1.v,a1.v]) h).bind fun q2 =>
 (AV.asTup2 q2.1).bind fun p3 =>
 ((some p3.1).bind AV.asSl).bind fun l4 =>
 ((some p3.2).bind (AV.asInt .i64)).bind fun n5 =>
 newK q2.2 (.cells [(⟨none,0,.is 0⟩:Sl).v] kr) fun h6r h6 =>
 (h6.puts h6r [l4.v]).bind fun h7 =>
 some (.func (.func kd0) [] [.ptr (some h6r)],h7):=(ke _ h).trans (by kernel_rfl)
theorem k9t(a1 a2 a3 a4:Sl)(a5:Int)(a6 a7:Sl)(a8 a9 a10 a11:Ref)(a12:Sl)(a13 a14:Int)(a15 a16:Ref)(a17:Sl)(a18 a19:Bool)(a20 a21 a22:Sl)(a23:Int)(a24 a25:Sl)(a26 a27 a28:Int)(a29:Bool)(a30:Sl)(a31:Ref)(a32:Bool)(a33:Sl)(a34:AV)(a35 a36 a37:Sl)(a38:Int)(a39:Sl)(a40:AV)(h:AH):go (.pt kcg ktz [(0,a1.v),(1,.agg [a2.v,a3.v,a4.v]),(2,.agg [.int .i64 a5,a6.v]),(3,a7.v),(4,.ptr (some a8)),(5,.ptr (some a9)),(6,.ptr (some a10)),(7,.ptr (some a11)),(8,a12.v),(9,.int .i64 a13),(10,.int .i64 a14),(11,.ptr (some a15)),(12,.ptr (some a16)),(18,a17.v),(19,.bool a18),(20,.bool a19),(21,.agg [a20.v,a21.v,a22.v]),(22,.agg [.int .i64 a23,a24.v]),(23,a25.v),(24,.int .i64 a26),(25,.int .i64 a27),(26,.int .i64 a28),(27,.bool a29),(29,a30.v),(30,.func (.func kbv) [] [.ptr (some a31)]),(31,.bool a32),(32,a33.v),(33,a34),(34,.agg [a35.v,a36.v,a37.v]),(35,.agg [.int .i64 a38,a39.v]),(36,a40)]) h =
 funcK a40 fun g45 f46 c47 =>
 newM h (kec kp5 kcg 0 .ready none [(0,a1.v),(1,.agg [a2.v,a3.v,a4.v]),(2,.agg [.int .i64 a5,a6.v]),(3,a7.v),(4,.ptr (some a8)),(5,.ptr (some a9)),(6,.ptr (some a10)),(7,.ptr (some a11)),(8,a12.v),(9,.int .i64 a13),(10,.int .i64 a14),(11,.ptr (some a15)),(12,.ptr (some a16)),(18,a17.v),(19,.bool a18),(20,.bool a19),(21,.agg [a20.v,a21.v,a22.v]),(22,.agg [.int .i64 a23,a24.v]),(23,a25.v),(24,.int .i64 a26),(25,.int .i64 a27),(26,.int .i64 a28),(27,.bool a29),(29,a30.v),(30,.func (.func kbv) [] [.ptr (some a31)]),(31,.bool a32),(32,a33.v),(33,a34),(34,.agg [a35.v,a36.v,a37.v]),(35,.agg [.int .i64 a38,a39.v]),(36,a40)]) fun m41 h42 =>
 (callF Pg go g45 (f46++[.func (.yield m41) [] []]++c47) h42).bind fun q43 =>
 (kff m41 q43.2).bind fun p44 =>
 go (.pt kcg ((p44.1.map Item.code).toList++kwe) [(0,a1.v),(1,.agg [a2.v,a3.v,a4.v]),(2,.agg [.int .i64 a5,a6.v]),(3,a7.v),(4,.ptr (some a8)),(5,.ptr (some a9)),(6,.ptr (some a10)),(7,.ptr (some a11)),(8,a12.v),(9,.int .i64 a13),(10,.int .i64 a14),(11,.ptr (some a15)),(12,.ptr (some a16)),(18,a17.v),(19,.bool a18),(20,.bool a19),(21,.agg [a20.v,a21.v,a22.v]),(22,.agg [.int .i64 a23,a24.v]),(23,a25.v),(24,.int .i64 a26),(25,.int .i64 a27),(26,.int .i64 a28),(27,.bool a29),(29,a30.v),(30,.func (.func kbv) [] [.ptr (some a31)]),(31,.bool a32),(32,a33.v),(33,a34),(34,.agg [a35.v,a36.v,a37.v]),(35,.agg [.int .i64 a38,a39.v]),(36,a40)]) p44.2:=(ke _ h).trans (by kernel_rfl)
theorem ksr(a1:Nat)(a2 a3:Ref)(a4:Int)(a5:Sl)(a6 a7 a8 a9:Int)(h:AH):go (.pt kbn kil [(0,.func (.yield a1) [] []),(1,.ptr (some a2)),(2,.ptr (some a3)),(4,.int .i64 a4),(10,a5.v),(11,.int .i64 a6),(12,.int .i64 a7),(18,.int .i64 a8),(19,.int .i64 a9)]) h =
 cond (decide (a9<a8)) (
 ((h.cell (a2.add 0)).bind AV.asSl).bind fun l10 =>
 ((h.cell (a2.add 1)).bind AV.asSl).bind fun l11 =>
 ((h.cell (a2.add 2)).bind AV.asSl).bind fun l12 =>
 (go (.fn ker [.agg [l10.v,l11.v,l12.v],.int .i64 a4,.int .i64 a9]) h).bind fun q13 =>
 (AV.asTup2 q13.1).bind fun p14 =>
 (AV.asAgg p14.1).bind fun cs15 =>
 cond (Nat.beq cs15.length 2) (
 ((cs15[0]?).bind (AV.asInt .i64)).bind fun n16 =>
 ((cs15[1]?).bind AV.asSl).bind fun l17 =>
 ((some p14.2).bind (AV.asInt .i64)).bind fun n18 =>
 newK q13.2 (.cells [.int .i64 0,(⟨none,0,.is 0⟩:Sl).v] ky) fun h19r h19 =>
 (h19.puts h19r [.int .i64 n16,l17.v]).bind fun h20 =>
 ((h20.cell (h19r.add 0)).bind (AV.asInt .i64)).bind fun n21 =>
 ((h20.cell (h19r.add 1)).bind AV.asSl).bind fun l22 =>
 ((h20.cell (a3.add 0)).bind (AV.asInt .i64)).bind fun n23 =>
 ((h20.cell (a3.add 1)).bind AV.asSl).bind fun l24 =>
 (go (.fn knf [.agg [.int .i64 n21,l22.v],.agg [.int .i64 n23,l24.v]]) h20).bind fun q25 =>
 (AV.asTup2 q25.1).bind fun p26 =>
 (AV.asAgg p26.1).bind fun cs27 =>
 cond (Nat.beq cs27.length 2) (
 ((cs27[0]?).bind (AV.asInt .i64)).bind fun n28 =>
 ((cs27[1]?).bind AV.asSl).bind fun l29 =>
 ((some p26.2).bind (AV.asInt .i64)).bind fun n30 =>
 (q25.2.puts h19r [.int .i64 n28,l29.v]).bind fun h31 =>
 ((h31.cell (h19r.add 0)).bind (AV.asInt .i64)).bind fun n32 =>
 ((h31.cell (h19r.add 1)).bind AV.asSl).bind fun l33 =>
 (go (.fn klp [.agg [.int .i64 n32,l33.v]]) h31).bind fun q34 =>
 ((some q34.1).bind AV.asSl).bind fun l35 =>
 (go (.round a1 [.agg [.int .i64 a4,.int .i64 a9],l35.v]) q34.2).bind fun q36 =>
 ((some q36.1).bind AV.asBool).bind fun b37 =>
 cond (!b37) (
 some (.tup [],q36.2)) (
 go (.pt kbn kil [(0,.func (.yield a1) [] []),(1,.ptr (some a2)),(2,.ptr (some a3)),(4,.int .i64 a4),(10,a5.v),(11,.int .i64 a6),(12,.int .i64 a7),(18,.int .i64 a8),(19,.int .i64 (IntKind.wrap .i64 (a9+1)))]) q36.2)) none) none) (
 go (.pt kbn kif [(0,.func (.yield a1) [] []),(1,.ptr (some a2)),(2,.ptr (some a3)),(10,a5.v),(11,.int .i64 a6),(12,.int .i64 (IntKind.wrap .i64 (a7+1)))]) h):=(ke _ h).trans (by kernel_rfl)
theorem kxr(a1:Nat)(a2 a3:Int)(a4:Sl)(a5 a6:Int)(h:AH):go (.pt kb5 kmo [(0,.func (.yield a1) [] []),(3,.int .i64 a2),(4,.int .u64 a3),(6,a4.v),(7,.int .i64 a5),(8,.int .i64 a6)]) h =
 cond (!decide (a3=0)) (
 (go (.fn kqi [.int .u64 a3]) h).bind fun q7 =>
 ((some q7.1).bind (AV.asInt .i64)).bind fun n8 =>
 (go (.round a1 [.int .i64 (IntKind.wrap .i64 ((IntKind.wrap .i64 (64*a2))+n8))]) q7.2).bind fun q9 =>
 ((some q9.1).bind AV.asBool).bind fun b10 =>
 cond (!b10) (
 some (.tup [],q9.2)) (
 go (.pt kb5 kmo [(0,.func (.yield a1) [] []),(3,.int .i64 a2),(4,.int .u64 (iand .u64 a3 (IntKind.wrap .u64 (a3-1)))),(6,a4.v),(7,.int .i64 a5),(8,.int .i64 a6)]) q9.2)) (
 go (.pt kb5 kjm [(0,.func (.yield a1) [] []),(6,a4.v),(7,.int .i64 a5),(8,.int .i64 (IntKind.wrap .i64 (a6+1)))]) h):=(ke _ h).trans (by kernel_rfl)
theorem kbas(a1:Sl)(h:AH):go (.fn kg3 [a1.v]) h =
 (go (.fn kdg [a1.v,.func (.func kdq) [] []]) h).bind fun q2 =>
 ((some q2.1).bind AV.asBool).bind fun b3 =>
 some (.bool (!b3),q2.2):=(ke _ h).trans (by kernel_rfl)
theorem k32(a1 a2:Sl)(h:AH):go (.fn kki [a1.v,a2.v]) h =
 newK h (.cells [.nilFunc] kvs) fun h3r h3 =>
 (h3.puts h3r [.func (.func ki7) [] [.ptr (some h3r)]]).bind fun h4 =>
 (h4.cell h3r).bind fun v5 =>
 yieldK v5 [a1.v,a2.v] (fun y7 =>
 (go (.round y7.1 y7.2) h4).bind fun q6 =>
 ((some q6.1).bind AV.asSl).bind fun l9 =>
 some (l9.v,q6.2)) (
 (callV Pg go v5 [a1.v,a2.v] h4).bind fun q8 =>
 ((some q8.1).bind AV.asSl).bind fun l10 =>
 some (l10.v,q8.2)):=(ke _ h).trans (by kernel_rfl)
theorem k69(a1:Sl)(h:AH):go (.fn kjb [a1.v]) h =
 (go (.fn kbf [a1.v]) h).bind fun q2 =>
 ((some q2.1).bind AV.asSl).bind fun l3 =>
 cond (decide ((l3.len:Int)>64)) (
 some (.tup [(⟨none,0,.is 0⟩:Sl).v,.int .i64 4],q2.2)) (
 some (.tup [l3.v,.int .i64 0],q2.2)):=(ke _ h).trans (by kernel_rfl)
theorem kzf(a1 a2:Sl)(h:AH):go (.fn keg [a1.v,a2.v]) h =
 cond (!decide ((a1.len:Int)=(a2.len:Int))) (
 cond (decide ((a1.len:Int)<(a2.len:Int))) (
 some (.int .i64 (-1),h)) (
 some (.int .i64 1,h))) (
 go (.pt keg kl6 [(0,a1.v),(1,a2.v),(5,.int .i64 (IntKind.wrap .i64 ((a1.len:Int)-1)))]) h):=(ke _ h).trans (by kernel_rfl)
theorem kbem(a1:Sl)(a2:Int)(h:AH):go (.fn ket [a1.v,.int .u64 a2]) h =
 (kbg (a1.len:Int) (a1.len:Int) kj (Pg.bytesOf kj) [.int .u64 0] h).bind fun q3 =>
 go (.pt ket kl0 [(0,a1.v),(1,.int .u64 a2),(6,q3.1.v),(7,.int .u64 0),(8,.int .i64 (IntKind.wrap .i64 ((a1.len:Int)-1)))]) q3.2:=(ke _ h).trans (by kernel_rfl)
theorem k09(a1:Int)(h:AH):go (.fn kic [.int .u64 a1]) h =
 newK h (.cells [.int .u64 a1] kj) fun h2r h2 =>
 (go (.fn kbf [(⟨some h2r,1,.is 1⟩:Sl).v]) h2).bind fun q3 =>
 ((some q3.1).bind AV.asSl).bind fun l4 =>
 some (l4.v,q3.2):=(ke _ h).trans (by kernel_rfl)
theorem ky2(a1 a2:Sl)(h:AH):go (.fn kb1 [a1.v,a2.v]) h =
 (idx a2.ref a2.len (IntKind.wrap .i64 ((a2.len:Int)-1)) 1).bind fun r3 =>
 ((h.cell r3).bind (AV.asInt .u64)).bind fun n4 =>
 (go (.fn knj [.int .u64 n4]) h).bind fun q5 =>
 ((some q5.1).bind (AV.asInt .i64)).bind fun n6 =>
 (go (.fn kd4 [a1.v,.int .u64 (IntKind.wrap .u64 n6)]) q5.2).bind fun q7 =>
 ((some q7.1).bind AV.asSl).bind fun l8 =>
 (go (.fn kd4 [a2.v,.int .u64 (IntKind.wrap .u64 n6)]) q7.2).bind fun q9 =>
 ((some q9.1).bind AV.asSl).bind fun l10 =>
 (go (.fn kbf [l10.v]) q9.2).bind fun q11 =>
 ((some q11.1).bind AV.asSl).bind fun l12 =>
 (kbg (IntKind.wrap .i64 ((l8.len:Int)-(l12.len:Int))) (IntKind.wrap .i64 ((l8.len:Int)-(l12.len:Int))) kj (Pg.bytesOf kj) [.int .u64 0] q11.2).bind fun q13 =>
 go (.pt kb1 klc [(6,.int .u64 (IntKind.wrap .u64 n6)),(7,l8.v),(8,l12.v),(9,.int .i64 (l12.len:Int)),(10,q13.1.v),(11,.int .i64 (IntKind.wrap .i64 ((q13.1.len:Int)-1)))]) q13.2:=(ke _ h).trans (by kernel_rfl)
theorem kyk(a1 a2 a3:Sl)(a4 a5:Int)(h:AH):go (.pt kcl klr [(1,a1.v),(5,a2.v),(20,a3.v),(21,.int .i64 a4),(22,.int .i64 a5)]) h =
 cond (decide (a5<a4)) (
 (idx a3.ref a3.len a5 1).bind fun r6 =>
 ((h.cell r6).bind (AV.asInt .u64)).bind fun n7 =>
 go (.pt kcl klh [(1,a1.v),(5,a2.v),(6,.int .i64 a5),(7,.int .u64 n7),(8,.int .u64 0),(20,a3.v),(21,.int .i64 a4),(22,.int .i64 a5),(27,a1.v),(28,.int .i64 (a1.len:Int)),(29,.int .i64 0)]) h) (
 (go (.fn kbf [a2.v]) h).bind fun q8 =>
 ((some q8.1).bind AV.asSl).bind fun l9 =>
 some (l9.v,q8.2)):=(ke _ h).trans (by kernel_rfl)
theorem kt7(a1 a2 a3:Sl)(a4 a5 a6:Int)(h:AH):go (.pt kcv kfc [(0,a1.v),(1,a2.v),(5,a3.v),(6,.int .u64 a4),(21,.int .i64 a5),(22,.int .i64 a6)]) h =
 cond (decide (a6<a5)) (
 cond (decide (a6<(a2.len:Int))) (
 (idx a2.ref a2.len a6 1).bind fun r7 =>
 ((h.cell r7).bind (AV.asInt .u64)).bind fun n8 =>
 (idx a1.ref a1.len a6 1).bind fun r9 =>
 ((h.cell r9).bind (AV.asInt .u64)).bind fun n10 =>
 ((prim "math/bits.Add64" [.int .u64 n10,.int .u64 n8,.int .u64 a4]).map fun v=>(v,h)).bind fun q11 =>
 (AV.asTup2 q11.1).bind fun p12 =>
 ((some p12.1).bind (AV.asInt .u64)).bind fun n13 =>
 ((some p12.2).bind (AV.asInt .u64)).bind fun n14 =>
 (idx a3.ref a3.len a6 1).bind fun r15 =>
 (q11.2.puts r15 [.int .u64 n13]).bind fun h16 =>
 go (.pt kcv kfc [(0,a1.v),(1,a2.v),(5,a3.v),(6,.int .u64 n14),(21,.int .i64 a5),(22,.int .i64 (IntKind.wrap .i64 (a6+1)))]) h16) (
 (idx a1.ref a1.len a6 1).bind fun r17 =>
 ((h.cell r17).bind (AV.asInt .u64)).bind fun n18 =>
 ((prim "math/bits.Add64" [.int .u64 n18,.int .u64 0,.int .u64 a4]).map fun v=>(v,h)).bind fun q19 =>
 (AV.asTup2 q19.1).bind fun p20 =>
 ((some p20.1).bind (AV.asInt .u64)).bind fun n21 =>
 ((some p20.2).bind (AV.asInt .u64)).bind fun n22 =>
 (idx a3.ref a3.len a6 1).bind fun r23 =>
 (q19.2.puts r23 [.int .u64 n21]).bind fun h24 =>
 go (.pt kcv kfc [(0,a1.v),(1,a2.v),(5,a3.v),(6,.int .u64 n22),(21,.int .i64 a5),(22,.int .i64 (IntKind.wrap .i64 (a6+1)))]) h24)) (
 (idx a3.ref a3.len (a1.len:Int) 1).bind fun r25 =>
 (h.puts r25 [.int .u64 a4]).bind fun h26 =>
 some (a3.v,h26)):=(ke _ h).trans (by kernel_rfl)
theorem klf(a1:Sl)(a2:Int)(h:AH):go (.pt kbf kin [(0,a1.v),(3,.int .i64 a2)]) h =
 cond (decide (a2>0)) (
 (idx a1.ref a1.len (IntKind.wrap .i64 (a2-1)) 1).bind fun r3 =>
 ((h.cell r3).bind (AV.asInt .u64)).bind fun n4 =>
 cond (decide (n4=0)) (
 go (.pt kbf kin [(0,a1.v),(3,.int .i64 (IntKind.wrap .i64 (a2-1)))]) h) (
 (cutSl a1 0 a2 1).bind fun l5 =>
 some (l5.v,h))) (
 (cutSl a1 0 a2 1).bind fun l6 =>
 some (l6.v,h)):=(ke _ h).trans (by kernel_rfl)
theorem kxn(a1 a2 a3:Sl)(a4 a5 a6:Int)(h:AH):go (.pt kcp kh1 [(0,a1.v),(1,a2.v),(5,a3.v),(6,.int .u64 a4),(13,.int .i64 a5),(14,.int .i64 a6)]) h =
 cond (decide (a6<a5)) (
 cond (decide (a6<(a2.len:Int))) (
 (idx a2.ref a2.len a6 1).bind fun r7 =>
 ((h.cell r7).bind (AV.asInt .u64)).bind fun n8 =>
 (idx a1.ref a1.len a6 1).bind fun r9 =>
 ((h.cell r9).bind (AV.asInt .u64)).bind fun n10 =>
 ((prim "math/bits.Sub64" [.int .u64 n10,.int .u64 n8,.int .u64 a4]).map fun v=>(v,h)).bind fun q11 =>
 (AV.asTup2 q11.1).bind fun p12 =>
 ((some p12.1).bind (AV.asInt .u64)).bind fun n13 =>
 ((some p12.2).bind (AV.asInt .u64)).bind fun n14 =>
 (idx a3.ref a3.len a6 1).bind fun r15 =>
 (q11.2.puts r15 [.int .u64 n13]).bind fun h16 =>
 go (.pt kcp kh1 [(0,a1.v),(1,a2.v),(5,a3.v),(6,.int .u64 n14),(13,.int .i64 a5),(14,.int .i64 (IntKind.wrap .i64 (a6+1)))]) h16) (
 (idx a1.ref a1.len a6 1).bind fun r17 =>
 ((h.cell r17).bind (AV.asInt .u64)).bind fun n18 =>
 ((prim "math/bits.Sub64" [.int .u64 n18,.int .u64 0,.int .u64 a4]).map fun v=>(v,h)).bind fun q19 =>
 (AV.asTup2 q19.1).bind fun p20 =>
 ((some p20.1).bind (AV.asInt .u64)).bind fun n21 =>
 ((some p20.2).bind (AV.asInt .u64)).bind fun n22 =>
 (idx a3.ref a3.len a6 1).bind fun r23 =>
 (q19.2.puts r23 [.int .u64 n21]).bind fun h24 =>
 go (.pt kcp kh1 [(0,a1.v),(1,a2.v),(5,a3.v),(6,.int .u64 n22),(13,.int .i64 a5),(14,.int .i64 (IntKind.wrap .i64 (a6+1)))]) h24)) (
 some (a3.v,h)):=(ke _ h).trans (by kernel_rfl)
theorem k9j(a1 a2:Sl)(a3 a4 a5:Int)(h:AH):go (.pt kdh kgg [(0,a1.v),(1,a2.v),(2,.int .i64 a3),(6,.int .u64 a4),(7,.int .i64 a5)]) h =
 cond (decide (a5<(a1.len:Int))) (
 cond (decide ((IntKind.wrap .i64 (a5-a3))<(a2.len:Int))) (
 cond (decide ((IntKind.wrap .i64 (a5-a3))<(a2.len:Int))) (
 (idx a2.ref a2.len (IntKind.wrap .i64 (a5-a3)) 1).bind fun r6 =>
 ((h.cell r6).bind (AV.asInt .u64)).bind fun n7 =>
 (idx a1.ref a1.len a5 1).bind fun r8 =>
 ((h.cell r8).bind (AV.asInt .u64)).bind fun n9 =>
 ((prim "math/bits.Add64" [.int .u64 n9,.int .u64 n7,.int .u64 a4]).map fun v=>(v,h)).bind fun q10 =>
 (AV.asTup2 q10.1).bind fun p11 =>
 ((some p11.1).bind (AV.asInt .u64)).bind fun n12 =>
 ((some p11.2).bind (AV.asInt .u64)).bind fun n13 =>
 (idx a1.ref a1.len a5 1).bind fun r14 =>
 (q10.2.puts r14 [.int .u64 n12]).bind fun h15 =>
 go (.pt kdh kgg [(0,a1.v),(1,a2.v),(2,.int .i64 a3),(6,.int .u64 n13),(7,.int .i64 (IntKind.wrap .i64 (a5+1)))]) h15) (
 (idx a1.ref a1.len a5 1).bind fun r16 =>
 ((h.cell r16).bind (AV.asInt .u64)).bind fun n17 =>
 ((prim "math/bits.Add64" [.int .u64 n17,.int .u64 0,.int .u64 a4]).map fun v=>(v,h)).bind fun q18 =>
 (AV.asTup2 q18.1).bind fun p19 =>
 ((some p19.1).bind (AV.asInt .u64)).bind fun n20 =>
 ((some p19.2).bind (AV.asInt .u64)).bind fun n21 =>
 (idx a1.ref a1.len a5 1).bind fun r22 =>
 (q18.2.puts r22 [.int .u64 n20]).bind fun h23 =>
 go (.pt kdh kgg [(0,a1.v),(1,a2.v),(2,.int .i64 a3),(6,.int .u64 n21),(7,.int .i64 (IntKind.wrap .i64 (a5+1)))]) h23)) (
 cond (decide (a4>0)) (
 cond (decide ((IntKind.wrap .i64 (a5-a3))<(a2.len:Int))) (
 (idx a2.ref a2.len (IntKind.wrap .i64 (a5-a3)) 1).bind fun r24 =>
 ((h.cell r24).bind (AV.asInt .u64)).bind fun n25 =>
 (idx a1.ref a1.len a5 1).bind fun r26 =>
 ((h.cell r26).bind (AV.asInt .u64)).bind fun n27 =>
 ((prim "math/bits.Add64" [.int .u64 n27,.int .u64 n25,.int .u64 a4]).map fun v=>(v,h)).bind fun q28 =>
 (AV.asTup2 q28.1).bind fun p29 =>
 ((some p29.1).bind (AV.asInt .u64)).bind fun n30 =>
 ((some p29.2).bind (AV.asInt .u64)).bind fun n31 =>
 (idx a1.ref a1.len a5 1).bind fun r32 =>
 (q28.2.puts r32 [.int .u64 n30]).bind fun h33 =>
 go (.pt kdh kgg [(0,a1.v),(1,a2.v),(2,.int .i64 a3),(6,.int .u64 n31),(7,.int .i64 (IntKind.wrap .i64 (a5+1)))]) h33) (
 (idx a1.ref a1.len a5 1).bind fun r34 =>
 ((h.cell r34).bind (AV.asInt .u64)).bind fun n35 =>
 ((prim "math/bits.Add64" [.int .u64 n35,.int .u64 0,.int .u64 a4]).map fun v=>(v,h)).bind fun q36 =>
 (AV.asTup2 q36.1).bind fun p37 =>
 ((some p37.1).bind (AV.asInt .u64)).bind fun n38 =>
 ((some p37.2).bind (AV.asInt .u64)).bind fun n39 =>
 (idx a1.ref a1.len a5 1).bind fun r40 =>
 (q36.2.puts r40 [.int .u64 n38]).bind fun h41 =>
 go (.pt kdh kgg [(0,a1.v),(1,a2.v),(2,.int .i64 a3),(6,.int .u64 n39),(7,.int .i64 (IntKind.wrap .i64 (a5+1)))]) h41)) (
 some (.tup [],h)))) (
 some (.tup [],h)):=(ke _ h).trans (by kernel_rfl)
theorem kbc2(a1:Sl)(h:AH):go (.fn kc3 [.agg [a1.v]]) h =
 newK h (.cells [a1.v] kbh) fun h2r h2 =>
 ((h2.cell (h2r.add 0)).bind AV.asSl).bind fun l3 =>
 cond (decide ((l3.len:Int)>16)) (
 some (.bool false,h2)) (
 ((h2.cell (h2r.add 0)).bind AV.asSl).bind fun l4 =>
 go (.pt kc3 kiu [(12,l4.v),(13,.int .i64 (l4.len:Int)),(14,.int .i64 0)]) h2):=(ke _ h).trans (by kernel_rfl)
theorem kro(a1 a2 a3:Ref)(a4:Sl)(a5 a6:Int)(h:AH):go (.pt kfp kk9 [(8,.func (.func kb6) [] [.ptr (some a1),.ptr (some a2)]),(9,.ptr (some a3)),(37,a4.v),(38,.int .i64 a5),(39,.int .i64 a6)]) h =
 cond (decide (a6<a5)) (
 (idx a4.ref a4.len a6 1).bind fun r7 =>
 ((h.cell (r7.add 0)).bind AV.asSl).bind fun l8 =>
 newK h (.cells [(⟨none,0,.is 0⟩:Sl).v] kb2) fun h9r h9 =>
 (h9.puts h9r [l8.v]).bind fun h10 =>
 ((h10.cell (h9r.add 0)).bind AV.asSl).bind fun l11 =>
 (go (.fn koc [l11.v,.func (.func kb6) [] [.ptr (some a1),.ptr (some a2)]]) h10).bind fun q12 =>
 ((some q12.1).bind AV.asBool).bind fun b13 =>
 cond b13 (
 some (.tup [.ptr none,.int .i64 1],q12.2)) (
 ((q12.2.cell (a3.add 0)).bind AV.asSl).bind fun l14 =>
 ((q12.2.cell (h9r.add 0)).bind AV.asSl).bind fun l15 =>
 (go (.fn kpr [l15.v]) q12.2).bind fun q16 =>
 ((some q16.1).bind AV.asSl).bind fun l17 =>
 whenK (SameAt q12.2 q16.2 (a3.add 0) 1) (
 newK q16.2 (.cells [l17.v] kb2) fun h18r h18 =>
 whenK (SameAt q16.2 h18 (a3.add 0) 1) (
 (kbb Pg kb2 ((⟨some h18r,1,.is 1⟩:Sl).v) h18).bind fun p20 =>
 (kw Pg l14 p20.1 p20.2 kb2 1 h18).bind fun q19 =>
 (AV.asSl q19.1).bind fun l21 =>
 (q19.2.puts (a3.add 0) [l21.v]).bind fun h22 =>
 go (.pt kfp kk9 [(8,.func (.func kb6) [] [.ptr (some a1),.ptr (some a2)]),(9,.ptr (some a3)),(37,a4.v),(38,.int .i64 a5),(39,.int .i64 (IntKind.wrap .i64 (a6+1)))]) h22)))) (
 (go (.fn kd1 [.ptr (some a3)]) h).bind fun q23 =>
 (AV.asTup0 q23.1).bind fun _ =>
 some (.tup [.ptr (some a3),.int .i64 0],q23.2)):=(ke _ h).trans (by kernel_rfl)
theorem k8i(a1:Sl)(h:AH):go (.fn kni [a1.v]) h =
 cond a1.ref.isNone (
 some ((⟨none,0,.is 0⟩:Sl).v,h)) (
 newK h (.cells [] T.int) fun h2r h2 =>
 (kbb Pg T.int a1.v h2).bind fun p4 =>
 (kw Pg (⟨some h2r,0,.is 0⟩:Sl) p4.1 p4.2 T.int 1 h2).bind fun q3 =>
 (AV.asSl q3.1).bind fun l5 =>
 some (l5.v,q3.2)):=(ke _ h).trans (by kernel_rfl)
theorem kbak(a1:Option Ref)(h:AH):go (.fn kiv [.ptr a1]) h =
 newK h (.cells [.int .i64 0,.int .i64 0,.int .i64 0] kbc8) fun h2r h2 =>
 a1.bind fun r3 =>
 ((h2.cell (r3.add 7)).bind AV.asSl).bind fun l4 =>
 (h2.puts h2r [.int .i64 (l4.len:Int),.int .i64 0,.int .i64 0]).bind fun h5 =>
 ((h5.cell (h2r.add 0)).bind (AV.asInt .i64)).bind fun n6 =>
 ((h5.cell (h2r.add 1)).bind (AV.asInt .i64)).bind fun n7 =>
 ((h5.cell (h2r.add 2)).bind (AV.asInt .i64)).bind fun n8 =>
 some (.agg [.int .i64 n6,.int .i64 n7,.int .i64 n8],h5):=(ke _ h).trans (by kernel_rfl)
theorem kzt(a1:Sl)(h:AH):go (.fn kpt [a1.v]) h =
 cond (decide ((a1.len:Int)>65536)) (
 some (.tup [.ptr none,.int .i64 1],h)) (
 (go (.fn kkh [a1.v]) h).bind fun q2 =>
 ((some q2.1).bind AV.asSl).bind fun l3 =>
 newK q2.2 (.cells [l3.v] kty) fun h4r h4 =>
 some (.tup [.ptr (some h4r),.int .i64 0],h4)):=(ke _ h).trans (by kernel_rfl)
theorem k5l(a1 a2 a3:Int)(a4 a5 a6:Sl)(a7:Option Ref)(h:AH):go (.fn kkw [.int .i64 a1,.int .i64 a2,.int .i64 a3,.agg [a4.v,a5.v,a6.v],.ptr a7]) h =
 newK h (.cells [a4.v,a5.v,a6.v] ku) fun h8r h8 =>
 (go (.fn kpj [.int .i64 a1,.int .i64 a2,.int .i64 a3]) h8).bind fun q9 =>
 (AV.asTup2 q9.1).bind fun p10 =>
 ((some p10.1).bind AV.asPtr).bind fun p11 =>
 ((some p10.2).bind (AV.asInt .i64)).bind fun n12 =>
 cond (!decide (n12=0)) (
 some (.tup [.ptr none,.int .i64 n12],q9.2)) (
 cond (decide (a1=0)) (
 some (.tup [.ptr none,.int .i64 1],q9.2)) (
 cond a7.isNone (
 some (.tup [.ptr none,.int .i64 1],q9.2)) (
 ((q9.2.cell (h8r.add 0)).bind AV.asSl).bind fun l13 =>
 ((q9.2.cell (h8r.add 1)).bind AV.asSl).bind fun l14 =>
 ((q9.2.cell (h8r.add 2)).bind AV.asSl).bind fun l15 =>
 (go (.fn kc5 [.agg [l13.v,l14.v,l15.v]]) q9.2).bind fun q16 =>
 ((some q16.1).bind AV.asBool).bind fun b17 =>
 cond (!b17) (
 some (.tup [.ptr none,.int .i64 20],q16.2)) (
 newK q16.2 (.cells [.int .i64 1] T.int) fun h18r h18 =>
 (go (.fn khh [.ptr p11,.int .i64 0,(⟨some h18r,1,.is 1⟩:Sl).v]) h18).bind fun q19 =>
 ((some q19.1).bind (AV.asInt .i64)).bind fun n20 =>
 ((q19.2.cell (h8r.add 0)).bind AV.asSl).bind fun l21 =>
 ((q19.2.cell (h8r.add 1)).bind AV.asSl).bind fun l22 =>
 ((q19.2.cell (h8r.add 2)).bind AV.asSl).bind fun l23 =>
 (go (.fn ko9 []) q19.2).bind fun q24 =>
 ((some q24.1).bind AV.asPtr).bind fun p25 =>
 whenK (SameAt q19.2 q24.2 h8r 3) (
 newK q24.2 (.cells [.ptr p11,.ptr p25,l21.v,l22.v,l23.v,.ptr a7,(⟨none,0,.is 0⟩:Sl).v,.int .i64 0,.int .i64 (-1),(⟨none,0,.is 0⟩:Sl).v,.map none,.int .i64 0,(⟨none,0,.is 0⟩:Sl).v] kky) fun h26r h26 =>
 some (.tup [.ptr (some h26r),.int .i64 0],h26)))))):=(ke _ h).trans (by kernel_rfl)
theorem kt4(a1:Ref)(a2:Option Ref)(a3:Sl)(a4:Int)(h:AH):go (.pt kdl kll [(5,.ptr (some a1)),(9,.ptr a2),(11,a3.v),(12,.int .i64 a4)]) h =
 ((h.cell ((a1.add 0).add 0)).bind AV.asSl).bind fun l5 =>
 cond (decide (a4<(l5.len:Int))) (
 newK h (.cells [.int .u64 1] kj) fun h6r h6 =>
 newK h6 (.cells [(⟨some h6r,1,.is 1⟩:Sl).v] kr) fun h7r h7 =>
 (kbb Pg kr ((⟨some h7r,1,.is 1⟩:Sl).v) h7).bind fun p9 =>
 (kw Pg a3 p9.1 p9.2 kr 1 h7).bind fun q8 =>
 (AV.asSl q8.1).bind fun l10 =>
 go (.pt kdl kll [(5,.ptr (some a1)),(9,.ptr a2),(11,l10.v),(12,.int .i64 (IntKind.wrap .i64 (a4+1)))]) q8.2) (
 newK h (.cells [.int .u64 17947] kj) fun h11r h11 =>
 newK h11 (.cells [(⟨some h11r,1,.is 1⟩:Sl).v] kr) fun h12r h12 =>
 (go (.fn kiy [.ptr a2,.agg [.int .i64 1,.int .i64 (a3.len:Int),.int .i64 1,.int .i64 0,(⟨none,0,.is 0⟩:Sl).v,(⟨none,0,.is 0⟩:Sl).v,(⟨some h12r,1,.is 1⟩:Sl).v]]) h12).bind fun q13 =>
 ((some q13.1).bind AV.asSl).bind fun l14 =>
 (go (.fn kiy [.ptr a2,.agg [.int .i64 3,.int .i64 0,.int .i64 0,.int .i64 0,(⟨none,0,.is 0⟩:Sl).v,(⟨none,0,.is 0⟩:Sl).v,a3.v]]) q13.2).bind fun q15 =>
 ((some q15.1).bind AV.asSl).bind fun l16 =>
 go (.pt kdl kk1 [(9,.ptr a2),(13,.int .i64 0)]) q15.2):=(ke _ h).trans (by kernel_rfl)
theorem kzh(a1:Sl)(h:AH):go (.fn kg5 [a1.v]) h =
 cond (decide ((a1.len:Int)>256)) (
 some (.bool false,h)) (
 go (.pt kg5 kkn [(0,a1.v),(3,.int .i64 0)]) h):=(ke _ h).trans (by kernel_rfl)
theorem ksm(a1:Ref)(a2:Int)(h:AH):go (.pt kc7 ki3 [(1,.ptr (some a1)),(4,.int .i64 a2)]) h =
 ((h.cell (a1.add 2)).bind AV.asSl).bind fun l3 =>
 cond (decide (a2<(l3.len:Int))) (
 ((h.cell (a1.add 1)).bind AV.asSl).bind fun l4 =>
 (idx l4.ref l4.len a2 1).bind fun r5 =>
 ((h.cell r5).bind (AV.asInt .i64)).bind fun n6 =>
 cond (decide (n6<2)) (
 some (.bool false,h)) (
 ((h.cell (a1.add 1)).bind AV.asSl).bind fun l7 =>
 (idx l7.ref l7.len a2 1).bind fun r8 =>
 ((h.cell r8).bind (AV.asInt .i64)).bind fun n9 =>
 cond (decide (n9>32)) (
 some (.bool false,h)) (
 ((h.cell (a1.add 2)).bind AV.asSl).bind fun l10 =>
 (idx l10.ref l10.len a2 1).bind fun r11 =>
 ((h.cell r11).bind AV.asSl).bind fun l12 =>
 ((h.cell (a1.add 0)).bind AV.asSl).bind fun l13 =>
 cond (!decide ((l12.len:Int)=(l13.len:Int))) (
 some (.bool false,h)) (
 go (.pt kc7 km7 [(1,.ptr (some a1)),(4,.int .i64 a2),(5,.int .i64 0)]) h)))) (
 some (.bool true,h)):=(ke _ h).trans (by kernel_rfl)
theorem ks8(a1 a2:Sl)(a3:Int)(h:AH):go (.pt kgq km9 [(0,a1.v),(1,a2.v),(5,.int .i64 a3)]) h =
 cond (decide (a3<(a1.len:Int))) (
 (idx a1.ref a1.len a3 1).bind fun r4 =>
 ((h.cell r4).bind (AV.asInt .i64)).bind fun n5 =>
 (idx a2.ref a2.len a3 1).bind fun r6 =>
 ((h.cell r6).bind (AV.asInt .i64)).bind fun n7 =>
 cond (!decide (n5=n7)) (
 some (.bool false,h)) (
 go (.pt kgq km9 [(0,a1.v),(1,a2.v),(5,.int .i64 (IntKind.wrap .i64 (a3+1)))]) h)) (
 some (.bool true,h)):=(ke _ h).trans (by kernel_rfl)
theorem ks0(a1:Sl)(a2 a3:Ref)(a4 a5:Sl)(a6:Option Ref)(a7:Ref)(a8:Int)(a9:Sl)(a10:Int)(h:AH):go (.pt kz kgs [(1,a1.v),(3,.ptr (some a2)),(5,.ptr (some a3)),(9,a4.v),(10,a5.v),(15,.ptr a6),(17,.ptr (some a7)),(18,.int .i64 a8),(19,a9.v),(20,.int .i64 a10)]) h =
 cond (decide (a10<(a9.len:Int))) (
 (idx a9.ref a9.len a10 7).bind fun r11 =>
 ((h.cell (r11.add 0)).bind AV.asBool).bind fun b12 =>
 cond b12 (
 go (.pt kz kgs [(1,a1.v),(3,.ptr (some a2)),(5,.ptr (some a3)),(9,a4.v),(10,a5.v),(15,.ptr a6),(17,.ptr (some a7)),(18,.int .i64 a8),(19,a9.v),(20,.int .i64 (IntKind.wrap .i64 (a10+1)))]) h) (
 (idx a9.ref a9.len a10 7).bind fun r13 =>
 ((h.cell (r13.add 2)).bind (AV.asInt .i64)).bind fun n14 =>
 cond (decide (n14=0)) (
 go (.pt kz kgs [(1,a1.v),(3,.ptr (some a2)),(5,.ptr (some a3)),(9,a4.v),(10,a5.v),(15,.ptr a6),(17,.ptr (some a7)),(18,.int .i64 a8),(19,a9.v),(20,.int .i64 (IntKind.wrap .i64 (a10+1)))]) h) (
 newK h (.cells [.int .i64 0,.int .i64 0] kbp) fun h15r h15 =>
 (idx a9.ref a9.len a10 7).bind fun r16 =>
 ((h15.cell (r16.add 2)).bind (AV.asInt .i64)).bind fun n17 =>
 (idx a4.ref a4.len (IntKind.wrap .i64 (n17-1)) 1).bind fun r18 =>
 ((h15.cell r18).bind AV.asPtr).bind fun p19 =>
 (idx a9.ref a9.len a10 7).bind fun r20 =>
 ((h15.cell (r20.add 3)).bind (AV.asInt .i64)).bind fun n21 =>
 (go (.fn klw [.ptr p19,.int .i64 n21]) h15).bind fun q22 =>
 (AV.asTup2 q22.1).bind fun p23 =>
 (AV.asAgg p23.1).bind fun cs24 =>
 cond (Nat.beq cs24.length 2) (
 ((cs24[0]?).bind (AV.asInt .i64)).bind fun n25 =>
 ((cs24[1]?).bind (AV.asInt .i64)).bind fun n26 =>
 ((some p23.2).bind AV.asBool).bind fun b27 =>
 whenK (SameAt h15 q22.2 h15r 0) (
 (q22.2.puts h15r [.int .i64 n25,.int .i64 n26]).bind fun h28 =>
 cond (!b27) (
 some (.bool true,h28)) (
 ((h28.cell (h15r.add 0)).bind (AV.asInt .i64)).bind fun n29 =>
 (idx a9.ref a9.len a10 7).bind fun r30 =>
 ((h28.cell (r30.add 2)).bind (AV.asInt .i64)).bind fun n31 =>
 (idx a5.ref a5.len n31 3).bind fun r32 =>
 ((h28.cell (r32.add 2)).bind AV.asSl).bind fun l33 =>
 cond (decide (n29≥(l33.len:Int))) (
 some (.bool true,h28)) (
 ((h28.cell (h15r.add 0)).bind (AV.asInt .i64)).bind fun n34 =>
 (idx a9.ref a9.len a10 7).bind fun r35 =>
 (h28.puts (r35.add 3) [.int .i64 n34]).bind fun h36 =>
 ((h36.cell (h15r.add 1)).bind (AV.asInt .i64)).bind fun n37 =>
 (idx a9.ref a9.len a10 7).bind fun r38 =>
 (h36.puts (r38.add 4) [.int .i64 n37]).bind fun h39 =>
 go (.pt kz kgs [(1,a1.v),(3,.ptr (some a2)),(5,.ptr (some a3)),(9,a4.v),(10,a5.v),(15,.ptr a6),(17,.ptr (some a7)),(18,.int .i64 a8),(19,a9.v),(20,.int .i64 (IntKind.wrap .i64 (a10+1)))]) h39)))) none))) (
 ((h.cell (a7.add 0)).bind AV.asSl).bind fun l40 =>
 newK h (.cells [a9.v] kb2) fun h41r h41 =>
 (kbb Pg kb2 ((⟨some h41r,1,.is 1⟩:Sl).v) h41).bind fun p43 =>
 (kw Pg l40 p43.1 p43.2 kb2 1 h41).bind fun q42 =>
 (AV.asSl q42.1).bind fun l44 =>
 (q42.2.puts (a7.add 0) [l44.v]).bind fun h45 =>
 go (.pt kz ki1 [(1,a1.v),(3,.ptr (some a2)),(5,.ptr (some a3)),(9,a4.v),(10,a5.v),(15,.ptr a6),(17,.ptr (some a7)),(18,.int .i64 (IntKind.wrap .i64 (a8+1)))]) h45):=(ke _ h).trans (by kernel_rfl)
theorem k6o(a1:Sl)(a2:Ref)(a3 a4:Sl)(a5:Option Ref)(a6:Ref)(a7:Int)(h:AH):go (.pt kz kjf [(1,a1.v),(5,.ptr (some a2)),(9,a3.v),(10,a4.v),(15,.ptr a5),(17,.ptr (some a6)),(23,.int .i64 a7)]) h =
 cond (decide (a7<1000000)) (
 (go (.fn kly [.ptr a5]) h).bind fun q8 =>
 (AV.asTup2 q8.1).bind fun p9 =>
 (AV.asAgg p9.1).bind fun cs10 =>
 cond (Nat.beq cs10.length 8) (
 ((cs10[0]?).bind (AV.asInt .i64)).bind fun n11 =>
 ((cs10[1]?).bind (AV.asInt .i64)).bind fun n12 =>
 ((cs10[2]?).bind (AV.asInt .i64)).bind fun n13 =>
 ((cs10[3]?).bind (AV.asInt .i64)).bind fun n14 =>
 ((cs10[4]?).bind (AV.asInt .i64)).bind fun n15 =>
 ((cs10[5]?).bind AV.asSl).bind fun l16 =>
 ((cs10[6]?).bind AV.asSl).bind fun l17 =>
 ((cs10[7]?).bind AV.asSl).bind fun l18 =>
 ((some p9.2).bind AV.asBool).bind fun b19 =>
 newK q8.2 (.cells [.int .i64 0,.int .i64 0,.int .i64 0,.int .i64 0,.int .i64 0,(⟨none,0,.is 0⟩:Sl).v,(⟨none,0,.is 0⟩:Sl).v,(⟨none,0,.is 0⟩:Sl).v] kqt) fun h20r h20 =>
 (h20.puts h20r [.int .i64 n11,.int .i64 n12,.int .i64 n13,.int .i64 n14,.int .i64 n15,l16.v,l17.v,l18.v]).bind fun h21 =>
 cond (!b19) (
 (go (.fn khw [.ptr a5]) h21).bind fun q22 =>
 (AV.asTup2 q22.1).bind fun p23 =>
 ((some p23.1).bind AV.asSl).bind fun l24 =>
 ((some p23.2).bind AV.asBool).bind fun b25 =>
 cond (!b25) (
 some (.bool false,q22.2)) (
 ((q22.2.cell (a2.add 0)).bind AV.asSl).bind fun l26 =>
 cond (!decide ((l24.len:Int)=(l26.len:Int))) (
 some (.bool false,q22.2)) (
 go (.pt kz kht [(10,a4.v),(17,.ptr (some a6)),(29,l24.v),(31,.int .i64 0)]) q22.2))) (
 ((h21.cell (h20r.add 0)).bind (AV.asInt .i64)).bind fun n27 =>
 cond (decide (n27<1)) (
 some (.bool false,h21)) (
 ((h21.cell (h20r.add 0)).bind (AV.asInt .i64)).bind fun n28 =>
 cond (decide (n28>(a1.len:Int))) (
 some (.bool false,h21)) (
 ((h21.cell ((h20r.add 1).add 0)).bind (AV.asInt .i64)).bind fun n29 =>
 cond (!decide (n29=8)) (
 some (.bool false,h21)) (
 newK h21 (.cells [.int .i64 0,.int .i64 0,.int .i64 0,.int .i64 0,(⟨none,0,.is 0⟩:Sl).v,(⟨none,0,.is 0⟩:Sl).v,(⟨none,0,.is 0⟩:Sl).v] kbu) fun h30r h30 =>
 ((h30.cell (h20r.add 0)).bind (AV.asInt .i64)).bind fun n31 =>
 (idx a3.ref a3.len (IntKind.wrap .i64 (n31-1)) 1).bind fun r32 =>
 ((h30.cell r32).bind AV.asPtr).bind fun p33 =>
 ((h30.cell (h20r.add 0)).bind (AV.asInt .i64)).bind fun n34 =>
 (idx a1.ref a1.len (IntKind.wrap .i64 (n34-1)) 7).bind fun r35 =>
 ((h30.cell ((r35.add 4).add 0)).bind AV.asSl).bind fun l36 =>
 ((h30.cell ((r35.add 4).add 1)).bind AV.asSl).bind fun l37 =>
 ((h30.cell ((r35.add 4).add 2)).bind AV.asSl).bind fun l38 =>
 ((h30.cell ((h20r.add 1).add 0)).bind (AV.asInt .i64)).bind fun n39 =>
 ((h30.cell ((h20r.add 1).add 1)).bind (AV.asInt .i64)).bind fun n40 =>
 ((h30.cell ((h20r.add 1).add 2)).bind (AV.asInt .i64)).bind fun n41 =>
 ((h30.cell ((h20r.add 1).add 3)).bind (AV.asInt .i64)).bind fun n42 =>
 ((h30.cell ((h20r.add 1).add 4)).bind AV.asSl).bind fun l43 =>
 ((h30.cell ((h20r.add 1).add 5)).bind AV.asSl).bind fun l44 =>
 ((h30.cell ((h20r.add 1).add 6)).bind AV.asSl).bind fun l45 =>
 (go (.fn ko6 [.ptr p33,.agg [l36.v,l37.v,l38.v],.agg [.int .i64 n39,.int .i64 n40,.int .i64 n41,.int .i64 n42,l43.v,l44.v,l45.v]]) h30).bind fun q46 =>
 (AV.asTup2 q46.1).bind fun p47 =>
 (AV.asAgg p47.1).bind fun cs48 =>
 cond (Nat.beq cs48.length 7) (
 ((cs48[0]?).bind (AV.asInt .i64)).bind fun n49 =>
 ((cs48[1]?).bind (AV.asInt .i64)).bind fun n50 =>
 ((cs48[2]?).bind (AV.asInt .i64)).bind fun n51 =>
 ((cs48[3]?).bind (AV.asInt .i64)).bind fun n52 =>
 ((cs48[4]?).bind AV.asSl).bind fun l53 =>
 ((cs48[5]?).bind AV.asSl).bind fun l54 =>
 ((cs48[6]?).bind AV.asSl).bind fun l55 =>
 ((some p47.2).bind (AV.asInt .i64)).bind fun n56 =>
 whenK (SameAt h30 q46.2 h30r 0) (
 (q46.2.puts h30r [.int .i64 n49,.int .i64 n50,.int .i64 n51,.int .i64 n52,l53.v,l54.v,l55.v]).bind fun h57 =>
 ((h57.cell (h20r.add 0)).bind (AV.asInt .i64)).bind fun n58 =>
 ((h57.cell (h30r.add 0)).bind (AV.asInt .i64)).bind fun n59 =>
 ((h57.cell (h30r.add 1)).bind (AV.asInt .i64)).bind fun n60 =>
 ((h57.cell (h30r.add 2)).bind (AV.asInt .i64)).bind fun n61 =>
 ((h57.cell (h30r.add 3)).bind (AV.asInt .i64)).bind fun n62 =>
 ((h57.cell (h30r.add 4)).bind AV.asSl).bind fun l63 =>
 ((h57.cell (h30r.add 5)).bind AV.asSl).bind fun l64 =>
 ((h57.cell (h30r.add 6)).bind AV.asSl).bind fun l65 =>
 (go (.fn kp3 [.ptr a5,.int .i64 n58,.agg [.int .i64 n59,.int .i64 n60,.int .i64 n61,.int .i64 n62,l63.v,l64.v,l65.v]]) h57).bind fun q66 =>
 ((some q66.1).bind (AV.asInt .i64)).bind fun n67 =>
 cond (!decide (n56=0)) (
 some (.bool false,q66.2)) (
 cond (!decide (n67=0)) (
 some (.bool false,q66.2)) (
 go (.pt kz kjf [(1,a1.v),(5,.ptr (some a2)),(9,a3.v),(10,a4.v),(15,.ptr a5),(17,.ptr (some a6)),(23,.int .i64 (IntKind.wrap .i64 (a7+1)))]) q66.2)))) none))))) none) (
 (go (.fn khw [.ptr a5]) h).bind fun q68 =>
 (AV.asTup2 q68.1).bind fun p69 =>
 ((some p69.1).bind AV.asSl).bind fun l70 =>
 ((some p69.2).bind AV.asBool).bind fun b71 =>
 cond (!b71) (
 some (.bool false,q68.2)) (
 ((q68.2.cell (a2.add 0)).bind AV.asSl).bind fun l72 =>
 cond (!decide ((l70.len:Int)=(l72.len:Int))) (
 some (.bool false,q68.2)) (
 go (.pt kz kht [(10,a4.v),(17,.ptr (some a6)),(29,l70.v),(31,.int .i64 0)]) q68.2))):=(ke _ h).trans (by kernel_rfl)
theorem kbb2(a1:Int)(h:AH):go (.fn khx [.int .u64 a1]) h =
 cond (decide (a1≥4294967296)) (
 cond (decide ((ishr .u64 a1 32)≥65536)) (
 cond (decide ((ishr .u64 (ishr .u64 a1 32) 16)≥256)) (
 cond (decide (0≤(IntKind.wrap .u8 (ishr .u64 (ishr .u64 (ishr .u64 a1 32) 16) 8)))) (
 (lit1[Int.toNat (IntKind.wrap .u8 (ishr .u64 (ishr .u64 (ishr .u64 a1 32) 16) 8))]?).bind fun b2 =>
 some (.int .i64 (IntKind.wrap .i64 ((IntKind.wrap .i64 ((IntKind.wrap .i64 (32+16))+8))+(IntKind.wrap .i64 (b2.toNat:Int)))),h)) none) (
 cond (decide (0≤(IntKind.wrap .u8 (ishr .u64 (ishr .u64 a1 32) 16)))) (
 (lit1[Int.toNat (IntKind.wrap .u8 (ishr .u64 (ishr .u64 a1 32) 16))]?).bind fun b3 =>
 some (.int .i64 (IntKind.wrap .i64 ((IntKind.wrap .i64 (32+16))+(IntKind.wrap .i64 (b3.toNat:Int)))),h)) none)) (
 cond (decide ((ishr .u64 a1 32)≥256)) (
 cond (decide (0≤(IntKind.wrap .u8 (ishr .u64 (ishr .u64 a1 32) 8)))) (
 (lit1[Int.toNat (IntKind.wrap .u8 (ishr .u64 (ishr .u64 a1 32) 8))]?).bind fun b4 =>
 some (.int .i64 (IntKind.wrap .i64 ((IntKind.wrap .i64 (32+8))+(IntKind.wrap .i64 (b4.toNat:Int)))),h)) none) (
 cond (decide (0≤(IntKind.wrap .u8 (ishr .u64 a1 32)))) (
 (lit1[Int.toNat (IntKind.wrap .u8 (ishr .u64 a1 32))]?).bind fun b5 =>
 some (.int .i64 (IntKind.wrap .i64 (32+(IntKind.wrap .i64 (b5.toNat:Int)))),h)) none))) (
 cond (decide (a1≥65536)) (
 cond (decide ((ishr .u64 a1 16)≥256)) (
 cond (decide (0≤(IntKind.wrap .u8 (ishr .u64 (ishr .u64 a1 16) 8)))) (
 (lit1[Int.toNat (IntKind.wrap .u8 (ishr .u64 (ishr .u64 a1 16) 8))]?).bind fun b6 =>
 some (.int .i64 (IntKind.wrap .i64 ((IntKind.wrap .i64 ((IntKind.wrap .i64 (0+16))+8))+(IntKind.wrap .i64 (b6.toNat:Int)))),h)) none) (
 cond (decide (0≤(IntKind.wrap .u8 (ishr .u64 a1 16)))) (
 (lit1[Int.toNat (IntKind.wrap .u8 (ishr .u64 a1 16))]?).bind fun b7 =>
 some (.int .i64 (IntKind.wrap .i64 ((IntKind.wrap .i64 (0+16))+(IntKind.wrap .i64 (b7.toNat:Int)))),h)) none)) (
 cond (decide (a1≥256)) (
 cond (decide (0≤(IntKind.wrap .u8 (ishr .u64 a1 8)))) (
 (lit1[Int.toNat (IntKind.wrap .u8 (ishr .u64 a1 8))]?).bind fun b8 =>
 some (.int .i64 (IntKind.wrap .i64 ((IntKind.wrap .i64 (0+8))+(IntKind.wrap .i64 (b8.toNat:Int)))),h)) none) (
 cond (decide (0≤(IntKind.wrap .u8 a1))) (
 (lit1[Int.toNat (IntKind.wrap .u8 a1)]?).bind fun b9 =>
 some (.int .i64 (IntKind.wrap .i64 (0+(IntKind.wrap .i64 (b9.toNat:Int)))),h)) none))):=(ke _ h).trans (by kernel_rfl)
theorem kxl(a1:Sl)(a2:Option Ref)(a3 a4:Int)(h:AH):go (.pt kbe kb8 [(0,a1.v),(1,.func (.func kcu) [] [.ptr a2]),(7,.int .i64 a3),(8,.int .i64 a4)]) h =
 cond (decide (a4<a3)) (
 (idx a1.ref a1.len a4 1).bind fun r5 =>
 ((h.cell r5).bind AV.asSl).bind fun l6 =>
 (go (.fn kcu [l6.v,.ptr a2]) h).bind fun q7 =>
 ((some q7.1).bind AV.asBool).bind fun b8 =>
 cond b8 (
 some (.int .i64 a4,q7.2)) (
 go (.pt kbe kb8 [(0,a1.v),(1,.func (.func kcu) [] [.ptr a2]),(7,.int .i64 a3),(8,.int .i64 (IntKind.wrap .i64 (a4+1)))]) q7.2)) (
 some (.int .i64 (-1),h)):=(ke _ h).trans (by kernel_rfl)
theorem k8a(a1:Sl)(a2:Option Ref)(h:AH):go (.fn kba [a1.v,.func (.func kcx) [] [.ptr a2]]) h =
 go (.pt kba kbo [(0,a1.v),(1,.func (.func kcx) [] [.ptr a2]),(7,.int .i64 (a1.len:Int)),(8,.int .i64 0)]) h:=(ke _ h).trans (by kernel_rfl)
theorem kbdy(a1:Sl)(h:AH):go (.fn ko5 [a1.v]) h =
 cond (decide ((a1.len:Int)≤256)) (
 (go (.fn kca [a1.v,.func (.func kcy) [] []]) h).bind fun q2 =>
 ((some q2.1).bind AV.asBool).bind fun b3 =>
 cond (!b3) (
 (go (.fn kgy [a1.v]) q2.2).bind fun q4 =>
 ((some q4.1).bind AV.asMap).bind fun m5 =>
 (mapLen q4.2 m5).bind fun n6 =>
 some (.bool (decide ((n6:Int)=(a1.len:Int))),q4.2)) (
 some (.bool false,q2.2))) (
 some (.bool false,h)):=(ke _ h).trans (by kernel_rfl)
theorem kuw(a1:Ref)(a2:Sl)(a3 a4:Int)(h:AH):go (.pt kc5 kkg [(1,.ptr (some a1)),(27,a2.v),(28,.int .i64 a3),(29,.int .i64 a4)]) h =
 cond (decide (a4<a3)) (
 (idx a2.ref a2.len a4 1).bind fun r5 =>
 ((h.cell r5).bind AV.asSl).bind fun l6 =>
 ((h.cell (a1.add 1)).bind AV.asSl).bind fun l7 =>
 (idx l7.ref l7.len a4 1).bind fun r8 =>
 ((h.cell r8).bind (AV.asInt .i64)).bind fun n9 =>
 newK h (.cells [.int .i64 0] T.int) fun h10r h10 =>
 (h10.puts h10r [.int .i64 n9]).bind fun h11 =>
 ((h11.cell h10r).bind (AV.asInt .i64)).bind fun n12 =>
 cond (decide (n12<2)) (
 some (.bool false,h11)) (
 ((h11.cell h10r).bind (AV.asInt .i64)).bind fun n13 =>
 cond (decide (n13>32)) (
 some (.bool false,h11)) (
 ((h11.cell (a1.add 0)).bind AV.asSl).bind fun l14 =>
 cond (!decide ((l6.len:Int)=(l14.len:Int))) (
 some (.bool false,h11)) (
 (go (.fn kca [l6.v,.func (.func kde) [] [.ptr (some h10r)]]) h11).bind fun q15 =>
 ((some q15.1).bind AV.asBool).bind fun b16 =>
 cond b16 (
 some (.bool false,q15.2)) (
 go (.pt kc5 kkg [(1,.ptr (some a1)),(27,a2.v),(28,.int .i64 a3),(29,.int .i64 (IntKind.wrap .i64 (a4+1)))]) q15.2))))) (
 some (.bool true,h)):=(ke _ h).trans (by kernel_rfl)
theorem kba2(l:Nat)(pe:Option Code)(a1 a2 a3:Sl)(a4:Ref)(a5:Sl)(a6:Ref)(a7 a8 a9:Sl)(a10:Bool)(a11 a12 a13:Sl)(a14:Int)(a15:Sl)(a16:AV)(a17 a18:Int)(a19:AV)(h:AH)(hb:h.blks[l]?=some (kec kqy kd9 0 .ready pe [(0,.agg [a1.v,a2.v,a3.v]),(1,.ptr (some a4)),(2,a5.v),(3,.ptr (some a6)),(5,.agg [a7.v,a8.v,a9.v]),(6,.bool a10),(7,.agg [a11.v,a12.v,a13.v]),(8,.agg [.int .i64 a14,a15.v]),(9,a16)])):go (.round l [.agg [.int .i64 a17,.int .i64 a18],a19]) h =
 newK h (.cells [.int .i64 0,.int .i64 0] kbp) fun h20r h20 =>
 (h20.puts h20r [.int .i64 a17,.int .i64 a18]).bind fun h21 =>
 (beginA l h21).bind fun h22 =>
 ((h22.cell a6).bind AV.asSl).bind fun l23 =>
 ((h22.cell (h20r.add 0)).bind (AV.asInt .i64)).bind fun n24 =>
 ((h22.cell (h20r.add 1)).bind (AV.asInt .i64)).bind fun n25 =>
 newK h22 (.cells [.int .i64 n24,.int .i64 n25] kbp) fun h26r h26 =>
 (kbb Pg kbp ((⟨some h26r,1,.is 1⟩:Sl).v) h26).bind fun p28 =>
 (kw Pg l23 p28.1 p28.2 kbp 2 h26).bind fun q27 =>
 (AV.asSl q27.1).bind fun l29 =>
 (q27.2.puts a6 [l29.v]).bind fun h30 =>
 kcj l none h30:=(ke _ h).trans ((kpz hb).trans (by kernel_rfl))
theorem kbau(a1 a2 a3:Sl)(a4:Ref)(a5:Sl)(a6:Ref)(a7 a8 a9:Sl)(a10:Bool)(a11 a12 a13:Sl)(a14:Int)(a15:Sl)(a16:AV)(h:AH):go (.pt kd9 ((Option.map Item.code none).toList++kt3) [(0,.agg [a1.v,a2.v,a3.v]),(1,.ptr (some a4)),(2,a5.v),(3,.ptr (some a6)),(5,.agg [a7.v,a8.v,a9.v]),(6,.bool a10),(7,.agg [a11.v,a12.v,a13.v]),(8,.agg [.int .i64 a14,a15.v]),(9,a16)]) h =
 ((h.cell a6).bind AV.asSl).bind fun l17 =>
 some (l17.v,h):=(ke _ h).trans (by kernel_rfl)
theorem ktu(a1:Option Ref)(a2:Int)(a3:Sl)(a4 a5:Int)(h:AH):go (.pt kdr kml [(0,.ptr a1),(1,.int .i64 a2),(6,a3.v),(25,.int .i64 a4),(26,.int .i64 a5)]) h =
 cond (decide (a5<a4)) (
 (idx a3.ref a3.len a5 1).bind fun r6 =>
 (h.puts r6 [.int .i64 a5]).bind fun h7 =>
 go (.pt kdr kml [(0,.ptr a1),(1,.int .i64 a2),(6,a3.v),(25,.int .i64 a4),(26,.int .i64 (IntKind.wrap .i64 (a5+1)))]) h7) (
 go (.pt kdr klo [(6,a3.v),(8,.func (.func kg4) [.ptr a1] []),(9,.int .i64 (IntKind.wrap .i64 (a2-1)))]) h):=(ke _ h).trans (by kernel_rfl)
theorem k8z(a1:Int)(a2:Sl)(h:AH):go (.fn kho [.agg [.int .i64 a1,a2.v]]) h =
 newK h (.cells [.int .i64 a1,a2.v] ky) fun h3r h3 =>
 ((h3.cell (h3r.add 0)).bind (AV.asInt .i64)).bind fun n4 =>
 cond (decide (n4<0)) (
 some (.bool false,h3)) (
 ((h3.cell (h3r.add 0)).bind (AV.asInt .i64)).bind fun n5 =>
 cond (decide (n5>65536)) (
 some (.bool false,h3)) (
 ((h3.cell (h3r.add 1)).bind AV.asSl).bind fun l6 =>
 ((h3.cell (h3r.add 0)).bind (AV.asInt .i64)).bind fun n7 =>
 cond (!decide ((l6.len:Int)=(IntKind.wrap .i64 (Int.tdiv (IntKind.wrap .i64 ((IntKind.wrap .i64 (n7+64))-1)) 64)))) (
 some (.bool false,h3)) (
 ((h3.cell (h3r.add 0)).bind (AV.asInt .i64)).bind fun n8 =>
 cond (decide ((Int.tmod n8 64)=0)) (
 some (.bool true,h3)) (
 ((h3.cell (h3r.add 1)).bind AV.asSl).bind fun l9 =>
 ((h3.cell (h3r.add 1)).bind AV.asSl).bind fun l10 =>
 (idx l9.ref l9.len (IntKind.wrap .i64 ((l10.len:Int)-1)) 1).bind fun r11 =>
 ((h3.cell r11).bind (AV.asInt .u64)).bind fun n12 =>
 ((h3.cell (h3r.add 0)).bind (AV.asInt .i64)).bind fun n13 =>
 cond (decide ((Int.tmod n13 64)<0)) none (
 some (.bool (decide ((ishr .u64 n12 (Int.tmod n13 64))=0)),h3)))))):=(ke _ h).trans (by kernel_rfl)
theorem k3p(a1:Sl)(a2:Option Ref)(h:AH):go (.fn kbe [a1.v,.func (.func kbv) [] [.ptr a2]]) h =
 go (.pt kbe kb8 [(0,a1.v),(1,.func (.func kbv) [] [.ptr a2]),(7,.int .i64 (a1.len:Int)),(8,.int .i64 0)]) h:=(ke _ h).trans (by kernel_rfl)
theorem kbc9(l:Nat)(pe:Option Code)(a1 a2 a3 a4:Sl)(a5:Int)(a6 a7:Sl)(a8 a9 a10 a11:Ref)(a12:Sl)(a13 a14:Int)(a15 a16:Ref)(a17:Sl)(a18 a19:Bool)(a20 a21 a22:Sl)(a23:Int)(a24 a25:Sl)(a26 a27 a28:Int)(a29:Bool)(a30:Sl)(a31:Ref)(a32:Bool)(a33:Sl)(a34:AV)(a35 a36 a37:Sl)(a38:Int)(a39:Sl)(a40 a41:AV)(a42:Sl)(h:AH)(hb:h.blks[l]?=some (kec kp5 kcg 0 .ready pe [(0,a1.v),(1,.agg [a2.v,a3.v,a4.v]),(2,.agg [.int .i64 a5,a6.v]),(3,a7.v),(4,.ptr (some a8)),(5,.ptr (some a9)),(6,.ptr (some a10)),(7,.ptr (some a11)),(8,a12.v),(9,.int .i64 a13),(10,.int .i64 a14),(11,.ptr (some a15)),(12,.ptr (some a16)),(18,a17.v),(19,.bool a18),(20,.bool a19),(21,.agg [a20.v,a21.v,a22.v]),(22,.agg [.int .i64 a23,a24.v]),(23,a25.v),(24,.int .i64 a26),(25,.int .i64 a27),(26,.int .i64 a28),(27,.bool a29),(29,a30.v),(30,.func (.func kbv) [] [.ptr (some a31)]),(31,.bool a32),(32,a33.v),(33,a34),(34,.agg [a35.v,a36.v,a37.v]),(35,.agg [.int .i64 a38,a39.v]),(36,a40)])):go (.round l [a41,a42.v]) h =
 (beginA l h).bind fun h43 =>
 newK h43 (.cells [.int .u64 1] kj) fun h44r h44 =>
 go (.rpt l kcg kli [(7,.ptr (some a11)),(8,a12.v),(9,.int .i64 a13),(11,.ptr (some a15)),(12,.ptr (some a16)),(15,(⟨some h44r,1,.is 1⟩:Sl).v),(40,a42.v),(41,.int .i64 (a42.len:Int)),(42,.int .i64 0)]) h44:=(ke _ h).trans ((kpz hb).trans (by kernel_rfl))
theorem k80(a1 a2 a3 a4:Sl)(a5:Int)(a6 a7:Sl)(a8 a9 a10 a11:Ref)(a12:Sl)(a13 a14:Int)(a15 a16:Ref)(a17:Sl)(a18 a19:Bool)(a20 a21 a22:Sl)(a23:Int)(a24 a25:Sl)(a26 a27 a28:Int)(a29:Bool)(a30:Sl)(a31:Ref)(a32:Bool)(a33:Sl)(a34:AV)(a35 a36 a37:Sl)(a38:Int)(a39:Sl)(a40:AV)(h:AH):go (.pt kcg ((Option.map Item.code none).toList++kwe) [(0,a1.v),(1,.agg [a2.v,a3.v,a4.v]),(2,.agg [.int .i64 a5,a6.v]),(3,a7.v),(4,.ptr (some a8)),(5,.ptr (some a9)),(6,.ptr (some a10)),(7,.ptr (some a11)),(8,a12.v),(9,.int .i64 a13),(10,.int .i64 a14),(11,.ptr (some a15)),(12,.ptr (some a16)),(18,a17.v),(19,.bool a18),(20,.bool a19),(21,.agg [a20.v,a21.v,a22.v]),(22,.agg [.int .i64 a23,a24.v]),(23,a25.v),(24,.int .i64 a26),(25,.int .i64 a27),(26,.int .i64 a28),(27,.bool a29),(29,a30.v),(30,.func (.func kbv) [] [.ptr (some a31)]),(31,.bool a32),(32,a33.v),(33,a34),(34,.agg [a35.v,a36.v,a37.v]),(35,.agg [.int .i64 a38,a39.v]),(36,a40)]) h =
 ((h.cell a16).bind AV.asSl).bind fun l41 =>
 some (.tup [l41.v,.int .i64 0],h):=(ke _ h).trans (by kernel_rfl)
theorem kbfl(a1 a2 a3:Sl)(a4 a5:Int)(h:AH):go (.fn ker [.agg [a1.v,a2.v,a3.v],.int .i64 a4,.int .i64 a5]) h =
 newK h (.cells [a1.v,a2.v,a3.v] ku) fun h6r h6 =>
 newK h6 (.cells [.int .i64 0,(⟨none,0,.is 0⟩:Sl).v] ky) fun h7r h7 =>
 ((h7.cell (h6r.add 0)).bind AV.asSl).bind fun l8 =>
 ((h7.cell (h6r.add 1)).bind AV.asSl).bind fun l9 =>
 ((h7.cell (h6r.add 2)).bind AV.asSl).bind fun l10 =>
 (go (.fn kc5 [.agg [l8.v,l9.v,l10.v]]) h7).bind fun q11 =>
 ((some q11.1).bind AV.asBool).bind fun b12 =>
 cond (!b12) (
 (q11.2.puts h7r [.int .i64 0,(⟨none,0,.is 0⟩:Sl).v]).bind fun h13 =>
 ((h13.cell (h7r.add 0)).bind (AV.asInt .i64)).bind fun n14 =>
 ((h13.cell (h7r.add 1)).bind AV.asSl).bind fun l15 =>
 some (.tup [.agg [.int .i64 n14,l15.v],.int .i64 20],h13)) (
 cond (decide (a4<0)) (
 (q11.2.puts h7r [.int .i64 0,(⟨none,0,.is 0⟩:Sl).v]).bind fun h16 =>
 ((h16.cell (h7r.add 0)).bind (AV.asInt .i64)).bind fun n17 =>
 ((h16.cell (h7r.add 1)).bind AV.asSl).bind fun l18 =>
 some (.tup [.agg [.int .i64 n17,l18.v],.int .i64 1],h16)) (
 ((q11.2.cell (h6r.add 2)).bind AV.asSl).bind fun l19 =>
 cond (decide (a4≥(l19.len:Int))) (
 (q11.2.puts h7r [.int .i64 0,(⟨none,0,.is 0⟩:Sl).v]).bind fun h20 =>
 ((h20.cell (h7r.add 0)).bind (AV.asInt .i64)).bind fun n21 =>
 ((h20.cell (h7r.add 1)).bind AV.asSl).bind fun l22 =>
 some (.tup [.agg [.int .i64 n21,l22.v],.int .i64 1],h20)) (
 cond (decide (a5<0)) (
 (q11.2.puts h7r [.int .i64 0,(⟨none,0,.is 0⟩:Sl).v]).bind fun h23 =>
 ((h23.cell (h7r.add 0)).bind (AV.asInt .i64)).bind fun n24 =>
 ((h23.cell (h7r.add 1)).bind AV.asSl).bind fun l25 =>
 some (.tup [.agg [.int .i64 n24,l25.v],.int .i64 1],h23)) (
 ((q11.2.cell (h6r.add 1)).bind AV.asSl).bind fun l26 =>
 (idx l26.ref l26.len a4 1).bind fun r27 =>
 ((q11.2.cell r27).bind (AV.asInt .i64)).bind fun n28 =>
 cond (decide (a5≥n28)) (
 (q11.2.puts h7r [.int .i64 0,(⟨none,0,.is 0⟩:Sl).v]).bind fun h29 =>
 ((h29.cell (h7r.add 0)).bind (AV.asInt .i64)).bind fun n30 =>
 ((h29.cell (h7r.add 1)).bind AV.asSl).bind fun l31 =>
 some (.tup [.agg [.int .i64 n30,l31.v],.int .i64 1],h29)) (
 ((q11.2.cell (h6r.add 2)).bind AV.asSl).bind fun l32 =>
 (idx l32.ref l32.len a4 1).bind fun r33 =>
 ((q11.2.cell r33).bind AV.asSl).bind fun l34 =>
 go (.pt ker kjo [(2,.int .i64 a5),(3,.ptr (some h6r)),(6,.ptr (some h7r)),(8,(⟨none,0,.is 0⟩:Sl).v),(44,l34.v),(45,.int .i64 (l34.len:Int)),(46,.int .i64 0)]) q11.2))))):=(ke _ h).trans (by kernel_rfl)
theorem kyc(a1:Int)(a2:Sl)(a3:Int)(a4:Sl)(h:AH):go (.fn knf [.agg [.int .i64 a1,a2.v],.agg [.int .i64 a3,a4.v]]) h =
 newK h (.cells [.int .i64 a1,a2.v] ky) fun h5r h5 =>
 newK h5 (.cells [.int .i64 a3,a4.v] ky) fun h6r h6 =>
 newK h6 (.cells [.int .i64 0,(⟨none,0,.is 0⟩:Sl).v] ky) fun h7r h7 =>
 ((h7.cell (h5r.add 0)).bind (AV.asInt .i64)).bind fun n8 =>
 ((h7.cell (h5r.add 1)).bind AV.asSl).bind fun l9 =>
 ((h7.cell (h6r.add 0)).bind (AV.asInt .i64)).bind fun n10 =>
 ((h7.cell (h6r.add 1)).bind AV.asSl).bind fun l11 =>
 (go (.fn kgz [.agg [.int .i64 n8,l9.v],.agg [.int .i64 n10,l11.v],.func (.func kev) [] []]) h7).bind fun q12 =>
 (AV.asTup2 q12.1).bind fun p13 =>
 (AV.asAgg p13.1).bind fun cs14 =>
 cond (Nat.beq cs14.length 2) (
 ((cs14[0]?).bind (AV.asInt .i64)).bind fun n15 =>
 ((cs14[1]?).bind AV.asSl).bind fun l16 =>
 ((some p13.2).bind (AV.asInt .i64)).bind fun n17 =>
 (q12.2.puts h7r [.int .i64 n15,l16.v]).bind fun h18 =>
 ((h18.cell (h7r.add 0)).bind (AV.asInt .i64)).bind fun n19 =>
 ((h18.cell (h7r.add 1)).bind AV.asSl).bind fun l20 =>
 some (.tup [.agg [.int .i64 n19,l20.v],.int .i64 n17],h18)) none:=(ke _ h).trans (by kernel_rfl)
theorem kbej(a1:Int)(a2:Sl)(h:AH):go (.fn klp [.agg [.int .i64 a1,a2.v]]) h =
 newK h (.cells [.int .i64 a1,a2.v] ky) fun h3r h3 =>
 ((h3.cell (h3r.add 0)).bind (AV.asInt .i64)).bind fun n4 =>
 ((h3.cell (h3r.add 1)).bind AV.asSl).bind fun l5 =>
 (go (.fn kho [.agg [.int .i64 n4,l5.v]]) h3).bind fun q6 =>
 ((some q6.1).bind AV.asBool).bind fun b7 =>
 cond (!b7) (
 some ((⟨none,0,.is 0⟩:Sl).v,q6.2)) (
 ((q6.2.cell (h3r.add 0)).bind (AV.asInt .i64)).bind fun n8 =>
 ((q6.2.cell (h3r.add 1)).bind AV.asSl).bind fun l9 =>
 (go (.fn kn8 [.agg [.int .i64 n8,l9.v]]) q6.2).bind fun q10 =>
 (go (.fn kph [q10.1]) q10.2).bind fun q11 =>
 ((some q11.1).bind AV.asSl).bind fun l12 =>
 some (l12.v,q11.2)):=(ke _ h).trans (by kernel_rfl)
theorem k96(a1:Int)(h:AH):go (.fn kqi [.int .u64 a1]) h =
 cond (decide (a1=0)) (
 some (.int .i64 64,h)) (
 (idx (some (.old ⟨Gl.math_bits_deBruijn64tab,0,none⟩)) 64 (ishr .u64 (IntKind.wrap .u64 ((iand .u64 a1 (IntKind.wrap .u64 (0-a1)))*285870213051353865)) 58) 1).bind fun r2 =>
 ((h.cell r2).bind (AV.asInt .u8)).bind fun n3 =>
 some (.int .i64 (IntKind.wrap .i64 n3),h)):=(ke _ h).trans (by kernel_rfl)
theorem k03(a1:Sl)(h:AH):go (.fn kdg [a1.v,.func (.func kdq) [] []]) h =
 (go (.fn kbe [a1.v,.func (.func kdq) [] []]) h).bind fun q2 =>
 ((some q2.1).bind (AV.asInt .i64)).bind fun n3 =>
 some (.bool (decide (n3≥0)),q2.2):=(ke _ h).trans (by kernel_rfl)
theorem krr(a1 a2:Sl)(a3:Int)(h:AH):go (.pt keg kl6 [(0,a1.v),(1,a2.v),(5,.int .i64 a3)]) h =
 cond (decide (a3≥0)) (
 (idx a1.ref a1.len a3 1).bind fun r4 =>
 ((h.cell r4).bind (AV.asInt .u64)).bind fun n5 =>
 (idx a2.ref a2.len a3 1).bind fun r6 =>
 ((h.cell r6).bind (AV.asInt .u64)).bind fun n7 =>
 cond (!decide (n5=n7)) (
 (idx a1.ref a1.len a3 1).bind fun r8 =>
 ((h.cell r8).bind (AV.asInt .u64)).bind fun n9 =>
 (idx a2.ref a2.len a3 1).bind fun r10 =>
 ((h.cell r10).bind (AV.asInt .u64)).bind fun n11 =>
 cond (decide (n9<n11)) (
 some (.int .i64 (-1),h)) (
 some (.int .i64 1,h))) (
 go (.pt keg kl6 [(0,a1.v),(1,a2.v),(5,.int .i64 (IntKind.wrap .i64 (a3-1)))]) h)) (
 some (.int .i64 0,h)):=(ke _ h).trans (by kernel_rfl)
theorem kbdc(a1:Sl)(a2:Int)(a3:Sl)(a4 a5:Int)(h:AH):go (.pt ket kl0 [(0,a1.v),(1,.int .u64 a2),(6,a3.v),(7,.int .u64 a4),(8,.int .i64 a5)]) h =
 cond (decide (a5≥0)) (
 (idx a1.ref a1.len a5 1).bind fun r6 =>
 ((h.cell r6).bind (AV.asInt .u64)).bind fun n7 =>
 (go (.fn kbl [.int .u64 a4,.int .u64 n7,.int .u64 a2]) h).bind fun q8 =>
 (AV.asTup2 q8.1).bind fun p9 =>
 ((some p9.1).bind (AV.asInt .u64)).bind fun n10 =>
 ((some p9.2).bind (AV.asInt .u64)).bind fun n11 =>
 (idx a3.ref a3.len a5 1).bind fun r12 =>
 (q8.2.puts r12 [.int .u64 n10]).bind fun h13 =>
 go (.pt ket kl0 [(0,a1.v),(1,.int .u64 a2),(6,a3.v),(7,.int .u64 n11),(8,.int .i64 (IntKind.wrap .i64 (a5-1)))]) h13) (
 (go (.fn kbf [a3.v]) h).bind fun q14 =>
 ((some q14.1).bind AV.asSl).bind fun l15 =>
 some (.tup [l15.v,.int .u64 a4],q14.2)):=(ke _ h).trans (by kernel_rfl)
theorem kbeu(a1:Int)(h:AH):go (.fn knj [.int .u64 a1]) h =
 (go (.fn khx [.int .u64 a1]) h).bind fun q2 =>
 ((some q2.1).bind (AV.asInt .i64)).bind fun n3 =>
 some (.int .i64 (IntKind.wrap .i64 (64-n3)),q2.2):=(ke _ h).trans (by kernel_rfl)
theorem kbc3(a1:Sl)(a2:Int)(h:AH):go (.fn kd4 [a1.v,.int .u64 a2]) h =
 (kbg (IntKind.wrap .i64 ((a1.len:Int)+1)) (IntKind.wrap .i64 ((a1.len:Int)+1)) kj (Pg.bytesOf kj) [.int .u64 0] h).bind fun q3 =>
 go (.pt kd4 ki5 [(1,.int .u64 a2),(5,q3.1.v),(12,a1.v),(13,.int .i64 (a1.len:Int)),(14,.int .i64 0)]) q3.2:=(ke _ h).trans (by kernel_rfl)
theorem k4r(a1:Int)(a2 a3:Sl)(a4:Int)(a5:Sl)(a6:Int)(h:AH):go (.pt kb1 klc [(6,.int .u64 a1),(7,a2.v),(8,a3.v),(9,.int .i64 a4),(10,a5.v),(11,.int .i64 a6)]) h =
 cond (decide (a6≥0)) (
 (idx a2.ref a2.len (IntKind.wrap .i64 (a6+a4)) 1).bind fun r7 =>
 ((h.cell r7).bind (AV.asInt .u64)).bind fun n8 =>
 (idx a2.ref a2.len (IntKind.wrap .i64 ((IntKind.wrap .i64 (a6+a4))-1)) 1).bind fun r9 =>
 ((h.cell r9).bind (AV.asInt .u64)).bind fun n10 =>
 (idx a2.ref a2.len (IntKind.wrap .i64 ((IntKind.wrap .i64 (a6+a4))-2)) 1).bind fun r11 =>
 ((h.cell r11).bind (AV.asInt .u64)).bind fun n12 =>
 (idx a3.ref a3.len (IntKind.wrap .i64 (a4-1)) 1).bind fun r13 =>
 ((h.cell r13).bind (AV.asInt .u64)).bind fun n14 =>
 (idx a3.ref a3.len (IntKind.wrap .i64 (a4-2)) 1).bind fun r15 =>
 ((h.cell r15).bind (AV.asInt .u64)).bind fun n16 =>
 (go (.fn kes [.int .u64 n8,.int .u64 n10,.int .u64 n12,.int .u64 n14,.int .u64 n16]) h).bind fun q17 =>
 ((some q17.1).bind (AV.asInt .u64)).bind fun n18 =>
 (cutSl a2 a6 (IntKind.wrap .i64 ((IntKind.wrap .i64 (a6+a4))+1)) 1).bind fun l19 =>
 go (.pt kb1 kmk [(6,.int .u64 a1),(7,a2.v),(8,a3.v),(9,.int .i64 a4),(10,a5.v),(11,.int .i64 a6),(12,.int .u64 n18),(13,l19.v)]) q17.2) (
 (go (.fn kbf [a2.v]) h).bind fun q20 =>
 ((some q20.1).bind AV.asSl).bind fun l21 =>
 (kbg (l21.len:Int) (l21.len:Int) kj (Pg.bytesOf kj) [.int .u64 0] q20.2).bind fun q22 =>
 go (.pt kb1 khg [(6,.int .u64 a1),(10,a5.v),(15,l21.v),(16,q22.1.v),(112,.int .i64 (l21.len:Int)),(113,.int .i64 0)]) q22.2):=(ke _ h).trans (by kernel_rfl)
theorem k42(a1 a2:Sl)(a3 a4 a5:Int)(a6:Sl)(a7 a8:Int)(a9:Sl)(a10 a11:Int)(h:AH):go (.pt kcl klh [(1,a1.v),(5,a2.v),(6,.int .i64 a3),(7,.int .u64 a4),(8,.int .u64 a5),(20,a6.v),(21,.int .i64 a7),(22,.int .i64 a8),(27,a9.v),(28,.int .i64 a10),(29,.int .i64 a11)]) h =
 cond (decide (a11<a10)) (
 (idx a9.ref a9.len a11 1).bind fun r12 =>
 ((h.cell r12).bind (AV.asInt .u64)).bind fun n13 =>
 (go (.fn knk [.int .u64 a4,.int .u64 n13]) h).bind fun q14 =>
 (AV.asTup2 q14.1).bind fun p15 =>
 ((some p15.1).bind (AV.asInt .u64)).bind fun n16 =>
 ((some p15.2).bind (AV.asInt .u64)).bind fun n17 =>
 (idx a2.ref a2.len (IntKind.wrap .i64 (a3+a11)) 1).bind fun r18 =>
 ((q14.2.cell r18).bind (AV.asInt .u64)).bind fun n19 =>
 ((prim "math/bits.Add64" [.int .u64 n17,.int .u64 n19,.int .u64 0]).map fun v=>(v,q14.2)).bind fun q20 =>
 (AV.asTup2 q20.1).bind fun p21 =>
 ((some p21.1).bind (AV.asInt .u64)).bind fun n22 =>
 ((some p21.2).bind (AV.asInt .u64)).bind fun n23 =>
 ((prim "math/bits.Add64" [.int .u64 n22,.int .u64 a5,.int .u64 0]).map fun v=>(v,q20.2)).bind fun q24 =>
 (AV.asTup2 q24.1).bind fun p25 =>
 ((some p25.1).bind (AV.asInt .u64)).bind fun n26 =>
 ((some p25.2).bind (AV.asInt .u64)).bind fun n27 =>
 (idx a2.ref a2.len (IntKind.wrap .i64 (a3+a11)) 1).bind fun r28 =>
 (q24.2.puts r28 [.int .u64 n26]).bind fun h29 =>
 go (.pt kcl klh [(1,a1.v),(5,a2.v),(6,.int .i64 a3),(7,.int .u64 a4),(8,.int .u64 (IntKind.wrap .u64 ((IntKind.wrap .u64 (n16+n23))+n27))),(20,a6.v),(21,.int .i64 a7),(22,.int .i64 a8),(27,a9.v),(28,.int .i64 a10),(29,.int .i64 (IntKind.wrap .i64 (a11+1)))]) h29) (
 (idx a2.ref a2.len (IntKind.wrap .i64 (a3+(a1.len:Int))) 1).bind fun r30 =>
 (h.puts r30 [.int .u64 a5]).bind fun h31 =>
 go (.pt kcl klr [(1,a1.v),(5,a2.v),(20,a6.v),(21,.int .i64 a7),(22,.int .i64 (IntKind.wrap .i64 (a8+1)))]) h31):=(ke _ h).trans (by kernel_rfl)
theorem ksi(a1:Sl)(a2 a3:Int)(h:AH):go (.pt kc3 kiu [(12,a1.v),(13,.int .i64 a2),(14,.int .i64 a3)]) h =
 cond (decide (a3<a2)) (
 (idx a1.ref a1.len a3 1).bind fun r4 =>
 ((h.cell (r4.add 0)).bind AV.asSl).bind fun l5 =>
 newK h (.cells [(⟨none,0,.is 0⟩:Sl).v] kb2) fun h6r h6 =>
 (h6.puts h6r [l5.v]).bind fun h7 =>
 ((h7.cell (h6r.add 0)).bind AV.asSl).bind fun l8 =>
 cond (decide ((l8.len:Int)<1)) (
 some (.bool false,h7)) (
 ((h7.cell (h6r.add 0)).bind AV.asSl).bind fun l9 =>
 cond (decide ((l9.len:Int)>63)) (
 some (.bool false,h7)) (
 ((h7.cell (h6r.add 0)).bind AV.asSl).bind fun l10 =>
 go (.pt kc3 kk4 [(4,.ptr (some h6r)),(12,a1.v),(13,.int .i64 a2),(14,.int .i64 a3),(29,l10.v),(30,.int .i64 (l10.len:Int)),(31,.int .i64 0)]) h7))) (
 some (.bool true,h)):=(ke _ h).trans (by kernel_rfl)
theorem kbag(a1:Sl)(a2 a3:Option Ref)(h:AH):go (.fn koc [a1.v,.func (.func kb6) [] [.ptr a2,.ptr a3]]) h =
 (go (.fn khs [a1.v,.func (.func kb6) [] [.ptr a2,.ptr a3]]) h).bind fun q4 =>
 ((some q4.1).bind (AV.asInt .i64)).bind fun n5 =>
 some (.bool (decide (n5≥0)),q4.2):=(ke _ h).trans (by kernel_rfl)
theorem k0y(a1:Sl)(h:AH):go (.fn kpr [a1.v]) h =
 cond a1.ref.isNone (
 some ((⟨none,0,.is 0⟩:Sl).v,h)) (
 newK h (.cells [] kbc) fun h2r h2 =>
 (kbb Pg kbc a1.v h2).bind fun p4 =>
 (kw Pg (⟨some h2r,0,.is 0⟩:Sl) p4.1 p4.2 kbc 7 h2).bind fun q3 =>
 (AV.asSl q3.1).bind fun l5 =>
 some (l5.v,q3.2)):=(ke _ h).trans (by kernel_rfl)
theorem ks6(a1:Option Ref)(h:AH):go (.fn kd1 [.ptr a1]) h =
 go (.pt kd1 kgo [(0,.ptr a1)]) h:=(ke _ h).trans (by kernel_rfl)
theorem k67(a1:Sl)(h:AH):go (.fn kkh [a1.v]) h =
 cond a1.ref.isNone (
 some ((⟨none,0,.is 0⟩:Sl).v,h)) (
 newK h (.cells [] kcw) fun h2r h2 =>
 (kbb Pg kcw a1.v h2).bind fun p4 =>
 (kw Pg (⟨some h2r,0,.is 0⟩:Sl) p4.1 p4.2 kcw 1 h2).bind fun q3 =>
 (AV.asSl q3.1).bind fun l5 =>
 some (l5.v,q3.2)):=(ke _ h).trans (by kernel_rfl)
theorem kzi(a1 a2 a3:Int)(h:AH):go (.fn kpj [.int .i64 a1,.int .i64 a2,.int .i64 a3]) h =
 cond (decide (a2<2)) (
 some (.tup [.ptr none,.int .i64 1],h)) (
 cond (decide (a2>16)) (
 some (.tup [.ptr none,.int .i64 1],h)) (
 cond (decide (a1<0)) (
 some (.tup [.ptr none,.int .i64 1],h)) (
 cond (decide (a1≥a2)) (
 some (.tup [.ptr none,.int .i64 1],h)) (
 cond (decide (a3<1)) (
 some (.tup [.ptr none,.int .i64 1],h)) (
 cond (decide (a3>1073741824)) (
 some (.tup [.ptr none,.int .i64 1],h)) (
 newM h (.map [] 0) fun h4m h4 =>
 newK h4 (.cells [.int .i64 a1,.int .i64 a2,.int .i64 a3,.int .i64 0,.int .i64 0,.int .i64 0,.map (some h4m)] kv9) fun h5r h5 =>
 some (.tup [.ptr (some h5r),.int .i64 0],h5))))))):=(ke _ h).trans (by kernel_rfl)
theorem kbdp(a1:Option Ref)(a2:Int)(a3:Sl)(h:AH):go (.fn khh [.ptr a1,.int .i64 a2,a3.v]) h =
 a1.bind fun r4 =>
 ((h.cell (r4.add 6)).bind AV.asMap).bind fun m5 =>
 (mapGet h m5 .i64 a2).bind fun q6 =>
 (AV.asAgg (q6.getD (.agg [.int .i64 0,(⟨none,0,.is 0⟩:Sl).v]))).bind fun cs7 =>
 cond (Nat.beq cs7.length 2) (
 ((cs7[0]?).bind (AV.asInt .i64)).bind fun n8 =>
 ((cs7[1]?).bind AV.asSl).bind fun l9 =>
 newK h (.cells [.int .i64 0,(⟨none,0,.is 0⟩:Sl).v] kyn) fun h10r h10 =>
 (h10.puts h10r [.int .i64 n8,l9.v]).bind fun h11 =>
 a1.bind fun r12 =>
 ((h11.cell (r12.add 4)).bind (AV.asInt .i64)).bind fun n13 =>
 cond (!decide (n13=0)) (
 some (.int .i64 17,h11)) (
 (go (.fn knd [.ptr a1,.int .i64 a2]) h11).bind fun q14 =>
 ((some q14.1).bind AV.asBool).bind fun b15 =>
 cond (!b15) (
 some (.int .i64 1,q14.2)) (
 cond (decide ((a3.len:Int)=0)) (
 some (.int .i64 1,q14.2)) (
 (go (.fn kca [a3.v,.func (.func kda) [] []]) q14.2).bind fun q16 =>
 ((some q16.1).bind AV.asBool).bind fun b17 =>
 cond b17 (
 some (.int .i64 1,q16.2)) (
 cond q6.isSome (
 some (.int .i64 18,q16.2)) (
 a1.bind fun r18 =>
 ((q16.2.cell (r18.add 6)).bind AV.asMap).bind fun m19 =>
 a1.bind fun r20 =>
 ((q16.2.cell (r20.add 3)).bind (AV.asInt .i64)).bind fun n21 =>
 (go (.fn kni [a3.v]) q16.2).bind fun q22 =>
 ((some q22.1).bind AV.asSl).bind fun l23 =>
 whenK (SameAt q16.2 q22.2 (r20.add 3) 1) (
 whenK (SameAt q16.2 q22.2 (r18.add 6) 1) (
 m19.bind fun m25 =>
 (mapPut q22.2 m25 .i64 a2 (.agg [.int .i64 n21,l23.v])).bind fun h24 =>
 some (.int .i64 0,h24))))))))) none:=(ke _ h).trans (by kernel_rfl)
theorem k8u  (h:AH):go (.fn ko9 []) h =
 newM h (.map [] 0) fun h1m h1 =>
 newK h1 (.cells [(⟨none,0,.is 0⟩:Sl).v,.map (some h1m)] km2) fun h2r h2 =>
 some (.ptr (some h2r),h2):=(ke _ h).trans (by kernel_rfl)
theorem kbah(a1:Option Ref)(a2 a3 a4 a5:Int)(a6 a7 a8:Sl)(h:AH):go (.fn kiy [.ptr a1,.agg [.int .i64 a2,.int .i64 a3,.int .i64 a4,.int .i64 a5,a6.v,a7.v,a8.v]]) h =
 newK h (.cells [.int .i64 a2,.int .i64 a3,.int .i64 a4,.int .i64 a5,a6.v,a7.v,a8.v] kbu) fun h9r h9 =>
 (go (.fn kng [.ptr a1]) h9).bind fun q10 =>
 ((some q10.1).bind AV.asBool).bind fun b11 =>
 cond (!b11) (
 some ((⟨none,0,.is 0⟩:Sl).v,q10.2)) (
 ((q10.2.cell (h9r.add 0)).bind (AV.asInt .i64)).bind fun n12 =>
 ((q10.2.cell (h9r.add 1)).bind (AV.asInt .i64)).bind fun n13 =>
 ((q10.2.cell (h9r.add 2)).bind (AV.asInt .i64)).bind fun n14 =>
 ((q10.2.cell (h9r.add 3)).bind (AV.asInt .i64)).bind fun n15 =>
 ((q10.2.cell (h9r.add 4)).bind AV.asSl).bind fun l16 =>
 ((q10.2.cell (h9r.add 5)).bind AV.asSl).bind fun l17 =>
 ((q10.2.cell (h9r.add 6)).bind AV.asSl).bind fun l18 =>
 (go (.fn kby [.agg [.int .i64 n12,.int .i64 n13,.int .i64 n14,.int .i64 n15,l16.v,l17.v,l18.v]]) q10.2).bind fun q19 =>
 ((some q19.1).bind AV.asBool).bind fun b20 =>
 cond (!b20) (
 (go (.fn kf8 [.ptr a1,.int .i64 16]) q19.2).bind fun q21 =>
 ((some q21.1).bind AV.asSl).bind fun l22 =>
 some (l22.v,q21.2)) (
 a1.bind fun r23 =>
 ((q19.2.cell (r23.add 0)).bind AV.asPtr).bind fun p24 =>
 ((q19.2.cell (h9r.add 0)).bind (AV.asInt .i64)).bind fun n25 =>
 ((q19.2.cell (h9r.add 1)).bind (AV.asInt .i64)).bind fun n26 =>
 ((q19.2.cell (h9r.add 2)).bind (AV.asInt .i64)).bind fun n27 =>
 ((q19.2.cell (h9r.add 3)).bind (AV.asInt .i64)).bind fun n28 =>
 ((q19.2.cell (h9r.add 4)).bind AV.asSl).bind fun l29 =>
 ((q19.2.cell (h9r.add 5)).bind AV.asSl).bind fun l30 =>
 ((q19.2.cell (h9r.add 6)).bind AV.asSl).bind fun l31 =>
 (go (.fn knl [.ptr p24,.int .i64 0,.agg [.int .i64 n25,.int .i64 n26,.int .i64 n27,.int .i64 n28,l29.v,l30.v,l31.v]]) q19.2).bind fun q32 =>
 ((some q32.1).bind (AV.asInt .i64)).bind fun n33 =>
 cond (!decide (n33=0)) (
 (go (.fn kf8 [.ptr a1,.int .i64 n33]) q32.2).bind fun q34 =>
 ((some q34.1).bind AV.asSl).bind fun l35 =>
 some (l35.v,q34.2)) (
 (go (.fn kng [.ptr a1]) q32.2).bind fun q36 =>
 ((some q36.1).bind AV.asBool).bind fun b37 =>
 cond (!b37) (
 some ((⟨none,0,.is 0⟩:Sl).v,q36.2)) (
 newK q36.2 (.cells [.nilFunc,(⟨none,0,.is 0⟩:Sl).v] ktw) fun h38r h38 =>
 ((h38.cell (h9r.add 0)).bind (AV.asInt .i64)).bind fun n39 =>
 (go (.fn kov []) h38).bind fun q40 =>
 ((some q40.1).bind AV.asMap).bind fun m41 =>
 whenK (SameAt h38 q40.2 (h9r.add 0) 1) (
 whenK (SameAt h38 q40.2 h38r 0) (
 (mapGet q40.2 m41 .i64 n39).bind fun q42 =>
 (AV.asAgg (q42.getD (.agg [.nilFunc,(⟨none,0,.is 0⟩:Sl).v]))).bind fun cs43 =>
 cond (Nat.beq cs43.length 2) (
 (cs43[0]?).bind fun v44 =>
 ((cs43[1]?).bind AV.asSl).bind fun l45 =>
 whenK (SameAt q40.2 q40.2 h38r 0) (
 (q40.2.puts h38r [v44,l45.v]).bind fun h46 =>
 (h46.cell (h38r.add 0)).bind fun v47 =>
 ((h46.cell (h9r.add 0)).bind (AV.asInt .i64)).bind fun n48 =>
 ((h46.cell (h9r.add 1)).bind (AV.asInt .i64)).bind fun n49 =>
 ((h46.cell (h9r.add 2)).bind (AV.asInt .i64)).bind fun n50 =>
 ((h46.cell (h9r.add 3)).bind (AV.asInt .i64)).bind fun n51 =>
 ((h46.cell (h9r.add 4)).bind AV.asSl).bind fun l52 =>
 ((h46.cell (h9r.add 5)).bind AV.asSl).bind fun l53 =>
 ((h46.cell (h9r.add 6)).bind AV.asSl).bind fun l54 =>
 yieldK v47 [.ptr a1,.agg [.int .i64 n48,.int .i64 n49,.int .i64 n50,.int .i64 n51,l52.v,l53.v,l54.v]] (fun y56 =>
 (go (.round y56.1 y56.2) h46).bind fun q55 =>
 (AV.asTup2 q55.1).bind fun p58 =>
 ((some p58.1).bind AV.asSl).bind fun l59 =>
 ((some p58.2).bind (AV.asInt .i64)).bind fun n60 =>
 cond (!decide (n60=0)) (
 (go (.fn kf8 [.ptr a1,.int .i64 n60]) q55.2).bind fun q61 =>
 ((some q61.1).bind AV.asSl).bind fun l62 =>
 some (l62.v,q61.2)) (
 ((q55.2.cell (h38r.add 1)).bind AV.asSl).bind fun l63 =>
 cond (!l63.ref.isNone) (
 a1.bind fun r64 =>
 ((q55.2.cell (r64.add 0)).bind AV.asPtr).bind fun p65 =>
 ((q55.2.cell (h38r.add 1)).bind AV.asSl).bind fun l66 =>
 (go (.fn khh [.ptr p65,.int .i64 0,l66.v]) q55.2).bind fun q67 =>
 ((some q67.1).bind (AV.asInt .i64)).bind fun n68 =>
 some (l59.v,q67.2)) (
 some (l59.v,q55.2)))) (
 (callV Pg go v47 [.ptr a1,.agg [.int .i64 n48,.int .i64 n49,.int .i64 n50,.int .i64 n51,l52.v,l53.v,l54.v]] h46).bind fun q57 =>
 (AV.asTup2 q57.1).bind fun p69 =>
 ((some p69.1).bind AV.asSl).bind fun l70 =>
 ((some p69.2).bind (AV.asInt .i64)).bind fun n71 =>
 cond (!decide (n71=0)) (
 (go (.fn kf8 [.ptr a1,.int .i64 n71]) q57.2).bind fun q72 =>
 ((some q72.1).bind AV.asSl).bind fun l73 =>
 some (l73.v,q72.2)) (
 ((q57.2.cell (h38r.add 1)).bind AV.asSl).bind fun l74 =>
 cond (!l74.ref.isNone) (
 a1.bind fun r75 =>
 ((q57.2.cell (r75.add 0)).bind AV.asPtr).bind fun p76 =>
 ((q57.2.cell (h38r.add 1)).bind AV.asSl).bind fun l77 =>
 (go (.fn khh [.ptr p76,.int .i64 0,l77.v]) q57.2).bind fun q78 =>
 ((some q78.1).bind (AV.asInt .i64)).bind fun n79 =>
 some (l70.v,q78.2)) (
 some (l70.v,q57.2)))))) none)))))):=(ke _ h).trans (by kernel_rfl)
theorem kuv(a1:Option Ref)(a2:Int)(h:AH):go (.pt kdl kk1 [(9,.ptr a1),(13,.int .i64 a2)]) h =
 cond (decide (a2<3)) (
 (go (.fn kiy [.ptr a1,.agg [.int .i64 4,.int .i64 0,.int .i64 a2,.int .i64 0,(⟨none,0,.is 0⟩:Sl).v,(⟨none,0,.is 0⟩:Sl).v,(⟨none,0,.is 0⟩:Sl).v]]) h).bind fun q3 =>
 ((some q3.1).bind AV.asSl).bind fun l4 =>
 go (.pt kdl kk1 [(9,.ptr a1),(13,.int .i64 (IntKind.wrap .i64 (a2+1)))]) q3.2) (
 some (.ptr a1,h)):=(ke _ h).trans (by kernel_rfl)
end Go.Ab
