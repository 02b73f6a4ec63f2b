/- squeezed -/
import Derived.Test.YtgfeahhgoiidiaaGreatDoorPAbsDra
import Derived.Test.YtgfeahhgoiidiaaGreatDoorProg
set_option linter.unusedVariables false
set_option linter.unusedSimpArgs false
set_option linter.unusedSectionVars false

set_option maxRecDepth 100000
namespace Go.Ab
open Go.Proofs
@[reducible] def F.kbg:FuncId:=4
@[reducible] def F.kpm:FuncId:=8
@[reducible] def F.kbs:FuncId:=9
@[reducible] def F.kcl:FuncId:=10
@[reducible] def F.kc8:FuncId:=12
@[reducible] def F.kf0:FuncId:=20
@[reducible] def F.kp8:FuncId:=21
@[reducible] def F.kby:FuncId:=22
@[reducible] def F.kif:FuncId:=34
@[reducible] def F.ke3:FuncId:=35
@[reducible] def F.kgz:FuncId:=36
@[reducible] def F.kdb:FuncId:=37
@[reducible] def F.kdi:FuncId:=38
@[reducible] def F.kcr:FuncId:=39
@[reducible] def F.kfb:FuncId:=40
@[reducible] def F.kne:FuncId:=41
@[reducible] def F.kq1:FuncId:=42
@[reducible] def F.kfe:FuncId:=43
@[reducible] def F.kcd:FuncId:=44
@[reducible] def F.kdx:FuncId:=45
@[reducible] def F.ki3:FuncId:=46
@[reducible] def F.kk0:FuncId:=47
@[reducible] def F.kov:FuncId:=48
@[reducible] def F.kk2:FuncId:=49
@[reducible] def F.kot:FuncId:=62
@[reducible] def F.kdh:FuncId:=63
@[reducible] def F.kbo:FuncId:=64
@[reducible] def F.kig:FuncId:=65
@[reducible] def F.kd9:FuncId:=66
@[reducible] def F.kfq:FuncId:=67
@[reducible] def F.kqc:FuncId:=68
@[reducible] def F.kgl:FuncId:=69
@[reducible] def F.kjm:FuncId:=70
@[reducible] def F.kic:FuncId:=71
@[reducible] def F.kgc:FuncId:=72
@[reducible] def F.kd3:FuncId:=73
@[reducible] def F.koh:FuncId:=74
@[reducible] def F.knj:FuncId:=75
@[reducible] def F.kj7:FuncId:=76
@[reducible] def F.kki:FuncId:=77
@[reducible] def F.kna:FuncId:=78
@[reducible] def F.koy:FuncId:=79
@[reducible] def F.kf9:FuncId:=80
@[reducible] def F.kp3:FuncId:=81
@[reducible] def F.ko5:FuncId:=82
@[reducible] def F.kcu:FuncId:=83
@[reducible] def F.ke2:FuncId:=84
@[reducible] def F.khb:FuncId:=85
@[reducible] def F.kde:FuncId:=96
@[reducible] def F.kgs:FuncId:=97
@[reducible] def F.kg3:FuncId:=98
@[reducible] def F.keg:FuncId:=99
@[reducible] def F.ke7:FuncId:=100
@[reducible] def F.kd5:FuncId:=101
@[reducible] def F.ke1:FuncId:=102
@[reducible] def F.kf5:FuncId:=103
@[reducible] def F.kb5:FuncId:=104
@[reducible] def F.keb:FuncId:=105
@[reducible] def F.kh8:FuncId:=106
@[reducible] def F.knv:FuncId:=107
@[reducible] def F.kfz:FuncId:=108
@[reducible] def F.ko1:FuncId:=109
@[reducible] def F.kkr:FuncId:=110
@[reducible] def F.kl5:FuncId:=111
@[reducible] def F.klg:FuncId:=112
@[reducible] def F.km0:FuncId:=113
@[reducible] def F.kfd:FuncId:=114
@[reducible] def F.ki0:FuncId:=115
@[reducible] def F.klf:FuncId:=116
@[reducible] def F.kil:FuncId:=117
@[reducible] def F.koc:FuncId:=118
@[reducible] def F.kd2:FuncId:=119
@[reducible] def F.kb6:FuncId:=120
@[reducible] def F.knz:FuncId:=121
@[reducible] def F.kdf:FuncId:=139
@[reducible] def F.kgo:FuncId:=140
@[reducible] def F.ke4:FuncId:=141
@[reducible] def F.kd7:FuncId:=142
@[reducible] def F.kex:FuncId:=143
@[reducible] def F.kb7:FuncId:=144
@[reducible] def F.kbr:FuncId:=145
@[reducible] def F.krk:FuncId:=146
@[reducible] def F.kdm:FuncId:=147
@[reducible] def F.kqx:FuncId:=148
@[reducible] def F.kg7:FuncId:=149
@[reducible] def F.kid:FuncId:=150
@[reducible] def F.kgk:FuncId:=151
@[reducible] def F.khk:FuncId:=152
@[reducible] def F.krh:FuncId:=153
@[reducible] def F.kdo:FuncId:=154
@[reducible] def F.kjr:FuncId:=155
@[reducible] def F.kmr:FuncId:=156
@[reducible] def F.kc1:FuncId:=157
@[reducible] def F.kc5:FuncId:=158
@[reducible] def F.ku4:FuncId:=171
@[reducible] def F.kdl:FuncId:=172
@[reducible] def F.kbx:FuncId:=173
@[reducible] def F.kl7:FuncId:=174
@[reducible] def F.kdu:FuncId:=175
@[reducible] def F.ker:FuncId:=176
@[reducible] def F.kcs:FuncId:=177
@[reducible] def F.khh:FuncId:=178
@[reducible] def F.kpk:FuncId:=179
@[reducible] def F.kh2:FuncId:=180
@[reducible] def F.kj2:FuncId:=181
@[reducible] def F.khi:FuncId:=182
@[reducible] def F.kia:FuncId:=183
@[reducible] def F.kdk:FuncId:=184
@[reducible] def F.kih:FuncId:=189
@[reducible] def F.kk1:FuncId:=190
@[reducible] def F.knf:FuncId:=191
@[reducible] def F.kfw:FuncId:=208
@[reducible] def F.kqf:FuncId:=209
@[reducible] def F.kp6:FuncId:=210
@[reducible] def F.kfc:FuncId:=211
@[reducible] def T.func:TypeId:=1
@[reducible] def T.int:TypeId:=3
@[reducible] def T.bool:TypeId:=4
@[reducible] def T.string:TypeId:=9
@[reducible] def T.any:TypeId:=20
@[reducible] def T.kb0:TypeId:=23
@[reducible] def T.kol:TypeId:=24
@[reducible] def T.kbm:TypeId:=25
@[reducible] def T.kcz:TypeId:=30
@[reducible] def T.kp1:TypeId:=38
@[reducible] def T.kbi:TypeId:=40
@[reducible] def T.kch:TypeId:=47
@[reducible] def T.kb8:TypeId:=49
@[reducible] def T.kj:TypeId:=58
@[reducible] def T.kw:TypeId:=71
@[reducible] def T.kbp:TypeId:=74
@[reducible] def T.kbf:TypeId:=76
@[reducible] def T.kvg:TypeId:=78
@[reducible] def T.kbc:TypeId:=82
@[reducible] def T.kd4:TypeId:=93
@[reducible] def T.k7s:TypeId:=97
@[reducible] def T.kci:TypeId:=115
@[reducible] def T.kg:TypeId:=117
@[reducible] def T.ky:TypeId:=119
@[reducible] def T.kzc:TypeId:=183
@[reducible] noncomputable def Pg:Program:=Tryz.prog
@[reducible] def Gl.math_bits_deBruijn64tab:Nat:=0
@[reducible] def Gl.math_bits_divideError:Nat:=1
@[reducible] def Gl.math_bits_overflowError:Nat:=2
def keepTab:List (Nat×Nat×List Nat):=[(4,10,[1,2,3,9,11,12]),(4,14,[1,2,3,9,11,12,13,14]),(4,18,[1,2,3,9,11,12,13,15]),(4,22,[1,2,3,9,11,12,13,15,16,17]),(4,29,[2,3,9,11,18,19]),(6,13,[1,2,3,9,12,15]),(6,18,[1,2,3,9,12,15,16,17,18]),(6,26,[1,2,9,12,19]),(7,4,[1,3,4,5]),(9,4,[1,2,5,6,7]),(9,8,[1,2,5,6,7,8]),(9,18,[2,5,9,10]),(10,7,[1,2,3,6,9,10,26,27]),(10,10,[1,2,3,6,9,10,11,26,27,32,33,34]),(11,7,[1,2,3,6,10,11,12]),(11,11,[1,2,3,6,10,11,12,13,14]),(12,4,[2,3,5]),(12,9,[2,3,5,6]),(13,5,[1,6,15,16,17]),(13,8,[1,6,8,9,15,16,17]),(14,6,[1,2,7,8]),(14,10,[1,2,7,8,9,10]),(15,4,[1,3]),(15,10,[1,3,4,5]),(16,3,[0,1,5,6]),(16,7,[0,1,5,6,7,8]),(17,4,[12,13,14]),(17,9,[4,12,13,14,29,30,31]),(18,3,[3,17,18,19]),(18,7,[3,17,18,19,31,32,33]),(18,14,[3,17,18,19,31,32,33,55,56,57]),(19,3,[1,3,4]),(19,8,[1,3,4,5,6]),(19,16,[1,3,4,5,6,8,9]),(20,4,[1,2,23,24,25]),(22,4,[1,2,3,4,8,11,12]),(22,13,[1,2,3,4,8,11,12,13,14,15,16]),(22,17,[1,2,3,4,8,11,12,18,92,93,94]),(23,5,[1,2,8]),(23,14,[2,11]),(25,3,[1,2,3,4,8,9,10]),(25,9,[1,2,3,4,8,11,12,13]),(25,19,[1,2,3,4,8,11,12,13,14,15,16,17]),(25,23,[1,2,3,4,8,11,12,13,14,20,22]),(25,1000032,[0,1,2,3,4,5,6,8,9,10,11,12,13,15,16,17,18,19,20,22,23,24,25,26,27,7,14,21,28,29,30,31]),(28,2,[0,3]),(30,4,[3,4,8,9,10]),(31,2,[0,3]),(33,3,[0,3,4]),(33,7,[0,3,4,5]),(35,4,[1,27,28,29]),(36,4,[0,1,12,13]),(40,3,[0,2,4,5,15,16]),(43,3,[0,4,5,9,10,11]),(44,4,[1,5,8,9,17,18,19]),(44,7,[1,5,8,9,10,11,17,18,19,25,26,27]),(44,10,[1,5,8,9,10,11,12,17,18,19,25,26,27,33,34]),(45,7,[0,6,10,13,47,48,49]),(46,1000004,[0,1,2,3,4,5,7,8,9,10,11,12,13,14,21,22,6,15,16,17,18,19,20,23,24,25]),(46,2000004,[21,22]),(51,5,[1,4]),(51,10,[1,4,5]),(52,4,[0,1,5]),(53,3,[0,1,4,5,6]),(54,4,[0,1,2,8,9,10]),(54,7,[0,1,2,8,9,10,11]),(54,10,[0,1,2,8,9,10,11,12]),(55,5,[0,1,3,6,11]),(55,13,[0,3,6,14,16,17]),(55,1000007,[0,1,2,3,4,9,5,6,7,8,10,11]),(55,1000016,[0,1,2,3,4,5,10,6,7,8,9,11,12]),(55,2000007,[9]),(55,2000016,[10]),(56,1000005,[0,1,2,4,5,11,3,6,7,8,9,10,12,13]),(56,1000006,[0,1,2,3,4,6,7,13,5,8,9,10,11,12,14,15]),(56,2000005,[11]),(56,2000006,[13]),(57,3,[1,2,3,4,5,11,12]),(60,3,[0,1,4]),(60,7,[0,1,2,3,4,9]),(64,2,[0,1,7,8]),(66,2,[0,1,2,7]),(67,7,[2,3,6,8,44,45,46]),(73,1000003,[0,2,1,3,4]),(74,1000003,[0,1,3,4,2,5,6,7]),(75,1000005,[0,1,3,4,10,2,5,6,7,8,9,11,12]),(75,2000005,[10]),(83,5,[2,3,4,6,8,9,35,36]),(85,0,[0,1]),(86,4,[0,3]),(92,1000005,[0,1,3,4,2,5,6,7]),(97,3,[3,7,8,9]),(98,5,[4,6,23,24,25]),(102,4,[0,1]),(108,1000001,[0,1,2,3,9,4,5,6,7,8,10,11]),(108,2000001,[9]),(120,1,[0,6,7,8]),(120,3,[0,3,4,6,7,8]),(122,2,[0,1,5]),(125,7,[8,9]),(130,1000005,[0,1,3,4,10,2,5,6,7,8,9,11,12]),(130,2000005,[10]),(131,1000005,[0,1,2,4,5,3,6,7,8,9,10,11]),(134,1000001,[0,1,2,3,9,4,5,6,7,8,10,11]),(134,2000001,[9]),(142,6,[0,1,5]),(143,4,[0,1,6,7,8]),(144,6,[6,7,8,9,10,11]),(144,10,[6,7,8,9,10,11,12,13]),(144,18,[6,10,15,16,112,113]),(145,2,[0,3]),(150,1000003,[0,1,2,4,5,11,3,6,7,8,9,10,12,13]),(150,2000003,[11]),(157,6,[0,1,5,6,21,22]),(158,4,[0,1,5,6,13,14]),(160,4,[0,1,6,7,8]),(160,9,[0,1,6,7,8,9,10]),(161,3,[0,3,4]),(161,7,[0,3,4,5,6]),(162,3,[0,4,5]),(162,7,[0,4,5,6,7]),(167,3,[0,1,5,6]),(167,7,[0,1,5,6,7,8]),(168,4,[0,1,5,6,7]),(169,6,[0,1,5]),(170,4,[0,1,5,6,7]),(170,1000006,[0,1,2,3,4,5,6,9,7,8,10,11]),(173,3,[0,1,2]),(173,17,[2,8,9,10,11,13,14,15,16]),(173,24,[2,8,9,10,14,15,16,17,18]),(175,3,[1,5,12,13,14]),(176,4,[2,3,4,11,12]),(177,3,[1,5,20,21,22]),(177,7,[1,5,6,7,8,20,21,22,27,28,29]),(178,2,[0,1,7,8]),(180,2,[0,1,7,8]),(181,1000006,[0,1,2,4,5,8,9,10,12,13,3,6,7,11,14,15,16,17]),(181,1000007,[0,1,2,4,5,9,10,12,13,3,6,7,8,11,14,15,16,17,18]),(184,2,[0,1,2,6,7]),(187,2,[0,3]),(189,2,[0,1,7,8])]
noncomputable def go:Rec:=run Pg (keepOf keepTab)
theorem ke(k:Key)(h:AH):go k h=stepA Pg (keepOf keepTab) go k h:=k8m _ k h
theorem kce:Pg.underlying T.int=some (.int .i64):=Tryz.underlying3
theorem kew:Pg.cellsOf T.int=1:=by kernel_rfl
theorem kwi:kb9 Pg T.int=some [.int .i64 0]:=by kernel_rfl
theorem knb:Pg.bytesOf T.int=8:=by kernel_rfl
theorem klv:Pg.underlying T.kb0=some (.struct #[{name := "Trees",type:=T.int,offset:=0,embedded:=false,tag := "",pkgPath := "",byteOffset:=0},{name := "Depth",type:=T.int,offset:=1,embedded:=false,tag := "",pkgPath := "",byteOffset:=8},{name := "Lambda",type:=T.int,offset:=2,embedded:=false,tag := "",pkgPath := "",byteOffset:=16},{name := "Gamma",type:=T.int,offset:=3,embedded:=false,tag := "",pkgPath := "",byteOffset:=24},{name := "Num",type:=T.int,offset:=4,embedded:=false,tag := "",pkgPath := "",byteOffset:=32},{name := "Den",type:=T.int,offset:=5,embedded:=false,tag := "",pkgPath := "",byteOffset:=40},{name := "Loss",type:=T.int,offset:=6,embedded:=false,tag := "",pkgPath := "",byteOffset:=48},{name := "Clip",type:=T.int,offset:=7,embedded:=false,tag := "",pkgPath := "",byteOffset:=56}]):=Tryz.underlying23
theorem kw4:Pg.cellsOf T.kb0=8:=by kernel_rfl
theorem kut:Pg.underlying T.kol=some (.slice T.kbi):=Tryz.underlying24
theorem kr3:Pg.underlying T.kbm=some (.slice T.int):=Tryz.underlying25
theorem kn3:Pg.cellsOf T.kbm=1:=by kernel_rfl
theorem k9w:kb9 Pg T.kbm=some [(⟨none,0,.is 0⟩:Sl).v]:=by kernel_rfl
theorem k7x:Pg.bytesOf T.kbm=24:=by kernel_rfl
theorem k44:Pg.underlying T.kp1=some (.slice T.kbm):=Tryz.underlying38
theorem k8s:Pg.cellsOf T.kp1=1:=by kernel_rfl
theorem k2r:Pg.underlying T.kbi=some (.struct #[{name := "Ids",type:=T.kbm,offset:=0,embedded:=false,tag := "",pkgPath := "",byteOffset:=0},{name := "Bins",type:=T.kbm,offset:=1,embedded:=false,tag := "",pkgPath := "",byteOffset:=24},{name := "Cols",type:=T.kp1,offset:=2,embedded:=false,tag := "",pkgPath := "",byteOffset:=48}]):=Tryz.underlying40
theorem kpg:Pg.cellsOf T.kbi=3:=by kernel_rfl
theorem kw9:kb9 Pg T.kbi=some [(⟨none,0,.is 0⟩:Sl).v,(⟨none,0,.is 0⟩:Sl).v,(⟨none,0,.is 0⟩:Sl).v]:=by kernel_rfl
theorem kbao:Pg.bytesOf T.kbi=72:=by kernel_rfl
theorem k7r:Pg.cellsOf T.kch=1:=by kernel_rfl
theorem k4r:kb9 Pg T.kch=some [(⟨none,0,.is 0⟩:Sl).v]:=by kernel_rfl
theorem kys:Pg.bytesOf T.kch=24:=by kernel_rfl
theorem k60:Pg.cellsOf T.kb8=7:=by kernel_rfl
theorem kzd:kb9 Pg T.kb8=some [.bool false,.int .i64 0,.int .i64 0,.int .i64 0,.int .i64 0,.int .i64 0,.int .i64 0]:=by kernel_rfl
theorem kt4:Pg.bytesOf T.kb8=56:=by kernel_rfl
theorem k3d:Pg.cellsOf T.kj=1:=by kernel_rfl
theorem k88:kb9 Pg T.kj=some [.int .u64 0]:=by kernel_rfl
theorem ken:Pg.bytesOf T.kj=8:=by kernel_rfl
theorem kzk:Pg.cellsOf T.kbf=4:=by kernel_rfl
theorem k7u:kb9 Pg T.kbf=some [.int .i64 0,.int .i64 0,.int .i64 0,(⟨none,0,.is 0⟩:Sl).v]:=by kernel_rfl
theorem kzs:Pg.bytesOf T.kbf=48:=by kernel_rfl
theorem k5f:Pg.cellsOf T.kbc=2:=by kernel_rfl
theorem k9c:kb9 Pg T.kbc=some [.int .i64 0,.int .i64 0]:=by kernel_rfl
theorem k8o:Pg.bytesOf T.kbc=16:=by kernel_rfl
theorem k0c:Pg.cellsOf T.kd4=9:=by kernel_rfl
theorem k5o:kb9 Pg T.kd4=some [.bool false,.int .i64 0,.int .i64 0,.int .i64 0,.int .i64 0,.int .i64 0,.int .i64 0,.int .i64 0,(⟨none,0,.is 0⟩:Sl).v]:=by kernel_rfl
theorem kyz:Pg.bytesOf T.kd4=88:=by kernel_rfl
noncomputable def Td.kjl:List Item:=todoAt Tryz.f4 10
noncomputable def Td.knk:List Item:=todoAt Tryz.f4 14
noncomputable def Td.kie:List Item:=todoAt Tryz.f4 18
noncomputable def Td.kkn:List Item:=todoAt Tryz.f4 22
noncomputable def Td.khj:List Item:=todoAt Tryz.f4 29
noncomputable def Td.kf4:List Item:=todoAt Tryz.f9 4
noncomputable def Td.kik:List Item:=todoAt Tryz.f9 8
noncomputable def Td.kj3:List Item:=todoAt Tryz.f9 18
noncomputable def Td.km1:List Item:=todoAt Tryz.f10 7
noncomputable def Td.kjf:List Item:=todoAt Tryz.f10 10
noncomputable def Td.kjj:List Item:=todoAt Tryz.f12 4
noncomputable def Td.kmb:List Item:=todoAt Tryz.f12 9
noncomputable def Td.kko:List Item:=todoAt Tryz.f20 4
noncomputable def Td.kfo:List Item:=todoAt Tryz.f22 4
noncomputable def Td.khz:List Item:=todoAt Tryz.f22 13
noncomputable def Td.kkl:List Item:=todoAt Tryz.f22 17
noncomputable def Td.kmj:List Item:=todoAt Tryz.f35 4
noncomputable def Td.km2:List Item:=todoAt Tryz.f36 4
noncomputable def Td.ki4:List Item:=todoAt Tryz.f40 3
noncomputable def Td.kk8:List Item:=todoAt Tryz.f43 3
noncomputable def Td.kjk:List Item:=todoAt Tryz.f44 4
noncomputable def Td.kke:List Item:=todoAt Tryz.f44 7
noncomputable def Td.kmx:List Item:=todoAt Tryz.f44 10
noncomputable def Td.kgp:List Item:=todoAt Tryz.f45 7
noncomputable def Td.kck:List Item:=todoAt Tryz.f64 2
noncomputable def Td.kgd:List Item:=todoAt Tryz.f66 2
noncomputable def Td.kio:List Item:=todoAt Tryz.f67 7
noncomputable def Td.kft:List Item:=todoAt Tryz.f83 5
noncomputable def Td.kp5:List Item:=todoAt Tryz.f85 0
noncomputable def Td.kld:List Item:=todoAt Tryz.f97 3
noncomputable def Td.kmp:List Item:=todoAt Tryz.f98 5
noncomputable def Td.kle:List Item:=todoAt Tryz.f102 4
noncomputable def Td.ki5:List Item:=todoAt Tryz.f120 1
noncomputable def Td.kl6:List Item:=todoAt Tryz.f120 3
noncomputable def Td.kng:List Item:=todoAt Tryz.f142 6
noncomputable def Td.km3:List Item:=todoAt Tryz.f143 4
noncomputable def Td.kk5:List Item:=todoAt Tryz.f144 6
noncomputable def Td.kmu:List Item:=todoAt Tryz.f144 10
noncomputable def Td.kg8:List Item:=todoAt Tryz.f144 18
noncomputable def Td.kkk:List Item:=todoAt Tryz.f145 2
noncomputable def Td.kfy:List Item:=todoAt Tryz.f157 6
noncomputable def Td.khl:List Item:=todoAt Tryz.f158 4
noncomputable def Td.kpy:List Item:=todoAt Tryz.f173 3
noncomputable def Td.kkd:List Item:=todoAt Tryz.f173 17
noncomputable def Td.kg1:List Item:=todoAt Tryz.f173 24
noncomputable def Td.kit:List Item:=todoAt Tryz.f175 3
noncomputable def Td.kjx:List Item:=todoAt Tryz.f176 4
noncomputable def Td.knc:List Item:=todoAt Tryz.f177 3
noncomputable def Td.kmz:List Item:=todoAt Tryz.f177 7
noncomputable def Td.kme:List Item:=todoAt Tryz.f178 2
noncomputable def Td.kk9:List Item:=todoAt Tryz.f180 2
noncomputable def Td.kgw:List Item:=todoAt Tryz.f184 2
noncomputable def Td.klm:List Item:=todoAt Tryz.f189 2
noncomputable def Fx.koi:Func:=Tryz.f119
noncomputable def Tr.kuo:List Item:=k2t Tryz.f119 0 (.tmp 6)
noncomputable def Ta.ksd:List Item:=(loopAt Tryz.f119 0).2.2.2
def lit1:ByteArray:=(⟨((List.append (List.append ([0,1,2,2,3,3,3,3,4,4,4,4,4,4,4,4,5,5,5,5,5,5,5,5,5,5,5,5,5,5,5,5,6,6,6,6,6,6,6,6,6,6,6,6,6,6,6,6,6,6,6,6,6,6,6,6,6,6,6,6,6,6,6,6]:List UInt8) ([7,7,7,7,7,7,7,7,7,7,7,7,7,7,7,7,7,7,7,7,7,7,7,7,7,7,7,7,7,7,7,7,7,7,7,7,7,7,7,7,7,7,7,7,7,7,7,7,7,7,7,7,7,7,7,7,7,7,7,7,7,7,7,7]:List UInt8)) (List.append ([8,8,8,8,8,8,8,8,8,8,8,8,8,8,8,8,8,8,8,8,8,8,8,8,8,8,8,8,8,8,8,8,8,8,8,8,8,8,8,8,8,8,8,8,8,8,8,8,8,8,8,8,8,8,8,8,8,8,8,8,8,8,8,8]:List UInt8) ([8,8,8,8,8,8,8,8,8,8,8,8,8,8,8,8,8,8,8,8,8,8,8,8,8,8,8,8,8,8,8,8,8,8,8,8,8,8,8,8,8,8,8,8,8,8,8,8,8,8,8,8,8,8,8,8,8,8,8,8,8,8,8,8]:List UInt8)))).toArray⟩:ByteArray)
theorem k9n(args:List AV)(h:AH):callF Pg go F.kb6 args h=go (.fn F.kb6 args) h:=by kernel_rfl
theorem kbbl(a1 a2 a3 a4 a5 a6 a7 a8:Int)(a9 a10:Sl)(h:AH):go (.fn F.kbg [.agg [.int .i64 a1,.int .i64 a2,.int .i64 a3,.int .i64 a4,.int .i64 a5,.int .i64 a6,.int .i64 a7,.int .i64 a8],a9.v,a10.v]) h =
 newK h (.cells [.int .i64 a1,.int .i64 a2,.int .i64 a3,.int .i64 a4,.int .i64 a5,.int .i64 a6,.int .i64 a7,.int .i64 a8] T.kb0) fun h11r h11 =>
 (go (.fn F.kpm []) h11).bind fun q12 =>
 ((some q12.1).bind AV.asBool).bind fun b13 =>
 ((q12.2.cell (h11r.add 0)).bind (AV.asInt .i64)).bind fun n14 =>
 ((q12.2.cell (h11r.add 1)).bind (AV.asInt .i64)).bind fun n15 =>
 ((q12.2.cell (h11r.add 2)).bind (AV.asInt .i64)).bind fun n16 =>
 ((q12.2.cell (h11r.add 3)).bind (AV.asInt .i64)).bind fun n17 =>
 ((q12.2.cell (h11r.add 4)).bind (AV.asInt .i64)).bind fun n18 =>
 ((q12.2.cell (h11r.add 5)).bind (AV.asInt .i64)).bind fun n19 =>
 ((q12.2.cell (h11r.add 6)).bind (AV.asInt .i64)).bind fun n20 =>
 ((q12.2.cell (h11r.add 7)).bind (AV.asInt .i64)).bind fun n21 =>
 (go (.fn F.kbs [.agg [.int .i64 n14,.int .i64 n15,.int .i64 n16,.int .i64 n17,.int .i64 n18,.int .i64 n19,.int .i64 n20,.int .i64 n21],a9.v]) q12.2).bind fun q22 =>
 ((some q22.1).bind AV.asBool).bind fun b23 =>
 cond (!b13) (
 some (.bool b13,q22.2)) (
 cond (!b23) (
 some (.bool b13,q22.2)) (
 ((q22.2.cell (h11r.add 0)).bind (AV.asInt .i64)).bind fun n24 =>
 ((q22.2.cell (h11r.add 1)).bind (AV.asInt .i64)).bind fun n25 =>
 ((q22.2.cell (h11r.add 2)).bind (AV.asInt .i64)).bind fun n26 =>
 ((q22.2.cell (h11r.add 3)).bind (AV.asInt .i64)).bind fun n27 =>
 ((q22.2.cell (h11r.add 4)).bind (AV.asInt .i64)).bind fun n28 =>
 ((q22.2.cell (h11r.add 5)).bind (AV.asInt .i64)).bind fun n29 =>
 ((q22.2.cell (h11r.add 6)).bind (AV.asInt .i64)).bind fun n30 =>
 ((q22.2.cell (h11r.add 7)).bind (AV.asInt .i64)).bind fun n31 =>
 (go (.fn F.kcl [.agg [.int .i64 n24,.int .i64 n25,.int .i64 n26,.int .i64 n27,.int .i64 n28,.int .i64 n29,.int .i64 n30,.int .i64 n31],a9.v,a10.v]) q22.2).bind fun q32 =>
 (AV.asTup2 q32.1).bind fun p33 =>
 (AV.asAgg p33.1).bind fun cs34 =>
 cond (Nat.beq cs34.length 1) (
 ((cs34[0]?).bind AV.asSl).bind fun l35 =>
 ((some p33.2).bind (AV.asInt .i64)).bind fun n36 =>
 newK q32.2 (.cells [(⟨none,0,.is 0⟩:Sl).v] T.kcz) fun h37r h37 =>
 (h37.puts h37r [l35.v]).bind fun h38 =>
 cond (!decide (n36=0)) (
 cond (decide (n36=1)) (
 some (.bool true,h38)) (
 some (.bool (decide (n36=20)),h38))) (
 go (.pt F.kbg Td.kjl [(1,a9.v),(2,a10.v),(3,.ptr (some h11r)),(9,.ptr (some h37r)),(11,(⟨none,0,.is 0⟩:Sl).v),(12,.int .i64 0)]) h38)) none)):=(ke _ h).trans (by kernel_rfl)
theorem kxm(a1:Nat)(a2:Ref)(h:AH):go (.fn F.kb6 [.func (.yield a1) [] [],.ptr (some a2)]) h =
 ((h.cell (a2.add 1)).bind AV.asSl).bind fun l3 =>
 go (.pt F.kb6 Td.ki5 [(0,.func (.yield a1) [] []),(6,l3.v),(7,.int .i64 (l3.len:Int)),(8,.int .i64 0)]) h:=(ke _ h).trans (by kernel_rfl)
theorem k4k(a1 a2:Sl)(a3:Ref)(h:AH):go (.fn F.kj2 [a1.v,a2.v,.ptr (some a3)]) h =
 cond (decide ((a1.len:Int)<24)) (
 (go (.fn F.kcs [a1.v,a2.v]) h).bind fun q4 =>
 ((some q4.1).bind AV.asSl).bind fun l5 =>
 some (l5.v,q4.2)) (
 cond (decide ((a2.len:Int)<24)) (
 (go (.fn F.kcs [a1.v,a2.v]) h).bind fun q6 =>
 ((some q6.1).bind AV.asSl).bind fun l7 =>
 some (l7.v,q6.2)) (
 newK h (.cells [.int .i64 0] T.int) fun h8r h8 =>
 (h8.puts h8r [.int .i64 (IntKind.wrap .i64 (Int.tdiv (IntKind.wrap .i64 ((imax (a1.len:Int) (a2.len:Int))+1)) 2))]).bind fun h9 =>
 (h9.cell a3).bind fun v10 =>
 (h9.cell a3).bind fun v11 =>
 (go (.fn F.khi [a1.v,.ptr (some h8r)]) h9).bind fun q12 =>
 ((some q12.1).bind AV.asSl).bind fun l13 =>
 whenK (SameAt h9 q12.2 a3 1) (
 whenK (SameAt h9 q12.2 a3 1) (
 (go (.fn F.khi [a2.v,.ptr (some h8r)]) q12.2).bind fun q14 =>
 ((some q14.1).bind AV.asSl).bind fun l15 =>
 whenK (SameAt q12.2 q14.2 a3 1) (
 whenK (SameAt q12.2 q14.2 a3 1) (
 (callV Pg go v10 [l13.v,l15.v] q14.2).bind fun q16 =>
 ((some q16.1).bind AV.asSl).bind fun l17 =>
 whenK (SameAt q14.2 q16.2 a3 1) (
 (go (.fn F.kia [a1.v,.ptr (some h8r)]) q16.2).bind fun q18 =>
 ((some q18.1).bind AV.asSl).bind fun l19 =>
 whenK (SameAt q16.2 q18.2 a3 1) (
 (go (.fn F.kia [a2.v,.ptr (some h8r)]) q18.2).bind fun q20 =>
 ((some q20.1).bind AV.asSl).bind fun l21 =>
 whenK (SameAt q18.2 q20.2 a3 1) (
 (callV Pg go v11 [l19.v,l21.v] q20.2).bind fun q22 =>
 ((some q22.1).bind AV.asSl).bind fun l23 =>
 (q22.2.cell a3).bind fun v24 =>
 (go (.fn F.khi [a1.v,.ptr (some h8r)]) q22.2).bind fun q25 =>
 ((some q25.1).bind AV.asSl).bind fun l26 =>
 whenK (SameAt q22.2 q25.2 a3 1) (
 (go (.fn F.kia [a1.v,.ptr (some h8r)]) q25.2).bind fun q27 =>
 ((some q27.1).bind AV.asSl).bind fun l28 =>
 whenK (SameAt q25.2 q27.2 a3 1) (
 (go (.fn F.kc1 [l26.v,l28.v]) q27.2).bind fun q29 =>
 ((some q29.1).bind AV.asSl).bind fun l30 =>
 whenK (SameAt q27.2 q29.2 a3 1) (
 (go (.fn F.kbr [l30.v]) q29.2).bind fun q31 =>
 ((some q31.1).bind AV.asSl).bind fun l32 =>
 whenK (SameAt q29.2 q31.2 a3 1) (
 (go (.fn F.khi [a2.v,.ptr (some h8r)]) q31.2).bind fun q33 =>
 ((some q33.1).bind AV.asSl).bind fun l34 =>
 whenK (SameAt q31.2 q33.2 a3 1) (
 (go (.fn F.kia [a2.v,.ptr (some h8r)]) q33.2).bind fun q35 =>
 ((some q35.1).bind AV.asSl).bind fun l36 =>
 whenK (SameAt q33.2 q35.2 a3 1) (
 (go (.fn F.kc1 [l34.v,l36.v]) q35.2).bind fun q37 =>
 ((some q37.1).bind AV.asSl).bind fun l38 =>
 whenK (SameAt q35.2 q37.2 a3 1) (
 (go (.fn F.kbr [l38.v]) q37.2).bind fun q39 =>
 ((some q39.1).bind AV.asSl).bind fun l40 =>
 whenK (SameAt q37.2 q39.2 a3 1) (
 (callV Pg go v24 [l32.v,l40.v] q39.2).bind fun q41 =>
 ((some q41.1).bind AV.asSl).bind fun l42 =>
 (go (.fn F.kc5 [l42.v,l17.v]) q41.2).bind fun q43 =>
 ((some q43.1).bind AV.asSl).bind fun l44 =>
 (go (.fn F.kbr [l44.v]) q43.2).bind fun q45 =>
 ((some q45.1).bind AV.asSl).bind fun l46 =>
 (go (.fn F.kc5 [l46.v,l23.v]) q45.2).bind fun q47 =>
 ((some q47.1).bind AV.asSl).bind fun l48 =>
 (go (.fn F.kbr [l48.v]) q47.2).bind fun q49 =>
 ((some q49.1).bind AV.asSl).bind fun l50 =>
 (kb1 (IntKind.wrap .i64 ((IntKind.wrap .i64 ((a1.len:Int)+(a2.len:Int)))+1)) (IntKind.wrap .i64 ((IntKind.wrap .i64 ((a1.len:Int)+(a2.len:Int)))+1)) T.kj (Pg.bytesOf T.kj) [.int .u64 0] q49.2).bind fun q51 =>
 (copyH l17 q51.1 1 q51.2).bind fun h52 =>
 ((h52.cell h8r).bind (AV.asInt .i64)).bind fun n53 =>
 (go (.fn F.kdk [q51.1.v,l50.v,.int .i64 n53]) h52).bind fun q54 =>
 (AV.asTup0 q54.1).bind fun _ =>
 ((q54.2.cell h8r).bind (AV.asInt .i64)).bind fun n55 =>
 (go (.fn F.kdk [q51.1.v,l23.v,.int .i64 (IntKind.wrap .i64 (2*n55))]) q54.2).bind fun q56 =>
 (AV.asTup0 q56.1).bind fun _ =>
 (go (.fn F.kbr [q51.1.v]) q56.2).bind fun q57 =>
 ((some q57.1).bind AV.asSl).bind fun l58 =>
 some (l58.v,q57.2)))))))))))))))))):=(ke _ h).trans (by kernel_rfl)
theorem k65  (h:AH):go (.fn F.kpm []) h =
 newK h (.cells [.int .i64 0,.int .i64 1,.int .i64 2,.int .i64 3] T.int) fun h1r h1 =>
 newK h1 (.cells [.int .i64 2] T.int) fun h2r h2 =>
 newK h2 (.cells [.int .i64 0,.int .i64 0,.int .i64 1,.int .i64 1] T.int) fun h3r h3 =>
 newK h3 (.cells [(⟨some h3r,4,.is 4⟩:Sl).v] T.kbm) fun h4r h4 =>
 newK h4 (.cells [(⟨none,0,.is 0⟩:Sl).v,(⟨none,0,.is 0⟩:Sl).v,(⟨none,0,.is 0⟩:Sl).v] T.kbi) fun h5r h5 =>
 (h5.puts h5r [(⟨some h1r,4,.is 4⟩:Sl).v,(⟨some h2r,1,.is 1⟩:Sl).v,(⟨some h4r,1,.is 1⟩:Sl).v]).bind fun h6 =>
 ((h6.cell (h5r.add 0)).bind AV.asSl).bind fun l7 =>
 ((h6.cell (h5r.add 1)).bind AV.asSl).bind fun l8 =>
 ((h6.cell (h5r.add 2)).bind AV.asSl).bind fun l9 =>
 newK h6 (.cells [l7.v,l8.v,l9.v] T.kbi) fun h10r h10 =>
 newK h10 (.cells [.int .i64 10,.int .i64 10,.int .i64 (-10),.int .i64 (-10)] T.int) fun h11r h11 =>
 (go (.fn F.kcl [.agg [.int .i64 1,.int .i64 1,.int .i64 1,.int .i64 0,.int .i64 1,.int .i64 1,.int .i64 0,.int .i64 0],(⟨some h10r,1,.is 1⟩:Sl).v,(⟨some h11r,4,.is 4⟩:Sl).v]) h11).bind fun q12 =>
 (AV.asTup2 q12.1).bind fun p13 =>
 (AV.asAgg p13.1).bind fun cs14 =>
 cond (Nat.beq cs14.length 1) (
 ((cs14[0]?).bind AV.asSl).bind fun l15 =>
 ((some p13.2).bind (AV.asInt .i64)).bind fun n16 =>
 newK q12.2 (.cells [(⟨none,0,.is 0⟩:Sl).v] T.kcz) fun h17r h17 =>
 (h17.puts h17r [l15.v]).bind fun h18 =>
 cond (!decide (n16=0)) (
 some (.bool false,h18)) (
 ((h18.cell (h17r.add 0)).bind AV.asSl).bind fun l19 =>
 cond (!decide ((l19.len:Int)=1)) (
 some (.bool false,h18)) (
 ((h18.cell (h17r.add 0)).bind AV.asSl).bind fun l20 =>
 (idx l20.ref l20.len 0 1).bind fun r21 =>
 ((h18.cell (r21.add 0)).bind AV.asSl).bind fun l22 =>
 cond (!decide ((l22.len:Int)=3)) (
 some (.bool false,h18)) (
 ((h18.cell (h17r.add 0)).bind AV.asSl).bind fun l23 =>
 (idx l23.ref l23.len 0 1).bind fun r24 =>
 ((h18.cell (r24.add 0)).bind AV.asSl).bind fun l25 =>
 (idx l25.ref l25.len 0 7).bind fun r26 =>
 ((h18.cell (r26.add 0)).bind AV.asBool).bind fun b27 =>
 cond (!b27) (
 (idx l25.ref l25.len 1 7).bind fun r28 =>
 ((h18.cell (r28.add 1)).bind (AV.asInt .i64)).bind fun n29 =>
 cond (decide (n29=6)) (
 (idx l25.ref l25.len 2 7).bind fun r30 =>
 ((h18.cell (r30.add 1)).bind (AV.asInt .i64)).bind fun n31 =>
 some (.bool (decide (n31=(-7))),h18)) (
 some (.bool false,h18))) (
 some (.bool false,h18)))))) none:=(ke _ h).trans (by kernel_rfl)
theorem k0u(a1 a2 a3 a4 a5 a6 a7 a8:Int)(a9:Sl)(h:AH):go (.fn F.kbs [.agg [.int .i64 a1,.int .i64 a2,.int .i64 a3,.int .i64 a4,.int .i64 a5,.int .i64 a6,.int .i64 a7,.int .i64 a8],a9.v]) h =
 newK h (.cells [.int .i64 a1,.int .i64 a2,.int .i64 a3,.int .i64 a4,.int .i64 a5,.int .i64 a6,.int .i64 a7,.int .i64 a8] T.kb0) fun h10r h10 =>
 go (.pt F.kbs Td.kf4 [(1,a9.v),(2,.ptr (some h10r)),(5,.int .i64 0),(6,.int .i64 0),(7,.int .i64 0)]) h10:=(ke _ h).trans (by kernel_rfl)
theorem k5v(a1 a2 a3 a4 a5 a6 a7 a8:Int)(a9 a10:Sl)(h:AH):go (.fn F.kcl [.agg [.int .i64 a1,.int .i64 a2,.int .i64 a3,.int .i64 a4,.int .i64 a5,.int .i64 a6,.int .i64 a7,.int .i64 a8],a9.v,a10.v]) h =
 newK h (.cells [.int .i64 a1,.int .i64 a2,.int .i64 a3,.int .i64 a4,.int .i64 a5,.int .i64 a6,.int .i64 a7,.int .i64 a8] T.kb0) fun h11r h11 =>
 newK h11 (.cells [(⟨none,0,.is 0⟩:Sl).v] T.kcz) fun h12r h12 =>
 ((h12.cell (h11r.add 0)).bind (AV.asInt .i64)).bind fun n13 =>
 ((h12.cell (h11r.add 1)).bind (AV.asInt .i64)).bind fun n14 =>
 ((h12.cell (h11r.add 2)).bind (AV.asInt .i64)).bind fun n15 =>
 ((h12.cell (h11r.add 3)).bind (AV.asInt .i64)).bind fun n16 =>
 ((h12.cell (h11r.add 4)).bind (AV.asInt .i64)).bind fun n17 =>
 ((h12.cell (h11r.add 5)).bind (AV.asInt .i64)).bind fun n18 =>
 ((h12.cell (h11r.add 6)).bind (AV.asInt .i64)).bind fun n19 =>
 ((h12.cell (h11r.add 7)).bind (AV.asInt .i64)).bind fun n20 =>
 (go (.fn F.kf0 [.agg [.int .i64 n13,.int .i64 n14,.int .i64 n15,.int .i64 n16,.int .i64 n17,.int .i64 n18,.int .i64 n19,.int .i64 n20],a9.v,a10.v]) h12).bind fun q21 =>
 ((some q21.1).bind (AV.asInt .i64)).bind fun n22 =>
 cond (!decide (n22=0)) (
 (q21.2.puts h12r [(⟨none,0,.is 0⟩:Sl).v]).bind fun h23 =>
 ((h23.cell (h12r.add 0)).bind AV.asSl).bind fun l24 =>
 some (.tup [.agg [l24.v],.int .i64 n22],h23)) (
 (kb1 (a10.len:Int) (a10.len:Int) T.int (Pg.bytesOf T.int) [.int .i64 0] q21.2).bind fun q25 =>
 newK q25.2 (.cells [(⟨none,0,.is 0⟩:Sl).v] T.kcz) fun h26r h26 =>
 ((h26.cell (h11r.add 0)).bind (AV.asInt .i64)).bind fun n27 =>
 go (.pt F.kcl Td.km1 [(1,a9.v),(2,a10.v),(3,.ptr (some h11r)),(6,.ptr (some h12r)),(9,q25.1.v),(10,.ptr (some h26r)),(26,.int .i64 n27),(27,.int .i64 0)]) h26):=(ke _ h).trans (by kernel_rfl)
theorem kzv(a1 a2:Sl)(h:AH):go (.fn F.kc8 [.agg [a1.v],.agg [a2.v]]) h =
 newK h (.cells [a1.v] T.kcz) fun h3r h3 =>
 newK h3 (.cells [a2.v] T.kcz) fun h4r h4 =>
 ((h4.cell (h3r.add 0)).bind AV.asSl).bind fun l5 =>
 ((h4.cell (h4r.add 0)).bind AV.asSl).bind fun l6 =>
 cond (!decide ((l5.len:Int)=(l6.len:Int))) (
 some (.bool false,h4)) (
 go (.pt F.kc8 Td.kjj [(2,.ptr (some h3r)),(3,.ptr (some h4r)),(5,.int .i64 0)]) h4):=(ke _ h).trans (by kernel_rfl)
theorem kwx(a1 a2:Sl)(a3 a4:Ref)(a5:Sl)(a6:Int)(h:AH):go (.pt F.kbg Td.kjl [(1,a1.v),(2,a2.v),(3,.ptr (some a3)),(9,.ptr (some a4)),(11,a5.v),(12,.int .i64 a6)]) h =
 cond (decide (a6<(a1.len:Int))) (
 (idx a1.ref a1.len a6 3).bind fun r7 =>
 ((h.cell (r7.add 1)).bind AV.asSl).bind fun l8 =>
 newK h (.cells [(⟨none,0,.is 0⟩:Sl).v,(⟨none,0,.is 0⟩:Sl).v,(⟨none,0,.is 0⟩:Sl).v] T.kbi) fun h9r h9 =>
 (h9.puts h9r [(⟨none,0,.is 0⟩:Sl).v,l8.v,(⟨none,0,.is 0⟩:Sl).v]).bind fun h10 =>
 go (.pt F.kbg Td.knk [(1,a1.v),(2,a2.v),(3,.ptr (some a3)),(9,.ptr (some a4)),(11,a5.v),(12,.int .i64 a6),(13,.ptr (some h9r)),(14,.int .i64 (IntKind.wrap .i64 ((a2.len:Int)-1)))]) h10) (
 go (.pt F.kbg Td.khj [(2,a2.v),(3,.ptr (some a3)),(9,.ptr (some a4)),(11,a5.v),(18,(⟨none,0,.is 0⟩:Sl).v),(19,.int .i64 (IntKind.wrap .i64 ((a2.len:Int)-1)))]) h):=(ke _ h).trans (by kernel_rfl)
theorem kvt(a1:Nat)(a2:Sl)(a3 a4:Int)(h:AH):go (.pt F.kb6 Td.ki5 [(0,.func (.yield a1) [] []),(6,a2.v),(7,.int .i64 a3),(8,.int .i64 a4)]) h =
 cond (decide (a4<a3)) (
 (idx a2.ref a2.len a4 1).bind fun r5 =>
 ((h.cell r5).bind (AV.asInt .u64)).bind fun n6 =>
 go (.pt F.kb6 Td.kl6 [(0,.func (.yield a1) [] []),(3,.int .i64 a4),(4,.int .u64 n6),(6,a2.v),(7,.int .i64 a3),(8,.int .i64 a4)]) h) (
 some (.tup [],h)):=(ke _ h).trans (by kernel_rfl)
theorem kbbr(a1 a2:Sl)(h:AH):go (.fn F.kcs [a1.v,a2.v]) h =
 (kb1 (IntKind.wrap .i64 ((a1.len:Int)+(a2.len:Int))) (IntKind.wrap .i64 ((a1.len:Int)+(a2.len:Int))) T.kj (Pg.bytesOf T.kj) [.int .u64 0] h).bind fun q3 =>
 go (.pt F.kcs Td.knc [(1,a2.v),(5,q3.1.v),(20,a1.v),(21,.int .i64 (a1.len:Int)),(22,.int .i64 0)]) q3.2:=(ke _ h).trans (by kernel_rfl)
theorem k68(a1:Sl)(a2:Ref)(h:AH):go (.fn F.khi [a1.v,.ptr (some a2)]) h =
 ((h.cell a2).bind (AV.asInt .i64)).bind fun n3 =>
 (cutSl a1 0 (imin n3 (a1.len:Int)) 1).bind fun l4 =>
 (go (.fn F.kbr [l4.v]) h).bind fun q5 =>
 ((some q5.1).bind AV.asSl).bind fun l6 =>
 some (l6.v,q5.2):=(ke _ h).trans (by kernel_rfl)
theorem kxl(a1:Sl)(a2:Ref)(h:AH):go (.fn F.kia [a1.v,.ptr (some a2)]) h =
 ((h.cell a2).bind (AV.asInt .i64)).bind fun n3 =>
 (cutSl a1 (imin n3 (a1.len:Int)) (a1.len:Int) 1).bind fun l4 =>
 some (l4.v,h):=(ke _ h).trans (by kernel_rfl)
theorem k6a(a1 a2:Sl)(h:AH):go (.fn F.kc1 [a1.v,a2.v]) h =
 cond (decide ((a1.len:Int)<(a2.len:Int))) (
 (kb1 (IntKind.wrap .i64 ((a2.len:Int)+1)) (IntKind.wrap .i64 ((a2.len:Int)+1)) T.kj (Pg.bytesOf T.kj) [.int .u64 0] h).bind fun q3 =>
 go (.pt F.kc1 Td.kfy [(0,a2.v),(1,a1.v),(5,q3.1.v),(6,.int .u64 0),(21,.int .i64 (a2.len:Int)),(22,.int .i64 0)]) q3.2) (
 (kb1 (IntKind.wrap .i64 ((a1.len:Int)+1)) (IntKind.wrap .i64 ((a1.len:Int)+1)) T.kj (Pg.bytesOf T.kj) [.int .u64 0] h).bind fun q4 =>
 go (.pt F.kc1 Td.kfy [(0,a1.v),(1,a2.v),(5,q4.1.v),(6,.int .u64 0),(21,.int .i64 (a1.len:Int)),(22,.int .i64 0)]) q4.2):=(ke _ h).trans (by kernel_rfl)
theorem kpl(a1:Sl)(h:AH):go (.fn F.kbr [a1.v]) h =
 go (.pt F.kbr Td.kkk [(0,a1.v),(3,.int .i64 (a1.len:Int))]) h:=(ke _ h).trans (by kernel_rfl)
theorem k1y(a1 a2:Sl)(h:AH):go (.fn F.kc5 [a1.v,a2.v]) h =
 (kb1 (a1.len:Int) (a1.len:Int) T.kj (Pg.bytesOf T.kj) [.int .u64 0] h).bind fun q3 =>
 go (.pt F.kc5 Td.khl [(0,a1.v),(1,a2.v),(5,q3.1.v),(6,.int .u64 0),(13,.int .i64 (a1.len:Int)),(14,.int .i64 0)]) q3.2:=(ke _ h).trans (by kernel_rfl)
theorem k49(a1 a2:Sl)(a3:Int)(h:AH):go (.fn F.kdk [a1.v,a2.v,.int .i64 a3]) h =
 go (.pt F.kdk Td.kgw [(0,a1.v),(1,a2.v),(2,.int .i64 a3),(6,.int .u64 0),(7,.int .i64 a3)]) h:=(ke _ h).trans (by kernel_rfl)
theorem kwj(a1:Sl)(a2:Ref)(a3 a4 a5:Int)(h:AH):go (.pt F.kbs Td.kf4 [(1,a1.v),(2,.ptr (some a2)),(5,.int .i64 a3),(6,.int .i64 a4),(7,.int .i64 a5)]) h =
 cond (decide (a5<(a1.len:Int))) (
 cond (decide (a5<20)) (
 (idx a1.ref a1.len a5 3).bind fun r6 =>
 ((h.cell (r6.add 0)).bind AV.asSl).bind fun l7 =>
 (idx a1.ref a1.len a5 3).bind fun r8 =>
 ((h.cell (r8.add 2)).bind AV.asSl).bind fun l9 =>
 go (.pt F.kbs Td.kik [(1,a1.v),(2,.ptr (some a2)),(5,.int .i64 (IntKind.wrap .i64 (a3+(IntKind.wrap .i64 ((l7.len:Int)*(IntKind.wrap .i64 ((l9.len:Int)+1))))))),(6,.int .i64 a4),(7,.int .i64 a5),(8,.int .i64 0)]) h) (
 go (.pt F.kbs Td.kj3 [(2,.ptr (some a2)),(5,.int .i64 a3),(9,.int .i64 a4),(10,.int .i64 0)]) h)) (
 go (.pt F.kbs Td.kj3 [(2,.ptr (some a2)),(5,.int .i64 a3),(9,.int .i64 a4),(10,.int .i64 0)]) h):=(ke _ h).trans (by kernel_rfl)
theorem k1h(a1 a2 a3 a4 a5 a6 a7 a8:Int)(a9 a10:Sl)(h:AH):go (.fn F.kf0 [.agg [.int .i64 a1,.int .i64 a2,.int .i64 a3,.int .i64 a4,.int .i64 a5,.int .i64 a6,.int .i64 a7,.int .i64 a8],a9.v,a10.v]) h =
 newK h (.cells [.int .i64 a1,.int .i64 a2,.int .i64 a3,.int .i64 a4,.int .i64 a5,.int .i64 a6,.int .i64 a7,.int .i64 a8] T.kb0) fun h11r h11 =>
 ((h11.cell (h11r.add 0)).bind (AV.asInt .i64)).bind fun n12 =>
 ((h11.cell (h11r.add 1)).bind (AV.asInt .i64)).bind fun n13 =>
 ((h11.cell (h11r.add 2)).bind (AV.asInt .i64)).bind fun n14 =>
 ((h11.cell (h11r.add 3)).bind (AV.asInt .i64)).bind fun n15 =>
 ((h11.cell (h11r.add 4)).bind (AV.asInt .i64)).bind fun n16 =>
 ((h11.cell (h11r.add 5)).bind (AV.asInt .i64)).bind fun n17 =>
 ((h11.cell (h11r.add 6)).bind (AV.asInt .i64)).bind fun n18 =>
 ((h11.cell (h11r.add 7)).bind (AV.asInt .i64)).bind fun n19 =>
 (go (.fn F.kif [.agg [.int .i64 n12,.int .i64 n13,.int .i64 n14,.int .i64 n15,.int .i64 n16,.int .i64 n17,.int .i64 n18,.int .i64 n19]]) h11).bind fun q20 =>
 ((some q20.1).bind AV.asBool).bind fun b21 =>
 cond (!b21) (
 some (.int .i64 1,q20.2)) (
 cond (decide ((a9.len:Int)=0)) (
 some (.int .i64 1,q20.2)) (
 cond (decide ((a9.len:Int)>16)) (
 some (.int .i64 1,q20.2)) (
 go (.pt F.kf0 Td.kko [(1,a9.v),(2,a10.v),(23,a9.v),(24,.int .i64 (a9.len:Int)),(25,.int .i64 0)]) q20.2))):=(ke _ h).trans (by kernel_rfl)
theorem kug(a1 a2:Sl)(a3 a4:Ref)(a5:Sl)(a6:Ref)(a7 a8:Int)(h:AH):go (.pt F.kcl Td.km1 [(1,a1.v),(2,a2.v),(3,.ptr (some a3)),(6,.ptr (some a4)),(9,a5.v),(10,.ptr (some a6)),(26,.int .i64 a7),(27,.int .i64 a8)]) h =
 cond (decide (a8<a7)) (
 (kb1 (a2.len:Int) (a2.len:Int) T.int (Pg.bytesOf T.int) [.int .i64 0] h).bind fun q9 =>
 go (.pt F.kcl Td.kjf [(1,a1.v),(2,a2.v),(3,.ptr (some a3)),(6,.ptr (some a4)),(9,a5.v),(10,.ptr (some a6)),(11,q9.1.v),(26,.int .i64 a7),(27,.int .i64 a8),(32,a2.v),(33,.int .i64 (a2.len:Int)),(34,.int .i64 0)]) q9.2) (
 ((h.cell (a6.add 0)).bind AV.asSl).bind fun l10 =>
 (h.puts a4 [l10.v]).bind fun h11 =>
 ((h11.cell (a4.add 0)).bind AV.asSl).bind fun l12 =>
 some (.tup [.agg [l12.v],.int .i64 0],h11)):=(ke _ h).trans (by kernel_rfl)
theorem ktm(a1 a2:Ref)(a3:Int)(h:AH):go (.pt F.kc8 Td.kjj [(2,.ptr (some a1)),(3,.ptr (some a2)),(5,.int .i64 a3)]) h =
 ((h.cell (a1.add 0)).bind AV.asSl).bind fun l4 =>
 cond (decide (a3<(l4.len:Int))) (
 ((h.cell (a1.add 0)).bind AV.asSl).bind fun l5 =>
 (idx l5.ref l5.len a3 1).bind fun r6 =>
 ((h.cell (r6.add 0)).bind AV.asSl).bind fun l7 =>
 ((h.cell (a2.add 0)).bind AV.asSl).bind fun l8 =>
 (idx l8.ref l8.len a3 1).bind fun r9 =>
 ((h.cell (r9.add 0)).bind AV.asSl).bind fun l10 =>
 cond (!decide ((l7.len:Int)=(l10.len:Int))) (
 some (.bool false,h)) (
 go (.pt F.kc8 Td.kmb [(2,.ptr (some a1)),(3,.ptr (some a2)),(5,.int .i64 a3),(6,.int .i64 0)]) h)) (
 some (.bool true,h)):=(ke _ h).trans (by kernel_rfl)
theorem ksk(a1 a2:Sl)(a3 a4:Ref)(a5:Sl)(a6:Int)(a7:Ref)(a8:Int)(h:AH):go (.pt F.kbg Td.knk [(1,a1.v),(2,a2.v),(3,.ptr (some a3)),(9,.ptr (some a4)),(11,a5.v),(12,.int .i64 a6),(13,.ptr (some a7)),(14,.int .i64 a8)]) h =
 cond (decide (a8≥0)) (
 ((h.cell (a7.add 0)).bind AV.asSl).bind fun l9 =>
 (idx a1.ref a1.len a6 3).bind fun r10 =>
 ((h.cell (r10.add 0)).bind AV.asSl).bind fun l11 =>
 (idx l11.ref l11.len a8 1).bind fun r12 =>
 ((h.cell r12).bind (AV.asInt .i64)).bind fun n13 =>
 newK h (.cells [.int .i64 n13] T.int) fun h14r h14 =>
 whenK (SameAt h h14 (a7.add 0) 1) (
 (kb3 Pg T.int ((⟨some h14r,1,.is 1⟩:Sl).v) h14).bind fun p16 =>
 (kx Pg l9 p16.1 p16.2 T.int 1 h14).bind fun q15 =>
 (AV.asSl q15.1).bind fun l17 =>
 (q15.2.puts (a7.add 0) [l17.v]).bind fun h18 =>
 go (.pt F.kbg Td.knk [(1,a1.v),(2,a2.v),(3,.ptr (some a3)),(9,.ptr (some a4)),(11,a5.v),(12,.int .i64 a6),(13,.ptr (some a7)),(14,.int .i64 (IntKind.wrap .i64 (a8-1)))]) h18)) (
 go (.pt F.kbg Td.kie [(1,a1.v),(2,a2.v),(3,.ptr (some a3)),(9,.ptr (some a4)),(11,a5.v),(12,.int .i64 a6),(13,.ptr (some a7)),(15,.int .i64 0)]) h):=(ke _ h).trans (by kernel_rfl)
theorem krt(a1:Sl)(a2 a3:Ref)(a4 a5:Sl)(a6:Int)(h:AH):go (.pt F.kbg Td.khj [(2,a1.v),(3,.ptr (some a2)),(9,.ptr (some a3)),(11,a4.v),(18,a5.v),(19,.int .i64 a6)]) h =
 cond (decide (a6≥0)) (
 (idx a1.ref a1.len a6 1).bind fun r7 =>
 ((h.cell r7).bind (AV.asInt .i64)).bind fun n8 =>
 newK h (.cells [.int .i64 n8] T.int) fun h9r h9 =>
 (kb3 Pg T.int ((⟨some h9r,1,.is 1⟩:Sl).v) h9).bind fun p11 =>
 (kx Pg a5 p11.1 p11.2 T.int 1 h9).bind fun q10 =>
 (AV.asSl q10.1).bind fun l12 =>
 go (.pt F.kbg Td.khj [(2,a1.v),(3,.ptr (some a2)),(9,.ptr (some a3)),(11,a4.v),(18,l12.v),(19,.int .i64 (IntKind.wrap .i64 (a6-1)))]) q10.2) (
 ((h.cell (a2.add 0)).bind (AV.asInt .i64)).bind fun n13 =>
 ((h.cell (a2.add 1)).bind (AV.asInt .i64)).bind fun n14 =>
 ((h.cell (a2.add 2)).bind (AV.asInt .i64)).bind fun n15 =>
 ((h.cell (a2.add 3)).bind (AV.asInt .i64)).bind fun n16 =>
 ((h.cell (a2.add 4)).bind (AV.asInt .i64)).bind fun n17 =>
 ((h.cell (a2.add 5)).bind (AV.asInt .i64)).bind fun n18 =>
 ((h.cell (a2.add 6)).bind (AV.asInt .i64)).bind fun n19 =>
 ((h.cell (a2.add 7)).bind (AV.asInt .i64)).bind fun n20 =>
 (go (.fn F.kcl [.agg [.int .i64 n13,.int .i64 n14,.int .i64 n15,.int .i64 n16,.int .i64 n17,.int .i64 n18,.int .i64 n19,.int .i64 n20],a4.v,a5.v]) h).bind fun q21 =>
 (AV.asTup2 q21.1).bind fun p22 =>
 (AV.asAgg p22.1).bind fun cs23 =>
 cond (Nat.beq cs23.length 1) (
 ((cs23[0]?).bind AV.asSl).bind fun l24 =>
 ((some p22.2).bind (AV.asInt .i64)).bind fun n25 =>
 newK q21.2 (.cells [(⟨none,0,.is 0⟩:Sl).v] T.kcz) fun h26r h26 =>
 (h26.puts h26r [l24.v]).bind fun h27 =>
 ((h27.cell (a3.add 0)).bind AV.asSl).bind fun l28 =>
 ((h27.cell (h26r.add 0)).bind AV.asSl).bind fun l29 =>
 (go (.fn F.kc8 [.agg [l28.v],.agg [l29.v]]) h27).bind fun q30 =>
 ((some q30.1).bind AV.asBool).bind fun b31 =>
 cond (decide (n25=0)) (
 some (.bool b31,q30.2)) (
 some (.bool false,q30.2))) none):=(ke _ h).trans (by kernel_rfl)
theorem kro(a1:Nat)(a2 a3:Int)(a4:Sl)(a5 a6:Int)(h:AH):go (.pt F.kb6 Td.kl6 [(0,.func (.yield a1) [] []),(3,.int .i64 a2),(4,.int .u64 a3),(6,a4.v),(7,.int .i64 a5),(8,.int .i64 a6)]) h =
 cond (!decide (a3=0)) (
 (go (.fn F.knz [.int .u64 a3]) h).bind fun q7 =>
 ((some q7.1).bind (AV.asInt .i64)).bind fun n8 =>
 (go (.round a1 [.int .i64 (IntKind.wrap .i64 ((IntKind.wrap .i64 (64*a2))+n8))]) q7.2).bind fun q9 =>
 ((some q9.1).bind AV.asBool).bind fun b10 =>
 cond (!b10) (
 some (.tup [],q9.2)) (
 go (.pt F.kb6 Td.kl6 [(0,.func (.yield a1) [] []),(3,.int .i64 a2),(4,.int .u64 (iand .u64 a3 (IntKind.wrap .u64 (a3-1)))),(6,a4.v),(7,.int .i64 a5),(8,.int .i64 a6)]) q9.2)) (
 go (.pt F.kb6 Td.ki5 [(0,.func (.yield a1) [] []),(6,a4.v),(7,.int .i64 a5),(8,.int .i64 (IntKind.wrap .i64 (a6+1)))]) h):=(ke _ h).trans (by kernel_rfl)
theorem k8g(a1 a2 a3:Sl)(a4 a5:Int)(h:AH):go (.pt F.kcs Td.knc [(1,a1.v),(5,a2.v),(20,a3.v),(21,.int .i64 a4),(22,.int .i64 a5)]) h =
 cond (decide (a5<a4)) (
 (idx a3.ref a3.len a5 1).bind fun r6 =>
 ((h.cell r6).bind (AV.asInt .u64)).bind fun n7 =>
 go (.pt F.kcs Td.kmz [(1,a1.v),(5,a2.v),(6,.int .i64 a5),(7,.int .u64 n7),(8,.int .u64 0),(20,a3.v),(21,.int .i64 a4),(22,.int .i64 a5),(27,a1.v),(28,.int .i64 (a1.len:Int)),(29,.int .i64 0)]) h) (
 (go (.fn F.kbr [a2.v]) h).bind fun q8 =>
 ((some q8.1).bind AV.asSl).bind fun l9 =>
 some (l9.v,q8.2)):=(ke _ h).trans (by kernel_rfl)
theorem ktv(a1 a2 a3:Sl)(a4 a5 a6:Int)(h:AH):go (.pt F.kc1 Td.kfy [(0,a1.v),(1,a2.v),(5,a3.v),(6,.int .u64 a4),(21,.int .i64 a5),(22,.int .i64 a6)]) h =
 cond (decide (a6<a5)) (
 cond (decide (a6<(a2.len:Int))) (
 (idx a2.ref a2.len a6 1).bind fun r7 =>
 ((h.cell r7).bind (AV.asInt .u64)).bind fun n8 =>
 (idx a1.ref a1.len a6 1).bind fun r9 =>
 ((h.cell r9).bind (AV.asInt .u64)).bind fun n10 =>
 ((prim "math/bits.Add64" [.int .u64 n10,.int .u64 n8,.int .u64 a4]).map fun v=>(v,h)).bind fun q11 =>
 (AV.asTup2 q11.1).bind fun p12 =>
 ((some p12.1).bind (AV.asInt .u64)).bind fun n13 =>
 ((some p12.2).bind (AV.asInt .u64)).bind fun n14 =>
 (idx a3.ref a3.len a6 1).bind fun r15 =>
 (q11.2.puts r15 [.int .u64 n13]).bind fun h16 =>
 go (.pt F.kc1 Td.kfy [(0,a1.v),(1,a2.v),(5,a3.v),(6,.int .u64 n14),(21,.int .i64 a5),(22,.int .i64 (IntKind.wrap .i64 (a6+1)))]) h16) (
 (idx a1.ref a1.len a6 1).bind fun r17 =>
 ((h.cell r17).bind (AV.asInt .u64)).bind fun n18 =>
 ((prim "math/bits.Add64" [.int .u64 n18,.int .u64 0,.int .u64 a4]).map fun v=>(v,h)).bind fun q19 =>
 (AV.asTup2 q19.1).bind fun p20 =>
 ((some p20.1).bind (AV.asInt .u64)).bind fun n21 =>
 ((some p20.2).bind (AV.asInt .u64)).bind fun n22 =>
 (idx a3.ref a3.len a6 1).bind fun r23 =>
 (q19.2.puts r23 [.int .u64 n21]).bind fun h24 =>
 go (.pt F.kc1 Td.kfy [(0,a1.v),(1,a2.v),(5,a3.v),(6,.int .u64 n22),(21,.int .i64 a5),(22,.int .i64 (IntKind.wrap .i64 (a6+1)))]) h24)) (
 (idx a3.ref a3.len (a1.len:Int) 1).bind fun r25 =>
 (h.puts r25 [.int .u64 a4]).bind fun h26 =>
 some (a3.v,h26)):=(ke _ h).trans (by kernel_rfl)
theorem kk7(a1:Sl)(a2:Int)(h:AH):go (.pt F.kbr Td.kkk [(0,a1.v),(3,.int .i64 a2)]) h =
 cond (decide (a2>0)) (
 (idx a1.ref a1.len (IntKind.wrap .i64 (a2-1)) 1).bind fun r3 =>
 ((h.cell r3).bind (AV.asInt .u64)).bind fun n4 =>
 cond (decide (n4=0)) (
 go (.pt F.kbr Td.kkk [(0,a1.v),(3,.int .i64 (IntKind.wrap .i64 (a2-1)))]) h) (
 (cutSl a1 0 a2 1).bind fun l5 =>
 some (l5.v,h))) (
 (cutSl a1 0 a2 1).bind fun l6 =>
 some (l6.v,h)):=(ke _ h).trans (by kernel_rfl)
theorem ks9(a1 a2 a3:Sl)(a4 a5 a6:Int)(h:AH):go (.pt F.kc5 Td.khl [(0,a1.v),(1,a2.v),(5,a3.v),(6,.int .u64 a4),(13,.int .i64 a5),(14,.int .i64 a6)]) h =
 cond (decide (a6<a5)) (
 cond (decide (a6<(a2.len:Int))) (
 (idx a2.ref a2.len a6 1).bind fun r7 =>
 ((h.cell r7).bind (AV.asInt .u64)).bind fun n8 =>
 (idx a1.ref a1.len a6 1).bind fun r9 =>
 ((h.cell r9).bind (AV.asInt .u64)).bind fun n10 =>
 ((prim "math/bits.Sub64" [.int .u64 n10,.int .u64 n8,.int .u64 a4]).map fun v=>(v,h)).bind fun q11 =>
 (AV.asTup2 q11.1).bind fun p12 =>
 ((some p12.1).bind (AV.asInt .u64)).bind fun n13 =>
 ((some p12.2).bind (AV.asInt .u64)).bind fun n14 =>
 (idx a3.ref a3.len a6 1).bind fun r15 =>
 (q11.2.puts r15 [.int .u64 n13]).bind fun h16 =>
 go (.pt F.kc5 Td.khl [(0,a1.v),(1,a2.v),(5,a3.v),(6,.int .u64 n14),(13,.int .i64 a5),(14,.int .i64 (IntKind.wrap .i64 (a6+1)))]) h16) (
 (idx a1.ref a1.len a6 1).bind fun r17 =>
 ((h.cell r17).bind (AV.asInt .u64)).bind fun n18 =>
 ((prim "math/bits.Sub64" [.int .u64 n18,.int .u64 0,.int .u64 a4]).map fun v=>(v,h)).bind fun q19 =>
 (AV.asTup2 q19.1).bind fun p20 =>
 ((some p20.1).bind (AV.asInt .u64)).bind fun n21 =>
 ((some p20.2).bind (AV.asInt .u64)).bind fun n22 =>
 (idx a3.ref a3.len a6 1).bind fun r23 =>
 (q19.2.puts r23 [.int .u64 n21]).bind fun h24 =>
 go (.pt F.kc5 Td.khl [(0,a1.v),(1,a2.v),(5,a3.v),(6,.int .u64 n22),(13,.int .i64 a5),(14,.int .i64 (IntKind.wrap .i64 (a6+1)))]) h24)) (
 some (a3.v,h)):=(ke _ h).trans (by kernel_rfl)
theorem kbbm(a1 a2:Sl)(a3 a4 a5:Int)(h:AH):go (.pt F.kdk Td.kgw [(0,a1.v),(1,a2.v),(2,.int .i64 a3),(6,.int .u64 a4),(7,.int .i64 a5)]) h =
 cond (decide (a5<(a1.len:Int))) (
 cond (decide ((IntKind.wrap .i64 (a5-a3))<(a2.len:Int))) (
 cond (decide ((IntKind.wrap .i64 (a5-a3))<(a2.len:Int))) (
 (idx a2.ref a2.len (IntKind.wrap .i64 (a5-a3)) 1).bind fun r6 =>
 ((h.cell r6).bind (AV.asInt .u64)).bind fun n7 =>
 (idx a1.ref a1.len a5 1).bind fun r8 =>
 ((h.cell r8).bind (AV.asInt .u64)).bind fun n9 =>
 ((prim "math/bits.Add64" [.int .u64 n9,.int .u64 n7,.int .u64 a4]).map fun v=>(v,h)).bind fun q10 =>
 (AV.asTup2 q10.1).bind fun p11 =>
 ((some p11.1).bind (AV.asInt .u64)).bind fun n12 =>
 ((some p11.2).bind (AV.asInt .u64)).bind fun n13 =>
 (idx a1.ref a1.len a5 1).bind fun r14 =>
 (q10.2.puts r14 [.int .u64 n12]).bind fun h15 =>
 go (.pt F.kdk Td.kgw [(0,a1.v),(1,a2.v),(2,.int .i64 a3),(6,.int .u64 n13),(7,.int .i64 (IntKind.wrap .i64 (a5+1)))]) h15) (
 (idx a1.ref a1.len a5 1).bind fun r16 =>
 ((h.cell r16).bind (AV.asInt .u64)).bind fun n17 =>
 ((prim "math/bits.Add64" [.int .u64 n17,.int .u64 0,.int .u64 a4]).map fun v=>(v,h)).bind fun q18 =>
 (AV.asTup2 q18.1).bind fun p19 =>
 ((some p19.1).bind (AV.asInt .u64)).bind fun n20 =>
 ((some p19.2).bind (AV.asInt .u64)).bind fun n21 =>
 (idx a1.ref a1.len a5 1).bind fun r22 =>
 (q18.2.puts r22 [.int .u64 n20]).bind fun h23 =>
 go (.pt F.kdk Td.kgw [(0,a1.v),(1,a2.v),(2,.int .i64 a3),(6,.int .u64 n21),(7,.int .i64 (IntKind.wrap .i64 (a5+1)))]) h23)) (
 cond (decide (a4>0)) (
 cond (decide ((IntKind.wrap .i64 (a5-a3))<(a2.len:Int))) (
 (idx a2.ref a2.len (IntKind.wrap .i64 (a5-a3)) 1).bind fun r24 =>
 ((h.cell r24).bind (AV.asInt .u64)).bind fun n25 =>
 (idx a1.ref a1.len a5 1).bind fun r26 =>
 ((h.cell r26).bind (AV.asInt .u64)).bind fun n27 =>
 ((prim "math/bits.Add64" [.int .u64 n27,.int .u64 n25,.int .u64 a4]).map fun v=>(v,h)).bind fun q28 =>
 (AV.asTup2 q28.1).bind fun p29 =>
 ((some p29.1).bind (AV.asInt .u64)).bind fun n30 =>
 ((some p29.2).bind (AV.asInt .u64)).bind fun n31 =>
 (idx a1.ref a1.len a5 1).bind fun r32 =>
 (q28.2.puts r32 [.int .u64 n30]).bind fun h33 =>
 go (.pt F.kdk Td.kgw [(0,a1.v),(1,a2.v),(2,.int .i64 a3),(6,.int .u64 n31),(7,.int .i64 (IntKind.wrap .i64 (a5+1)))]) h33) (
 (idx a1.ref a1.len a5 1).bind fun r34 =>
 ((h.cell r34).bind (AV.asInt .u64)).bind fun n35 =>
 ((prim "math/bits.Add64" [.int .u64 n35,.int .u64 0,.int .u64 a4]).map fun v=>(v,h)).bind fun q36 =>
 (AV.asTup2 q36.1).bind fun p37 =>
 ((some p37.1).bind (AV.asInt .u64)).bind fun n38 =>
 ((some p37.2).bind (AV.asInt .u64)).bind fun n39 =>
 (idx a1.ref a1.len a5 1).bind fun r40 =>
 (q36.2.puts r40 [.int .u64 n38]).bind fun h41 =>
 go (.pt F.kdk Td.kgw [(0,a1.v),(1,a2.v),(2,.int .i64 a3),(6,.int .u64 n39),(7,.int .i64 (IntKind.wrap .i64 (a5+1)))]) h41)) (
 some (.tup [],h)))) (
 some (.tup [],h)):=(ke _ h).trans (by kernel_rfl)
theorem kvn(a1:Sl)(a2:Ref)(a3 a4 a5 a6:Int)(h:AH):go (.pt F.kbs Td.kik [(1,a1.v),(2,.ptr (some a2)),(5,.int .i64 a3),(6,.int .i64 a4),(7,.int .i64 a5),(8,.int .i64 a6)]) h =
 (idx a1.ref a1.len a5 3).bind fun r7 =>
 ((h.cell (r7.add 2)).bind AV.asSl).bind fun l8 =>
 cond (decide (a6<(l8.len:Int))) (
 cond (decide (a6<20)) (
 (idx a1.ref a1.len a5 3).bind fun r9 =>
 ((h.cell (r9.add 2)).bind AV.asSl).bind fun l10 =>
 (idx l10.ref l10.len a6 1).bind fun r11 =>
 ((h.cell r11).bind AV.asSl).bind fun l12 =>
 (idx a1.ref a1.len a5 3).bind fun r13 =>
 ((h.cell (r13.add 1)).bind AV.asSl).bind fun l14 =>
 cond (decide (a6<(l14.len:Int))) (
 (idx a1.ref a1.len a5 3).bind fun r15 =>
 ((h.cell (r15.add 1)).bind AV.asSl).bind fun l16 =>
 (idx l16.ref l16.len a6 1).bind fun r17 =>
 ((h.cell r17).bind (AV.asInt .i64)).bind fun n18 =>
 cond (decide (n18<32)) (
 (idx a1.ref a1.len a5 3).bind fun r19 =>
 ((h.cell (r19.add 1)).bind AV.asSl).bind fun l20 =>
 (idx l20.ref l20.len a6 1).bind fun r21 =>
 ((h.cell r21).bind (AV.asInt .i64)).bind fun n22 =>
 go (.pt F.kbs Td.kik [(1,a1.v),(2,.ptr (some a2)),(5,.int .i64 (IntKind.wrap .i64 (a3+(l12.len:Int)))),(6,.int .i64 (IntKind.wrap .i64 ((IntKind.wrap .i64 ((IntKind.wrap .i64 (a4+32))-32))+(imax 0 n22)))),(7,.int .i64 a5),(8,.int .i64 (IntKind.wrap .i64 (a6+1)))]) h) (
 go (.pt F.kbs Td.kik [(1,a1.v),(2,.ptr (some a2)),(5,.int .i64 (IntKind.wrap .i64 (a3+(l12.len:Int)))),(6,.int .i64 (IntKind.wrap .i64 (a4+32))),(7,.int .i64 a5),(8,.int .i64 (IntKind.wrap .i64 (a6+1)))]) h)) (
 go (.pt F.kbs Td.kik [(1,a1.v),(2,.ptr (some a2)),(5,.int .i64 (IntKind.wrap .i64 (a3+(l12.len:Int)))),(6,.int .i64 (IntKind.wrap .i64 (a4+32))),(7,.int .i64 a5),(8,.int .i64 (IntKind.wrap .i64 (a6+1)))]) h)) (
 cond (decide (a3>2000)) (
 some (.bool false,h)) (
 go (.pt F.kbs Td.kf4 [(1,a1.v),(2,.ptr (some a2)),(5,.int .i64 a3),(6,.int .i64 a4),(7,.int .i64 (IntKind.wrap .i64 (a5+1)))]) h))) (
 cond (decide (a3>2000)) (
 some (.bool false,h)) (
 go (.pt F.kbs Td.kf4 [(1,a1.v),(2,.ptr (some a2)),(5,.int .i64 a3),(6,.int .i64 a4),(7,.int .i64 (IntKind.wrap .i64 (a5+1)))]) h)):=(ke _ h).trans (by kernel_rfl)
theorem kum(a1:Ref)(a2 a3 a4:Int)(h:AH):go (.pt F.kbs Td.kj3 [(2,.ptr (some a1)),(5,.int .i64 a2),(9,.int .i64 a3),(10,.int .i64 a4)]) h =
 ((h.cell (a1.add 1)).bind (AV.asInt .i64)).bind fun n5 =>
 cond (decide (a4<n5)) (
 cond (decide (a4<6)) (
 go (.pt F.kbs Td.kj3 [(2,.ptr (some a1)),(5,.int .i64 a2),(9,.int .i64 (IntKind.wrap .i64 (a3*2))),(10,.int .i64 (IntKind.wrap .i64 (a4+1)))]) h) (
 cond (decide (a2≤2000)) (
 ((h.cell (a1.add 0)).bind (AV.asInt .i64)).bind fun n6 =>
 some (.bool (decide ((IntKind.wrap .i64 (a3*(imax 0 (imin n6 16))))≤20000)),h)) (
 some (.bool false,h)))) (
 cond (decide (a2≤2000)) (
 ((h.cell (a1.add 0)).bind (AV.asInt .i64)).bind fun n7 =>
 some (.bool (decide ((IntKind.wrap .i64 (a3*(imax 0 (imin n7 16))))≤20000)),h)) (
 some (.bool false,h))):=(ke _ h).trans (by kernel_rfl)
theorem kba3(a1 a2 a3 a4 a5 a6 a7 a8:Int)(h:AH):go (.fn F.kif [.agg [.int .i64 a1,.int .i64 a2,.int .i64 a3,.int .i64 a4,.int .i64 a5,.int .i64 a6,.int .i64 a7,.int .i64 a8]]) h =
 newK h (.cells [.int .i64 a1,.int .i64 a2,.int .i64 a3,.int .i64 a4,.int .i64 a5,.int .i64 a6,.int .i64 a7,.int .i64 a8] T.kb0) fun h9r h9 =>
 ((h9.cell (h9r.add 0)).bind (AV.asInt .i64)).bind fun n10 =>
 (go (.fn F.kcr [.int .i64 n10,.int .i64 1,.int .i64 16]) h9).bind fun q11 =>
 ((some q11.1).bind AV.asBool).bind fun b12 =>
 cond (!b12) (
 some (.bool false,q11.2)) (
 ((q11.2.cell (h9r.add 1)).bind (AV.asInt .i64)).bind fun n13 =>
 (go (.fn F.kcr [.int .i64 n13,.int .i64 1,.int .i64 5]) q11.2).bind fun q14 =>
 ((some q14.1).bind AV.asBool).bind fun b15 =>
 cond (!b15) (
 some (.bool false,q14.2)) (
 ((q14.2.cell (h9r.add 2)).bind (AV.asInt .i64)).bind fun n16 =>
 (go (.fn F.kcr [.int .i64 n16,.int .i64 1,.int .i64 1048576]) q14.2).bind fun q17 =>
 ((some q17.1).bind AV.asBool).bind fun b18 =>
 cond (!b18) (
 some (.bool false,q17.2)) (
 ((q17.2.cell (h9r.add 3)).bind (AV.asInt .i64)).bind fun n19 =>
 (go (.fn F.kcr [.int .i64 n19,.int .i64 0,.int .i64 1048576]) q17.2).bind fun q20 =>
 ((some q20.1).bind AV.asBool).bind fun b21 =>
 cond (!b21) (
 some (.bool false,q20.2)) (
 ((q20.2.cell (h9r.add 5)).bind (AV.asInt .i64)).bind fun n22 =>
 (go (.fn F.kcr [.int .i64 n22,.int .i64 1,.int .i64 1048576]) q20.2).bind fun q23 =>
 ((some q23.1).bind AV.asBool).bind fun b24 =>
 cond (!b24) (
 some (.bool false,q23.2)) (
 ((q23.2.cell (h9r.add 4)).bind (AV.asInt .i64)).bind fun n25 =>
 ((q23.2.cell (h9r.add 5)).bind (AV.asInt .i64)).bind fun n26 =>
 (go (.fn F.kcr [.int .i64 n25,.int .i64 1,.int .i64 n26]) q23.2).bind fun q27 =>
 ((some q27.1).bind AV.asBool).bind fun b28 =>
 cond (!b28) (
 some (.bool false,q27.2)) (
 ((q27.2.cell (h9r.add 6)).bind (AV.asInt .i64)).bind fun n29 =>
 cond (decide (n29=0)) (
 ((q27.2.cell (h9r.add 7)).bind (AV.asInt .i64)).bind fun n30 =>
 some (.bool (decide (n30=0)),q27.2)) (
 cond (decide (n29=1)) (
 ((q27.2.cell (h9r.add 7)).bind (AV.asInt .i64)).bind fun n31 =>
 (go (.fn F.kcr [.int .i64 n31,.int .i64 1,.int .i64 1048576]) q27.2).bind fun q32 =>
 ((some q32.1).bind AV.asBool).bind fun b33 =>
 some (.bool b33,q32.2)) (
 some (.bool false,q27.2))))))))):=(ke _ h).trans (by kernel_rfl)
theorem kre(a1 a2 a3:Sl)(a4 a5:Int)(h:AH):go (.pt F.kf0 Td.kko [(1,a1.v),(2,a2.v),(23,a3.v),(24,.int .i64 a4),(25,.int .i64 a5)]) h =
 cond (decide (a5<a4)) (
 (idx a3.ref a3.len a5 3).bind fun r6 =>
 ((h.cell (r6.add 0)).bind AV.asSl).bind fun l7 =>
 ((h.cell (r6.add 1)).bind AV.asSl).bind fun l8 =>
 ((h.cell (r6.add 2)).bind AV.asSl).bind fun l9 =>
 newK h (.cells [(⟨none,0,.is 0⟩:Sl).v,(⟨none,0,.is 0⟩:Sl).v,(⟨none,0,.is 0⟩:Sl).v] T.kbi) fun h10r h10 =>
 (h10.puts h10r [l7.v,l8.v,l9.v]).bind fun h11 =>
 ((h11.cell (h10r.add 0)).bind AV.asSl).bind fun l12 =>
 ((h11.cell (h10r.add 1)).bind AV.asSl).bind fun l13 =>
 ((h11.cell (h10r.add 2)).bind AV.asSl).bind fun l14 =>
 (go (.fn F.ke3 [.agg [l12.v,l13.v,l14.v]]) h11).bind fun q15 =>
 ((some q15.1).bind AV.asBool).bind fun b16 =>
 cond (!b16) (
 some (.int .i64 20,q15.2)) (
 ((q15.2.cell (h10r.add 0)).bind AV.asSl).bind fun l17 =>
 (idx a1.ref a1.len 0 3).bind fun r18 =>
 ((q15.2.cell (r18.add 0)).bind AV.asSl).bind fun l19 =>
 (go (.fn F.kgz [l17.v,l19.v]) q15.2).bind fun q20 =>
 ((some q20.1).bind AV.asBool).bind fun b21 =>
 cond (!b21) (
 some (.int .i64 20,q20.2)) (
 ((q20.2.cell (h10r.add 0)).bind AV.asSl).bind fun l22 =>
 cond (decide ((l22.len:Int)=0)) (
 some (.int .i64 20,q20.2)) (
 go (.pt F.kf0 Td.kko [(1,a1.v),(2,a2.v),(23,a3.v),(24,.int .i64 a4),(25,.int .i64 (IntKind.wrap .i64 (a5+1)))]) q20.2)))) (
 (idx a1.ref a1.len 0 3).bind fun r23 =>
 ((h.cell (r23.add 0)).bind AV.asSl).bind fun l24 =>
 cond (!decide ((a2.len:Int)=(l24.len:Int))) (
 some (.int .i64 1,h)) (
 (go (.fn F.kdi [a2.v,.func (.func F.kdb) [] []]) h).bind fun q25 =>
 ((some q25.1).bind AV.asBool).bind fun b26 =>
 cond b26 (
 some (.int .i64 1,q25.2)) (
 some (.int .i64 0,q25.2)))):=(ke _ h).trans (by kernel_rfl)
theorem ksj(a1 a2:Sl)(a3 a4:Ref)(a5:Sl)(a6:Ref)(a7:Sl)(a8 a9:Int)(a10:Sl)(a11 a12:Int)(h:AH):go (.pt F.kcl Td.kjf [(1,a1.v),(2,a2.v),(3,.ptr (some a3)),(6,.ptr (some a4)),(9,a5.v),(10,.ptr (some a6)),(11,a7.v),(26,.int .i64 a8),(27,.int .i64 a9),(32,a10.v),(33,.int .i64 a11),(34,.int .i64 a12)]) h =
 cond (decide (a12<a11)) (
 (idx a10.ref a10.len a12 1).bind fun r13 =>
 ((h.cell r13).bind (AV.asInt .i64)).bind fun n14 =>
 ((h.cell (a3.add 0)).bind (AV.asInt .i64)).bind fun n15 =>
 ((h.cell (a3.add 1)).bind (AV.asInt .i64)).bind fun n16 =>
 ((h.cell (a3.add 2)).bind (AV.asInt .i64)).bind fun n17 =>
 ((h.cell (a3.add 3)).bind (AV.asInt .i64)).bind fun n18 =>
 ((h.cell (a3.add 4)).bind (AV.asInt .i64)).bind fun n19 =>
 ((h.cell (a3.add 5)).bind (AV.asInt .i64)).bind fun n20 =>
 ((h.cell (a3.add 6)).bind (AV.asInt .i64)).bind fun n21 =>
 ((h.cell (a3.add 7)).bind (AV.asInt .i64)).bind fun n22 =>
 (idx a5.ref a5.len a12 1).bind fun r23 =>
 ((h.cell r23).bind (AV.asInt .i64)).bind fun n24 =>
 (go (.fn F.kp8 [.agg [.int .i64 n15,.int .i64 n16,.int .i64 n17,.int .i64 n18,.int .i64 n19,.int .i64 n20,.int .i64 n21,.int .i64 n22],.int .i64 n24,.int .i64 n14]) h).bind fun q25 =>
 (AV.asTup2 q25.1).bind fun p26 =>
 ((some p26.1).bind (AV.asInt .i64)).bind fun n27 =>
 ((some p26.2).bind (AV.asInt .i64)).bind fun n28 =>
 (idx a7.ref a7.len a12 1).bind fun r29 =>
 (q25.2.puts r29 [.int .i64 n27]).bind fun h30 =>
 go (.pt F.kcl Td.kjf [(1,a1.v),(2,a2.v),(3,.ptr (some a3)),(6,.ptr (some a4)),(9,a5.v),(10,.ptr (some a6)),(11,a7.v),(26,.int .i64 a8),(27,.int .i64 a9),(32,a10.v),(33,.int .i64 a11),(34,.int .i64 (IntKind.wrap .i64 (a12+1)))]) h30) (
 ((h.cell (a6.add 0)).bind AV.asSl).bind fun l31 =>
 ((h.cell (a3.add 0)).bind (AV.asInt .i64)).bind fun n32 =>
 ((h.cell (a3.add 1)).bind (AV.asInt .i64)).bind fun n33 =>
 ((h.cell (a3.add 2)).bind (AV.asInt .i64)).bind fun n34 =>
 ((h.cell (a3.add 3)).bind (AV.asInt .i64)).bind fun n35 =>
 ((h.cell (a3.add 4)).bind (AV.asInt .i64)).bind fun n36 =>
 ((h.cell (a3.add 5)).bind (AV.asInt .i64)).bind fun n37 =>
 ((h.cell (a3.add 6)).bind (AV.asInt .i64)).bind fun n38 =>
 ((h.cell (a3.add 7)).bind (AV.asInt .i64)).bind fun n39 =>
 (go (.fn F.kby [.agg [.int .i64 n32,.int .i64 n33,.int .i64 n34,.int .i64 n35,.int .i64 n36,.int .i64 n37,.int .i64 n38,.int .i64 n39],a1.v,a7.v,a5.v]) h).bind fun q40 =>
 (AV.asAgg q40.1).bind fun cs41 =>
 cond (Nat.beq cs41.length 1) (
 ((cs41[0]?).bind AV.asSl).bind fun l42 =>
 whenK (SameAt h q40.2 (a6.add 0) 1) (
 newK q40.2 (.cells [l42.v] T.kch) fun h43r h43 =>
 whenK (SameAt q40.2 h43 (a6.add 0) 1) (
 (kb3 Pg T.kch ((⟨some h43r,1,.is 1⟩:Sl).v) h43).bind fun p45 =>
 (kx Pg l31 p45.1 p45.2 T.kch 1 h43).bind fun q44 =>
 (AV.asSl q44.1).bind fun l46 =>
 (q44.2.puts (a6.add 0) [l46.v]).bind fun h47 =>
 go (.pt F.kcl Td.km1 [(1,a1.v),(2,a2.v),(3,.ptr (some a3)),(6,.ptr (some a4)),(9,a5.v),(10,.ptr (some a6)),(26,.int .i64 a8),(27,.int .i64 (IntKind.wrap .i64 (a9+1)))]) h47))) none):=(ke _ h).trans (by kernel_rfl)
theorem ksz(a1 a2:Ref)(a3 a4:Int)(h:AH):go (.pt F.kc8 Td.kmb [(2,.ptr (some a1)),(3,.ptr (some a2)),(5,.int .i64 a3),(6,.int .i64 a4)]) h =
 ((h.cell (a1.add 0)).bind AV.asSl).bind fun l5 =>
 (idx l5.ref l5.len a3 1).bind fun r6 =>
 ((h.cell (r6.add 0)).bind AV.asSl).bind fun l7 =>
 cond (decide (a4<(l7.len:Int))) (
 ((h.cell (a1.add 0)).bind AV.asSl).bind fun l8 =>
 (idx l8.ref l8.len a3 1).bind fun r9 =>
 ((h.cell (r9.add 0)).bind AV.asSl).bind fun l10 =>
 (idx l10.ref l10.len a4 7).bind fun r11 =>
 ((h.cell (r11.add 0)).bind AV.asBool).bind fun b12 =>
 ((h.cell (r11.add 1)).bind (AV.asInt .i64)).bind fun n13 =>
 ((h.cell (r11.add 2)).bind (AV.asInt .i64)).bind fun n14 =>
 ((h.cell (r11.add 3)).bind (AV.asInt .i64)).bind fun n15 =>
 ((h.cell (r11.add 4)).bind (AV.asInt .i64)).bind fun n16 =>
 ((h.cell (r11.add 5)).bind (AV.asInt .i64)).bind fun n17 =>
 ((h.cell (r11.add 6)).bind (AV.asInt .i64)).bind fun n18 =>
 ((h.cell (a2.add 0)).bind AV.asSl).bind fun l19 =>
 (idx l19.ref l19.len a3 1).bind fun r20 =>
 ((h.cell (r20.add 0)).bind AV.asSl).bind fun l21 =>
 (idx l21.ref l21.len a4 7).bind fun r22 =>
 ((h.cell (r22.add 0)).bind AV.asBool).bind fun b23 =>
 ((h.cell (r22.add 1)).bind (AV.asInt .i64)).bind fun n24 =>
 ((h.cell (r22.add 2)).bind (AV.asInt .i64)).bind fun n25 =>
 ((h.cell (r22.add 3)).bind (AV.asInt .i64)).bind fun n26 =>
 ((h.cell (r22.add 4)).bind (AV.asInt .i64)).bind fun n27 =>
 ((h.cell (r22.add 5)).bind (AV.asInt .i64)).bind fun n28 =>
 ((h.cell (r22.add 6)).bind (AV.asInt .i64)).bind fun n29 =>
 cond (!((b12==b23)&&((decide (n13=n24))&&((decide (n14=n25))&&((decide (n15=n26))&&((decide (n16=n27))&&((decide (n17=n28))&&((decide (n18=n29))&&true)))))))) (
 some (.bool false,h)) (
 go (.pt F.kc8 Td.kmb [(2,.ptr (some a1)),(3,.ptr (some a2)),(5,.int .i64 a3),(6,.int .i64 (IntKind.wrap .i64 (a4+1)))]) h)) (
 go (.pt F.kc8 Td.kjj [(2,.ptr (some a1)),(3,.ptr (some a2)),(5,.int .i64 (IntKind.wrap .i64 (a3+1)))]) h):=(ke _ h).trans (by kernel_rfl)
theorem kuh(a1 a2:Sl)(a3 a4:Ref)(a5:Sl)(a6:Int)(a7:Ref)(a8:Int)(h:AH):go (.pt F.kbg Td.kie [(1,a1.v),(2,a2.v),(3,.ptr (some a3)),(9,.ptr (some a4)),(11,a5.v),(12,.int .i64 a6),(13,.ptr (some a7)),(15,.int .i64 a8)]) h =
 (idx a1.ref a1.len a6 3).bind fun r9 =>
 ((h.cell (r9.add 2)).bind AV.asSl).bind fun l10 =>
 cond (decide (a8<(l10.len:Int))) (
 go (.pt F.kbg Td.kkn [(1,a1.v),(2,a2.v),(3,.ptr (some a3)),(9,.ptr (some a4)),(11,a5.v),(12,.int .i64 a6),(13,.ptr (some a7)),(15,.int .i64 a8),(16,(⟨none,0,.is 0⟩:Sl).v),(17,.int .i64 (IntKind.wrap .i64 ((a2.len:Int)-1)))]) h) (
 ((h.cell (a7.add 0)).bind AV.asSl).bind fun l11 =>
 ((h.cell (a7.add 1)).bind AV.asSl).bind fun l12 =>
 ((h.cell (a7.add 2)).bind AV.asSl).bind fun l13 =>
 newK h (.cells [l11.v,l12.v,l13.v] T.kbi) fun h14r h14 =>
 (kb3 Pg T.kbi ((⟨some h14r,1,.is 1⟩:Sl).v) h14).bind fun p16 =>
 (kx Pg a5 p16.1 p16.2 T.kbi 3 h14).bind fun q15 =>
 (AV.asSl q15.1).bind fun l17 =>
 go (.pt F.kbg Td.kjl [(1,a1.v),(2,a2.v),(3,.ptr (some a3)),(9,.ptr (some a4)),(11,l17.v),(12,.int .i64 (IntKind.wrap .i64 (a6+1)))]) q15.2):=(ke _ h).trans (by kernel_rfl)
theorem kxd(a1:Int)(h:AH):go (.fn F.knz [.int .u64 a1]) h =
 cond (decide (a1=0)) (
 some (.int .i64 64,h)) (
 (idx (some (.old ⟨Gl.math_bits_deBruijn64tab,0,none⟩)) 64 (ishr .u64 (IntKind.wrap .u64 ((iand .u64 a1 (IntKind.wrap .u64 (0-a1)))*285870213051353865)) 58) 1).bind fun r2 =>
 ((h.cell r2).bind (AV.asInt .u8)).bind fun n3 =>
 some (.int .i64 (IntKind.wrap .i64 n3),h)):=(ke _ h).trans (by kernel_rfl)
theorem k3u(a1 a2:Sl)(a3 a4 a5:Int)(a6:Sl)(a7 a8:Int)(a9:Sl)(a10 a11:Int)(h:AH):go (.pt F.kcs Td.kmz [(1,a1.v),(5,a2.v),(6,.int .i64 a3),(7,.int .u64 a4),(8,.int .u64 a5),(20,a6.v),(21,.int .i64 a7),(22,.int .i64 a8),(27,a9.v),(28,.int .i64 a10),(29,.int .i64 a11)]) h =
 cond (decide (a11<a10)) (
 (idx a9.ref a9.len a11 1).bind fun r12 =>
 ((h.cell r12).bind (AV.asInt .u64)).bind fun n13 =>
 (go (.fn F.knf [.int .u64 a4,.int .u64 n13]) h).bind fun q14 =>
 (AV.asTup2 q14.1).bind fun p15 =>
 ((some p15.1).bind (AV.asInt .u64)).bind fun n16 =>
 ((some p15.2).bind (AV.asInt .u64)).bind fun n17 =>
 (idx a2.ref a2.len (IntKind.wrap .i64 (a3+a11)) 1).bind fun r18 =>
 ((q14.2.cell r18).bind (AV.asInt .u64)).bind fun n19 =>
 ((prim "math/bits.Add64" [.int .u64 n17,.int .u64 n19,.int .u64 0]).map fun v=>(v,q14.2)).bind fun q20 =>
 (AV.asTup2 q20.1).bind fun p21 =>
 ((some p21.1).bind (AV.asInt .u64)).bind fun n22 =>
 ((some p21.2).bind (AV.asInt .u64)).bind fun n23 =>
 ((prim "math/bits.Add64" [.int .u64 n22,.int .u64 a5,.int .u64 0]).map fun v=>(v,q20.2)).bind fun q24 =>
 (AV.asTup2 q24.1).bind fun p25 =>
 ((some p25.1).bind (AV.asInt .u64)).bind fun n26 =>
 ((some p25.2).bind (AV.asInt .u64)).bind fun n27 =>
 (idx a2.ref a2.len (IntKind.wrap .i64 (a3+a11)) 1).bind fun r28 =>
 (q24.2.puts r28 [.int .u64 n26]).bind fun h29 =>
 go (.pt F.kcs Td.kmz [(1,a1.v),(5,a2.v),(6,.int .i64 a3),(7,.int .u64 a4),(8,.int .u64 (IntKind.wrap .u64 ((IntKind.wrap .u64 (n16+n23))+n27))),(20,a6.v),(21,.int .i64 a7),(22,.int .i64 a8),(27,a9.v),(28,.int .i64 a10),(29,.int .i64 (IntKind.wrap .i64 (a11+1)))]) h29) (
 (idx a2.ref a2.len (IntKind.wrap .i64 (a3+(a1.len:Int))) 1).bind fun r30 =>
 (h.puts r30 [.int .u64 a5]).bind fun h31 =>
 go (.pt F.kcs Td.knc [(1,a1.v),(5,a2.v),(20,a6.v),(21,.int .i64 a7),(22,.int .i64 (IntKind.wrap .i64 (a8+1)))]) h31):=(ke _ h).trans (by kernel_rfl)
theorem k8r(a1 a2 a3:Int)(h:AH):go (.fn F.kcr [.int .i64 a1,.int .i64 a2,.int .i64 a3]) h =
 cond (decide (a1≥a2)) (
 some (.bool (decide (a1≤a3)),h)) (
 some (.bool false,h)):=(ke _ h).trans (by kernel_rfl)
theorem kbbd(a1 a2 a3:Sl)(h:AH):go (.fn F.ke3 [.agg [a1.v,a2.v,a3.v]]) h =
 newK h (.cells [a1.v,a2.v,a3.v] T.kbi) fun h4r h4 =>
 ((h4.cell (h4r.add 0)).bind AV.asSl).bind fun l5 =>
 (go (.fn F.kot [l5.v]) h4).bind fun q6 =>
 ((some q6.1).bind AV.asBool).bind fun b7 =>
 cond (!b7) (
 some (.bool false,q6.2)) (
 ((q6.2.cell (h4r.add 2)).bind AV.asSl).bind fun l8 =>
 cond (decide ((l8.len:Int)>16)) (
 some (.bool false,q6.2)) (
 ((q6.2.cell (h4r.add 1)).bind AV.asSl).bind fun l9 =>
 ((q6.2.cell (h4r.add 2)).bind AV.asSl).bind fun l10 =>
 cond (!decide ((l9.len:Int)=(l10.len:Int))) (
 some (.bool false,q6.2)) (
 ((q6.2.cell (h4r.add 2)).bind AV.asSl).bind fun l11 =>
 go (.pt F.ke3 Td.kmj [(1,.ptr (some h4r)),(27,l11.v),(28,.int .i64 (l11.len:Int)),(29,.int .i64 0)]) q6.2))):=(ke _ h).trans (by kernel_rfl)
theorem k5a(a1 a2:Sl)(h:AH):go (.fn F.kgz [a1.v,a2.v]) h =
 cond (!decide ((a1.len:Int)=(a2.len:Int))) (
 some (.bool false,h)) (
 go (.pt F.kgz Td.km2 [(0,a1.v),(1,a2.v),(12,.int .i64 (a1.len:Int)),(13,.int .i64 0)]) h):=(ke _ h).trans (by kernel_rfl)
theorem kxk(a1:Sl)(h:AH):go (.fn F.kdi [a1.v,.func (.func F.kdb) [] []]) h =
 (go (.fn F.kbo [a1.v,.func (.func F.kdb) [] []]) h).bind fun q2 =>
 ((some q2.1).bind (AV.asInt .i64)).bind fun n3 =>
 some (.bool (decide (n3≥0)),q2.2):=(ke _ h).trans (by kernel_rfl)
theorem k2a(a1 a2 a3 a4 a5 a6 a7 a8 a9 a10:Int)(h:AH):go (.fn F.kp8 [.agg [.int .i64 a1,.int .i64 a2,.int .i64 a3,.int .i64 a4,.int .i64 a5,.int .i64 a6,.int .i64 a7,.int .i64 a8],.int .i64 a9,.int .i64 a10]) h =
 newK h (.cells [.int .i64 a1,.int .i64 a2,.int .i64 a3,.int .i64 a4,.int .i64 a5,.int .i64 a6,.int .i64 a7,.int .i64 a8] T.kb0) fun h11r h11 =>
 ((h11.cell (h11r.add 0)).bind (AV.asInt .i64)).bind fun n12 =>
 ((h11.cell (h11r.add 1)).bind (AV.asInt .i64)).bind fun n13 =>
 ((h11.cell (h11r.add 2)).bind (AV.asInt .i64)).bind fun n14 =>
 ((h11.cell (h11r.add 3)).bind (AV.asInt .i64)).bind fun n15 =>
 ((h11.cell (h11r.add 4)).bind (AV.asInt .i64)).bind fun n16 =>
 ((h11.cell (h11r.add 5)).bind (AV.asInt .i64)).bind fun n17 =>
 ((h11.cell (h11r.add 6)).bind (AV.asInt .i64)).bind fun n18 =>
 ((h11.cell (h11r.add 7)).bind (AV.asInt .i64)).bind fun n19 =>
 (go (.fn F.kif [.agg [.int .i64 n12,.int .i64 n13,.int .i64 n14,.int .i64 n15,.int .i64 n16,.int .i64 n17,.int .i64 n18,.int .i64 n19]]) h11).bind fun q20 =>
 ((some q20.1).bind AV.asBool).bind fun b21 =>
 cond (!b21) (
 some (.tup [.int .i64 0,.int .i64 1],q20.2)) (
 (go (.fn F.kcr [.int .i64 a9,.int .i64 (-1099511627776),.int .i64 1099511627776]) q20.2).bind fun q22 =>
 ((some q22.1).bind AV.asBool).bind fun b23 =>
 cond (!b23) (
 some (.tup [.int .i64 0,.int .i64 1],q22.2)) (
 (go (.fn F.kcr [.int .i64 a10,.int .i64 (-1048576),.int .i64 1048576]) q22.2).bind fun q24 =>
 ((some q24.1).bind AV.asBool).bind fun b25 =>
 cond (!b25) (
 some (.tup [.int .i64 0,.int .i64 1],q24.2)) (
 ((q24.2.cell (h11r.add 6)).bind (AV.asInt .i64)).bind fun n26 =>
 cond (decide (n26=1)) (
 ((q24.2.cell (h11r.add 7)).bind (AV.asInt .i64)).bind fun n27 =>
 some (.tup [.int .i64 (imin (imax (IntKind.wrap .i64 (a9-a10)) (IntKind.wrap .i64 (0-n27))) n27),.int .i64 0],q24.2)) (
 some (.tup [.int .i64 (imin (imax (IntKind.wrap .i64 (a9-a10)) (IntKind.wrap .i64 (0-1048576))) 1048576),.int .i64 0],q24.2))))):=(ke _ h).trans (by kernel_rfl)
theorem kbal(a1 a2 a3 a4 a5 a6 a7 a8:Int)(a9 a10 a11:Sl)(h:AH):go (.fn F.kby [.agg [.int .i64 a1,.int .i64 a2,.int .i64 a3,.int .i64 a4,.int .i64 a5,.int .i64 a6,.int .i64 a7,.int .i64 a8],a9.v,a10.v,a11.v]) h =
 newK h (.cells [.int .i64 a1,.int .i64 a2,.int .i64 a3,.int .i64 a4,.int .i64 a5,.int .i64 a6,.int .i64 a7,.int .i64 a8] T.kb0) fun h12r h12 =>
 newK h12 (.cells [(⟨none,0,.is 0⟩:Sl).v] T.kch) fun h13r h13 =>
 (go (.fn F.kfb [.int .i64 (a10.len:Int)]) h13).bind fun q14 =>
 (AV.asTup2 q14.1).bind fun p15 =>
 (AV.asAgg p15.1).bind fun cs16 =>
 cond (Nat.beq cs16.length 2) (
 ((cs16[0]?).bind (AV.asInt .i64)).bind fun n17 =>
 ((cs16[1]?).bind AV.asSl).bind fun l18 =>
 ((some p15.2).bind (AV.asInt .i64)).bind fun n19 =>
 newK q14.2 (.cells [.int .i64 0,(⟨none,0,.is 0⟩:Sl).v] T.kw) fun h20r h20 =>
 (h20.puts h20r [.int .i64 n17,l18.v]).bind fun h21 =>
 (kb1 1 1 T.kb8 (Pg.bytesOf T.kb8) [.bool false,.int .i64 0,.int .i64 0,.int .i64 0,.int .i64 0,.int .i64 0,.int .i64 0] h21).bind fun q22 =>
 newK q22.2 (.cells [(⟨none,0,.is 0⟩:Sl).v] T.kch) fun h23r h23 =>
 (h23.puts h23r [q22.1.v]).bind fun h24 =>
 ((h24.cell (h20r.add 0)).bind (AV.asInt .i64)).bind fun n25 =>
 ((h24.cell (h20r.add 1)).bind AV.asSl).bind fun l26 =>
 newK h24 (.cells [.int .i64 0,.int .i64 0,.int .i64 n25,l26.v] T.kbf) fun h27r h27 =>
 newK h27 (.cells [(⟨some h27r,1,.is 1⟩:Sl).v] T.kvg) fun h28r h28 =>
 go (.pt F.kby Td.kfo [(1,a9.v),(2,a10.v),(3,a11.v),(4,.ptr (some h12r)),(8,.ptr (some h13r)),(11,.ptr (some h23r)),(12,.ptr (some h28r))]) h28) none:=(ke _ h).trans (by kernel_rfl)
theorem ks4(a1 a2:Sl)(a3 a4:Ref)(a5:Sl)(a6:Int)(a7:Ref)(a8:Int)(a9:Sl)(a10:Int)(h:AH):go (.pt F.kbg Td.kkn [(1,a1.v),(2,a2.v),(3,.ptr (some a3)),(9,.ptr (some a4)),(11,a5.v),(12,.int .i64 a6),(13,.ptr (some a7)),(15,.int .i64 a8),(16,a9.v),(17,.int .i64 a10)]) h =
 cond (decide (a10≥0)) (
 (idx a1.ref a1.len a6 3).bind fun r11 =>
 ((h.cell (r11.add 2)).bind AV.asSl).bind fun l12 =>
 (idx l12.ref l12.len a8 1).bind fun r13 =>
 ((h.cell r13).bind AV.asSl).bind fun l14 =>
 (idx l14.ref l14.len a10 1).bind fun r15 =>
 ((h.cell r15).bind (AV.asInt .i64)).bind fun n16 =>
 newK h (.cells [.int .i64 n16] T.int) fun h17r h17 =>
 (kb3 Pg T.int ((⟨some h17r,1,.is 1⟩:Sl).v) h17).bind fun p19 =>
 (kx Pg a9 p19.1 p19.2 T.int 1 h17).bind fun q18 =>
 (AV.asSl q18.1).bind fun l20 =>
 go (.pt F.kbg Td.kkn [(1,a1.v),(2,a2.v),(3,.ptr (some a3)),(9,.ptr (some a4)),(11,a5.v),(12,.int .i64 a6),(13,.ptr (some a7)),(15,.int .i64 a8),(16,l20.v),(17,.int .i64 (IntKind.wrap .i64 (a10-1)))]) q18.2) (
 ((h.cell (a7.add 2)).bind AV.asSl).bind fun l21 =>
 newK h (.cells [a9.v] T.kbm) fun h22r h22 =>
 (kb3 Pg T.kbm ((⟨some h22r,1,.is 1⟩:Sl).v) h22).bind fun p24 =>
 (kx Pg l21 p24.1 p24.2 T.kbm 1 h22).bind fun q23 =>
 (AV.asSl q23.1).bind fun l25 =>
 (q23.2.puts (a7.add 2) [l25.v]).bind fun h26 =>
 go (.pt F.kbg Td.kie [(1,a1.v),(2,a2.v),(3,.ptr (some a3)),(9,.ptr (some a4)),(11,a5.v),(12,.int .i64 a6),(13,.ptr (some a7)),(15,.int .i64 (IntKind.wrap .i64 (a8+1)))]) h26):=(ke _ h).trans (by kernel_rfl)
theorem k7b(a1 a2:Int)(h:AH):go (.fn F.knf [.int .u64 a1,.int .u64 a2]) h =
 some (.tup [.int .u64 (IntKind.wrap .u64 ((IntKind.wrap .u64 ((IntKind.wrap .u64 ((ishr .u64 a1 32)*(ishr .u64 a2 32)))+(ishr .u64 (IntKind.wrap .u64 ((IntKind.wrap .u64 ((ishr .u64 a1 32)*(iand .u64 a2 4294967295)))+(ishr .u64 (IntKind.wrap .u64 ((iand .u64 a1 4294967295)*(iand .u64 a2 4294967295))) 32))) 32)))+(ishr .u64 (IntKind.wrap .u64 ((iand .u64 (IntKind.wrap .u64 ((IntKind.wrap .u64 ((ishr .u64 a1 32)*(iand .u64 a2 4294967295)))+(ishr .u64 (IntKind.wrap .u64 ((iand .u64 a1 4294967295)*(iand .u64 a2 4294967295))) 32))) 4294967295)+(IntKind.wrap .u64 ((iand .u64 a1 4294967295)*(ishr .u64 a2 32))))) 32))),.int .u64 (IntKind.wrap .u64 (a1*a2))],h):=(ke _ h).trans (by kernel_rfl)
theorem k89(a1:Sl)(h:AH):go (.fn F.kot [a1.v]) h =
 cond (decide ((a1.len:Int)≤256)) (
 (go (.fn F.kdi [a1.v,.func (.func F.kde) [] []]) h).bind fun q2 =>
 ((some q2.1).bind AV.asBool).bind fun b3 =>
 cond (!b3) (
 (go (.fn F.kgs [a1.v]) q2.2).bind fun q4 =>
 ((some q4.1).bind AV.asMap).bind fun m5 =>
 (mapLen q4.2 m5).bind fun n6 =>
 some (.bool (decide ((n6:Int)=(a1.len:Int))),q4.2)) (
 some (.bool false,q2.2))) (
 some (.bool false,h)):=(ke _ h).trans (by kernel_rfl)
theorem kvi(a1:Ref)(a2:Sl)(a3 a4:Int)(h:AH):go (.pt F.ke3 Td.kmj [(1,.ptr (some a1)),(27,a2.v),(28,.int .i64 a3),(29,.int .i64 a4)]) h =
 cond (decide (a4<a3)) (
 (idx a2.ref a2.len a4 1).bind fun r5 =>
 ((h.cell r5).bind AV.asSl).bind fun l6 =>
 ((h.cell (a1.add 1)).bind AV.asSl).bind fun l7 =>
 (idx l7.ref l7.len a4 1).bind fun r8 =>
 ((h.cell r8).bind (AV.asInt .i64)).bind fun n9 =>
 newK h (.cells [.int .i64 0] T.int) fun h10r h10 =>
 (h10.puts h10r [.int .i64 n9]).bind fun h11 =>
 ((h11.cell h10r).bind (AV.asInt .i64)).bind fun n12 =>
 cond (decide (n12<2)) (
 some (.bool false,h11)) (
 ((h11.cell h10r).bind (AV.asInt .i64)).bind fun n13 =>
 cond (decide (n13>32)) (
 some (.bool false,h11)) (
 ((h11.cell (a1.add 0)).bind AV.asSl).bind fun l14 =>
 cond (!decide ((l6.len:Int)=(l14.len:Int))) (
 some (.bool false,h11)) (
 (go (.fn F.kdi [l6.v,.func (.func F.kdh) [] [.ptr (some h10r)]]) h11).bind fun q15 =>
 ((some q15.1).bind AV.asBool).bind fun b16 =>
 cond b16 (
 some (.bool false,q15.2)) (
 go (.pt F.ke3 Td.kmj [(1,.ptr (some a1)),(27,a2.v),(28,.int .i64 a3),(29,.int .i64 (IntKind.wrap .i64 (a4+1)))]) q15.2))))) (
 some (.bool true,h)):=(ke _ h).trans (by kernel_rfl)
theorem kr6(a1 a2:Sl)(a3 a4:Int)(h:AH):go (.pt F.kgz Td.km2 [(0,a1.v),(1,a2.v),(12,.int .i64 a3),(13,.int .i64 a4)]) h =
 cond (decide (a4<a3)) (
 (idx a1.ref a1.len a4 1).bind fun r5 =>
 ((h.cell r5).bind (AV.asInt .i64)).bind fun n6 =>
 (idx a2.ref a2.len a4 1).bind fun r7 =>
 ((h.cell r7).bind (AV.asInt .i64)).bind fun n8 =>
 cond (!decide (n6=n8)) (
 some (.bool false,h)) (
 go (.pt F.kgz Td.km2 [(0,a1.v),(1,a2.v),(12,.int .i64 a3),(13,.int .i64 (IntKind.wrap .i64 (a4+1)))]) h)) (
 some (.bool true,h)):=(ke _ h).trans (by kernel_rfl)
theorem k0g(a1:Sl)(h:AH):go (.fn F.kbo [a1.v,.func (.func F.kdb) [] []]) h =
 go (.pt F.kbo Td.kck [(0,a1.v),(1,.func (.func F.kdb) [] []),(7,.int .i64 (a1.len:Int)),(8,.int .i64 0)]) h:=(ke _ h).trans (by kernel_rfl)
theorem k1s(a1:Int)(h:AH):go (.fn F.kfb [.int .i64 a1]) h =
 newK h (.cells [.int .i64 0,(⟨none,0,.is 0⟩:Sl).v] T.kw) fun h2r h2 =>
 (go (.fn F.kig [.int .i64 a1]) h2).bind fun q3 =>
 (AV.asTup2 q3.1).bind fun p4 =>
 (AV.asAgg p4.1).bind fun cs5 =>
 cond (Nat.beq cs5.length 2) (
 ((cs5[0]?).bind (AV.asInt .i64)).bind fun n6 =>
 ((cs5[1]?).bind AV.asSl).bind fun l7 =>
 ((some p4.2).bind (AV.asInt .i64)).bind fun n8 =>
 newK q3.2 (.cells [.int .i64 0,(⟨none,0,.is 0⟩:Sl).v] T.kw) fun h9r h9 =>
 (h9.puts h9r [.int .i64 n6,l7.v]).bind fun h10 =>
 ((h10.cell (h9r.add 1)).bind AV.asSl).bind fun l11 =>
 go (.pt F.kfb Td.ki4 [(0,.int .i64 a1),(2,.ptr (some h2r)),(4,.ptr (some h9r)),(5,.int .i64 n8),(15,.int .i64 (l11.len:Int)),(16,.int .i64 0)]) h10) none:=(ke _ h).trans (by kernel_rfl)
theorem kte(a1 a2 a3:Sl)(a4 a5 a6 a7:Ref)(h:AH):go (.pt F.kby Td.kfo [(1,a1.v),(2,a2.v),(3,a3.v),(4,.ptr (some a4)),(8,.ptr (some a5)),(11,.ptr (some a6)),(12,.ptr (some a7))]) h =
 ((h.cell a7).bind AV.asSl).bind fun l8 =>
 (go (.fn F.kne [l8.v]) h).bind fun q9 =>
 ((some q9.1).bind (AV.asInt .i64)).bind fun n10 =>
 cond (decide (n10>0)) (
 (go (.fn F.kq1 [.iface T.kbp (.ptr (some a7))]) q9.2).bind fun q11 =>
 (AV.asIface q11.1).bind fun p12 =>
 cond (Nat.beq p12.1 T.kbf) (
 (AV.asAgg p12.2).bind fun cs13 =>
 cond (Nat.beq cs13.length 4) (
 ((cs13[0]?).bind (AV.asInt .i64)).bind fun n14 =>
 ((cs13[1]?).bind (AV.asInt .i64)).bind fun n15 =>
 ((cs13[2]?).bind (AV.asInt .i64)).bind fun n16 =>
 ((cs13[3]?).bind AV.asSl).bind fun l17 =>
 newK q11.2 (.cells [.int .i64 0,.int .i64 0,.int .i64 0,(⟨none,0,.is 0⟩:Sl).v] T.kbf) fun h18r h18 =>
 (h18.puts h18r [.int .i64 n14,.int .i64 n15,.int .i64 n16,l17.v]).bind fun h19 =>
 ((h19.cell ((h18r.add 2).add 0)).bind (AV.asInt .i64)).bind fun n20 =>
 ((h19.cell ((h18r.add 2).add 1)).bind AV.asSl).bind fun l21 =>
 (go (.fn F.kfe [a2.v,.agg [.int .i64 n20,l21.v]]) h19).bind fun q22 =>
 (AV.asAgg q22.1).bind fun cs23 =>
 cond (Nat.beq cs23.length 2) (
 ((cs23[0]?).bind (AV.asInt .i64)).bind fun n24 =>
 ((cs23[1]?).bind (AV.asInt .i64)).bind fun n25 =>
 newK q22.2 (.cells [.int .i64 0,.int .i64 0] T.kbc) fun h26r h26 =>
 (h26.puts h26r [.int .i64 n24,.int .i64 n25]).bind fun h27 =>
 ((h27.cell (h18r.add 1)).bind (AV.asInt .i64)).bind fun n28 =>
 ((h27.cell (a4.add 1)).bind (AV.asInt .i64)).bind fun n29 =>
 cond (decide (n28<n29)) (
 ((h27.cell ((h18r.add 2).add 0)).bind (AV.asInt .i64)).bind fun n30 =>
 ((h27.cell ((h18r.add 2).add 1)).bind AV.asSl).bind fun l31 =>
 (go (.fn F.kcd [a1.v,a2.v,.agg [.int .i64 n30,l31.v]]) h27).bind fun q32 =>
 (AV.asTup2 q32.1).bind fun p33 =>
 ((some p33.1).bind AV.asSl).bind fun l34 =>
 ((some p33.2).bind AV.asSl).bind fun l35 =>
 ((q32.2.cell (a4.add 2)).bind (AV.asInt .i64)).bind fun n36 =>
 ((q32.2.cell (a4.add 3)).bind (AV.asInt .i64)).bind fun n37 =>
 ((q32.2.cell (h26r.add 0)).bind (AV.asInt .i64)).bind fun n38 =>
 ((q32.2.cell (h26r.add 1)).bind (AV.asInt .i64)).bind fun n39 =>
 (go (.fn F.kdx [.int .i64 n36,.int .i64 n37,.agg [.int .i64 n38,.int .i64 n39],l35.v]) q32.2).bind fun q40 =>
 (AV.asTup2 q40.1).bind fun p41 =>
 ((some p41.1).bind AV.asSl).bind fun l42 =>
 ((some p41.2).bind (AV.asInt .i64)).bind fun n43 =>
 go (.pt F.kby Td.khz [(1,a1.v),(2,a2.v),(3,a3.v),(4,.ptr (some a4)),(8,.ptr (some a5)),(11,.ptr (some a6)),(12,.ptr (some a7)),(13,.ptr (some h18r)),(14,.ptr (some h26r)),(15,l42.v),(16,l34.v)]) q40.2) (
 go (.pt F.kby Td.khz [(1,a1.v),(2,a2.v),(3,a3.v),(4,.ptr (some a4)),(8,.ptr (some a5)),(11,.ptr (some a6)),(12,.ptr (some a7)),(13,.ptr (some h18r)),(14,.ptr (some h26r)),(15,(⟨none,0,.is 0⟩:Sl).v),(16,(⟨none,0,.is 0⟩:Sl).v)]) h27)) none) none) none) (
 ((q9.2.cell (a6.add 0)).bind AV.asSl).bind fun l44 =>
 (q9.2.puts a5 [l44.v]).bind fun h45 =>
 ((h45.cell (a5.add 0)).bind AV.asSl).bind fun l46 =>
 some (.agg [l46.v],h45)):=(ke _ h).trans (by kernel_rfl)
theorem k47(a1:Sl)(h:AH):go (.fn F.kdi [a1.v,.func (.func F.kde) [] []]) h =
 (go (.fn F.kbo [a1.v,.func (.func F.kde) [] []]) h).bind fun q2 =>
 ((some q2.1).bind (AV.asInt .i64)).bind fun n3 =>
 some (.bool (decide (n3≥0)),q2.2):=(ke _ h).trans (by kernel_rfl)
theorem k4u(a1:Sl)(h:AH):go (.fn F.kgs [a1.v]) h =
 newM h (.map [] 0) fun h2m h2 =>
 go (.pt F.kgs Td.kld [(3,.map (some h2m)),(7,a1.v),(8,.int .i64 (a1.len:Int)),(9,.int .i64 0)]) h2:=(ke _ h).trans (by kernel_rfl)
theorem kbbi(a1:Sl)(a2:Option Ref)(h:AH):go (.fn F.kdi [a1.v,.func (.func F.kdh) [] [.ptr a2]]) h =
 (go (.fn F.kbo [a1.v,.func (.func F.kdh) [] [.ptr a2]]) h).bind fun q3 =>
 ((some q3.1).bind (AV.asInt .i64)).bind fun n4 =>
 some (.bool (decide (n4≥0)),q3.2):=(ke _ h).trans (by kernel_rfl)
theorem ks5(a1:Sl)(a2 a3:Int)(h:AH):go (.pt F.kbo Td.kck [(0,a1.v),(1,.func (.func F.kdb) [] []),(7,.int .i64 a2),(8,.int .i64 a3)]) h =
 cond (decide (a3<a2)) (
 (idx a1.ref a1.len a3 1).bind fun r4 =>
 ((h.cell r4).bind (AV.asInt .i64)).bind fun n5 =>
 (go (.fn F.kdb [.int .i64 n5]) h).bind fun q6 =>
 ((some q6.1).bind AV.asBool).bind fun b7 =>
 cond b7 (
 some (.int .i64 a3,q6.2)) (
 go (.pt F.kbo Td.kck [(0,a1.v),(1,.func (.func F.kdb) [] []),(7,.int .i64 a2),(8,.int .i64 (IntKind.wrap .i64 (a3+1)))]) q6.2)) (
 some (.int .i64 (-1),h)):=(ke _ h).trans (by kernel_rfl)
theorem kyh(a1:Int)(h:AH):go (.fn F.kig [.int .i64 a1]) h =
 newK h (.cells [.int .i64 0,(⟨none,0,.is 0⟩:Sl).v] T.kw) fun h2r h2 =>
 cond (decide (a1<0)) (
 (h2.puts h2r [.int .i64 0,(⟨none,0,.is 0⟩:Sl).v]).bind fun h3 =>
 ((h3.cell (h2r.add 0)).bind (AV.asInt .i64)).bind fun n4 =>
 ((h3.cell (h2r.add 1)).bind AV.asSl).bind fun l5 =>
 some (.tup [.agg [.int .i64 n4,l5.v],.int .i64 1],h3)) (
 cond (decide (a1>65536)) (
 (h2.puts h2r [.int .i64 0,(⟨none,0,.is 0⟩:Sl).v]).bind fun h6 =>
 ((h6.cell (h2r.add 0)).bind (AV.asInt .i64)).bind fun n7 =>
 ((h6.cell (h2r.add 1)).bind AV.asSl).bind fun l8 =>
 some (.tup [.agg [.int .i64 n7,l8.v],.int .i64 1],h6)) (
 (kb1 (IntKind.wrap .i64 (Int.tdiv (IntKind.wrap .i64 ((IntKind.wrap .i64 (a1+64))-1)) 64)) (IntKind.wrap .i64 (Int.tdiv (IntKind.wrap .i64 ((IntKind.wrap .i64 (a1+64))-1)) 64)) T.kj (Pg.bytesOf T.kj) [.int .u64 0] h2).bind fun q9 =>
 (q9.2.puts h2r [.int .i64 a1,q9.1.v]).bind fun h10 =>
 ((h10.cell (h2r.add 0)).bind (AV.asInt .i64)).bind fun n11 =>
 ((h10.cell (h2r.add 1)).bind AV.asSl).bind fun l12 =>
 some (.tup [.agg [.int .i64 n11,l12.v],.int .i64 0],h10))):=(ke _ h).trans (by kernel_rfl)
theorem ku6(a1:Int)(a2 a3:Ref)(a4 a5 a6:Int)(h:AH):go (.pt F.kfb Td.ki4 [(0,.int .i64 a1),(2,.ptr (some a2)),(4,.ptr (some a3)),(5,.int .i64 a4),(15,.int .i64 a5),(16,.int .i64 a6)]) h =
 cond (decide (a6<a5)) (
 ((h.cell (a3.add 1)).bind AV.asSl).bind fun l7 =>
 (idx l7.ref l7.len a6 1).bind fun r8 =>
 (h.puts r8 [.int .u64 18446744073709551615]).bind fun h9 =>
 cond (decide ((IntKind.wrap .i64 (a1-(IntKind.wrap .i64 (64*a6))))<64)) (
 ((h9.cell (a3.add 1)).bind AV.asSl).bind fun l10 =>
 cond (decide ((IntKind.wrap .i64 (a1-(IntKind.wrap .i64 (64*a6))))<0)) none (
 (idx l10.ref l10.len a6 1).bind fun r11 =>
 (h9.puts r11 [.int .u64 (IntKind.wrap .u64 ((ishl .u64 1 (IntKind.wrap .i64 (a1-(IntKind.wrap .i64 (64*a6)))))-1))]).bind fun h12 =>
 go (.pt F.kfb Td.ki4 [(0,.int .i64 a1),(2,.ptr (some a2)),(4,.ptr (some a3)),(5,.int .i64 a4),(15,.int .i64 a5),(16,.int .i64 (IntKind.wrap .i64 (a6+1)))]) h12)) (
 go (.pt F.kfb Td.ki4 [(0,.int .i64 a1),(2,.ptr (some a2)),(4,.ptr (some a3)),(5,.int .i64 a4),(15,.int .i64 a5),(16,.int .i64 (IntKind.wrap .i64 (a6+1)))]) h9)) (
 ((h.cell (a3.add 0)).bind (AV.asInt .i64)).bind fun n13 =>
 ((h.cell (a3.add 1)).bind AV.asSl).bind fun l14 =>
 (h.puts a2 [.int .i64 n13,l14.v]).bind fun h15 =>
 ((h15.cell (a2.add 0)).bind (AV.asInt .i64)).bind fun n16 =>
 ((h15.cell (a2.add 1)).bind AV.asSl).bind fun l17 =>
 some (.tup [.agg [.int .i64 n16,l17.v],.int .i64 a4],h15)):=(ke _ h).trans (by kernel_rfl)
theorem klb(a1:Sl)(h:AH):go (.fn F.kne [a1.v]) h =
 some (.int .i64 (a1.len:Int),h):=(ke _ h).trans (by kernel_rfl)
theorem k2q(a1:Ref)(h:AH):go (.fn F.kq1 [.iface T.kbp (.ptr (some a1))]) h =
 ((h.cell a1).bind AV.asSl).bind fun l2 =>
 (go (.fn F.kne [l2.v]) h).bind fun q3 =>
 ((some q3.1).bind (AV.asInt .i64)).bind fun n4 =>
 ((q3.2.cell a1).bind AV.asSl).bind fun l5 =>
 (go (.fn F.kfc [l5.v,.int .i64 0,.int .i64 (IntKind.wrap .i64 (n4-1))]) q3.2).bind fun q6 =>
 (AV.asTup0 q6.1).bind fun _ =>
 (go (.fn F.kd9 [.iface T.kbp (.ptr (some a1)),.int .i64 0,.int .i64 (IntKind.wrap .i64 (n4-1))]) q6.2).bind fun q7 =>
 ((some q7.1).bind AV.asBool).bind fun b8 =>
 (go (.fn F.kqf [.ptr (some a1)]) q7.2).bind fun q9 =>
 some (q9.1,q9.2):=(ke _ h).trans (by kernel_rfl)
theorem ky3(a1:Sl)(a2:Int)(a3:Sl)(h:AH):go (.fn F.kfe [a1.v,.agg [.int .i64 a2,a3.v]]) h =
 newK h (.cells [.int .i64 a2,a3.v] T.kw) fun h4r h4 =>
 newK h4 (.cells [.int .i64 0,.int .i64 0] T.kbc) fun h5r h5 =>
 newK h5 (.cells [.int .i64 0,.int .i64 0] T.kbc) fun h6r h6 =>
 ((h6.cell (h4r.add 0)).bind (AV.asInt .i64)).bind fun n7 =>
 ((h6.cell (h4r.add 1)).bind AV.asSl).bind fun l8 =>
 (go (.fn F.kk0 [.agg [.int .i64 n7,l8.v]]) h6).bind fun q9 =>
 ((some q9.1).bind AV.asSl).bind fun l10 =>
 go (.pt F.kfe Td.kk8 [(0,a1.v),(4,.ptr (some h5r)),(5,.ptr (some h6r)),(9,l10.v),(10,.int .i64 (l10.len:Int)),(11,.int .i64 0)]) q9.2:=(ke _ h).trans (by kernel_rfl)
theorem kw8(a1 a2:Sl)(a3:Int)(a4:Sl)(h:AH):go (.fn F.kcd [a1.v,a2.v,.agg [.int .i64 a3,a4.v]]) h =
 newK h (.cells [.int .i64 a3,a4.v] T.kw) fun h5r h5 =>
 go (.pt F.kcd Td.kjk [(1,a2.v),(5,.ptr (some h5r)),(8,(⟨none,0,.is 0⟩:Sl).v),(9,(⟨none,0,.is 0⟩:Sl).v),(17,a1.v),(18,.int .i64 (a1.len:Int)),(19,.int .i64 0)]) h5:=(ke _ h).trans (by kernel_rfl)
theorem k40(a1 a2 a3 a4:Int)(a5:Sl)(h:AH):go (.fn F.kdx [.int .i64 a1,.int .i64 a2,.agg [.int .i64 a3,.int .i64 a4],a5.v]) h =
 newK h (.cells [.int .i64 a3,.int .i64 a4] T.kbc) fun h6r h6 =>
 ((h6.cell (h6r.add 0)).bind (AV.asInt .i64)).bind fun n7 =>
 ((h6.cell (h6r.add 1)).bind (AV.asInt .i64)).bind fun n8 =>
 (go (.fn F.kgl [.agg [.int .i64 n7,.int .i64 n8]]) h6).bind fun q9 =>
 ((some q9.1).bind AV.asBool).bind fun b10 =>
 cond (!b10) (
 some (.tup [(⟨none,0,.is 0⟩:Sl).v,.int .i64 1],q9.2)) (
 (go (.fn F.kjm [.int .i64 a1]) q9.2).bind fun q11 =>
 ((some q11.1).bind AV.asBool).bind fun b12 =>
 cond (!b12) (
 some (.tup [(⟨none,0,.is 0⟩:Sl).v,.int .i64 1],q11.2)) (
 cond (decide (a2<0)) (
 some (.tup [(⟨none,0,.is 0⟩:Sl).v,.int .i64 1],q11.2)) (
 cond (decide (a2>1048576)) (
 some (.tup [(⟨none,0,.is 0⟩:Sl).v,.int .i64 1],q11.2)) (
 cond (decide ((a5.len:Int)>16384)) (
 some (.tup [(⟨none,0,.is 0⟩:Sl).v,.int .i64 1],q11.2)) (
 newK q11.2 (.cells [(⟨none,0,.is 0⟩:Sl).v] T.kbm) fun h13r h13 =>
 (go (.fn F.kgc [.int .i64 a2]) h13).bind fun q14 =>
 (AV.asAgg q14.1).bind fun cs15 =>
 cond (Nat.beq cs15.length 2) (
 ((cs15[0]?).bind AV.asBool).bind fun b16 =>
 ((cs15[1]?).bind AV.asSl).bind fun l17 =>
 newK q14.2 (.cells [.int .u64 1] T.kj) fun h18r h18 =>
 (go (.fn F.kic [.agg [.bool b16,l17.v],(⟨some h18r,1,.is 1⟩:Sl).v]) h18).bind fun q19 =>
 (AV.asTup2 q19.1).bind fun p20 =>
 (AV.asAgg p20.1).bind fun cs21 =>
 cond (Nat.beq cs21.length 3) (
 ((cs21[0]?).bind AV.asBool).bind fun b22 =>
 ((cs21[1]?).bind AV.asSl).bind fun l23 =>
 ((cs21[2]?).bind AV.asSl).bind fun l24 =>
 ((some p20.2).bind (AV.asInt .i64)).bind fun n25 =>
 newK q19.2 (.cells [.bool false,(⟨none,0,.is 0⟩:Sl).v,(⟨none,0,.is 0⟩:Sl).v] T.ky) fun h26r h26 =>
 (h26.puts h26r [.bool b22,l23.v,l24.v]).bind fun h27 =>
 go (.pt F.kdx Td.kgp [(0,.int .i64 a1),(6,.ptr (some h6r)),(10,.ptr (some h13r)),(13,.func (.func F.kd3) [] [.ptr (some h26r),.ptr (some h13r)]),(47,a5.v),(48,.int .i64 (a5.len:Int)),(49,.int .i64 0)]) h27) none) none))))):=(ke _ h).trans (by kernel_rfl)
theorem krb(a1 a2 a3:Sl)(a4 a5 a6 a7 a8 a9:Ref)(a10 a11:Sl)(h:AH):go (.pt F.kby Td.khz [(1,a1.v),(2,a2.v),(3,a3.v),(4,.ptr (some a4)),(8,.ptr (some a5)),(11,.ptr (some a6)),(12,.ptr (some a7)),(13,.ptr (some a8)),(14,.ptr (some a9)),(15,a10.v),(16,a11.v)]) h =
 cond (decide ((a10.len:Int)=0)) (
 ((h.cell (a4.add 0)).bind (AV.asInt .i64)).bind fun n12 =>
 ((h.cell (a4.add 1)).bind (AV.asInt .i64)).bind fun n13 =>
 ((h.cell (a4.add 2)).bind (AV.asInt .i64)).bind fun n14 =>
 ((h.cell (a4.add 3)).bind (AV.asInt .i64)).bind fun n15 =>
 ((h.cell (a4.add 4)).bind (AV.asInt .i64)).bind fun n16 =>
 ((h.cell (a4.add 5)).bind (AV.asInt .i64)).bind fun n17 =>
 ((h.cell (a4.add 6)).bind (AV.asInt .i64)).bind fun n18 =>
 ((h.cell (a4.add 7)).bind (AV.asInt .i64)).bind fun n19 =>
 ((h.cell (a9.add 0)).bind (AV.asInt .i64)).bind fun n20 =>
 ((h.cell (a9.add 1)).bind (AV.asInt .i64)).bind fun n21 =>
 (go (.fn F.ki3 [.agg [.int .i64 n12,.int .i64 n13,.int .i64 n14,.int .i64 n15,.int .i64 n16,.int .i64 n17,.int .i64 n18,.int .i64 n19],.agg [.int .i64 n20,.int .i64 n21]]) h).bind fun q22 =>
 (AV.asTup2 q22.1).bind fun p23 =>
 ((some p23.1).bind (AV.asInt .i64)).bind fun n24 =>
 ((some p23.2).bind (AV.asInt .i64)).bind fun n25 =>
 ((q22.2.cell (a6.add 0)).bind AV.asSl).bind fun l26 =>
 ((q22.2.cell (a8.add 0)).bind (AV.asInt .i64)).bind fun n27 =>
 (idx l26.ref l26.len n27 7).bind fun r28 =>
 (q22.2.puts r28 [.bool true,.int .i64 n24,.int .i64 0,.int .i64 0,.int .i64 0,.int .i64 0,.int .i64 0]).bind fun h29 =>
 ((h29.cell ((a8.add 2).add 0)).bind (AV.asInt .i64)).bind fun n30 =>
 ((h29.cell ((a8.add 2).add 1)).bind AV.asSl).bind fun l31 =>
 (go (.fn F.kk0 [.agg [.int .i64 n30,l31.v]]) h29).bind fun q32 =>
 ((some q32.1).bind AV.asSl).bind fun l33 =>
 go (.pt F.kby Td.kkl [(1,a1.v),(2,a2.v),(3,a3.v),(4,.ptr (some a4)),(8,.ptr (some a5)),(11,.ptr (some a6)),(12,.ptr (some a7)),(18,.int .i64 n24),(92,l33.v),(93,.int .i64 (l33.len:Int)),(94,.int .i64 0)]) q32.2) (
 (idx a10.ref a10.len 0 1).bind fun r34 =>
 ((h.cell r34).bind (AV.asInt .i64)).bind fun n35 =>
 (idx a11.ref a11.len n35 9).bind fun r36 =>
 ((h.cell (r36.add 0)).bind AV.asBool).bind fun b37 =>
 ((h.cell (r36.add 1)).bind (AV.asInt .i64)).bind fun n38 =>
 ((h.cell (r36.add 2)).bind (AV.asInt .i64)).bind fun n39 =>
 ((h.cell (r36.add 3)).bind (AV.asInt .i64)).bind fun n40 =>
 ((h.cell (r36.add 4)).bind (AV.asInt .i64)).bind fun n41 =>
 ((h.cell (r36.add 5)).bind (AV.asInt .i64)).bind fun n42 =>
 ((h.cell (r36.add 6)).bind (AV.asInt .i64)).bind fun n43 =>
 ((h.cell (r36.add 7)).bind (AV.asInt .i64)).bind fun n44 =>
 ((h.cell (r36.add 8)).bind AV.asSl).bind fun l45 =>
 newK h (.cells [.bool false,.int .i64 0,.int .i64 0,.int .i64 0,.int .i64 0,.int .i64 0,.int .i64 0,.int .i64 0,(⟨none,0,.is 0⟩:Sl).v] T.kd4) fun h46r h46 =>
 (h46.puts h46r [.bool b37,.int .i64 n38,.int .i64 n39,.int .i64 n40,.int .i64 n41,.int .i64 n42,.int .i64 n43,.int .i64 n44,l45.v]).bind fun h47 =>
 ((h47.cell ((h46r.add 0).add 0)).bind AV.asBool).bind fun b48 =>
 ((h47.cell ((h46r.add 0).add 1)).bind (AV.asInt .i64)).bind fun n49 =>
 ((h47.cell ((h46r.add 0).add 2)).bind (AV.asInt .i64)).bind fun n50 =>
 ((h47.cell ((h46r.add 0).add 3)).bind (AV.asInt .i64)).bind fun n51 =>
 ((h47.cell ((h46r.add 0).add 4)).bind (AV.asInt .i64)).bind fun n52 =>
 ((h47.cell ((h46r.add 0).add 5)).bind (AV.asInt .i64)).bind fun n53 =>
 ((h47.cell ((h46r.add 0).add 6)).bind (AV.asInt .i64)).bind fun n54 =>
 newK h47 (.cells [.bool false,.int .i64 0,.int .i64 0,.int .i64 0,.int .i64 0,.int .i64 0,.int .i64 0] T.kb8) fun h55r h55 =>
 (h55.puts h55r [.bool b48,.int .i64 n49,.int .i64 n50,.int .i64 n51,.int .i64 n52,.int .i64 n53,.int .i64 n54]).bind fun h56 =>
 ((h56.cell (a6.add 0)).bind AV.asSl).bind fun l57 =>
 ((h56.cell (a6.add 0)).bind AV.asSl).bind fun l58 =>
 (h56.puts (h55r.add 5) [.int .i64 (l57.len:Int)]).bind fun h59 =>
 whenK (SameAt h56 h59 (a6.add 0) 1) (
 (h59.puts (h55r.add 6) [.int .i64 (IntKind.wrap .i64 ((l58.len:Int)+1))]).bind fun h60 =>
 ((h60.cell (a6.add 0)).bind AV.asSl).bind fun l61 =>
 ((h60.cell (a8.add 0)).bind (AV.asInt .i64)).bind fun n62 =>
 ((h60.cell (h55r.add 0)).bind AV.asBool).bind fun b63 =>
 ((h60.cell (h55r.add 1)).bind (AV.asInt .i64)).bind fun n64 =>
 ((h60.cell (h55r.add 2)).bind (AV.asInt .i64)).bind fun n65 =>
 ((h60.cell (h55r.add 3)).bind (AV.asInt .i64)).bind fun n66 =>
 ((h60.cell (h55r.add 4)).bind (AV.asInt .i64)).bind fun n67 =>
 ((h60.cell (h55r.add 5)).bind (AV.asInt .i64)).bind fun n68 =>
 ((h60.cell (h55r.add 6)).bind (AV.asInt .i64)).bind fun n69 =>
 (idx l61.ref l61.len n62 7).bind fun r70 =>
 (h60.puts r70 [.bool b63,.int .i64 n64,.int .i64 n65,.int .i64 n66,.int .i64 n67,.int .i64 n68,.int .i64 n69]).bind fun h71 =>
 ((h71.cell (a6.add 0)).bind AV.asSl).bind fun l72 =>
 newK h71 (.cells [.bool false,.int .i64 0,.int .i64 0,.int .i64 0,.int .i64 0,.int .i64 0,.int .i64 0,.bool false,.int .i64 0,.int .i64 0,.int .i64 0,.int .i64 0,.int .i64 0,.int .i64 0] T.kb8) fun h73r h73 =>
 (kb3 Pg T.kb8 ((⟨some h73r,2,.is 2⟩:Sl).v) h73).bind fun p75 =>
 (kx Pg l72 p75.1 p75.2 T.kb8 7 h73).bind fun q74 =>
 (AV.asSl q74.1).bind fun l76 =>
 (q74.2.puts (a6.add 0) [l76.v]).bind fun h77 =>
 ((h77.cell ((a8.add 2).add 0)).bind (AV.asInt .i64)).bind fun n78 =>
 ((h77.cell ((a8.add 2).add 1)).bind AV.asSl).bind fun l79 =>
 ((h77.cell ((h46r.add 7).add 0)).bind (AV.asInt .i64)).bind fun n80 =>
 ((h77.cell ((h46r.add 7).add 1)).bind AV.asSl).bind fun l81 =>
 (go (.fn F.kov [.agg [.int .i64 n78,l79.v],.agg [.int .i64 n80,l81.v]]) h77).bind fun q82 =>
 (AV.asTup2 q82.1).bind fun p83 =>
 (AV.asAgg p83.1).bind fun cs84 =>
 cond (Nat.beq cs84.length 2) (
 ((cs84[0]?).bind (AV.asInt .i64)).bind fun n85 =>
 ((cs84[1]?).bind AV.asSl).bind fun l86 =>
 ((some p83.2).bind (AV.asInt .i64)).bind fun n87 =>
 newK q82.2 (.cells [.int .i64 0,(⟨none,0,.is 0⟩:Sl).v] T.kw) fun h88r h88 =>
 (h88.puts h88r [.int .i64 n85,l86.v]).bind fun h89 =>
 ((h89.cell (h55r.add 5)).bind (AV.asInt .i64)).bind fun n90 =>
 ((h89.cell (a8.add 1)).bind (AV.asInt .i64)).bind fun n91 =>
 ((h89.cell ((h46r.add 7).add 0)).bind (AV.asInt .i64)).bind fun n92 =>
 ((h89.cell ((h46r.add 7).add 1)).bind AV.asSl).bind fun l93 =>
 (go (.fn F.kk2 [.iface T.kbp (.ptr (some a7)),.iface T.kbf (.agg [.int .i64 n90,.int .i64 (IntKind.wrap .i64 (n91+1)),.int .i64 n92,l93.v])]) h89).bind fun q94 =>
 (AV.asTup0 q94.1).bind fun _ =>
 ((q94.2.cell (h55r.add 6)).bind (AV.asInt .i64)).bind fun n95 =>
 ((q94.2.cell (a8.add 1)).bind (AV.asInt .i64)).bind fun n96 =>
 ((q94.2.cell (h88r.add 0)).bind (AV.asInt .i64)).bind fun n97 =>
 ((q94.2.cell (h88r.add 1)).bind AV.asSl).bind fun l98 =>
 (go (.fn F.kk2 [.iface T.kbp (.ptr (some a7)),.iface T.kbf (.agg [.int .i64 n95,.int .i64 (IntKind.wrap .i64 (n96+1)),.int .i64 n97,l98.v])]) q94.2).bind fun q99 =>
 (AV.asTup0 q99.1).bind fun _ =>
 go (.pt F.kby Td.kfo [(1,a1.v),(2,a2.v),(3,a3.v),(4,.ptr (some a4)),(8,.ptr (some a5)),(11,.ptr (some a6)),(12,.ptr (some a7))]) q99.2) none)):=(ke _ h).trans (by kernel_rfl)
theorem kxj(a1:Sl)(h:AH):go (.fn F.kbo [a1.v,.func (.func F.kde) [] []]) h =
 go (.pt F.kbo Td.kck [(0,a1.v),(1,.func (.func F.kde) [] []),(7,.int .i64 (a1.len:Int)),(8,.int .i64 0)]) h:=(ke _ h).trans (by kernel_rfl)
theorem kq6(a1:Nat)(a2:Sl)(a3 a4:Int)(h:AH):go (.pt F.kgs Td.kld [(3,.map (some a1)),(7,a2.v),(8,.int .i64 a3),(9,.int .i64 a4)]) h =
 cond (decide (a4<a3)) (
 (idx a2.ref a2.len a4 1).bind fun r5 =>
 ((h.cell r5).bind (AV.asInt .i64)).bind fun n6 =>
 (mapPut h a1 .i64 n6 (.int .i64 a4)).bind fun h7 =>
 go (.pt F.kgs Td.kld [(3,.map (some a1)),(7,a2.v),(8,.int .i64 a3),(9,.int .i64 (IntKind.wrap .i64 (a4+1)))]) h7) (
 some (.map (some a1),h)):=(ke _ h).trans (by kernel_rfl)
theorem k78(a1:Sl)(a2:Option Ref)(h:AH):go (.fn F.kbo [a1.v,.func (.func F.kdh) [] [.ptr a2]]) h =
 go (.pt F.kbo Td.kck [(0,a1.v),(1,.func (.func F.kdh) [] [.ptr a2]),(7,.int .i64 (a1.len:Int)),(8,.int .i64 0)]) h:=(ke _ h).trans (by kernel_rfl)
theorem k3m(a1:Int)(h:AH):go (.fn F.kdb [.int .i64 a1]) h =
 cond (decide (a1<(-1048576))) (
 some (.bool true,h)) (
 some (.bool (decide (a1>1048576)),h)):=(ke _ h).trans (by kernel_rfl)
theorem kbaj(a1:Sl)(a2 a3:Int)(h:AH):go (.fn F.kfc [a1.v,.int .i64 a2,.int .i64 a3]) h =
 (idx a1.ref a1.len a3 4).bind fun r4 =>
 ((h.cell (r4.add 0)).bind (AV.asInt .i64)).bind fun n5 =>
 ((h.cell (r4.add 1)).bind (AV.asInt .i64)).bind fun n6 =>
 ((h.cell (r4.add 2)).bind (AV.asInt .i64)).bind fun n7 =>
 ((h.cell (r4.add 3)).bind AV.asSl).bind fun l8 =>
 (idx a1.ref a1.len a2 4).bind fun r9 =>
 ((h.cell (r9.add 0)).bind (AV.asInt .i64)).bind fun n10 =>
 ((h.cell (r9.add 1)).bind (AV.asInt .i64)).bind fun n11 =>
 ((h.cell (r9.add 2)).bind (AV.asInt .i64)).bind fun n12 =>
 ((h.cell (r9.add 3)).bind AV.asSl).bind fun l13 =>
 (idx a1.ref a1.len a2 4).bind fun r14 =>
 (h.puts r14 [.int .i64 n5,.int .i64 n6,.int .i64 n7,l8.v]).bind fun h15 =>
 (idx a1.ref a1.len a3 4).bind fun r16 =>
 (h15.puts r16 [.int .i64 n10,.int .i64 n11,.int .i64 n12,l13.v]).bind fun h17 =>
 some (.tup [],h17):=(ke _ h).trans (by kernel_rfl)
theorem kx4(a1:Ref)(a2 a3:Int)(h:AH):go (.fn F.kd9 [.iface T.kbp (.ptr (some a1)),.int .i64 a2,.int .i64 a3]) h =
 go (.pt F.kd9 Td.kgd [(0,.iface T.kbp (.ptr (some a1))),(1,.int .i64 a2),(2,.int .i64 a3),(7,.int .i64 a2)]) h:=(ke _ h).trans (by kernel_rfl)
theorem kyr(a1:Option Ref)(h:AH):go (.fn F.kqf [.ptr a1]) h =
 a1.bind fun r2 =>
 ((h.cell r2).bind AV.asSl).bind fun l3 =>
 a1.bind fun r4 =>
 ((h.cell r4).bind AV.asSl).bind fun l5 =>
 (idx l5.ref l5.len (IntKind.wrap .i64 ((l3.len:Int)-1)) 4).bind fun r6 =>
 ((h.cell (r6.add 0)).bind (AV.asInt .i64)).bind fun n7 =>
 ((h.cell (r6.add 1)).bind (AV.asInt .i64)).bind fun n8 =>
 ((h.cell (r6.add 2)).bind (AV.asInt .i64)).bind fun n9 =>
 ((h.cell (r6.add 3)).bind AV.asSl).bind fun l10 =>
 newK h (.cells [.int .i64 0,.int .i64 0,.int .i64 0,(⟨none,0,.is 0⟩:Sl).v] T.kbf) fun h11r h11 =>
 (h11.puts h11r [.int .i64 n7,.int .i64 n8,.int .i64 n9,l10.v]).bind fun h12 =>
 a1.bind fun r13 =>
 ((h12.cell r13).bind AV.asSl).bind fun l14 =>
 (cutSl l14 0 (IntKind.wrap .i64 ((l3.len:Int)-1)) 4).bind fun l15 =>
 a1.bind fun r16 =>
 (h12.puts r16 [l15.v]).bind fun h17 =>
 ((h17.cell (h11r.add 0)).bind (AV.asInt .i64)).bind fun n18 =>
 ((h17.cell (h11r.add 1)).bind (AV.asInt .i64)).bind fun n19 =>
 ((h17.cell (h11r.add 2)).bind (AV.asInt .i64)).bind fun n20 =>
 ((h17.cell (h11r.add 3)).bind AV.asSl).bind fun l21 =>
 some (.iface T.kbf (.agg [.int .i64 n18,.int .i64 n19,.int .i64 n20,l21.v]),h17):=(ke _ h).trans (by kernel_rfl)
theorem kza(a1:Int)(a2:Sl)(h:AH):go (.fn F.kk0 [.agg [.int .i64 a1,a2.v]]) h =
 newK h (.cells [.int .i64 a1,a2.v] T.kw) fun h3r h3 =>
 ((h3.cell (h3r.add 0)).bind (AV.asInt .i64)).bind fun n4 =>
 ((h3.cell (h3r.add 1)).bind AV.asSl).bind fun l5 =>
 (go (.fn F.kf9 [.agg [.int .i64 n4,l5.v]]) h3).bind fun q6 =>
 ((some q6.1).bind AV.asBool).bind fun b7 =>
 cond (!b7) (
 some ((⟨none,0,.is 0⟩:Sl).v,q6.2)) (
 ((q6.2.cell (h3r.add 0)).bind (AV.asInt .i64)).bind fun n8 =>
 ((q6.2.cell (h3r.add 1)).bind AV.asSl).bind fun l9 =>
 (go (.fn F.ko5 [.agg [.int .i64 n8,l9.v]]) q6.2).bind fun q10 =>
 (go (.fn F.kp3 [q10.1]) q10.2).bind fun q11 =>
 ((some q11.1).bind AV.asSl).bind fun l12 =>
 some (l12.v,q11.2)):=(ke _ h).trans (by kernel_rfl)
theorem kt0(a1:Sl)(a2 a3:Ref)(a4:Sl)(a5 a6:Int)(h:AH):go (.pt F.kfe Td.kk8 [(0,a1.v),(4,.ptr (some a2)),(5,.ptr (some a3)),(9,a4.v),(10,.int .i64 a5),(11,.int .i64 a6)]) h =
 cond (decide (a6<a5)) (
 (idx a4.ref a4.len a6 1).bind fun r7 =>
 ((h.cell r7).bind (AV.asInt .i64)).bind fun n8 =>
 ((h.cell (a3.add 0)).bind (AV.asInt .i64)).bind fun n9 =>
 (idx a1.ref a1.len n8 1).bind fun r10 =>
 ((h.cell r10).bind (AV.asInt .i64)).bind fun n11 =>
 (h.puts (a3.add 0) [.int .i64 (IntKind.wrap .i64 (n9+n11))]).bind fun h12 =>
 ((h12.cell (a3.add 1)).bind (AV.asInt .i64)).bind fun n13 =>
 (h12.puts (a3.add 1) [.int .i64 (IntKind.wrap .i64 (n13+1))]).bind fun h14 =>
 go (.pt F.kfe Td.kk8 [(0,a1.v),(4,.ptr (some a2)),(5,.ptr (some a3)),(9,a4.v),(10,.int .i64 a5),(11,.int .i64 (IntKind.wrap .i64 (a6+1)))]) h14) (
 ((h.cell (a3.add 0)).bind (AV.asInt .i64)).bind fun n15 =>
 ((h.cell (a3.add 1)).bind (AV.asInt .i64)).bind fun n16 =>
 (h.puts a2 [.int .i64 n15,.int .i64 n16]).bind fun h17 =>
 ((h17.cell (a2.add 0)).bind (AV.asInt .i64)).bind fun n18 =>
 ((h17.cell (a2.add 1)).bind (AV.asInt .i64)).bind fun n19 =>
 some (.agg [.int .i64 n18,.int .i64 n19],h17)):=(ke _ h).trans (by kernel_rfl)
theorem ktc(a1:Sl)(a2:Ref)(a3 a4 a5:Sl)(a6 a7:Int)(h:AH):go (.pt F.kcd Td.kjk [(1,a1.v),(5,.ptr (some a2)),(8,a3.v),(9,a4.v),(17,a5.v),(18,.int .i64 a6),(19,.int .i64 a7)]) h =
 cond (decide (a7<a6)) (
 (idx a5.ref a5.len a7 3).bind fun r8 =>
 ((h.cell (r8.add 0)).bind AV.asSl).bind fun l9 =>
 ((h.cell (r8.add 1)).bind AV.asSl).bind fun l10 =>
 ((h.cell (r8.add 2)).bind AV.asSl).bind fun l11 =>
 newK h (.cells [(⟨none,0,.is 0⟩:Sl).v,(⟨none,0,.is 0⟩:Sl).v,(⟨none,0,.is 0⟩:Sl).v] T.kbi) fun h12r h12 =>
 (h12.puts h12r [l9.v,l10.v,l11.v]).bind fun h13 =>
 ((h13.cell (h12r.add 1)).bind AV.asSl).bind fun l14 =>
 go (.pt F.kcd Td.kke [(1,a1.v),(5,.ptr (some a2)),(8,a3.v),(9,a4.v),(10,.int .i64 a7),(11,.ptr (some h12r)),(17,a5.v),(18,.int .i64 a6),(19,.int .i64 a7),(25,l14.v),(26,.int .i64 (l14.len:Int)),(27,.int .i64 0)]) h13) (
 some (.tup [a3.v,a4.v],h)):=(ke _ h).trans (by kernel_rfl)
theorem kban(a1 a2:Int)(h:AH):go (.fn F.kgl [.agg [.int .i64 a1,.int .i64 a2]]) h =
 newK h (.cells [.int .i64 a1,.int .i64 a2] T.kbc) fun h3r h3 =>
 ((h3.cell (h3r.add 0)).bind (AV.asInt .i64)).bind fun n4 =>
 cond (decide (n4≥(-1099511627776))) (
 ((h3.cell (h3r.add 0)).bind (AV.asInt .i64)).bind fun n5 =>
 cond (decide (n5≤1099511627776)) (
 ((h3.cell (h3r.add 1)).bind (AV.asInt .i64)).bind fun n6 =>
 cond (decide (n6≥0)) (
 ((h3.cell (h3r.add 1)).bind (AV.asInt .i64)).bind fun n7 =>
 some (.bool (decide (n7≤1048576)),h3)) (
 some (.bool false,h3))) (
 some (.bool false,h3))) (
 some (.bool false,h3)):=(ke _ h).trans (by kernel_rfl)
theorem k9j(a1:Int)(h:AH):go (.fn F.kjm [.int .i64 a1]) h =
 cond (decide (a1≥1)) (
 some (.bool (decide (a1≤1048576)),h)) (
 some (.bool false,h)):=(ke _ h).trans (by kernel_rfl)
theorem kxn(a1:Int)(h:AH):go (.fn F.kgc [.int .i64 a1]) h =
 newK h (.cells [.bool false,(⟨none,0,.is 0⟩:Sl).v] T.kg) fun h2r h2 =>
 cond (decide (a1<0)) (
 (go (.fn F.keb [.int .u64 (IntKind.wrap .u64 (0-(IntKind.wrap .u64 a1)))]) h2).bind fun q3 =>
 ((some q3.1).bind AV.asSl).bind fun l4 =>
 (go (.fn F.kb5 [.bool true,l4.v]) q3.2).bind fun q5 =>
 (AV.asAgg q5.1).bind fun cs6 =>
 cond (Nat.beq cs6.length 2) (
 ((cs6[0]?).bind AV.asBool).bind fun b7 =>
 ((cs6[1]?).bind AV.asSl).bind fun l8 =>
 (q5.2.puts h2r [.bool b7,l8.v]).bind fun h9 =>
 ((h9.cell (h2r.add 0)).bind AV.asBool).bind fun b10 =>
 ((h9.cell (h2r.add 1)).bind AV.asSl).bind fun l11 =>
 some (.agg [.bool b10,l11.v],h9)) none) (
 (go (.fn F.keb [.int .u64 (IntKind.wrap .u64 a1)]) h2).bind fun q12 =>
 ((some q12.1).bind AV.asSl).bind fun l13 =>
 (go (.fn F.kb5 [.bool false,l13.v]) q12.2).bind fun q14 =>
 (AV.asAgg q14.1).bind fun cs15 =>
 cond (Nat.beq cs15.length 2) (
 ((cs15[0]?).bind AV.asBool).bind fun b16 =>
 ((cs15[1]?).bind AV.asSl).bind fun l17 =>
 (q14.2.puts h2r [.bool b16,l17.v]).bind fun h18 =>
 ((h18.cell (h2r.add 0)).bind AV.asBool).bind fun b19 =>
 ((h18.cell (h2r.add 1)).bind AV.asSl).bind fun l20 =>
 some (.agg [.bool b19,l20.v],h18)) none):=(ke _ h).trans (by kernel_rfl)
theorem kz4(a1:Bool)(a2 a3:Sl)(h:AH):go (.fn F.kic [.agg [.bool a1,a2.v],a3.v]) h =
 newK h (.cells [.bool a1,a2.v] T.kg) fun h4r h4 =>
 newK h4 (.cells [.bool false,(⟨none,0,.is 0⟩:Sl).v,(⟨none,0,.is 0⟩:Sl).v] T.ky) fun h5r h5 =>
 ((h5.cell (h4r.add 0)).bind AV.asBool).bind fun b6 =>
 ((h5.cell (h4r.add 1)).bind AV.asSl).bind fun l7 =>
 (go (.fn F.ke7 [.agg [.bool b6,l7.v]]) h5).bind fun q8 =>
 ((some q8.1).bind AV.asBool).bind fun b9 =>
 cond (!b9) (
 (q8.2.puts h5r [.bool false,(⟨none,0,.is 0⟩:Sl).v,(⟨none,0,.is 0⟩:Sl).v]).bind fun h10 =>
 ((h10.cell (h5r.add 0)).bind AV.asBool).bind fun b11 =>
 ((h10.cell (h5r.add 1)).bind AV.asSl).bind fun l12 =>
 ((h10.cell (h5r.add 2)).bind AV.asSl).bind fun l13 =>
 some (.tup [.agg [.bool b11,l12.v,l13.v],.int .i64 1],h10)) (
 (go (.fn F.kd5 [a3.v]) q8.2).bind fun q14 =>
 ((some q14.1).bind AV.asBool).bind fun b15 =>
 cond (!b15) (
 (q14.2.puts h5r [.bool false,(⟨none,0,.is 0⟩:Sl).v,(⟨none,0,.is 0⟩:Sl).v]).bind fun h16 =>
 ((h16.cell (h5r.add 0)).bind AV.asBool).bind fun b17 =>
 ((h16.cell (h5r.add 1)).bind AV.asSl).bind fun l18 =>
 ((h16.cell (h5r.add 2)).bind AV.asSl).bind fun l19 =>
 some (.tup [.agg [.bool b17,l18.v,l19.v],.int .i64 1],h16)) (
 cond (decide ((a3.len:Int)=0)) (
 (q14.2.puts h5r [.bool false,(⟨none,0,.is 0⟩:Sl).v,(⟨none,0,.is 0⟩:Sl).v]).bind fun h20 =>
 ((h20.cell (h5r.add 0)).bind AV.asBool).bind fun b21 =>
 ((h20.cell (h5r.add 1)).bind AV.asSl).bind fun l22 =>
 ((h20.cell (h5r.add 2)).bind AV.asSl).bind fun l23 =>
 some (.tup [.agg [.bool b21,l22.v,l23.v],.int .i64 3],h20)) (
 ((q14.2.cell (h4r.add 1)).bind AV.asSl).bind fun l24 =>
 (go (.fn F.ke1 [l24.v,a3.v]) q14.2).bind fun q25 =>
 (AV.asTup2 q25.1).bind fun p26 =>
 ((some p26.1).bind AV.asSl).bind fun l27 =>
 ((some p26.2).bind (AV.asInt .i64)).bind fun n28 =>
 ((q25.2.cell (h4r.add 1)).bind AV.asSl).bind fun l29 =>
 (go (.fn F.kf5 [l29.v,l27.v]) q25.2).bind fun q30 =>
 (AV.asTup3 q30.1).bind fun p31 =>
 ((some p31.1).bind AV.asSl).bind fun l32 =>
 ((some p31.2.1).bind AV.asSl).bind fun l33 =>
 ((some p31.2.2).bind (AV.asInt .i64)).bind fun n34 =>
 (go (.fn F.kf5 [a3.v,l27.v]) q30.2).bind fun q35 =>
 (AV.asTup3 q35.1).bind fun p36 =>
 ((some p36.1).bind AV.asSl).bind fun l37 =>
 ((some p36.2.1).bind AV.asSl).bind fun l38 =>
 ((some p36.2.2).bind (AV.asInt .i64)).bind fun n39 =>
 cond (decide ((imax (l32.len:Int) (l37.len:Int))>16)) (
 (q35.2.puts h5r [.bool false,(⟨none,0,.is 0⟩:Sl).v,(⟨none,0,.is 0⟩:Sl).v]).bind fun h40 =>
 ((h40.cell (h5r.add 0)).bind AV.asBool).bind fun b41 =>
 ((h40.cell (h5r.add 1)).bind AV.asSl).bind fun l42 =>
 ((h40.cell (h5r.add 2)).bind AV.asSl).bind fun l43 =>
 some (.tup [.agg [.bool b41,l42.v,l43.v],.int .i64 4],h40)) (
 ((q35.2.cell (h4r.add 0)).bind AV.asBool).bind fun b44 =>
 (go (.fn F.kb5 [.bool b44,l32.v]) q35.2).bind fun q45 =>
 (AV.asAgg q45.1).bind fun cs46 =>
 cond (Nat.beq cs46.length 2) (
 ((cs46[0]?).bind AV.asBool).bind fun b47 =>
 ((cs46[1]?).bind AV.asSl).bind fun l48 =>
 (q45.2.puts h5r [.bool b47,l48.v,l37.v]).bind fun h49 =>
 ((h49.cell (h5r.add 0)).bind AV.asBool).bind fun b50 =>
 ((h49.cell (h5r.add 1)).bind AV.asSl).bind fun l51 =>
 ((h49.cell (h5r.add 2)).bind AV.asSl).bind fun l52 =>
 some (.tup [.agg [.bool b50,l51.v,l52.v],.int .i64 0],h49)) none)))):=(ke _ h).trans (by kernel_rfl)
theorem ktq(a1:Int)(a2 a3 a4 a5:Ref)(a6:Sl)(a7 a8:Int)(h:AH):go (.pt F.kdx Td.kgp [(0,.int .i64 a1),(6,.ptr (some a2)),(10,.ptr (some a3)),(13,.func (.func F.kd3) [] [.ptr (some a4),.ptr (some a5)]),(47,a6.v),(48,.int .i64 a7),(49,.int .i64 a8)]) h =
 cond (decide (a8<a7)) (
 (idx a6.ref a6.len a8 2).bind fun r9 =>
 ((h.cell (r9.add 0)).bind (AV.asInt .i64)).bind fun n10 =>
 ((h.cell (r9.add 1)).bind (AV.asInt .i64)).bind fun n11 =>
 newK h (.cells [.int .i64 0,.int .i64 0] T.kbc) fun h12r h12 =>
 (h12.puts h12r [.int .i64 n10,.int .i64 n11]).bind fun h13 =>
 ((h13.cell (h12r.add 0)).bind (AV.asInt .i64)).bind fun n14 =>
 ((h13.cell (h12r.add 1)).bind (AV.asInt .i64)).bind fun n15 =>
 ((h13.cell (a2.add 0)).bind (AV.asInt .i64)).bind fun n16 =>
 ((h13.cell (a2.add 1)).bind (AV.asInt .i64)).bind fun n17 =>
 (go (.fn F.knj [.int .i64 a1,.agg [.int .i64 n14,.int .i64 n15],.agg [.int .i64 n16,.int .i64 n17]]) h13).bind fun q18 =>
 (AV.asTup2 q18.1).bind fun p19 =>
 (AV.asAgg p19.1).bind fun cs20 =>
 cond (Nat.beq cs20.length 3) (
 ((cs20[0]?).bind AV.asBool).bind fun b21 =>
 ((cs20[1]?).bind AV.asSl).bind fun l22 =>
 ((cs20[2]?).bind AV.asSl).bind fun l23 =>
 ((some p19.2).bind (AV.asInt .i64)).bind fun n24 =>
 newK q18.2 (.cells [.bool false,(⟨none,0,.is 0⟩:Sl).v,(⟨none,0,.is 0⟩:Sl).v] T.ky) fun h25r h25 =>
 (h25.puts h25r [.bool b21,l22.v,l23.v]).bind fun h26 =>
 cond (!decide (n24=0)) (
 some (.tup [(⟨none,0,.is 0⟩:Sl).v,.int .i64 n24],h26)) (
 ((h26.cell (h12r.add 1)).bind (AV.asInt .i64)).bind fun n27 =>
 cond (decide (n27>0)) (
 ((h26.cell (h12r.add 1)).bind (AV.asInt .i64)).bind fun n28 =>
 ((h26.cell (a2.add 1)).bind (AV.asInt .i64)).bind fun n29 =>
 cond (decide (n28<n29)) (
 ((h26.cell (h25r.add 0)).bind AV.asBool).bind fun b30 =>
 ((h26.cell (h25r.add 1)).bind AV.asSl).bind fun l31 =>
 ((h26.cell (h25r.add 2)).bind AV.asSl).bind fun l32 =>
 (go (.fn F.kd3 [.int .i64 a8,.agg [.bool b30,l31.v,l32.v],.ptr (some a4),.ptr (some a5)]) h26).bind fun q33 =>
 (AV.asTup0 q33.1).bind fun _ =>
 go (.pt F.kdx Td.kgp [(0,.int .i64 a1),(6,.ptr (some a2)),(10,.ptr (some a3)),(13,.func (.func F.kd3) [] [.ptr (some a4),.ptr (some a5)]),(47,a6.v),(48,.int .i64 a7),(49,.int .i64 (IntKind.wrap .i64 (a8+1)))]) q33.2) (
 go (.pt F.kdx Td.kgp [(0,.int .i64 a1),(6,.ptr (some a2)),(10,.ptr (some a3)),(13,.func (.func F.kd3) [] [.ptr (some a4),.ptr (some a5)]),(47,a6.v),(48,.int .i64 a7),(49,.int .i64 (IntKind.wrap .i64 (a8+1)))]) h26)) (
 go (.pt F.kdx Td.kgp [(0,.int .i64 a1),(6,.ptr (some a2)),(10,.ptr (some a3)),(13,.func (.func F.kd3) [] [.ptr (some a4),.ptr (some a5)]),(47,a6.v),(48,.int .i64 a7),(49,.int .i64 (IntKind.wrap .i64 (a8+1)))]) h26))) none) (
 ((h.cell a3).bind AV.asSl).bind fun l34 =>
 some (.tup [l34.v,.int .i64 0],h)):=(ke _ h).trans (by kernel_rfl)
theorem kba7(a1 a2 a3 a4 a5 a6 a7 a8 a9 a10:Int)(h:AH):go (.fn F.ki3 [.agg [.int .i64 a1,.int .i64 a2,.int .i64 a3,.int .i64 a4,.int .i64 a5,.int .i64 a6,.int .i64 a7,.int .i64 a8],.agg [.int .i64 a9,.int .i64 a10]]) h =
 newK h (.cells [.int .i64 a1,.int .i64 a2,.int .i64 a3,.int .i64 a4,.int .i64 a5,.int .i64 a6,.int .i64 a7,.int .i64 a8] T.kb0) fun h11r h11 =>
 newK h11 (.cells [.int .i64 a9,.int .i64 a10] T.kbc) fun h12r h12 =>
 ((h12.cell (h11r.add 0)).bind (AV.asInt .i64)).bind fun n13 =>
 ((h12.cell (h11r.add 1)).bind (AV.asInt .i64)).bind fun n14 =>
 ((h12.cell (h11r.add 2)).bind (AV.asInt .i64)).bind fun n15 =>
 ((h12.cell (h11r.add 3)).bind (AV.asInt .i64)).bind fun n16 =>
 ((h12.cell (h11r.add 4)).bind (AV.asInt .i64)).bind fun n17 =>
 ((h12.cell (h11r.add 5)).bind (AV.asInt .i64)).bind fun n18 =>
 ((h12.cell (h11r.add 6)).bind (AV.asInt .i64)).bind fun n19 =>
 ((h12.cell (h11r.add 7)).bind (AV.asInt .i64)).bind fun n20 =>
 (go (.fn F.kif [.agg [.int .i64 n13,.int .i64 n14,.int .i64 n15,.int .i64 n16,.int .i64 n17,.int .i64 n18,.int .i64 n19,.int .i64 n20]]) h12).bind fun q21 =>
 ((some q21.1).bind AV.asBool).bind fun b22 =>
 cond (!b22) (
 some (.tup [.int .i64 0,.int .i64 1],q21.2)) (
 ((q21.2.cell (h12r.add 0)).bind (AV.asInt .i64)).bind fun n23 =>
 (go (.fn F.kcr [.int .i64 n23,.int .i64 (-1099511627776),.int .i64 1099511627776]) q21.2).bind fun q24 =>
 ((some q24.1).bind AV.asBool).bind fun b25 =>
 cond (!b25) (
 some (.tup [.int .i64 0,.int .i64 1],q24.2)) (
 ((q24.2.cell (h12r.add 1)).bind (AV.asInt .i64)).bind fun n26 =>
 (go (.fn F.kcr [.int .i64 n26,.int .i64 0,.int .i64 1048576]) q24.2).bind fun q27 =>
 ((some q27.1).bind AV.asBool).bind fun b28 =>
 cond (!b28) (
 some (.tup [.int .i64 0,.int .i64 1],q27.2)) (
 newK q27.2 (.cells [.bool false,(⟨none,0,.is 0⟩:Sl).v] T.kg) fun h29r h29 =>
 newK h29 (.cells [.bool false,(⟨none,0,.is 0⟩:Sl).v] T.kg) fun h30r h30 =>
 ((h30.cell (h12r.add 0)).bind (AV.asInt .i64)).bind fun n31 =>
 ((h30.cell (h11r.add 4)).bind (AV.asInt .i64)).bind fun n32 =>
 ((h30.cell (h12r.add 1)).bind (AV.asInt .i64)).bind fun n33 =>
 ((h30.cell (h11r.add 2)).bind (AV.asInt .i64)).bind fun n34 =>
 ((h30.cell (h11r.add 5)).bind (AV.asInt .i64)).bind fun n35 =>
 (go (.fn F.kj7 [.int .i64 (IntKind.wrap .i64 (0-n31)),.int .i64 n32]) h30).bind fun q36 =>
 (AV.asAgg q36.1).bind fun cs37 =>
 cond (Nat.beq cs37.length 2) (
 ((cs37[0]?).bind AV.asBool).bind fun b38 =>
 ((cs37[1]?).bind AV.asSl).bind fun l39 =>
 whenK (SameAt h30 q36.2 (h11r.add 5) 1) (
 whenK (SameAt h30 q36.2 (h11r.add 2) 1) (
 whenK (SameAt h30 q36.2 (h12r.add 1) 1) (
 whenK (SameAt h30 q36.2 h30r 0) (
 whenK (SameAt h30 q36.2 h29r 0) (
 (go (.fn F.kj7 [.int .i64 (IntKind.wrap .i64 (n33+n34)),.int .i64 n35]) q36.2).bind fun q40 =>
 (AV.asAgg q40.1).bind fun cs41 =>
 cond (Nat.beq cs41.length 2) (
 ((cs41[0]?).bind AV.asBool).bind fun b42 =>
 ((cs41[1]?).bind AV.asSl).bind fun l43 =>
 whenK (SameAt q36.2 q40.2 h30r 0) (
 whenK (SameAt q36.2 q40.2 h29r 0) (
 (go (.fn F.kna [.agg [.bool b38,l39.v],.agg [.bool b42,l43.v]]) q40.2).bind fun q44 =>
 (AV.asTup3 q44.1).bind fun p45 =>
 (AV.asAgg p45.1).bind fun cs46 =>
 cond (Nat.beq cs46.length 2) (
 ((cs46[0]?).bind AV.asBool).bind fun b47 =>
 ((cs46[1]?).bind AV.asSl).bind fun l48 =>
 (AV.asAgg p45.2.1).bind fun cs49 =>
 cond (Nat.beq cs49.length 2) (
 ((cs49[0]?).bind AV.asBool).bind fun b50 =>
 ((cs49[1]?).bind AV.asSl).bind fun l51 =>
 ((some p45.2.2).bind (AV.asInt .i64)).bind fun n52 =>
 whenK (SameAt q40.2 q44.2 h30r 0) (
 whenK (SameAt q40.2 q44.2 h29r 0) (
 (q44.2.puts h29r [.bool b47,l48.v]).bind fun h53 =>
 (h53.puts h30r [.bool b50,l51.v]).bind fun h54 =>
 ((h54.cell (h29r.add 0)).bind AV.asBool).bind fun b55 =>
 ((h54.cell (h29r.add 1)).bind AV.asSl).bind fun l56 =>
 (go (.fn F.koy [.agg [.bool b55,l56.v]]) h54).bind fun q57 =>
 (AV.asTup2 q57.1).bind fun p58 =>
 ((some p58.1).bind (AV.asInt .i64)).bind fun n59 =>
 ((some p58.2).bind AV.asBool).bind fun b60 =>
 some (.tup [.int .i64 n59,.int .i64 n52],q57.2)))) none) none))) none)))))) none))):=(ke _ h).trans (by kernel_rfl)
theorem kwc(a1 a2 a3:Sl)(a4 a5 a6 a7:Ref)(a8:Int)(a9:Sl)(a10 a11:Int)(h:AH):go (.pt F.kby Td.kkl [(1,a1.v),(2,a2.v),(3,a3.v),(4,.ptr (some a4)),(8,.ptr (some a5)),(11,.ptr (some a6)),(12,.ptr (some a7)),(18,.int .i64 a8),(92,a9.v),(93,.int .i64 a10),(94,.int .i64 a11)]) h =
 cond (decide (a11<a10)) (
 (idx a9.ref a9.len a11 1).bind fun r12 =>
 ((h.cell r12).bind (AV.asInt .i64)).bind fun n13 =>
 (idx a3.ref a3.len n13 1).bind fun r14 =>
 ((h.cell r14).bind (AV.asInt .i64)).bind fun n15 =>
 (idx a3.ref a3.len n13 1).bind fun r16 =>
 (h.puts r16 [.int .i64 (IntKind.wrap .i64 (n15+a8))]).bind fun h17 =>
 go (.pt F.kby Td.kkl [(1,a1.v),(2,a2.v),(3,a3.v),(4,.ptr (some a4)),(8,.ptr (some a5)),(11,.ptr (some a6)),(12,.ptr (some a7)),(18,.int .i64 a8),(92,a9.v),(93,.int .i64 a10),(94,.int .i64 (IntKind.wrap .i64 (a11+1)))]) h17) (
 go (.pt F.kby Td.kfo [(1,a1.v),(2,a2.v),(3,a3.v),(4,.ptr (some a4)),(8,.ptr (some a5)),(11,.ptr (some a6)),(12,.ptr (some a7))]) h):=(ke _ h).trans (by kernel_rfl)
theorem kyp(a1:Int)(a2:Sl)(a3:Int)(a4:Sl)(h:AH):go (.fn F.kov [.agg [.int .i64 a1,a2.v],.agg [.int .i64 a3,a4.v]]) h =
 newK h (.cells [.int .i64 a1,a2.v] T.kw) fun h5r h5 =>
 newK h5 (.cells [.int .i64 a3,a4.v] T.kw) fun h6r h6 =>
 newK h6 (.cells [.int .i64 0,(⟨none,0,.is 0⟩:Sl).v] T.kw) fun h7r h7 =>
 ((h7.cell (h5r.add 0)).bind (AV.asInt .i64)).bind fun n8 =>
 ((h7.cell (h5r.add 1)).bind AV.asSl).bind fun l9 =>
 ((h7.cell (h6r.add 0)).bind (AV.asInt .i64)).bind fun n10 =>
 ((h7.cell (h6r.add 1)).bind AV.asSl).bind fun l11 =>
 (go (.fn F.kcu [.agg [.int .i64 n8,l9.v],.agg [.int .i64 n10,l11.v],.func (.func F.ke2) [] []]) h7).bind fun q12 =>
 (AV.asTup2 q12.1).bind fun p13 =>
 (AV.asAgg p13.1).bind fun cs14 =>
 cond (Nat.beq cs14.length 2) (
 ((cs14[0]?).bind (AV.asInt .i64)).bind fun n15 =>
 ((cs14[1]?).bind AV.asSl).bind fun l16 =>
 ((some p13.2).bind (AV.asInt .i64)).bind fun n17 =>
 (q12.2.puts h7r [.int .i64 n15,l16.v]).bind fun h18 =>
 ((h18.cell (h7r.add 0)).bind (AV.asInt .i64)).bind fun n19 =>
 ((h18.cell (h7r.add 1)).bind AV.asSl).bind fun l20 =>
 some (.tup [.agg [.int .i64 n19,l20.v],.int .i64 n17],h18)) none:=(ke _ h).trans (by kernel_rfl)
theorem k5w(a1:Ref)(a2 a3 a4:Int)(a5:Sl)(h:AH):go (.fn F.kk2 [.iface T.kbp (.ptr (some a1)),.iface T.kbf (.agg [.int .i64 a2,.int .i64 a3,.int .i64 a4,a5.v])]) h =
 (go (.fn F.kp6 [.ptr (some a1),.iface T.kbf (.agg [.int .i64 a2,.int .i64 a3,.int .i64 a4,a5.v])]) h).bind fun q6 =>
 (AV.asTup0 q6.1).bind fun _ =>
 ((q6.2.cell a1).bind AV.asSl).bind fun l7 =>
 (go (.fn F.kne [l7.v]) q6.2).bind fun q8 =>
 ((some q8.1).bind (AV.asInt .i64)).bind fun n9 =>
 (go (.fn F.khb [.iface T.kbp (.ptr (some a1)),.int .i64 (IntKind.wrap .i64 (n9-1))]) q8.2).bind fun q10 =>
 (AV.asTup0 q10.1).bind fun _ =>
 some (.tup [],q10.2):=(ke _ h).trans (by kernel_rfl)
theorem ku7(a1:Sl)(a2 a3:Int)(h:AH):go (.pt F.kbo Td.kck [(0,a1.v),(1,.func (.func F.kde) [] []),(7,.int .i64 a2),(8,.int .i64 a3)]) h =
 cond (decide (a3<a2)) (
 (idx a1.ref a1.len a3 1).bind fun r4 =>
 ((h.cell r4).bind (AV.asInt .i64)).bind fun n5 =>
 (go (.fn F.kde [.int .i64 n5]) h).bind fun q6 =>
 ((some q6.1).bind AV.asBool).bind fun b7 =>
 cond b7 (
 some (.int .i64 a3,q6.2)) (
 go (.pt F.kbo Td.kck [(0,a1.v),(1,.func (.func F.kde) [] []),(7,.int .i64 a2),(8,.int .i64 (IntKind.wrap .i64 (a3+1)))]) q6.2)) (
 some (.int .i64 (-1),h)):=(ke _ h).trans (by kernel_rfl)
theorem kub(a1:Sl)(a2:Option Ref)(a3 a4:Int)(h:AH):go (.pt F.kbo Td.kck [(0,a1.v),(1,.func (.func F.kdh) [] [.ptr a2]),(7,.int .i64 a3),(8,.int .i64 a4)]) h =
 cond (decide (a4<a3)) (
 (idx a1.ref a1.len a4 1).bind fun r5 =>
 ((h.cell r5).bind (AV.asInt .i64)).bind fun n6 =>
 (go (.fn F.kdh [.int .i64 n6,.ptr a2]) h).bind fun q7 =>
 ((some q7.1).bind AV.asBool).bind fun b8 =>
 cond b8 (
 some (.int .i64 a4,q7.2)) (
 go (.pt F.kbo Td.kck [(0,a1.v),(1,.func (.func F.kdh) [] [.ptr a2]),(7,.int .i64 a3),(8,.int .i64 (IntKind.wrap .i64 (a4+1)))]) q7.2)) (
 some (.int .i64 (-1),h)):=(ke _ h).trans (by kernel_rfl)
theorem kua(a1:Ref)(a2 a3 a4:Int)(h:AH):go (.pt F.kd9 Td.kgd [(0,.iface T.kbp (.ptr (some a1))),(1,.int .i64 a2),(2,.int .i64 a3),(7,.int .i64 a4)]) h =
 cond (decide ((IntKind.wrap .i64 ((IntKind.wrap .i64 (2*a4))+1))≥a3)) (
 some (.bool (decide (a4>a2)),h)) (
 cond (decide ((IntKind.wrap .i64 ((IntKind.wrap .i64 (2*a4))+1))<0)) (
 some (.bool (decide (a4>a2)),h)) (
 cond (decide ((IntKind.wrap .i64 ((IntKind.wrap .i64 ((IntKind.wrap .i64 (2*a4))+1))+1))<a3)) (
 ((h.cell a1).bind AV.asSl).bind fun l5 =>
 (go (.fn F.kfw [l5.v,.int .i64 (IntKind.wrap .i64 ((IntKind.wrap .i64 ((IntKind.wrap .i64 (2*a4))+1))+1)),.int .i64 (IntKind.wrap .i64 ((IntKind.wrap .i64 (2*a4))+1))]) h).bind fun q6 =>
 ((some q6.1).bind AV.asBool).bind fun b7 =>
 cond b7 (
 ((q6.2.cell a1).bind AV.asSl).bind fun l8 =>
 (go (.fn F.kfw [l8.v,.int .i64 (IntKind.wrap .i64 ((IntKind.wrap .i64 ((IntKind.wrap .i64 (2*a4))+1))+1)),.int .i64 a4]) q6.2).bind fun q9 =>
 ((some q9.1).bind AV.asBool).bind fun b10 =>
 cond (!b10) (
 some (.bool (decide (a4>a2)),q9.2)) (
 ((q9.2.cell a1).bind AV.asSl).bind fun l11 =>
 (go (.fn F.kfc [l11.v,.int .i64 a4,.int .i64 (IntKind.wrap .i64 ((IntKind.wrap .i64 ((IntKind.wrap .i64 (2*a4))+1))+1))]) q9.2).bind fun q12 =>
 (AV.asTup0 q12.1).bind fun _ =>
 go (.pt F.kd9 Td.kgd [(0,.iface T.kbp (.ptr (some a1))),(1,.int .i64 a2),(2,.int .i64 a3),(7,.int .i64 (IntKind.wrap .i64 ((IntKind.wrap .i64 ((IntKind.wrap .i64 (2*a4))+1))+1)))]) q12.2)) (
 ((q6.2.cell a1).bind AV.asSl).bind fun l13 =>
 (go (.fn F.kfw [l13.v,.int .i64 (IntKind.wrap .i64 ((IntKind.wrap .i64 (2*a4))+1)),.int .i64 a4]) q6.2).bind fun q14 =>
 ((some q14.1).bind AV.asBool).bind fun b15 =>
 cond (!b15) (
 some (.bool (decide (a4>a2)),q14.2)) (
 ((q14.2.cell a1).bind AV.asSl).bind fun l16 =>
 (go (.fn F.kfc [l16.v,.int .i64 a4,.int .i64 (IntKind.wrap .i64 ((IntKind.wrap .i64 (2*a4))+1))]) q14.2).bind fun q17 =>
 (AV.asTup0 q17.1).bind fun _ =>
 go (.pt F.kd9 Td.kgd [(0,.iface T.kbp (.ptr (some a1))),(1,.int .i64 a2),(2,.int .i64 a3),(7,.int .i64 (IntKind.wrap .i64 ((IntKind.wrap .i64 (2*a4))+1)))]) q17.2))) (
 ((h.cell a1).bind AV.asSl).bind fun l18 =>
 (go (.fn F.kfw [l18.v,.int .i64 (IntKind.wrap .i64 ((IntKind.wrap .i64 (2*a4))+1)),.int .i64 a4]) h).bind fun q19 =>
 ((some q19.1).bind AV.asBool).bind fun b20 =>
 cond (!b20) (
 some (.bool (decide (a4>a2)),q19.2)) (
 ((q19.2.cell a1).bind AV.asSl).bind fun l21 =>
 (go (.fn F.kfc [l21.v,.int .i64 a4,.int .i64 (IntKind.wrap .i64 ((IntKind.wrap .i64 (2*a4))+1))]) q19.2).bind fun q22 =>
 (AV.asTup0 q22.1).bind fun _ =>
 go (.pt F.kd9 Td.kgd [(0,.iface T.kbp (.ptr (some a1))),(1,.int .i64 a2),(2,.int .i64 a3),(7,.int .i64 (IntKind.wrap .i64 ((IntKind.wrap .i64 (2*a4))+1)))]) q22.2)))):=(ke _ h).trans (by kernel_rfl)
theorem kbbp(a1:Int)(a2:Sl)(h:AH):go (.fn F.kf9 [.agg [.int .i64 a1,a2.v]]) h =
 newK h (.cells [.int .i64 a1,a2.v] T.kw) fun h3r h3 =>
 ((h3.cell (h3r.add 0)).bind (AV.asInt .i64)).bind fun n4 =>
 cond (decide (n4<0)) (
 some (.bool false,h3)) (
 ((h3.cell (h3r.add 0)).bind (AV.asInt .i64)).bind fun n5 =>
 cond (decide (n5>65536)) (
 some (.bool false,h3)) (
 ((h3.cell (h3r.add 1)).bind AV.asSl).bind fun l6 =>
 ((h3.cell (h3r.add 0)).bind (AV.asInt .i64)).bind fun n7 =>
 cond (!decide ((l6.len:Int)=(IntKind.wrap .i64 (Int.tdiv (IntKind.wrap .i64 ((IntKind.wrap .i64 (n7+64))-1)) 64)))) (
 some (.bool false,h3)) (
 ((h3.cell (h3r.add 0)).bind (AV.asInt .i64)).bind fun n8 =>
 cond (decide ((Int.tmod n8 64)=0)) (
 some (.bool true,h3)) (
 ((h3.cell (h3r.add 1)).bind AV.asSl).bind fun l9 =>
 ((h3.cell (h3r.add 1)).bind AV.asSl).bind fun l10 =>
 (idx l9.ref l9.len (IntKind.wrap .i64 ((l10.len:Int)-1)) 1).bind fun r11 =>
 ((h3.cell r11).bind (AV.asInt .u64)).bind fun n12 =>
 ((h3.cell (h3r.add 0)).bind (AV.asInt .i64)).bind fun n13 =>
 cond (decide ((Int.tmod n13 64)<0)) none (
 some (.bool (decide ((ishr .u64 n12 (Int.tmod n13 64))=0)),h3)))))):=(ke _ h).trans (by kernel_rfl)
theorem k0y(a1:Int)(a2:Sl)(h:AH):go (.fn F.ko5 [.agg [.int .i64 a1,a2.v]]) h =
 newK h (.cells [.int .i64 a1,a2.v] T.kw) fun h3r h3 =>
 some (.func (.func F.kb6) [] [.ptr (some h3r)],h3):=(ke _ h).trans (by kernel_rfl)
theorem k2u(a1:AV)(h:AH):go (.fn F.kp3 [a1]) h =
 (go (.fn F.kd2 [(⟨none,0,.is 0⟩:Sl).v,a1]) h).bind fun q2 =>
 ((some q2.1).bind AV.asSl).bind fun l3 =>
 some (l3.v,q2.2):=(ke _ h).trans (by kernel_rfl)
theorem ktx(a1:Sl)(a2:Ref)(a3 a4:Sl)(a5:Int)(a6:Ref)(a7:Sl)(a8 a9:Int)(a10:Sl)(a11 a12:Int)(h:AH):go (.pt F.kcd Td.kke [(1,a1.v),(5,.ptr (some a2)),(8,a3.v),(9,a4.v),(10,.int .i64 a5),(11,.ptr (some a6)),(17,a7.v),(18,.int .i64 a8),(19,.int .i64 a9),(25,a10.v),(26,.int .i64 a11),(27,.int .i64 a12)]) h =
 cond (decide (a12<a11)) (
 (idx a10.ref a10.len a12 1).bind fun r13 =>
 ((h.cell r13).bind (AV.asInt .i64)).bind fun n14 =>
 go (.pt F.kcd Td.kmx [(1,a1.v),(5,.ptr (some a2)),(8,a3.v),(9,a4.v),(10,.int .i64 a5),(11,.ptr (some a6)),(12,.int .i64 a12),(17,a7.v),(18,.int .i64 a8),(19,.int .i64 a9),(25,a10.v),(26,.int .i64 a11),(27,.int .i64 a12),(33,.int .i64 (IntKind.wrap .i64 (n14-1))),(34,.int .i64 0)]) h) (
 go (.pt F.kcd Td.kjk [(1,a1.v),(5,.ptr (some a2)),(8,a3.v),(9,a4.v),(17,a7.v),(18,.int .i64 a8),(19,.int .i64 (IntKind.wrap .i64 (a9+1)))]) h):=(ke _ h).trans (by kernel_rfl)
theorem k0v(a1:Int)(h:AH):go (.fn F.keb [.int .u64 a1]) h =
 newK h (.cells [.int .u64 a1] T.kj) fun h2r h2 =>
 (go (.fn F.kbr [(⟨some h2r,1,.is 1⟩:Sl).v]) h2).bind fun q3 =>
 ((some q3.1).bind AV.asSl).bind fun l4 =>
 some (l4.v,q3.2):=(ke _ h).trans (by kernel_rfl)
theorem k7h(a1:Bool)(a2:Sl)(h:AH):go (.fn F.kb5 [.bool a1,a2.v]) h =
 newK h (.cells [.bool false,(⟨none,0,.is 0⟩:Sl).v] T.kg) fun h3r h3 =>
 (go (.fn F.kd5 [a2.v]) h3).bind fun q4 =>
 ((some q4.1).bind AV.asBool).bind fun b5 =>
 cond (!b5) (
 (q4.2.puts h3r [.bool false,(⟨none,0,.is 0⟩:Sl).v]).bind fun h6 =>
 ((h6.cell (h3r.add 0)).bind AV.asBool).bind fun b7 =>
 ((h6.cell (h3r.add 1)).bind AV.asSl).bind fun l8 =>
 some (.agg [.bool b7,l8.v],h6)) (
 cond (decide ((a2.len:Int)=0)) (
 (q4.2.puts h3r [.bool false,(⟨none,0,.is 0⟩:Sl).v]).bind fun h9 =>
 ((h9.cell (h3r.add 0)).bind AV.asBool).bind fun b10 =>
 ((h9.cell (h3r.add 1)).bind AV.asSl).bind fun l11 =>
 some (.agg [.bool b10,l11.v],h9)) (
 (go (.fn F.kgo [a2.v]) q4.2).bind fun q12 =>
 ((some q12.1).bind AV.asSl).bind fun l13 =>
 (q12.2.puts h3r [.bool a1,l13.v]).bind fun h14 =>
 ((h14.cell (h3r.add 0)).bind AV.asBool).bind fun b15 =>
 ((h14.cell (h3r.add 1)).bind AV.asSl).bind fun l16 =>
 some (.agg [.bool b15,l16.v],h14))):=(ke _ h).trans (by kernel_rfl)
theorem k9a(a1:Bool)(a2:Sl)(h:AH):go (.fn F.ke7 [.agg [.bool a1,a2.v]]) h =
 newK h (.cells [.bool a1,a2.v] T.kg) fun h3r h3 =>
 ((h3.cell (h3r.add 1)).bind AV.asSl).bind fun l4 =>
 (go (.fn F.kd5 [l4.v]) h3).bind fun q5 =>
 ((some q5.1).bind AV.asBool).bind fun b6 =>
 cond b6 (
 ((q5.2.cell (h3r.add 0)).bind AV.asBool).bind fun b7 =>
 cond (!b7) (
 some (.bool true,q5.2)) (
 ((q5.2.cell (h3r.add 1)).bind AV.asSl).bind fun l8 =>
 some (.bool (decide ((l8.len:Int)>0)),q5.2))) (
 some (.bool false,q5.2)):=(ke _ h).trans (by kernel_rfl)
theorem k04(a1:Sl)(h:AH):go (.fn F.kd5 [a1.v]) h =
 cond (decide ((a1.len:Int)≤64)) (
 cond (decide ((a1.len:Int)=0)) (
 some (.bool true,h)) (
 (idx a1.ref a1.len (IntKind.wrap .i64 ((a1.len:Int)-1)) 1).bind fun r2 =>
 ((h.cell r2).bind (AV.asInt .u64)).bind fun n3 =>
 some (.bool (!decide (n3=0)),h))) (
 some (.bool false,h)):=(ke _ h).trans (by kernel_rfl)
theorem k77(a1 a2:Sl)(h:AH):go (.fn F.ke1 [a1.v,a2.v]) h =
 (go (.fn F.kd5 [a1.v]) h).bind fun q3 =>
 ((some q3.1).bind AV.asBool).bind fun b4 =>
 cond (!b4) (
 some (.tup [(⟨none,0,.is 0⟩:Sl).v,.int .i64 1],q3.2)) (
 (go (.fn F.kd5 [a2.v]) q3.2).bind fun q5 =>
 ((some q5.1).bind AV.asBool).bind fun b6 =>
 cond (!b6) (
 some (.tup [(⟨none,0,.is 0⟩:Sl).v,.int .i64 1],q5.2)) (
 (go (.fn F.kgo [a1.v]) q5.2).bind fun q7 =>
 ((some q7.1).bind AV.asSl).bind fun l8 =>
 (go (.fn F.kgo [a2.v]) q7.2).bind fun q9 =>
 ((some q9.1).bind AV.asSl).bind fun l10 =>
 go (.pt F.ke1 Td.kle [(0,l8.v),(1,l10.v)]) q9.2)):=(ke _ h).trans (by kernel_rfl)
theorem k1f(a1 a2:Sl)(h:AH):go (.fn F.kf5 [a1.v,a2.v]) h =
 newK h (.cells [a1.v,a2.v] T.kci) fun h3r h3 =>
 (go (.fn F.ke4 [(⟨some h3r,2,.is 2⟩:Sl).v]) h3).bind fun q4 =>
 ((some q4.1).bind AV.asBool).bind fun b5 =>
 cond (!b5) (
 some (.tup [(⟨none,0,.is 0⟩:Sl).v,(⟨none,0,.is 0⟩:Sl).v,.int .i64 1],q4.2)) (
 cond (decide ((a2.len:Int)=0)) (
 some (.tup [(⟨none,0,.is 0⟩:Sl).v,(⟨none,0,.is 0⟩:Sl).v,.int .i64 3],q4.2)) (
 (go (.fn F.kd7 [a1.v,a2.v]) q4.2).bind fun q6 =>
 ((some q6.1).bind (AV.asInt .i64)).bind fun n7 =>
 cond (decide (n7<0)) (
 (go (.fn F.kgo [a1.v]) q6.2).bind fun q8 =>
 ((some q8.1).bind AV.asSl).bind fun l9 =>
 some (.tup [(⟨none,0,.is 0⟩:Sl).v,l9.v,.int .i64 0],q8.2)) (
 cond (decide ((a2.len:Int)=1)) (
 (idx a2.ref a2.len 0 1).bind fun r10 =>
 ((q6.2.cell r10).bind (AV.asInt .u64)).bind fun n11 =>
 (go (.fn F.kex [a1.v,.int .u64 n11]) q6.2).bind fun q12 =>
 (AV.asTup2 q12.1).bind fun p13 =>
 ((some p13.1).bind AV.asSl).bind fun l14 =>
 ((some p13.2).bind (AV.asInt .u64)).bind fun n15 =>
 (go (.fn F.keb [.int .u64 n15]) q12.2).bind fun q16 =>
 ((some q16.1).bind AV.asSl).bind fun l17 =>
 some (.tup [l14.v,l17.v,.int .i64 0],q16.2)) (
 (go (.fn F.kb7 [a1.v,a2.v]) q6.2).bind fun q18 =>
 (AV.asTup2 q18.1).bind fun p19 =>
 ((some p19.1).bind AV.asSl).bind fun l20 =>
 ((some p19.2).bind AV.asSl).bind fun l21 =>
 some (.tup [l20.v,l21.v,.int .i64 0],q18.2))))):=(ke _ h).trans (by kernel_rfl)
theorem k4z(a1 a2 a3 a4 a5:Int)(h:AH):go (.fn F.knj [.int .i64 a1,.agg [.int .i64 a2,.int .i64 a3],.agg [.int .i64 a4,.int .i64 a5]]) h =
 newK h (.cells [.int .i64 a1] T.int) fun h6r h6 =>
 newK h6 (.cells [.int .i64 a2,.int .i64 a3] T.kbc) fun h7r h7 =>
 newK h7 (.cells [.int .i64 a4,.int .i64 a5] T.kbc) fun h8r h8 =>
 newK h8 (.cells [.bool false,(⟨none,0,.is 0⟩:Sl).v,(⟨none,0,.is 0⟩:Sl).v] T.ky) fun h9r h9 =>
 ((h9.cell (h7r.add 0)).bind (AV.asInt .i64)).bind fun n10 =>
 ((h9.cell (h7r.add 1)).bind (AV.asInt .i64)).bind fun n11 =>
 ((h9.cell (h8r.add 0)).bind (AV.asInt .i64)).bind fun n12 =>
 ((h9.cell (h8r.add 1)).bind (AV.asInt .i64)).bind fun n13 =>
 (go (.fn F.ko1 [.agg [.int .i64 n10,.int .i64 n11],.agg [.int .i64 n12,.int .i64 n13]]) h9).bind fun q14 =>
 (AV.asTup2 q14.1).bind fun p15 =>
 (AV.asAgg p15.1).bind fun cs16 =>
 cond (Nat.beq cs16.length 2) (
 ((cs16[0]?).bind (AV.asInt .i64)).bind fun n17 =>
 ((cs16[1]?).bind (AV.asInt .i64)).bind fun n18 =>
 ((some p15.2).bind AV.asBool).bind fun b19 =>
 newK q14.2 (.cells [.int .i64 0,.int .i64 0] T.kbc) fun h20r h20 =>
 (h20.puts h20r [.int .i64 n17,.int .i64 n18]).bind fun h21 =>
 cond (!b19) (
 (h21.puts h9r [.bool false,(⟨none,0,.is 0⟩:Sl).v,(⟨none,0,.is 0⟩:Sl).v]).bind fun h22 =>
 ((h22.cell (h9r.add 0)).bind AV.asBool).bind fun b23 =>
 ((h22.cell (h9r.add 1)).bind AV.asSl).bind fun l24 =>
 ((h22.cell (h9r.add 2)).bind AV.asSl).bind fun l25 =>
 some (.tup [.agg [.bool b23,l24.v,l25.v],.int .i64 1],h22)) (
 ((h21.cell h6r).bind (AV.asInt .i64)).bind fun n26 =>
 (go (.fn F.kjm [.int .i64 n26]) h21).bind fun q27 =>
 ((some q27.1).bind AV.asBool).bind fun b28 =>
 cond (!b28) (
 (q27.2.puts h9r [.bool false,(⟨none,0,.is 0⟩:Sl).v,(⟨none,0,.is 0⟩:Sl).v]).bind fun h29 =>
 ((h29.cell (h9r.add 0)).bind AV.asBool).bind fun b30 =>
 ((h29.cell (h9r.add 1)).bind AV.asSl).bind fun l31 =>
 ((h29.cell (h9r.add 2)).bind AV.asSl).bind fun l32 =>
 some (.tup [.agg [.bool b30,l31.v,l32.v],.int .i64 1],h29)) (
 newK q27.2 (.cells [.bool false,(⟨none,0,.is 0⟩:Sl).v,(⟨none,0,.is 0⟩:Sl).v] T.ky) fun h33r h33 =>
 ((h33.cell (h7r.add 0)).bind (AV.asInt .i64)).bind fun n34 =>
 ((h33.cell (h7r.add 1)).bind (AV.asInt .i64)).bind fun n35 =>
 ((h33.cell (h20r.add 0)).bind (AV.asInt .i64)).bind fun n36 =>
 ((h33.cell (h20r.add 1)).bind (AV.asInt .i64)).bind fun n37 =>
 (go (.fn F.kkr [.agg [.int .i64 n34,.int .i64 n35],.ptr (some h6r)]) h33).bind fun q38 =>
 (AV.asAgg q38.1).bind fun cs39 =>
 cond (Nat.beq cs39.length 3) (
 ((cs39[0]?).bind AV.asBool).bind fun b40 =>
 ((cs39[1]?).bind AV.asSl).bind fun l41 =>
 ((cs39[2]?).bind AV.asSl).bind fun l42 =>
 whenK (SameAt h33 q38.2 h20r 2) (
 whenK (SameAt h33 q38.2 h33r 0) (
 (go (.fn F.kkr [.agg [.int .i64 n36,.int .i64 n37],.ptr (some h6r)]) q38.2).bind fun q43 =>
 (AV.asAgg q43.1).bind fun cs44 =>
 cond (Nat.beq cs44.length 3) (
 ((cs44[0]?).bind AV.asBool).bind fun b45 =>
 ((cs44[1]?).bind AV.asSl).bind fun l46 =>
 ((cs44[2]?).bind AV.asSl).bind fun l47 =>
 whenK (SameAt q38.2 q43.2 h33r 0) (
 (go (.fn F.klg [.agg [.bool b40,l41.v,l42.v],.agg [.bool b45,l46.v,l47.v]]) q43.2).bind fun q48 =>
 (AV.asTup2 q48.1).bind fun p49 =>
 (AV.asAgg p49.1).bind fun cs50 =>
 cond (Nat.beq cs50.length 3) (
 ((cs50[0]?).bind AV.asBool).bind fun b51 =>
 ((cs50[1]?).bind AV.asSl).bind fun l52 =>
 ((cs50[2]?).bind AV.asSl).bind fun l53 =>
 ((some p49.2).bind (AV.asInt .i64)).bind fun n54 =>
 whenK (SameAt q43.2 q48.2 h33r 0) (
 (q48.2.puts h33r [.bool b51,l52.v,l53.v]).bind fun h55 =>
 ((h55.cell (h33r.add 0)).bind AV.asBool).bind fun b56 =>
 ((h55.cell (h33r.add 1)).bind AV.asSl).bind fun l57 =>
 ((h55.cell (h33r.add 2)).bind AV.asSl).bind fun l58 =>
 ((h55.cell (h8r.add 0)).bind (AV.asInt .i64)).bind fun n59 =>
 ((h55.cell (h8r.add 1)).bind (AV.asInt .i64)).bind fun n60 =>
 (go (.fn F.kkr [.agg [.int .i64 n59,.int .i64 n60],.ptr (some h6r)]) h55).bind fun q61 =>
 (AV.asAgg q61.1).bind fun cs62 =>
 cond (Nat.beq cs62.length 3) (
 ((cs62[0]?).bind AV.asBool).bind fun b63 =>
 ((cs62[1]?).bind AV.asSl).bind fun l64 =>
 ((cs62[2]?).bind AV.asSl).bind fun l65 =>
 whenK (SameAt h55 q61.2 h33r 3) (
 (go (.fn F.km0 [.agg [.bool b56,l57.v,l58.v],.agg [.bool b63,l64.v,l65.v]]) q61.2).bind fun q66 =>
 (AV.asTup2 q66.1).bind fun p67 =>
 (AV.asAgg p67.1).bind fun cs68 =>
 cond (Nat.beq cs68.length 3) (
 ((cs68[0]?).bind AV.asBool).bind fun b69 =>
 ((cs68[1]?).bind AV.asSl).bind fun l70 =>
 ((cs68[2]?).bind AV.asSl).bind fun l71 =>
 ((some p67.2).bind (AV.asInt .i64)).bind fun n72 =>
 (q66.2.puts h9r [.bool b69,l70.v,l71.v]).bind fun h73 =>
 ((h73.cell (h9r.add 0)).bind AV.asBool).bind fun b74 =>
 ((h73.cell (h9r.add 1)).bind AV.asSl).bind fun l75 =>
 ((h73.cell (h9r.add 2)).bind AV.asSl).bind fun l76 =>
 some (.tup [.agg [.bool b74,l75.v,l76.v],.int .i64 n72],h73)) none)) none)) none)) none))) none))) none:=(ke _ h).trans (by kernel_rfl)
theorem k2d(a1:Int)(a2:Bool)(a3 a4:Sl)(a5 a6:Ref)(h:AH):go (.fn F.kd3 [.int .i64 a1,.agg [.bool a2,a3.v,a4.v],.ptr (some a5),.ptr (some a6)]) h =
 newK h (.cells [.bool a2,a3.v,a4.v] T.ky) fun h7r h7 =>
 ((h7.cell (h7r.add 0)).bind AV.asBool).bind fun b8 =>
 ((h7.cell (h7r.add 1)).bind AV.asSl).bind fun l9 =>
 ((h7.cell (h7r.add 2)).bind AV.asSl).bind fun l10 =>
 ((h7.cell (a5.add 0)).bind AV.asBool).bind fun b11 =>
 ((h7.cell (a5.add 1)).bind AV.asSl).bind fun l12 =>
 ((h7.cell (a5.add 2)).bind AV.asSl).bind fun l13 =>
 (go (.fn F.koh [.agg [.bool b8,l9.v,l10.v],.agg [.bool b11,l12.v,l13.v]]) h7).bind fun q14 =>
 ((some q14.1).bind (AV.asInt .i64)).bind fun n15 =>
 cond (decide (n15>0)) (
 ((q14.2.cell (h7r.add 0)).bind AV.asBool).bind fun b16 =>
 ((q14.2.cell (h7r.add 1)).bind AV.asSl).bind fun l17 =>
 ((q14.2.cell (h7r.add 2)).bind AV.asSl).bind fun l18 =>
 newK q14.2 (.cells [.int .i64 a1] T.int) fun h19r h19 =>
 whenK (SameAt q14.2 h19 h7r 3) (
 (h19.puts a6 [(⟨some h19r,1,.is 1⟩:Sl).v]).bind fun h20 =>
 whenK (SameAt h19 h20 h7r 3) (
 (h20.puts a5 [.bool b16,l17.v,l18.v]).bind fun h21 =>
 some (.tup [],h21)))) (
 cond (decide (n15=0)) (
 ((q14.2.cell a6).bind AV.asSl).bind fun l22 =>
 cond (decide ((l22.len:Int)>0)) (
 ((q14.2.cell a6).bind AV.asSl).bind fun l23 =>
 newK q14.2 (.cells [.int .i64 a1] T.int) fun h24r h24 =>
 (kb3 Pg T.int ((⟨some h24r,1,.is 1⟩:Sl).v) h24).bind fun p26 =>
 (kx Pg l23 p26.1 p26.2 T.int 1 h24).bind fun q25 =>
 (AV.asSl q25.1).bind fun l27 =>
 (q25.2.puts a6 [l27.v]).bind fun h28 =>
 some (.tup [],h28)) (
 some (.tup [],q14.2))) (
 some (.tup [],q14.2))):=(ke _ h).trans (by kernel_rfl)
theorem kx3(a1 a2:Int)(h:AH):go (.fn F.kj7 [.int .i64 a1,.int .i64 a2]) h =
 newK h (.cells [.bool false,(⟨none,0,.is 0⟩:Sl).v] T.kg) fun h3r h3 =>
 (go (.fn F.kgc [.int .i64 a1]) h3).bind fun q4 =>
 (AV.asAgg q4.1).bind fun cs5 =>
 cond (Nat.beq cs5.length 2) (
 ((cs5[0]?).bind AV.asBool).bind fun b6 =>
 ((cs5[1]?).bind AV.asSl).bind fun l7 =>
 (go (.fn F.kgc [.int .i64 a2]) q4.2).bind fun q8 =>
 (AV.asAgg q8.1).bind fun cs9 =>
 cond (Nat.beq cs9.length 2) (
 ((cs9[0]?).bind AV.asBool).bind fun b10 =>
 ((cs9[1]?).bind AV.asSl).bind fun l11 =>
 (go (.fn F.kki [.agg [.bool b6,l7.v],.agg [.bool b10,l11.v]]) q8.2).bind fun q12 =>
 (AV.asTup2 q12.1).bind fun p13 =>
 (AV.asAgg p13.1).bind fun cs14 =>
 cond (Nat.beq cs14.length 2) (
 ((cs14[0]?).bind AV.asBool).bind fun b15 =>
 ((cs14[1]?).bind AV.asSl).bind fun l16 =>
 ((some p13.2).bind (AV.asInt .i64)).bind fun n17 =>
 newK q12.2 (.cells [.bool false,(⟨none,0,.is 0⟩:Sl).v] T.kg) fun h18r h18 =>
 (h18.puts h18r [.bool b15,l16.v]).bind fun h19 =>
 ((h19.cell (h18r.add 0)).bind AV.asBool).bind fun b20 =>
 ((h19.cell (h18r.add 1)).bind AV.asSl).bind fun l21 =>
 (h19.puts h3r [.bool b20,l21.v]).bind fun h22 =>
 ((h22.cell (h3r.add 0)).bind AV.asBool).bind fun b23 =>
 ((h22.cell (h3r.add 1)).bind AV.asSl).bind fun l24 =>
 some (.agg [.bool b23,l24.v],h22)) none) none) none:=(ke _ h).trans (by kernel_rfl)
theorem k9k(a1:Bool)(a2:Sl)(a3:Bool)(a4:Sl)(h:AH):go (.fn F.kna [.agg [.bool a1,a2.v],.agg [.bool a3,a4.v]]) h =
 newK h (.cells [.bool a1,a2.v] T.kg) fun h5r h5 =>
 newK h5 (.cells [.bool a3,a4.v] T.kg) fun h6r h6 =>
 newK h6 (.cells [.bool false,(⟨none,0,.is 0⟩:Sl).v] T.kg) fun h7r h7 =>
 newK h7 (.cells [.bool false,(⟨none,0,.is 0⟩:Sl).v] T.kg) fun h8r h8 =>
 ((h8.cell (h5r.add 0)).bind AV.asBool).bind fun b9 =>
 ((h8.cell (h5r.add 1)).bind AV.asSl).bind fun l10 =>
 ((h8.cell (h6r.add 0)).bind AV.asBool).bind fun b11 =>
 ((h8.cell (h6r.add 1)).bind AV.asSl).bind fun l12 =>
 newK h8 (.cells [.bool b9,l10.v,.bool b11,l12.v] T.kg) fun h13r h13 =>
 (go (.fn F.kfd [(⟨some h13r,2,.is 2⟩:Sl).v]) h13).bind fun q14 =>
 ((some q14.1).bind AV.asBool).bind fun b15 =>
 cond (!b15) (
 (q14.2.puts h7r [.bool false,(⟨none,0,.is 0⟩:Sl).v]).bind fun h16 =>
 (h16.puts h8r [.bool false,(⟨none,0,.is 0⟩:Sl).v]).bind fun h17 =>
 ((h17.cell (h7r.add 0)).bind AV.asBool).bind fun b18 =>
 ((h17.cell (h7r.add 1)).bind AV.asSl).bind fun l19 =>
 ((h17.cell (h8r.add 0)).bind AV.asBool).bind fun b20 =>
 ((h17.cell (h8r.add 1)).bind AV.asSl).bind fun l21 =>
 some (.tup [.agg [.bool b18,l19.v],.agg [.bool b20,l21.v],.int .i64 1],h17)) (
 ((q14.2.cell (h6r.add 1)).bind AV.asSl).bind fun l22 =>
 cond (decide ((l22.len:Int)=0)) (
 (q14.2.puts h7r [.bool false,(⟨none,0,.is 0⟩:Sl).v]).bind fun h23 =>
 (h23.puts h8r [.bool false,(⟨none,0,.is 0⟩:Sl).v]).bind fun h24 =>
 ((h24.cell (h7r.add 0)).bind AV.asBool).bind fun b25 =>
 ((h24.cell (h7r.add 1)).bind AV.asSl).bind fun l26 =>
 ((h24.cell (h8r.add 0)).bind AV.asBool).bind fun b27 =>
 ((h24.cell (h8r.add 1)).bind AV.asSl).bind fun l28 =>
 some (.tup [.agg [.bool b25,l26.v],.agg [.bool b27,l28.v],.int .i64 3],h24)) (
 ((q14.2.cell (h6r.add 0)).bind AV.asBool).bind fun b29 =>
 cond b29 (
 (q14.2.puts h7r [.bool false,(⟨none,0,.is 0⟩:Sl).v]).bind fun h30 =>
 (h30.puts h8r [.bool false,(⟨none,0,.is 0⟩:Sl).v]).bind fun h31 =>
 ((h31.cell (h7r.add 0)).bind AV.asBool).bind fun b32 =>
 ((h31.cell (h7r.add 1)).bind AV.asSl).bind fun l33 =>
 ((h31.cell (h8r.add 0)).bind AV.asBool).bind fun b34 =>
 ((h31.cell (h8r.add 1)).bind AV.asSl).bind fun l35 =>
 some (.tup [.agg [.bool b32,l33.v],.agg [.bool b34,l35.v],.int .i64 1],h31)) (
 ((q14.2.cell (h5r.add 1)).bind AV.asSl).bind fun l36 =>
 ((q14.2.cell (h6r.add 1)).bind AV.asSl).bind fun l37 =>
 (go (.fn F.kf5 [l36.v,l37.v]) q14.2).bind fun q38 =>
 (AV.asTup3 q38.1).bind fun p39 =>
 ((some p39.1).bind AV.asSl).bind fun l40 =>
 ((some p39.2.1).bind AV.asSl).bind fun l41 =>
 ((some p39.2.2).bind (AV.asInt .i64)).bind fun n42 =>
 ((q38.2.cell (h5r.add 0)).bind AV.asBool).bind fun b43 =>
 cond b43 (
 cond (decide ((l41.len:Int)>0)) (
 (go (.fn F.keb [.int .u64 1]) q38.2).bind fun q44 =>
 ((some q44.1).bind AV.asSl).bind fun l45 =>
 (go (.fn F.klf [l40.v,l45.v]) q44.2).bind fun q46 =>
 (AV.asTup2 q46.1).bind fun p47 =>
 ((some p47.1).bind AV.asSl).bind fun l48 =>
 ((some p47.2).bind (AV.asInt .i64)).bind fun n49 =>
 cond (!decide (n49=0)) (
 (q46.2.puts h7r [.bool false,(⟨none,0,.is 0⟩:Sl).v]).bind fun h50 =>
 (h50.puts h8r [.bool false,(⟨none,0,.is 0⟩:Sl).v]).bind fun h51 =>
 ((h51.cell (h7r.add 0)).bind AV.asBool).bind fun b52 =>
 ((h51.cell (h7r.add 1)).bind AV.asSl).bind fun l53 =>
 ((h51.cell (h8r.add 0)).bind AV.asBool).bind fun b54 =>
 ((h51.cell (h8r.add 1)).bind AV.asSl).bind fun l55 =>
 some (.tup [.agg [.bool b52,l53.v],.agg [.bool b54,l55.v],.int .i64 n49],h51)) (
 ((q46.2.cell (h6r.add 1)).bind AV.asSl).bind fun l56 =>
 (go (.fn F.kil [l56.v,l41.v]) q46.2).bind fun q57 =>
 (AV.asTup2 q57.1).bind fun p58 =>
 ((some p58.1).bind AV.asSl).bind fun l59 =>
 ((some p58.2).bind (AV.asInt .i64)).bind fun n60 =>
 ((q57.2.cell (h5r.add 0)).bind AV.asBool).bind fun b61 =>
 (go (.fn F.kb5 [.bool b61,l48.v]) q57.2).bind fun q62 =>
 (AV.asAgg q62.1).bind fun cs63 =>
 cond (Nat.beq cs63.length 2) (
 ((cs63[0]?).bind AV.asBool).bind fun b64 =>
 ((cs63[1]?).bind AV.asSl).bind fun l65 =>
 (go (.fn F.kb5 [.bool false,l59.v]) q62.2).bind fun q66 =>
 (AV.asAgg q66.1).bind fun cs67 =>
 cond (Nat.beq cs67.length 2) (
 ((cs67[0]?).bind AV.asBool).bind fun b68 =>
 ((cs67[1]?).bind AV.asSl).bind fun l69 =>
 (q66.2.puts h7r [.bool b64,l65.v]).bind fun h70 =>
 (h70.puts h8r [.bool b68,l69.v]).bind fun h71 =>
 ((h71.cell (h7r.add 0)).bind AV.asBool).bind fun b72 =>
 ((h71.cell (h7r.add 1)).bind AV.asSl).bind fun l73 =>
 ((h71.cell (h8r.add 0)).bind AV.asBool).bind fun b74 =>
 ((h71.cell (h8r.add 1)).bind AV.asSl).bind fun l75 =>
 some (.tup [.agg [.bool b72,l73.v],.agg [.bool b74,l75.v],.int .i64 0],h71)) none) none)) (
 ((q38.2.cell (h5r.add 0)).bind AV.asBool).bind fun b76 =>
 (go (.fn F.kb5 [.bool b76,l40.v]) q38.2).bind fun q77 =>
 (AV.asAgg q77.1).bind fun cs78 =>
 cond (Nat.beq cs78.length 2) (
 ((cs78[0]?).bind AV.asBool).bind fun b79 =>
 ((cs78[1]?).bind AV.asSl).bind fun l80 =>
 (go (.fn F.kb5 [.bool false,l41.v]) q77.2).bind fun q81 =>
 (AV.asAgg q81.1).bind fun cs82 =>
 cond (Nat.beq cs82.length 2) (
 ((cs82[0]?).bind AV.asBool).bind fun b83 =>
 ((cs82[1]?).bind AV.asSl).bind fun l84 =>
 (q81.2.puts h7r [.bool b79,l80.v]).bind fun h85 =>
 (h85.puts h8r [.bool b83,l84.v]).bind fun h86 =>
 ((h86.cell (h7r.add 0)).bind AV.asBool).bind fun b87 =>
 ((h86.cell (h7r.add 1)).bind AV.asSl).bind fun l88 =>
 ((h86.cell (h8r.add 0)).bind AV.asBool).bind fun b89 =>
 ((h86.cell (h8r.add 1)).bind AV.asSl).bind fun l90 =>
 some (.tup [.agg [.bool b87,l88.v],.agg [.bool b89,l90.v],.int .i64 0],h86)) none) none)) (
 ((q38.2.cell (h5r.add 0)).bind AV.asBool).bind fun b91 =>
 (go (.fn F.kb5 [.bool b91,l40.v]) q38.2).bind fun q92 =>
 (AV.asAgg q92.1).bind fun cs93 =>
 cond (Nat.beq cs93.length 2) (
 ((cs93[0]?).bind AV.asBool).bind fun b94 =>
 ((cs93[1]?).bind AV.asSl).bind fun l95 =>
 (go (.fn F.kb5 [.bool false,l41.v]) q92.2).bind fun q96 =>
 (AV.asAgg q96.1).bind fun cs97 =>
 cond (Nat.beq cs97.length 2) (
 ((cs97[0]?).bind AV.asBool).bind fun b98 =>
 ((cs97[1]?).bind AV.asSl).bind fun l99 =>
 (q96.2.puts h7r [.bool b94,l95.v]).bind fun h100 =>
 (h100.puts h8r [.bool b98,l99.v]).bind fun h101 =>
 ((h101.cell (h7r.add 0)).bind AV.asBool).bind fun b102 =>
 ((h101.cell (h7r.add 1)).bind AV.asSl).bind fun l103 =>
 ((h101.cell (h8r.add 0)).bind AV.asBool).bind fun b104 =>
 ((h101.cell (h8r.add 1)).bind AV.asSl).bind fun l105 =>
 some (.tup [.agg [.bool b102,l103.v],.agg [.bool b104,l105.v],.int .i64 0],h101)) none) none)))):=(ke _ h).trans (by kernel_rfl)
theorem kzy(a1:Bool)(a2:Sl)(h:AH):go (.fn F.koy [.agg [.bool a1,a2.v]]) h =
 newK h (.cells [.bool a1,a2.v] T.kg) fun h3r h3 =>
 ((h3.cell (h3r.add 1)).bind AV.asSl).bind fun l4 =>
 (go (.fn F.koc [l4.v]) h3).bind fun q5 =>
 (AV.asTup2 q5.1).bind fun p6 =>
 ((some p6.1).bind (AV.asInt .u64)).bind fun n7 =>
 ((some p6.2).bind AV.asBool).bind fun b8 =>
 ((q5.2.cell (h3r.add 0)).bind AV.asBool).bind fun b9 =>
 cond b9 (
 ((q5.2.cell (h3r.add 0)).bind AV.asBool).bind fun b10 =>
 ((q5.2.cell (h3r.add 1)).bind AV.asSl).bind fun l11 =>
 (go (.fn F.ke7 [.agg [.bool b10,l11.v]]) q5.2).bind fun q12 =>
 ((some q12.1).bind AV.asBool).bind fun b13 =>
 cond (!b13) (
 some (.tup [.int .i64 0,.bool false],q12.2)) (
 cond (!b8) (
 some (.tup [.int .i64 0,.bool false],q12.2)) (
 cond (decide (n7>(IntKind.wrap .u64 (9223372036854775807+1)))) (
 some (.tup [.int .i64 0,.bool false],q12.2)) (
 ((q12.2.cell (h3r.add 0)).bind AV.asBool).bind fun b14 =>
 cond b14 (
 some (.tup [.int .i64 (IntKind.wrap .i64 (IntKind.wrap .u64 (0-n7))),.bool true],q12.2)) (
 some (.tup [.int .i64 (IntKind.wrap .i64 n7),.bool true],q12.2)))))) (
 ((q5.2.cell (h3r.add 0)).bind AV.asBool).bind fun b15 =>
 ((q5.2.cell (h3r.add 1)).bind AV.asSl).bind fun l16 =>
 (go (.fn F.ke7 [.agg [.bool b15,l16.v]]) q5.2).bind fun q17 =>
 ((some q17.1).bind AV.asBool).bind fun b18 =>
 cond (!b18) (
 some (.tup [.int .i64 0,.bool false],q17.2)) (
 cond (!b8) (
 some (.tup [.int .i64 0,.bool false],q17.2)) (
 cond (decide (n7>9223372036854775807)) (
 some (.tup [.int .i64 0,.bool false],q17.2)) (
 ((q17.2.cell (h3r.add 0)).bind AV.asBool).bind fun b19 =>
 cond b19 (
 some (.tup [.int .i64 (IntKind.wrap .i64 (IntKind.wrap .u64 (0-n7))),.bool true],q17.2)) (
 some (.tup [.int .i64 (IntKind.wrap .i64 n7),.bool true],q17.2)))))):=(ke _ h).trans (by kernel_rfl)
theorem k8e(a1:Int)(a2:Sl)(a3:Int)(a4:Sl)(h:AH):go (.fn F.kcu [.agg [.int .i64 a1,a2.v],.agg [.int .i64 a3,a4.v],.func (.func F.ke2) [] []]) h =
 newK h (.cells [.int .i64 a1,a2.v] T.kw) fun h5r h5 =>
 newK h5 (.cells [.int .i64 a3,a4.v] T.kw) fun h6r h6 =>
 newK h6 (.cells [.int .i64 0,(⟨none,0,.is 0⟩:Sl).v] T.kw) fun h7r h7 =>
 ((h7.cell (h5r.add 0)).bind (AV.asInt .i64)).bind fun n8 =>
 ((h7.cell (h5r.add 1)).bind AV.asSl).bind fun l9 =>
 (go (.fn F.kf9 [.agg [.int .i64 n8,l9.v]]) h7).bind fun q10 =>
 ((some q10.1).bind AV.asBool).bind fun b11 =>
 cond (!b11) (
 (q10.2.puts h7r [.int .i64 0,(⟨none,0,.is 0⟩:Sl).v]).bind fun h12 =>
 ((h12.cell (h7r.add 0)).bind (AV.asInt .i64)).bind fun n13 =>
 ((h12.cell (h7r.add 1)).bind AV.asSl).bind fun l14 =>
 some (.tup [.agg [.int .i64 n13,l14.v],.int .i64 1],h12)) (
 ((q10.2.cell (h6r.add 0)).bind (AV.asInt .i64)).bind fun n15 =>
 ((q10.2.cell (h6r.add 1)).bind AV.asSl).bind fun l16 =>
 (go (.fn F.kf9 [.agg [.int .i64 n15,l16.v]]) q10.2).bind fun q17 =>
 ((some q17.1).bind AV.asBool).bind fun b18 =>
 cond (!b18) (
 (q17.2.puts h7r [.int .i64 0,(⟨none,0,.is 0⟩:Sl).v]).bind fun h19 =>
 ((h19.cell (h7r.add 0)).bind (AV.asInt .i64)).bind fun n20 =>
 ((h19.cell (h7r.add 1)).bind AV.asSl).bind fun l21 =>
 some (.tup [.agg [.int .i64 n20,l21.v],.int .i64 1],h19)) (
 ((q17.2.cell (h5r.add 0)).bind (AV.asInt .i64)).bind fun n22 =>
 ((q17.2.cell (h6r.add 0)).bind (AV.asInt .i64)).bind fun n23 =>
 cond (!decide (n22=n23)) (
 (q17.2.puts h7r [.int .i64 0,(⟨none,0,.is 0⟩:Sl).v]).bind fun h24 =>
 ((h24.cell (h7r.add 0)).bind (AV.asInt .i64)).bind fun n25 =>
 ((h24.cell (h7r.add 1)).bind AV.asSl).bind fun l26 =>
 some (.tup [.agg [.int .i64 n25,l26.v],.int .i64 1],h24)) (
 ((q17.2.cell (h5r.add 0)).bind (AV.asInt .i64)).bind fun n27 =>
 (go (.fn F.kig [.int .i64 n27]) q17.2).bind fun q28 =>
 (AV.asTup2 q28.1).bind fun p29 =>
 (AV.asAgg p29.1).bind fun cs30 =>
 cond (Nat.beq cs30.length 2) (
 ((cs30[0]?).bind (AV.asInt .i64)).bind fun n31 =>
 ((cs30[1]?).bind AV.asSl).bind fun l32 =>
 ((some p29.2).bind (AV.asInt .i64)).bind fun n33 =>
 newK q28.2 (.cells [.int .i64 0,(⟨none,0,.is 0⟩:Sl).v] T.kw) fun h34r h34 =>
 (h34.puts h34r [.int .i64 n31,l32.v]).bind fun h35 =>
 ((h35.cell (h34r.add 1)).bind AV.asSl).bind fun l36 =>
 go (.pt F.kcu Td.kft [(2,.func (.func F.ke2) [] []),(3,.ptr (some h5r)),(4,.ptr (some h6r)),(6,.ptr (some h7r)),(8,.ptr (some h34r)),(9,.int .i64 n33),(35,.int .i64 (l36.len:Int)),(36,.int .i64 0)]) h35) none))):=(ke _ h).trans (by kernel_rfl)
theorem k06(a1:Option Ref)(a2 a3 a4:Int)(a5:Sl)(h:AH):go (.fn F.kp6 [.ptr a1,.iface T.kbf (.agg [.int .i64 a2,.int .i64 a3,.int .i64 a4,a5.v])]) h =
 a1.bind fun r6 =>
 ((h.cell r6).bind AV.asSl).bind fun l7 =>
 newK h (.cells [.int .i64 a2,.int .i64 a3,.int .i64 a4,a5.v] T.kbf) fun h8r h8 =>
 whenK (SameAt h h8 r6 1) (
 (kb3 Pg T.kbf ((⟨some h8r,1,.is 1⟩:Sl).v) h8).bind fun p10 =>
 (kx Pg l7 p10.1 p10.2 T.kbf 4 h8).bind fun q9 =>
 (AV.asSl q9.1).bind fun l11 =>
 a1.bind fun r12 =>
 (q9.2.puts r12 [l11.v]).bind fun h13 =>
 some (.tup [],h13)):=(ke _ h).trans (by kernel_rfl)
theorem k3p(a1:Ref)(a2:Int)(h:AH):go (.fn F.khb [.iface T.kbp (.ptr (some a1)),.int .i64 a2]) h =
 go (.pt F.khb Td.kp5 [(0,.iface T.kbp (.ptr (some a1))),(1,.int .i64 a2)]) h:=(ke _ h).trans (by kernel_rfl)
theorem k5s(a1:Int)(h:AH):go (.fn F.kde [.int .i64 a1]) h =
 cond (decide (a1<0)) (
 some (.bool true,h)) (
 some (.bool (decide (a1>1073741824)),h)):=(ke _ h).trans (by kernel_rfl)
theorem k41(a1:Int)(a2:Option Ref)(h:AH):go (.fn F.kdh [.int .i64 a1,.ptr a2]) h =
 cond (decide (a1<0)) (
 some (.bool true,h)) (
 a2.bind fun r3 =>
 ((h.cell r3).bind (AV.asInt .i64)).bind fun n4 =>
 some (.bool (decide (a1≥n4)),h)):=(ke _ h).trans (by kernel_rfl)
theorem k92(a1:Sl)(a2 a3:Int)(h:AH):go (.fn F.kfw [a1.v,.int .i64 a2,.int .i64 a3]) h =
 (idx a1.ref a1.len a2 4).bind fun r4 =>
 ((h.cell (r4.add 0)).bind (AV.asInt .i64)).bind fun n5 =>
 (idx a1.ref a1.len a3 4).bind fun r6 =>
 ((h.cell (r6.add 0)).bind (AV.asInt .i64)).bind fun n7 =>
 some (.bool (decide (n5<n7)),h):=(ke _ h).trans (by kernel_rfl)
theorem k24(a1:Sl)(a2:AV)(h:AH):go (.fn F.kd2 [a1.v,a2]) h =
 newK h (.cells [a1.v] T.kbm) fun h3r h3 =>
 go (.pt F.kd2 Tr.kuo [(0,a1.v),(1,a2),(2,.ptr (some h3r)),(4,(⟨none,0,.is 0⟩:Sl).v),(6,a2)]) h3:=(ke _ h).trans (by kernel_rfl)
theorem kvb(a1:Sl)(a2:Ref)(a3 a4:Sl)(a5:Int)(a6:Ref)(a7:Int)(a8:Sl)(a9 a10:Int)(a11:Sl)(a12 a13 a14 a15:Int)(h:AH):go (.pt F.kcd Td.kmx [(1,a1.v),(5,.ptr (some a2)),(8,a3.v),(9,a4.v),(10,.int .i64 a5),(11,.ptr (some a6)),(12,.int .i64 a7),(17,a8.v),(18,.int .i64 a9),(19,.int .i64 a10),(25,a11.v),(26,.int .i64 a12),(27,.int .i64 a13),(33,.int .i64 a14),(34,.int .i64 a15)]) h =
 cond (decide (a15<a14)) (
 ((h.cell (a6.add 0)).bind AV.asSl).bind fun l16 =>
 ((h.cell (a6.add 1)).bind AV.asSl).bind fun l17 =>
 ((h.cell (a6.add 2)).bind AV.asSl).bind fun l18 =>
 (go (.fn F.kfq [.agg [l16.v,l17.v,l18.v],.int .i64 a7,.int .i64 a15]) h).bind fun q19 =>
 (AV.asTup2 q19.1).bind fun p20 =>
 (AV.asAgg p20.1).bind fun cs21 =>
 cond (Nat.beq cs21.length 2) (
 ((cs21[0]?).bind (AV.asInt .i64)).bind fun n22 =>
 ((cs21[1]?).bind AV.asSl).bind fun l23 =>
 ((some p20.2).bind (AV.asInt .i64)).bind fun n24 =>
 newK q19.2 (.cells [.int .i64 0,(⟨none,0,.is 0⟩:Sl).v] T.kw) fun h25r h25 =>
 (h25.puts h25r [.int .i64 n22,l23.v]).bind fun h26 =>
 ((h26.cell (h25r.add 0)).bind (AV.asInt .i64)).bind fun n27 =>
 ((h26.cell (h25r.add 1)).bind AV.asSl).bind fun l28 =>
 ((h26.cell (a2.add 0)).bind (AV.asInt .i64)).bind fun n29 =>
 ((h26.cell (a2.add 1)).bind AV.asSl).bind fun l30 =>
 (go (.fn F.kqc [.agg [.int .i64 n27,l28.v],.agg [.int .i64 n29,l30.v]]) h26).bind fun q31 =>
 (AV.asTup2 q31.1).bind fun p32 =>
 (AV.asAgg p32.1).bind fun cs33 =>
 cond (Nat.beq cs33.length 2) (
 ((cs33[0]?).bind (AV.asInt .i64)).bind fun n34 =>
 ((cs33[1]?).bind AV.asSl).bind fun l35 =>
 ((some p32.2).bind (AV.asInt .i64)).bind fun n36 =>
 (q31.2.puts h25r [.int .i64 n34,l35.v]).bind fun h37 =>
 ((h37.cell (h25r.add 0)).bind (AV.asInt .i64)).bind fun n38 =>
 ((h37.cell (h25r.add 1)).bind AV.asSl).bind fun l39 =>
 newK h37 (.cells [.bool false,.int .i64 0,.int .i64 a5,.int .i64 a7,.int .i64 a15,.int .i64 0,.int .i64 0,.int .i64 n38,l39.v] T.kd4) fun h40r h40 =>
 (kb3 Pg T.kd4 ((⟨some h40r,1,.is 1⟩:Sl).v) h40).bind fun p42 =>
 (kx Pg a3 p42.1 p42.2 T.kd4 9 h40).bind fun q41 =>
 (AV.asSl q41.1).bind fun l43 =>
 ((q41.2.cell (h25r.add 0)).bind (AV.asInt .i64)).bind fun n44 =>
 ((q41.2.cell (h25r.add 1)).bind AV.asSl).bind fun l45 =>
 (go (.fn F.kfe [a1.v,.agg [.int .i64 n44,l45.v]]) q41.2).bind fun q46 =>
 (AV.asAgg q46.1).bind fun cs47 =>
 cond (Nat.beq cs47.length 2) (
 ((cs47[0]?).bind (AV.asInt .i64)).bind fun n48 =>
 ((cs47[1]?).bind (AV.asInt .i64)).bind fun n49 =>
 newK q46.2 (.cells [.int .i64 n48,.int .i64 n49] T.kbc) fun h50r h50 =>
 (kb3 Pg T.kbc ((⟨some h50r,1,.is 1⟩:Sl).v) h50).bind fun p52 =>
 (kx Pg a4 p52.1 p52.2 T.kbc 2 h50).bind fun q51 =>
 (AV.asSl q51.1).bind fun l53 =>
 go (.pt F.kcd Td.kmx [(1,a1.v),(5,.ptr (some a2)),(8,l43.v),(9,l53.v),(10,.int .i64 a5),(11,.ptr (some a6)),(12,.int .i64 a7),(17,a8.v),(18,.int .i64 a9),(19,.int .i64 a10),(25,a11.v),(26,.int .i64 a12),(27,.int .i64 a13),(33,.int .i64 a14),(34,.int .i64 (IntKind.wrap .i64 (a15+1)))]) q51.2) none) none) none) (
 go (.pt F.kcd Td.kke [(1,a1.v),(5,.ptr (some a2)),(8,a3.v),(9,a4.v),(10,.int .i64 a5),(11,.ptr (some a6)),(17,a8.v),(18,.int .i64 a9),(19,.int .i64 a10),(25,a11.v),(26,.int .i64 a12),(27,.int .i64 (IntKind.wrap .i64 (a13+1)))]) h):=(ke _ h).trans (by kernel_rfl)
theorem kbav(a1:Sl)(h:AH):go (.fn F.kgo [a1.v]) h =
 cond a1.ref.isNone (
 some ((⟨none,0,.is 0⟩:Sl).v,h)) (
 newK h (.cells [] T.kj) fun h2r h2 =>
 (kb3 Pg T.kj a1.v h2).bind fun p4 =>
 (kx Pg (⟨some h2r,0,.is 0⟩:Sl) p4.1 p4.2 T.kj 1 h2).bind fun q3 =>
 (AV.asSl q3.1).bind fun l5 =>
 some (l5.v,q3.2)):=(ke _ h).trans (by kernel_rfl)
theorem k4w(a1 a2:Sl)(h:AH):go (.pt F.ke1 Td.kle [(0,a1.v),(1,a2.v)]) h =
 cond (decide ((a2.len:Int)>0)) (
 (go (.fn F.kf5 [a1.v,a2.v]) h).bind fun q3 =>
 (AV.asTup3 q3.1).bind fun p4 =>
 ((some p4.1).bind AV.asSl).bind fun l5 =>
 ((some p4.2.1).bind AV.asSl).bind fun l6 =>
 ((some p4.2.2).bind (AV.asInt .i64)).bind fun n7 =>
 go (.pt F.ke1 Td.kle [(0,a2.v),(1,l6.v)]) q3.2) (
 some (.tup [a1.v,.int .i64 0],h)):=(ke _ h).trans (by kernel_rfl)
theorem k6w(a1:Sl)(h:AH):go (.fn F.ke4 [a1.v]) h =
 (go (.fn F.ku4 [a1.v,.func (.func F.kdl) [] []]) h).bind fun q2 =>
 ((some q2.1).bind AV.asBool).bind fun b3 =>
 some (.bool (!b3),q2.2):=(ke _ h).trans (by kernel_rfl)
theorem kyt(a1 a2:Sl)(h:AH):go (.fn F.kd7 [a1.v,a2.v]) h =
 cond (!decide ((a1.len:Int)=(a2.len:Int))) (
 cond (decide ((a1.len:Int)<(a2.len:Int))) (
 some (.int .i64 (-1),h)) (
 some (.int .i64 1,h))) (
 go (.pt F.kd7 Td.kng [(0,a1.v),(1,a2.v),(5,.int .i64 (IntKind.wrap .i64 ((a1.len:Int)-1)))]) h):=(ke _ h).trans (by kernel_rfl)
theorem k6g(a1:Sl)(a2:Int)(h:AH):go (.fn F.kex [a1.v,.int .u64 a2]) h =
 (kb1 (a1.len:Int) (a1.len:Int) T.kj (Pg.bytesOf T.kj) [.int .u64 0] h).bind fun q3 =>
 go (.pt F.kex Td.km3 [(0,a1.v),(1,.int .u64 a2),(6,q3.1.v),(7,.int .u64 0),(8,.int .i64 (IntKind.wrap .i64 ((a1.len:Int)-1)))]) q3.2:=(ke _ h).trans (by kernel_rfl)
theorem k2j(a1 a2:Sl)(h:AH):go (.fn F.kb7 [a1.v,a2.v]) h =
 (idx a2.ref a2.len (IntKind.wrap .i64 ((a2.len:Int)-1)) 1).bind fun r3 =>
 ((h.cell r3).bind (AV.asInt .u64)).bind fun n4 =>
 (go (.fn F.kl7 [.int .u64 n4]) h).bind fun q5 =>
 ((some q5.1).bind (AV.asInt .i64)).bind fun n6 =>
 (go (.fn F.kdu [a1.v,.int .u64 (IntKind.wrap .u64 n6)]) q5.2).bind fun q7 =>
 ((some q7.1).bind AV.asSl).bind fun l8 =>
 (go (.fn F.kdu [a2.v,.int .u64 (IntKind.wrap .u64 n6)]) q7.2).bind fun q9 =>
 ((some q9.1).bind AV.asSl).bind fun l10 =>
 (go (.fn F.kbr [l10.v]) q9.2).bind fun q11 =>
 ((some q11.1).bind AV.asSl).bind fun l12 =>
 (kb1 (IntKind.wrap .i64 ((l8.len:Int)-(l12.len:Int))) (IntKind.wrap .i64 ((l8.len:Int)-(l12.len:Int))) T.kj (Pg.bytesOf T.kj) [.int .u64 0] q11.2).bind fun q13 =>
 go (.pt F.kb7 Td.kk5 [(6,.int .u64 (IntKind.wrap .u64 n6)),(7,l8.v),(8,l12.v),(9,.int .i64 (l12.len:Int)),(10,q13.1.v),(11,.int .i64 (IntKind.wrap .i64 ((q13.1.len:Int)-1)))]) q13.2:=(ke _ h).trans (by kernel_rfl)
theorem kyl(a1 a2 a3 a4:Int)(h:AH):go (.fn F.ko1 [.agg [.int .i64 a1,.int .i64 a2],.agg [.int .i64 a3,.int .i64 a4]]) h =
 newK h (.cells [.int .i64 a1,.int .i64 a2] T.kbc) fun h5r h5 =>
 newK h5 (.cells [.int .i64 a3,.int .i64 a4] T.kbc) fun h6r h6 =>
 newK h6 (.cells [.int .i64 0,.int .i64 0] T.kbc) fun h7r h7 =>
 ((h7.cell (h5r.add 0)).bind (AV.asInt .i64)).bind fun n8 =>
 ((h7.cell (h5r.add 1)).bind (AV.asInt .i64)).bind fun n9 =>
 (go (.fn F.kgl [.agg [.int .i64 n8,.int .i64 n9]]) h7).bind fun q10 =>
 ((some q10.1).bind AV.asBool).bind fun b11 =>
 cond (!b11) (
 (q10.2.puts h7r [.int .i64 0,.int .i64 0]).bind fun h12 =>
 ((h12.cell (h7r.add 0)).bind (AV.asInt .i64)).bind fun n13 =>
 ((h12.cell (h7r.add 1)).bind (AV.asInt .i64)).bind fun n14 =>
 some (.tup [.agg [.int .i64 n13,.int .i64 n14],.bool false],h12)) (
 ((q10.2.cell (h6r.add 0)).bind (AV.asInt .i64)).bind fun n15 =>
 ((q10.2.cell (h6r.add 1)).bind (AV.asInt .i64)).bind fun n16 =>
 (go (.fn F.kgl [.agg [.int .i64 n15,.int .i64 n16]]) q10.2).bind fun q17 =>
 ((some q17.1).bind AV.asBool).bind fun b18 =>
 cond (!b18) (
 (q17.2.puts h7r [.int .i64 0,.int .i64 0]).bind fun h19 =>
 ((h19.cell (h7r.add 0)).bind (AV.asInt .i64)).bind fun n20 =>
 ((h19.cell (h7r.add 1)).bind (AV.asInt .i64)).bind fun n21 =>
 some (.tup [.agg [.int .i64 n20,.int .i64 n21],.bool false],h19)) (
 ((q17.2.cell (h6r.add 0)).bind (AV.asInt .i64)).bind fun n22 =>
 ((q17.2.cell (h5r.add 0)).bind (AV.asInt .i64)).bind fun n23 =>
 ((q17.2.cell (h6r.add 1)).bind (AV.asInt .i64)).bind fun n24 =>
 ((q17.2.cell (h5r.add 1)).bind (AV.asInt .i64)).bind fun n25 =>
 newK q17.2 (.cells [.int .i64 0,.int .i64 0] T.kbc) fun h26r h26 =>
 (h26.puts h26r [.int .i64 (IntKind.wrap .i64 (n22-n23)),.int .i64 (IntKind.wrap .i64 (n24-n25))]).bind fun h27 =>
 ((h27.cell (h26r.add 0)).bind (AV.asInt .i64)).bind fun n28 =>
 ((h27.cell (h26r.add 1)).bind (AV.asInt .i64)).bind fun n29 =>
 ((h27.cell (h26r.add 0)).bind (AV.asInt .i64)).bind fun n30 =>
 ((h27.cell (h26r.add 1)).bind (AV.asInt .i64)).bind fun n31 =>
 (go (.fn F.kgl [.agg [.int .i64 n30,.int .i64 n31]]) h27).bind fun q32 =>
 ((some q32.1).bind AV.asBool).bind fun b33 =>
 whenK (SameAt h27 q32.2 h26r 2) (
 (q32.2.puts h7r [.int .i64 n28,.int .i64 n29]).bind fun h34 =>
 ((h34.cell (h7r.add 0)).bind (AV.asInt .i64)).bind fun n35 =>
 ((h34.cell (h7r.add 1)).bind (AV.asInt .i64)).bind fun n36 =>
 some (.tup [.agg [.int .i64 n35,.int .i64 n36],.bool b33],h34)))):=(ke _ h).trans (by kernel_rfl)
theorem knu(a1 a2:Int)(a3:Ref)(h:AH):go (.fn F.kkr [.agg [.int .i64 a1,.int .i64 a2],.ptr (some a3)]) h =
 newK h (.cells [.int .i64 a1,.int .i64 a2] T.kbc) fun h4r h4 =>
 newK h4 (.cells [.bool false,(⟨none,0,.is 0⟩:Sl).v,(⟨none,0,.is 0⟩:Sl).v] T.ky) fun h5r h5 =>
 ((h5.cell a3).bind (AV.asInt .i64)).bind fun n6 =>
 ((h5.cell (h4r.add 0)).bind (AV.asInt .i64)).bind fun n7 =>
 ((h5.cell (h4r.add 1)).bind (AV.asInt .i64)).bind fun n8 =>
 (go (.fn F.kl5 [.int .i64 n6,.agg [.int .i64 n7,.int .i64 n8]]) h5).bind fun q9 =>
 (AV.asTup2 q9.1).bind fun p10 =>
 (AV.asAgg p10.1).bind fun cs11 =>
 cond (Nat.beq cs11.length 3) (
 ((cs11[0]?).bind AV.asBool).bind fun b12 =>
 ((cs11[1]?).bind AV.asSl).bind fun l13 =>
 ((cs11[2]?).bind AV.asSl).bind fun l14 =>
 ((some p10.2).bind (AV.asInt .i64)).bind fun n15 =>
 newK q9.2 (.cells [.bool false,(⟨none,0,.is 0⟩:Sl).v,(⟨none,0,.is 0⟩:Sl).v] T.ky) fun h16r h16 =>
 (h16.puts h16r [.bool b12,l13.v,l14.v]).bind fun h17 =>
 ((h17.cell (h16r.add 0)).bind AV.asBool).bind fun b18 =>
 ((h17.cell (h16r.add 1)).bind AV.asSl).bind fun l19 =>
 ((h17.cell (h16r.add 2)).bind AV.asSl).bind fun l20 =>
 (h17.puts h5r [.bool b18,l19.v,l20.v]).bind fun h21 =>
 ((h21.cell (h5r.add 0)).bind AV.asBool).bind fun b22 =>
 ((h21.cell (h5r.add 1)).bind AV.asSl).bind fun l23 =>
 ((h21.cell (h5r.add 2)).bind AV.asSl).bind fun l24 =>
 some (.agg [.bool b22,l23.v,l24.v],h21)) none:=(ke _ h).trans (by kernel_rfl)
theorem k8f(a1:Bool)(a2 a3:Sl)(a4:Bool)(a5 a6:Sl)(h:AH):go (.fn F.klg [.agg [.bool a1,a2.v,a3.v],.agg [.bool a4,a5.v,a6.v]]) h =
 newK h (.cells [.bool a1,a2.v,a3.v] T.ky) fun h7r h7 =>
 newK h7 (.cells [.bool a4,a5.v,a6.v] T.ky) fun h8r h8 =>
 newK h8 (.cells [.bool false,(⟨none,0,.is 0⟩:Sl).v,(⟨none,0,.is 0⟩:Sl).v] T.ky) fun h9r h9 =>
 ((h9.cell (h7r.add 0)).bind AV.asBool).bind fun b10 =>
 ((h9.cell (h7r.add 1)).bind AV.asSl).bind fun l11 =>
 ((h9.cell (h7r.add 2)).bind AV.asSl).bind fun l12 =>
 ((h9.cell (h8r.add 0)).bind AV.asBool).bind fun b13 =>
 ((h9.cell (h8r.add 1)).bind AV.asSl).bind fun l14 =>
 ((h9.cell (h8r.add 2)).bind AV.asSl).bind fun l15 =>
 (go (.fn F.kid [.agg [.bool b10,l11.v,l12.v],.agg [.bool b13,l14.v,l15.v],.func (.func F.kgk) [] []]) h9).bind fun q16 =>
 (AV.asTup2 q16.1).bind fun p17 =>
 (AV.asAgg p17.1).bind fun cs18 =>
 cond (Nat.beq cs18.length 3) (
 ((cs18[0]?).bind AV.asBool).bind fun b19 =>
 ((cs18[1]?).bind AV.asSl).bind fun l20 =>
 ((cs18[2]?).bind AV.asSl).bind fun l21 =>
 ((some p17.2).bind (AV.asInt .i64)).bind fun n22 =>
 (q16.2.puts h9r [.bool b19,l20.v,l21.v]).bind fun h23 =>
 ((h23.cell (h9r.add 0)).bind AV.asBool).bind fun b24 =>
 ((h23.cell (h9r.add 1)).bind AV.asSl).bind fun l25 =>
 ((h23.cell (h9r.add 2)).bind AV.asSl).bind fun l26 =>
 some (.tup [.agg [.bool b24,l25.v,l26.v],.int .i64 n22],h23)) none:=(ke _ h).trans (by kernel_rfl)
theorem k2m(a1:Bool)(a2 a3:Sl)(a4:Bool)(a5 a6:Sl)(h:AH):go (.fn F.km0 [.agg [.bool a1,a2.v,a3.v],.agg [.bool a4,a5.v,a6.v]]) h =
 newK h (.cells [.bool a1,a2.v,a3.v] T.ky) fun h7r h7 =>
 newK h7 (.cells [.bool a4,a5.v,a6.v] T.ky) fun h8r h8 =>
 newK h8 (.cells [.bool false,(⟨none,0,.is 0⟩:Sl).v,(⟨none,0,.is 0⟩:Sl).v] T.ky) fun h9r h9 =>
 ((h9.cell (h7r.add 0)).bind AV.asBool).bind fun b10 =>
 ((h9.cell (h7r.add 1)).bind AV.asSl).bind fun l11 =>
 ((h9.cell (h7r.add 2)).bind AV.asSl).bind fun l12 =>
 ((h9.cell (h8r.add 0)).bind AV.asBool).bind fun b13 =>
 ((h9.cell (h8r.add 1)).bind AV.asSl).bind fun l14 =>
 ((h9.cell (h8r.add 2)).bind AV.asSl).bind fun l15 =>
 (go (.fn F.kid [.agg [.bool b10,l11.v,l12.v],.agg [.bool b13,l14.v,l15.v],.func (.func F.khk) [] []]) h9).bind fun q16 =>
 (AV.asTup2 q16.1).bind fun p17 =>
 (AV.asAgg p17.1).bind fun cs18 =>
 cond (Nat.beq cs18.length 3) (
 ((cs18[0]?).bind AV.asBool).bind fun b19 =>
 ((cs18[1]?).bind AV.asSl).bind fun l20 =>
 ((cs18[2]?).bind AV.asSl).bind fun l21 =>
 ((some p17.2).bind (AV.asInt .i64)).bind fun n22 =>
 (q16.2.puts h9r [.bool b19,l20.v,l21.v]).bind fun h23 =>
 ((h23.cell (h9r.add 0)).bind AV.asBool).bind fun b24 =>
 ((h23.cell (h9r.add 1)).bind AV.asSl).bind fun l25 =>
 ((h23.cell (h9r.add 2)).bind AV.asSl).bind fun l26 =>
 some (.tup [.agg [.bool b24,l25.v,l26.v],.int .i64 n22],h23)) none:=(ke _ h).trans (by kernel_rfl)
theorem kz1(a1:Bool)(a2 a3:Sl)(a4:Bool)(a5 a6:Sl)(h:AH):go (.fn F.koh [.agg [.bool a1,a2.v,a3.v],.agg [.bool a4,a5.v,a6.v]]) h =
 newK h (.cells [.bool a1,a2.v,a3.v] T.ky) fun h7r h7 =>
 newK h7 (.cells [.bool a4,a5.v,a6.v] T.ky) fun h8r h8 =>
 ((h8.cell (h7r.add 0)).bind AV.asBool).bind fun b9 =>
 ((h8.cell (h7r.add 1)).bind AV.asSl).bind fun l10 =>
 ((h8.cell (h7r.add 2)).bind AV.asSl).bind fun l11 =>
 ((h8.cell (h8r.add 0)).bind AV.asBool).bind fun b12 =>
 ((h8.cell (h8r.add 1)).bind AV.asSl).bind fun l13 =>
 ((h8.cell (h8r.add 2)).bind AV.asSl).bind fun l14 =>
 newK h8 (.cells [.bool b9,l10.v,l11.v,.bool b12,l13.v,l14.v] T.ky) fun h15r h15 =>
 (go (.fn F.kh8 [(⟨some h15r,2,.is 2⟩:Sl).v]) h15).bind fun q16 =>
 ((some q16.1).bind AV.asBool).bind fun b17 =>
 cond (!b17) (
 some (.int .i64 0,q16.2)) (
 ((q16.2.cell (h7r.add 0)).bind AV.asBool).bind fun b18 =>
 ((q16.2.cell (h7r.add 1)).bind AV.asSl).bind fun l19 =>
 ((q16.2.cell (h7r.add 2)).bind AV.asSl).bind fun l20 =>
 ((q16.2.cell (h8r.add 0)).bind AV.asBool).bind fun b21 =>
 ((q16.2.cell (h8r.add 1)).bind AV.asSl).bind fun l22 =>
 ((q16.2.cell (h8r.add 2)).bind AV.asSl).bind fun l23 =>
 ((q16.2.cell (h8r.add 0)).bind AV.asBool).bind fun b24 =>
 ((q16.2.cell (h8r.add 1)).bind AV.asSl).bind fun l25 =>
 ((q16.2.cell (h8r.add 2)).bind AV.asSl).bind fun l26 =>
 ((q16.2.cell (h7r.add 0)).bind AV.asBool).bind fun b27 =>
 ((q16.2.cell (h7r.add 1)).bind AV.asSl).bind fun l28 =>
 ((q16.2.cell (h7r.add 2)).bind AV.asSl).bind fun l29 =>
 (go (.fn F.kfz [.agg [.bool b18,l19.v,l20.v],.agg [.bool b21,l22.v,l23.v]]) q16.2).bind fun q30 =>
 (AV.asAgg q30.1).bind fun cs31 =>
 cond (Nat.beq cs31.length 2) (
 ((cs31[0]?).bind AV.asBool).bind fun b32 =>
 ((cs31[1]?).bind AV.asSl).bind fun l33 =>
 whenK (SameAt q16.2 q30.2 h7r 3) (
 whenK (SameAt q16.2 q30.2 h8r 3) (
 (go (.fn F.kfz [.agg [.bool b24,l25.v,l26.v],.agg [.bool b27,l28.v,l29.v]]) q30.2).bind fun q34 =>
 (AV.asAgg q34.1).bind fun cs35 =>
 cond (Nat.beq cs35.length 2) (
 ((cs35[0]?).bind AV.asBool).bind fun b36 =>
 ((cs35[1]?).bind AV.asSl).bind fun l37 =>
 (go (.fn F.knv [.agg [.bool b32,l33.v],.agg [.bool b36,l37.v]]) q34.2).bind fun q38 =>
 ((some q38.1).bind (AV.asInt .i64)).bind fun n39 =>
 some (.int .i64 n39,q38.2)) none))) none):=(ke _ h).trans (by kernel_rfl)
theorem k1d(a1:Bool)(a2:Sl)(a3:Bool)(a4:Sl)(h:AH):go (.fn F.kki [.agg [.bool a1,a2.v],.agg [.bool a3,a4.v]]) h =
 newK h (.cells [.bool a1,a2.v] T.kg) fun h5r h5 =>
 newK h5 (.cells [.bool a3,a4.v] T.kg) fun h6r h6 =>
 newK h6 (.cells [.bool false,(⟨none,0,.is 0⟩:Sl).v] T.kg) fun h7r h7 =>
 ((h7.cell (h5r.add 0)).bind AV.asBool).bind fun b8 =>
 ((h7.cell (h5r.add 1)).bind AV.asSl).bind fun l9 =>
 ((h7.cell (h6r.add 0)).bind AV.asBool).bind fun b10 =>
 ((h7.cell (h6r.add 1)).bind AV.asSl).bind fun l11 =>
 newK h7 (.cells [.bool b8,l9.v,.bool b10,l11.v] T.kg) fun h12r h12 =>
 (go (.fn F.kfd [(⟨some h12r,2,.is 2⟩:Sl).v]) h12).bind fun q13 =>
 ((some q13.1).bind AV.asBool).bind fun b14 =>
 cond (!b14) (
 (q13.2.puts h7r [.bool false,(⟨none,0,.is 0⟩:Sl).v]).bind fun h15 =>
 ((h15.cell (h7r.add 0)).bind AV.asBool).bind fun b16 =>
 ((h15.cell (h7r.add 1)).bind AV.asSl).bind fun l17 =>
 some (.tup [.agg [.bool b16,l17.v],.int .i64 1],h15)) (
 ((q13.2.cell (h5r.add 1)).bind AV.asSl).bind fun l18 =>
 ((q13.2.cell (h6r.add 1)).bind AV.asSl).bind fun l19 =>
 (go (.fn F.ki0 [l18.v,l19.v]) q13.2).bind fun q20 =>
 (AV.asTup2 q20.1).bind fun p21 =>
 ((some p21.1).bind AV.asSl).bind fun l22 =>
 ((some p21.2).bind (AV.asInt .i64)).bind fun n23 =>
 ((q20.2.cell (h5r.add 0)).bind AV.asBool).bind fun b24 =>
 ((q20.2.cell (h6r.add 0)).bind AV.asBool).bind fun b25 =>
 (go (.fn F.kb5 [.bool (!(b24==b25)),l22.v]) q20.2).bind fun q26 =>
 (AV.asAgg q26.1).bind fun cs27 =>
 cond (Nat.beq cs27.length 2) (
 ((cs27[0]?).bind AV.asBool).bind fun b28 =>
 ((cs27[1]?).bind AV.asSl).bind fun l29 =>
 (q26.2.puts h7r [.bool b28,l29.v]).bind fun h30 =>
 ((h30.cell (h7r.add 0)).bind AV.asBool).bind fun b31 =>
 ((h30.cell (h7r.add 1)).bind AV.asSl).bind fun l32 =>
 some (.tup [.agg [.bool b31,l32.v],.int .i64 n23],h30)) none):=(ke _ h).trans (by kernel_rfl)
theorem kbaa(a1:Sl)(h:AH):go (.fn F.kfd [a1.v]) h =
 (go (.fn F.krh [a1.v,.func (.func F.kdo) [] []]) h).bind fun q2 =>
 ((some q2.1).bind AV.asBool).bind fun b3 =>
 some (.bool (!b3),q2.2):=(ke _ h).trans (by kernel_rfl)
theorem k94(a1 a2:Sl)(h:AH):go (.fn F.klf [a1.v,a2.v]) h =
 newK h (.cells [a1.v,a2.v] T.kci) fun h3r h3 =>
 (go (.fn F.ke4 [(⟨some h3r,2,.is 2⟩:Sl).v]) h3).bind fun q4 =>
 ((some q4.1).bind AV.asBool).bind fun b5 =>
 cond (!b5) (
 some (.tup [(⟨none,0,.is 0⟩:Sl).v,.int .i64 1],q4.2)) (
 (go (.fn F.kc1 [a1.v,a2.v]) q4.2).bind fun q6 =>
 ((some q6.1).bind AV.asSl).bind fun l7 =>
 (go (.fn F.kjr [l7.v]) q6.2).bind fun q8 =>
 (AV.asTup2 q8.1).bind fun p9 =>
 ((some p9.1).bind AV.asSl).bind fun l10 =>
 ((some p9.2).bind (AV.asInt .i64)).bind fun n11 =>
 some (.tup [l10.v,.int .i64 n11],q8.2)):=(ke _ h).trans (by kernel_rfl)
theorem k0e(a1 a2:Sl)(h:AH):go (.fn F.kil [a1.v,a2.v]) h =
 newK h (.cells [a1.v,a2.v] T.kci) fun h3r h3 =>
 (go (.fn F.ke4 [(⟨some h3r,2,.is 2⟩:Sl).v]) h3).bind fun q4 =>
 ((some q4.1).bind AV.asBool).bind fun b5 =>
 cond (!b5) (
 some (.tup [(⟨none,0,.is 0⟩:Sl).v,.int .i64 1],q4.2)) (
 (go (.fn F.kd7 [a1.v,a2.v]) q4.2).bind fun q6 =>
 ((some q6.1).bind (AV.asInt .i64)).bind fun n7 =>
 cond (decide (n7<0)) (
 some (.tup [(⟨none,0,.is 0⟩:Sl).v,.int .i64 2],q6.2)) (
 (go (.fn F.kc5 [a1.v,a2.v]) q6.2).bind fun q8 =>
 ((some q8.1).bind AV.asSl).bind fun l9 =>
 (go (.fn F.kjr [l9.v]) q8.2).bind fun q10 =>
 (AV.asTup2 q10.1).bind fun p11 =>
 ((some p11.1).bind AV.asSl).bind fun l12 =>
 ((some p11.2).bind (AV.asInt .i64)).bind fun n13 =>
 some (.tup [l12.v,.int .i64 n13],q10.2))):=(ke _ h).trans (by kernel_rfl)
theorem k0x(a1:Sl)(h:AH):go (.fn F.koc [a1.v]) h =
 (go (.fn F.kd5 [a1.v]) h).bind fun q2 =>
 ((some q2.1).bind AV.asBool).bind fun b3 =>
 cond (!b3) (
 some (.tup [.int .u64 0,.bool false],q2.2)) (
 cond (decide ((a1.len:Int)>1)) (
 some (.tup [.int .u64 0,.bool false],q2.2)) (
 cond (decide ((a1.len:Int)=0)) (
 some (.tup [.int .u64 0,.bool true],q2.2)) (
 (idx a1.ref a1.len 0 1).bind fun r4 =>
 ((q2.2.cell r4).bind (AV.asInt .u64)).bind fun n5 =>
 some (.tup [.int .u64 n5,.bool true],q2.2)))):=(ke _ h).trans (by kernel_rfl)
theorem ktp(a1 a2 a3 a4:Ref)(a5 a6 a7:Int)(h:AH):go (.pt F.kcu Td.kft [(2,.func (.func F.ke2) [] []),(3,.ptr (some a1)),(4,.ptr (some a2)),(6,.ptr (some a3)),(8,.ptr (some a4)),(9,.int .i64 a5),(35,.int .i64 a6),(36,.int .i64 a7)]) h =
 cond (decide (a7<a6)) (
 ((h.cell (a4.add 1)).bind AV.asSl).bind fun l8 =>
 ((h.cell (a1.add 1)).bind AV.asSl).bind fun l9 =>
 (idx l9.ref l9.len a7 1).bind fun r10 =>
 ((h.cell r10).bind (AV.asInt .u64)).bind fun n11 =>
 ((h.cell (a2.add 1)).bind AV.asSl).bind fun l12 =>
 (idx l12.ref l12.len a7 1).bind fun r13 =>
 ((h.cell r13).bind (AV.asInt .u64)).bind fun n14 =>
 (go (.fn F.ke2 [.int .u64 n11,.int .u64 n14]) h).bind fun q15 =>
 ((some q15.1).bind (AV.asInt .u64)).bind fun n16 =>
 whenK (SameAt h q15.2 (a4.add 1) 1) (
 (idx l8.ref l8.len a7 1).bind fun r17 =>
 (q15.2.puts r17 [.int .u64 n16]).bind fun h18 =>
 go (.pt F.kcu Td.kft [(2,.func (.func F.ke2) [] []),(3,.ptr (some a1)),(4,.ptr (some a2)),(6,.ptr (some a3)),(8,.ptr (some a4)),(9,.int .i64 a5),(35,.int .i64 a6),(36,.int .i64 (IntKind.wrap .i64 (a7+1)))]) h18)) (
 ((h.cell (a4.add 0)).bind (AV.asInt .i64)).bind fun n19 =>
 ((h.cell (a4.add 1)).bind AV.asSl).bind fun l20 =>
 (h.puts a3 [.int .i64 n19,l20.v]).bind fun h21 =>
 ((h21.cell (a3.add 0)).bind (AV.asInt .i64)).bind fun n22 =>
 ((h21.cell (a3.add 1)).bind AV.asSl).bind fun l23 =>
 some (.tup [.agg [.int .i64 n22,l23.v],.int .i64 a5],h21)):=(ke _ h).trans (by kernel_rfl)
theorem kxi(a1:Ref)(a2:Int)(h:AH):go (.pt F.khb Td.kp5 [(0,.iface T.kbp (.ptr (some a1))),(1,.int .i64 a2)]) h =
 cond (decide ((IntKind.wrap .i64 (Int.tdiv (IntKind.wrap .i64 (a2-1)) 2))=a2)) (
 some (.tup [],h)) (
 ((h.cell a1).bind AV.asSl).bind fun l3 =>
 (go (.fn F.kfw [l3.v,.int .i64 a2,.int .i64 (IntKind.wrap .i64 (Int.tdiv (IntKind.wrap .i64 (a2-1)) 2))]) h).bind fun q4 =>
 ((some q4.1).bind AV.asBool).bind fun b5 =>
 cond (!b5) (
 some (.tup [],q4.2)) (
 ((q4.2.cell a1).bind AV.asSl).bind fun l6 =>
 (go (.fn F.kfc [l6.v,.int .i64 (IntKind.wrap .i64 (Int.tdiv (IntKind.wrap .i64 (a2-1)) 2)),.int .i64 a2]) q4.2).bind fun q7 =>
 (AV.asTup0 q7.1).bind fun _ =>
 go (.pt F.khb Td.kp5 [(0,.iface T.kbp (.ptr (some a1))),(1,.int .i64 (IntKind.wrap .i64 (Int.tdiv (IntKind.wrap .i64 (a2-1)) 2)))]) q7.2)):=(ke _ h).trans (by kernel_rfl)
theorem k5k(a1:Sl)(a2:AV)(a3:Ref)(a4:Sl)(a5:AV)(h:AH):go (.pt F.kd2 Tr.kuo [(0,a1.v),(1,a2),(2,.ptr (some a3)),(4,a4.v),(6,a5)]) h =
 funcK a5 fun g10 f11 c12 =>
 newM h (kpv Fx.koi F.kd2 0 .ready none [(0,a1.v),(1,a2),(2,.ptr (some a3)),(4,a4.v),(6,a5)]) fun m6 h7 =>
 (callF Pg go g10 (f11++[.func (.yield m6) [] []]++c12) h7).bind fun q8 =>
 (khd m6 q8.2).bind fun p9 =>
 go (.pt F.kd2 ((p9.1.map Item.code).toList++Ta.ksd) [(0,a1.v),(1,a2),(2,.ptr (some a3)),(4,a4.v),(6,a5)]) p9.2:=(ke _ h).trans (by kernel_rfl)
theorem kbb4(a1 a2 a3:Sl)(a4 a5:Int)(h:AH):go (.fn F.kfq [.agg [a1.v,a2.v,a3.v],.int .i64 a4,.int .i64 a5]) h =
 newK h (.cells [a1.v,a2.v,a3.v] T.kbi) fun h6r h6 =>
 newK h6 (.cells [.int .i64 0,(⟨none,0,.is 0⟩:Sl).v] T.kw) fun h7r h7 =>
 ((h7.cell (h6r.add 0)).bind AV.asSl).bind fun l8 =>
 ((h7.cell (h6r.add 1)).bind AV.asSl).bind fun l9 =>
 ((h7.cell (h6r.add 2)).bind AV.asSl).bind fun l10 =>
 (go (.fn F.ke3 [.agg [l8.v,l9.v,l10.v]]) h7).bind fun q11 =>
 ((some q11.1).bind AV.asBool).bind fun b12 =>
 cond (!b12) (
 (q11.2.puts h7r [.int .i64 0,(⟨none,0,.is 0⟩:Sl).v]).bind fun h13 =>
 ((h13.cell (h7r.add 0)).bind (AV.asInt .i64)).bind fun n14 =>
 ((h13.cell (h7r.add 1)).bind AV.asSl).bind fun l15 =>
 some (.tup [.agg [.int .i64 n14,l15.v],.int .i64 20],h13)) (
 cond (decide (a4<0)) (
 (q11.2.puts h7r [.int .i64 0,(⟨none,0,.is 0⟩:Sl).v]).bind fun h16 =>
 ((h16.cell (h7r.add 0)).bind (AV.asInt .i64)).bind fun n17 =>
 ((h16.cell (h7r.add 1)).bind AV.asSl).bind fun l18 =>
 some (.tup [.agg [.int .i64 n17,l18.v],.int .i64 1],h16)) (
 ((q11.2.cell (h6r.add 2)).bind AV.asSl).bind fun l19 =>
 cond (decide (a4≥(l19.len:Int))) (
 (q11.2.puts h7r [.int .i64 0,(⟨none,0,.is 0⟩:Sl).v]).bind fun h20 =>
 ((h20.cell (h7r.add 0)).bind (AV.asInt .i64)).bind fun n21 =>
 ((h20.cell (h7r.add 1)).bind AV.asSl).bind fun l22 =>
 some (.tup [.agg [.int .i64 n21,l22.v],.int .i64 1],h20)) (
 cond (decide (a5<0)) (
 (q11.2.puts h7r [.int .i64 0,(⟨none,0,.is 0⟩:Sl).v]).bind fun h23 =>
 ((h23.cell (h7r.add 0)).bind (AV.asInt .i64)).bind fun n24 =>
 ((h23.cell (h7r.add 1)).bind AV.asSl).bind fun l25 =>
 some (.tup [.agg [.int .i64 n24,l25.v],.int .i64 1],h23)) (
 ((q11.2.cell (h6r.add 1)).bind AV.asSl).bind fun l26 =>
 (idx l26.ref l26.len a4 1).bind fun r27 =>
 ((q11.2.cell r27).bind (AV.asInt .i64)).bind fun n28 =>
 cond (decide (a5≥n28)) (
 (q11.2.puts h7r [.int .i64 0,(⟨none,0,.is 0⟩:Sl).v]).bind fun h29 =>
 ((h29.cell (h7r.add 0)).bind (AV.asInt .i64)).bind fun n30 =>
 ((h29.cell (h7r.add 1)).bind AV.asSl).bind fun l31 =>
 some (.tup [.agg [.int .i64 n30,l31.v],.int .i64 1],h29)) (
 ((q11.2.cell (h6r.add 2)).bind AV.asSl).bind fun l32 =>
 (idx l32.ref l32.len a4 1).bind fun r33 =>
 ((q11.2.cell r33).bind AV.asSl).bind fun l34 =>
 go (.pt F.kfq Td.kio [(2,.int .i64 a5),(3,.ptr (some h6r)),(6,.ptr (some h7r)),(8,(⟨none,0,.is 0⟩:Sl).v),(44,l34.v),(45,.int .i64 (l34.len:Int)),(46,.int .i64 0)]) q11.2))))):=(ke _ h).trans (by kernel_rfl)
theorem k9u(a1:Int)(a2:Sl)(a3:Int)(a4:Sl)(h:AH):go (.fn F.kqc [.agg [.int .i64 a1,a2.v],.agg [.int .i64 a3,a4.v]]) h =
 newK h (.cells [.int .i64 a1,a2.v] T.kw) fun h5r h5 =>
 newK h5 (.cells [.int .i64 a3,a4.v] T.kw) fun h6r h6 =>
 newK h6 (.cells [.int .i64 0,(⟨none,0,.is 0⟩:Sl).v] T.kw) fun h7r h7 =>
 ((h7.cell (h5r.add 0)).bind (AV.asInt .i64)).bind fun n8 =>
 ((h7.cell (h5r.add 1)).bind AV.asSl).bind fun l9 =>
 ((h7.cell (h6r.add 0)).bind (AV.asInt .i64)).bind fun n10 =>
 ((h7.cell (h6r.add 1)).bind AV.asSl).bind fun l11 =>
 (go (.fn F.kcu [.agg [.int .i64 n8,l9.v],.agg [.int .i64 n10,l11.v],.func (.func F.keg) [] []]) h7).bind fun q12 =>
 (AV.asTup2 q12.1).bind fun p13 =>
 (AV.asAgg p13.1).bind fun cs14 =>
 cond (Nat.beq cs14.length 2) (
 ((cs14[0]?).bind (AV.asInt .i64)).bind fun n15 =>
 ((cs14[1]?).bind AV.asSl).bind fun l16 =>
 ((some p13.2).bind (AV.asInt .i64)).bind fun n17 =>
 (q12.2.puts h7r [.int .i64 n15,l16.v]).bind fun h18 =>
 ((h18.cell (h7r.add 0)).bind (AV.asInt .i64)).bind fun n19 =>
 ((h18.cell (h7r.add 1)).bind AV.asSl).bind fun l20 =>
 some (.tup [.agg [.int .i64 n19,l20.v],.int .i64 n17],h18)) none:=(ke _ h).trans (by kernel_rfl)
theorem ky9(a1:Sl)(h:AH):go (.fn F.ku4 [a1.v,.func (.func F.kdl) [] []]) h =
 (go (.fn F.kih [a1.v,.func (.func F.kdl) [] []]) h).bind fun q2 =>
 ((some q2.1).bind (AV.asInt .i64)).bind fun n3 =>
 some (.bool (decide (n3≥0)),q2.2):=(ke _ h).trans (by kernel_rfl)
theorem kun(a1 a2:Sl)(a3:Int)(h:AH):go (.pt F.kd7 Td.kng [(0,a1.v),(1,a2.v),(5,.int .i64 a3)]) h =
 cond (decide (a3≥0)) (
 (idx a1.ref a1.len a3 1).bind fun r4 =>
 ((h.cell r4).bind (AV.asInt .u64)).bind fun n5 =>
 (idx a2.ref a2.len a3 1).bind fun r6 =>
 ((h.cell r6).bind (AV.asInt .u64)).bind fun n7 =>
 cond (!decide (n5=n7)) (
 (idx a1.ref a1.len a3 1).bind fun r8 =>
 ((h.cell r8).bind (AV.asInt .u64)).bind fun n9 =>
 (idx a2.ref a2.len a3 1).bind fun r10 =>
 ((h.cell r10).bind (AV.asInt .u64)).bind fun n11 =>
 cond (decide (n9<n11)) (
 some (.int .i64 (-1),h)) (
 some (.int .i64 1,h))) (
 go (.pt F.kd7 Td.kng [(0,a1.v),(1,a2.v),(5,.int .i64 (IntKind.wrap .i64 (a3-1)))]) h)) (
 some (.int .i64 0,h)):=(ke _ h).trans (by kernel_rfl)
theorem k30(a1:Sl)(a2:Int)(a3:Sl)(a4 a5:Int)(h:AH):go (.pt F.kex Td.km3 [(0,a1.v),(1,.int .u64 a2),(6,a3.v),(7,.int .u64 a4),(8,.int .i64 a5)]) h =
 cond (decide (a5≥0)) (
 (idx a1.ref a1.len a5 1).bind fun r6 =>
 ((h.cell r6).bind (AV.asInt .u64)).bind fun n7 =>
 (go (.fn F.kbx [.int .u64 a4,.int .u64 n7,.int .u64 a2]) h).bind fun q8 =>
 (AV.asTup2 q8.1).bind fun p9 =>
 ((some p9.1).bind (AV.asInt .u64)).bind fun n10 =>
 ((some p9.2).bind (AV.asInt .u64)).bind fun n11 =>
 (idx a3.ref a3.len a5 1).bind fun r12 =>
 (q8.2.puts r12 [.int .u64 n10]).bind fun h13 =>
 go (.pt F.kex Td.km3 [(0,a1.v),(1,.int .u64 a2),(6,a3.v),(7,.int .u64 n11),(8,.int .i64 (IntKind.wrap .i64 (a5-1)))]) h13) (
 (go (.fn F.kbr [a3.v]) h).bind fun q14 =>
 ((some q14.1).bind AV.asSl).bind fun l15 =>
 some (.tup [l15.v,.int .u64 a4],q14.2)):=(ke _ h).trans (by kernel_rfl)
theorem kyy(a1:Int)(h:AH):go (.fn F.kl7 [.int .u64 a1]) h =
 (go (.fn F.kk1 [.int .u64 a1]) h).bind fun q2 =>
 ((some q2.1).bind (AV.asInt .i64)).bind fun n3 =>
 some (.int .i64 (IntKind.wrap .i64 (64-n3)),q2.2):=(ke _ h).trans (by kernel_rfl)
theorem kzj(a1:Sl)(a2:Int)(h:AH):go (.fn F.kdu [a1.v,.int .u64 a2]) h =
 (kb1 (IntKind.wrap .i64 ((a1.len:Int)+1)) (IntKind.wrap .i64 ((a1.len:Int)+1)) T.kj (Pg.bytesOf T.kj) [.int .u64 0] h).bind fun q3 =>
 go (.pt F.kdu Td.kit [(1,.int .u64 a2),(5,q3.1.v),(12,a1.v),(13,.int .i64 (a1.len:Int)),(14,.int .i64 0)]) q3.2:=(ke _ h).trans (by kernel_rfl)
theorem k7e(a1:Int)(a2 a3:Sl)(a4:Int)(a5:Sl)(a6:Int)(h:AH):go (.pt F.kb7 Td.kk5 [(6,.int .u64 a1),(7,a2.v),(8,a3.v),(9,.int .i64 a4),(10,a5.v),(11,.int .i64 a6)]) h =
 cond (decide (a6≥0)) (
 (idx a2.ref a2.len (IntKind.wrap .i64 (a6+a4)) 1).bind fun r7 =>
 ((h.cell r7).bind (AV.asInt .u64)).bind fun n8 =>
 (idx a2.ref a2.len (IntKind.wrap .i64 ((IntKind.wrap .i64 (a6+a4))-1)) 1).bind fun r9 =>
 ((h.cell r9).bind (AV.asInt .u64)).bind fun n10 =>
 (idx a2.ref a2.len (IntKind.wrap .i64 ((IntKind.wrap .i64 (a6+a4))-2)) 1).bind fun r11 =>
 ((h.cell r11).bind (AV.asInt .u64)).bind fun n12 =>
 (idx a3.ref a3.len (IntKind.wrap .i64 (a4-1)) 1).bind fun r13 =>
 ((h.cell r13).bind (AV.asInt .u64)).bind fun n14 =>
 (idx a3.ref a3.len (IntKind.wrap .i64 (a4-2)) 1).bind fun r15 =>
 ((h.cell r15).bind (AV.asInt .u64)).bind fun n16 =>
 (go (.fn F.ker [.int .u64 n8,.int .u64 n10,.int .u64 n12,.int .u64 n14,.int .u64 n16]) h).bind fun q17 =>
 ((some q17.1).bind (AV.asInt .u64)).bind fun n18 =>
 (cutSl a2 a6 (IntKind.wrap .i64 ((IntKind.wrap .i64 (a6+a4))+1)) 1).bind fun l19 =>
 go (.pt F.kb7 Td.kmu [(6,.int .u64 a1),(7,a2.v),(8,a3.v),(9,.int .i64 a4),(10,a5.v),(11,.int .i64 a6),(12,.int .u64 n18),(13,l19.v)]) q17.2) (
 (go (.fn F.kbr [a2.v]) h).bind fun q20 =>
 ((some q20.1).bind AV.asSl).bind fun l21 =>
 (kb1 (l21.len:Int) (l21.len:Int) T.kj (Pg.bytesOf T.kj) [.int .u64 0] q20.2).bind fun q22 =>
 go (.pt F.kb7 Td.kg8 [(6,.int .u64 a1),(10,a5.v),(15,l21.v),(16,q22.1.v),(112,.int .i64 (l21.len:Int)),(113,.int .i64 0)]) q22.2):=(ke _ h).trans (by kernel_rfl)
theorem kyg(a1 a2 a3:Int)(h:AH):go (.fn F.kl5 [.int .i64 a1,.agg [.int .i64 a2,.int .i64 a3]]) h =
 newK h (.cells [.int .i64 a2,.int .i64 a3] T.kbc) fun h4r h4 =>
 newK h4 (.cells [.bool false,(⟨none,0,.is 0⟩:Sl).v,(⟨none,0,.is 0⟩:Sl).v] T.ky) fun h5r h5 =>
 ((h5.cell (h4r.add 0)).bind (AV.asInt .i64)).bind fun n6 =>
 ((h5.cell (h4r.add 1)).bind (AV.asInt .i64)).bind fun n7 =>
 (go (.fn F.kgl [.agg [.int .i64 n6,.int .i64 n7]]) h5).bind fun q8 =>
 ((some q8.1).bind AV.asBool).bind fun b9 =>
 cond (!b9) (
 (q8.2.puts h5r [.bool false,(⟨none,0,.is 0⟩:Sl).v,(⟨none,0,.is 0⟩:Sl).v]).bind fun h10 =>
 ((h10.cell (h5r.add 0)).bind AV.asBool).bind fun b11 =>
 ((h10.cell (h5r.add 1)).bind AV.asSl).bind fun l12 =>
 ((h10.cell (h5r.add 2)).bind AV.asSl).bind fun l13 =>
 some (.tup [.agg [.bool b11,l12.v,l13.v],.int .i64 1],h10)) (
 (go (.fn F.kjm [.int .i64 a1]) q8.2).bind fun q14 =>
 ((some q14.1).bind AV.asBool).bind fun b15 =>
 cond (!b15) (
 (q14.2.puts h5r [.bool false,(⟨none,0,.is 0⟩:Sl).v,(⟨none,0,.is 0⟩:Sl).v]).bind fun h16 =>
 ((h16.cell (h5r.add 0)).bind AV.asBool).bind fun b17 =>
 ((h16.cell (h5r.add 1)).bind AV.asSl).bind fun l18 =>
 ((h16.cell (h5r.add 2)).bind AV.asSl).bind fun l19 =>
 some (.tup [.agg [.bool b17,l18.v,l19.v],.int .i64 1],h16)) (
 ((q14.2.cell (h4r.add 0)).bind (AV.asInt .i64)).bind fun n20 =>
 (go (.fn F.kgc [.int .i64 n20]) q14.2).bind fun q21 =>
 (AV.asAgg q21.1).bind fun cs22 =>
 cond (Nat.beq cs22.length 2) (
 ((cs22[0]?).bind AV.asBool).bind fun b23 =>
 ((cs22[1]?).bind AV.asSl).bind fun l24 =>
 newK q21.2 (.cells [.bool false,(⟨none,0,.is 0⟩:Sl).v] T.kg) fun h25r h25 =>
 (h25.puts h25r [.bool b23,l24.v]).bind fun h26 =>
 ((h26.cell (h25r.add 0)).bind AV.asBool).bind fun b27 =>
 ((h26.cell (h25r.add 1)).bind AV.asSl).bind fun l28 =>
 ((h26.cell (h25r.add 0)).bind AV.asBool).bind fun b29 =>
 ((h26.cell (h25r.add 1)).bind AV.asSl).bind fun l30 =>
 (go (.fn F.kki [.agg [.bool b27,l28.v],.agg [.bool b29,l30.v]]) h26).bind fun q31 =>
 (AV.asTup2 q31.1).bind fun p32 =>
 (AV.asAgg p32.1).bind fun cs33 =>
 cond (Nat.beq cs33.length 2) (
 ((cs33[0]?).bind AV.asBool).bind fun b34 =>
 ((cs33[1]?).bind AV.asSl).bind fun l35 =>
 ((some p32.2).bind (AV.asInt .i64)).bind fun n36 =>
 newK q31.2 (.cells [.bool false,(⟨none,0,.is 0⟩:Sl).v] T.kg) fun h37r h37 =>
 (h37.puts h37r [.bool b34,l35.v]).bind fun h38 =>
 ((h38.cell (h37r.add 0)).bind AV.asBool).bind fun b39 =>
 ((h38.cell (h37r.add 1)).bind AV.asSl).bind fun l40 =>
 ((h38.cell (h4r.add 1)).bind (AV.asInt .i64)).bind fun n41 =>
 (go (.fn F.keb [.int .u64 (IntKind.wrap .u64 (IntKind.wrap .i64 (n41+a1)))]) h38).bind fun q42 =>
 ((some q42.1).bind AV.asSl).bind fun l43 =>
 whenK (SameAt h38 q42.2 h37r 2) (
 (go (.fn F.kic [.agg [.bool b39,l40.v],l43.v]) q42.2).bind fun q44 =>
 (AV.asTup2 q44.1).bind fun p45 =>
 (AV.asAgg p45.1).bind fun cs46 =>
 cond (Nat.beq cs46.length 3) (
 ((cs46[0]?).bind AV.asBool).bind fun b47 =>
 ((cs46[1]?).bind AV.asSl).bind fun l48 =>
 ((cs46[2]?).bind AV.asSl).bind fun l49 =>
 ((some p45.2).bind (AV.asInt .i64)).bind fun n50 =>
 (q44.2.puts h5r [.bool b47,l48.v,l49.v]).bind fun h51 =>
 ((h51.cell (h5r.add 0)).bind AV.asBool).bind fun b52 =>
 ((h51.cell (h5r.add 1)).bind AV.asSl).bind fun l53 =>
 ((h51.cell (h5r.add 2)).bind AV.asSl).bind fun l54 =>
 some (.tup [.agg [.bool b52,l53.v,l54.v],.int .i64 n50],h51)) none)) none) none)):=(ke _ h).trans (by kernel_rfl)
theorem kbbz(a1:Bool)(a2 a3:Sl)(a4:Bool)(a5 a6:Sl)(h:AH):go (.fn F.kid [.agg [.bool a1,a2.v,a3.v],.agg [.bool a4,a5.v,a6.v],.func (.func F.kgk) [] []]) h =
 newK h (.cells [.bool a1,a2.v,a3.v] T.ky) fun h7r h7 =>
 newK h7 (.cells [.bool a4,a5.v,a6.v] T.ky) fun h8r h8 =>
 newK h8 (.cells [.bool false,(⟨none,0,.is 0⟩:Sl).v,(⟨none,0,.is 0⟩:Sl).v] T.ky) fun h9r h9 =>
 ((h9.cell (h7r.add 0)).bind AV.asBool).bind fun b10 =>
 ((h9.cell (h7r.add 1)).bind AV.asSl).bind fun l11 =>
 ((h9.cell (h7r.add 2)).bind AV.asSl).bind fun l12 =>
 ((h9.cell (h8r.add 0)).bind AV.asBool).bind fun b13 =>
 ((h9.cell (h8r.add 1)).bind AV.asSl).bind fun l14 =>
 ((h9.cell (h8r.add 2)).bind AV.asSl).bind fun l15 =>
 newK h9 (.cells [.bool b10,l11.v,l12.v,.bool b13,l14.v,l15.v] T.ky) fun h16r h16 =>
 (go (.fn F.kh8 [(⟨some h16r,2,.is 2⟩:Sl).v]) h16).bind fun q17 =>
 ((some q17.1).bind AV.asBool).bind fun b18 =>
 cond (!b18) (
 (q17.2.puts h9r [.bool false,(⟨none,0,.is 0⟩:Sl).v,(⟨none,0,.is 0⟩:Sl).v]).bind fun h19 =>
 ((h19.cell (h9r.add 0)).bind AV.asBool).bind fun b20 =>
 ((h19.cell (h9r.add 1)).bind AV.asSl).bind fun l21 =>
 ((h19.cell (h9r.add 2)).bind AV.asSl).bind fun l22 =>
 some (.tup [.agg [.bool b20,l21.v,l22.v],.int .i64 1],h19)) (
 newK q17.2 (.cells [.bool false,(⟨none,0,.is 0⟩:Sl).v] T.kg) fun h23r h23 =>
 ((h23.cell (h7r.add 0)).bind AV.asBool).bind fun b24 =>
 ((h23.cell (h7r.add 1)).bind AV.asSl).bind fun l25 =>
 ((h23.cell (h7r.add 2)).bind AV.asSl).bind fun l26 =>
 ((h23.cell (h8r.add 0)).bind AV.asBool).bind fun b27 =>
 ((h23.cell (h8r.add 1)).bind AV.asSl).bind fun l28 =>
 ((h23.cell (h8r.add 2)).bind AV.asSl).bind fun l29 =>
 ((h23.cell (h8r.add 0)).bind AV.asBool).bind fun b30 =>
 ((h23.cell (h8r.add 1)).bind AV.asSl).bind fun l31 =>
 ((h23.cell (h8r.add 2)).bind AV.asSl).bind fun l32 =>
 ((h23.cell (h7r.add 0)).bind AV.asBool).bind fun b33 =>
 ((h23.cell (h7r.add 1)).bind AV.asSl).bind fun l34 =>
 ((h23.cell (h7r.add 2)).bind AV.asSl).bind fun l35 =>
 (go (.fn F.kfz [.agg [.bool b24,l25.v,l26.v],.agg [.bool b27,l28.v,l29.v]]) h23).bind fun q36 =>
 (AV.asAgg q36.1).bind fun cs37 =>
 cond (Nat.beq cs37.length 2) (
 ((cs37[0]?).bind AV.asBool).bind fun b38 =>
 ((cs37[1]?).bind AV.asSl).bind fun l39 =>
 whenK (SameAt h23 q36.2 h7r 3) (
 whenK (SameAt h23 q36.2 h8r 3) (
 whenK (SameAt h23 q36.2 h23r 0) (
 (go (.fn F.kfz [.agg [.bool b30,l31.v,l32.v],.agg [.bool b33,l34.v,l35.v]]) q36.2).bind fun q40 =>
 (AV.asAgg q40.1).bind fun cs41 =>
 cond (Nat.beq cs41.length 2) (
 ((cs41[0]?).bind AV.asBool).bind fun b42 =>
 ((cs41[1]?).bind AV.asSl).bind fun l43 =>
 whenK (SameAt q36.2 q40.2 h23r 0) (
 (go (.fn F.kgk [.agg [.bool b38,l39.v],.agg [.bool b42,l43.v]]) q40.2).bind fun q44 =>
 (AV.asTup2 q44.1).bind fun p45 =>
 (AV.asAgg p45.1).bind fun cs46 =>
 cond (Nat.beq cs46.length 2) (
 ((cs46[0]?).bind AV.asBool).bind fun b47 =>
 ((cs46[1]?).bind AV.asSl).bind fun l48 =>
 ((some p45.2).bind (AV.asInt .i64)).bind fun n49 =>
 whenK (SameAt q40.2 q44.2 h23r 0) (
 (q44.2.puts h23r [.bool b47,l48.v]).bind fun h50 =>
 ((h50.cell (h7r.add 2)).bind AV.asSl).bind fun l51 =>
 ((h50.cell (h8r.add 2)).bind AV.asSl).bind fun l52 =>
 (go (.fn F.ki0 [l51.v,l52.v]) h50).bind fun q53 =>
 (AV.asTup2 q53.1).bind fun p54 =>
 ((some p54.1).bind AV.asSl).bind fun l55 =>
 ((some p54.2).bind (AV.asInt .i64)).bind fun n56 =>
 ((q53.2.cell (h23r.add 0)).bind AV.asBool).bind fun b57 =>
 ((q53.2.cell (h23r.add 1)).bind AV.asSl).bind fun l58 =>
 (go (.fn F.kic [.agg [.bool b57,l58.v],l55.v]) q53.2).bind fun q59 =>
 (AV.asTup2 q59.1).bind fun p60 =>
 (AV.asAgg p60.1).bind fun cs61 =>
 cond (Nat.beq cs61.length 3) (
 ((cs61[0]?).bind AV.asBool).bind fun b62 =>
 ((cs61[1]?).bind AV.asSl).bind fun l63 =>
 ((cs61[2]?).bind AV.asSl).bind fun l64 =>
 ((some p60.2).bind (AV.asInt .i64)).bind fun n65 =>
 (q59.2.puts h9r [.bool b62,l63.v,l64.v]).bind fun h66 =>
 ((h66.cell (h9r.add 0)).bind AV.asBool).bind fun b67 =>
 ((h66.cell (h9r.add 1)).bind AV.asSl).bind fun l68 =>
 ((h66.cell (h9r.add 2)).bind AV.asSl).bind fun l69 =>
 some (.tup [.agg [.bool b67,l68.v,l69.v],.int .i64 n65],h66)) none)) none)) none)))) none):=(ke _ h).trans (by kernel_rfl)
theorem k9o(a1:Bool)(a2 a3:Sl)(a4:Bool)(a5 a6:Sl)(h:AH):go (.fn F.kid [.agg [.bool a1,a2.v,a3.v],.agg [.bool a4,a5.v,a6.v],.func (.func F.khk) [] []]) h =
 newK h (.cells [.bool a1,a2.v,a3.v] T.ky) fun h7r h7 =>
 newK h7 (.cells [.bool a4,a5.v,a6.v] T.ky) fun h8r h8 =>
 newK h8 (.cells [.bool false,(⟨none,0,.is 0⟩:Sl).v,(⟨none,0,.is 0⟩:Sl).v] T.ky) fun h9r h9 =>
 ((h9.cell (h7r.add 0)).bind AV.asBool).bind fun b10 =>
 ((h9.cell (h7r.add 1)).bind AV.asSl).bind fun l11 =>
 ((h9.cell (h7r.add 2)).bind AV.asSl).bind fun l12 =>
 ((h9.cell (h8r.add 0)).bind AV.asBool).bind fun b13 =>
 ((h9.cell (h8r.add 1)).bind AV.asSl).bind fun l14 =>
 ((h9.cell (h8r.add 2)).bind AV.asSl).bind fun l15 =>
 newK h9 (.cells [.bool b10,l11.v,l12.v,.bool b13,l14.v,l15.v] T.ky) fun h16r h16 =>
 (go (.fn F.kh8 [(⟨some h16r,2,.is 2⟩:Sl).v]) h16).bind fun q17 =>
 ((some q17.1).bind AV.asBool).bind fun b18 =>
 cond (!b18) (
 (q17.2.puts h9r [.bool false,(⟨none,0,.is 0⟩:Sl).v,(⟨none,0,.is 0⟩:Sl).v]).bind fun h19 =>
 ((h19.cell (h9r.add 0)).bind AV.asBool).bind fun b20 =>
 ((h19.cell (h9r.add 1)).bind AV.asSl).bind fun l21 =>
 ((h19.cell (h9r.add 2)).bind AV.asSl).bind fun l22 =>
 some (.tup [.agg [.bool b20,l21.v,l22.v],.int .i64 1],h19)) (
 newK q17.2 (.cells [.bool false,(⟨none,0,.is 0⟩:Sl).v] T.kg) fun h23r h23 =>
 ((h23.cell (h7r.add 0)).bind AV.asBool).bind fun b24 =>
 ((h23.cell (h7r.add 1)).bind AV.asSl).bind fun l25 =>
 ((h23.cell (h7r.add 2)).bind AV.asSl).bind fun l26 =>
 ((h23.cell (h8r.add 0)).bind AV.asBool).bind fun b27 =>
 ((h23.cell (h8r.add 1)).bind AV.asSl).bind fun l28 =>
 ((h23.cell (h8r.add 2)).bind AV.asSl).bind fun l29 =>
 ((h23.cell (h8r.add 0)).bind AV.asBool).bind fun b30 =>
 ((h23.cell (h8r.add 1)).bind AV.asSl).bind fun l31 =>
 ((h23.cell (h8r.add 2)).bind AV.asSl).bind fun l32 =>
 ((h23.cell (h7r.add 0)).bind AV.asBool).bind fun b33 =>
 ((h23.cell (h7r.add 1)).bind AV.asSl).bind fun l34 =>
 ((h23.cell (h7r.add 2)).bind AV.asSl).bind fun l35 =>
 (go (.fn F.kfz [.agg [.bool b24,l25.v,l26.v],.agg [.bool b27,l28.v,l29.v]]) h23).bind fun q36 =>
 (AV.asAgg q36.1).bind fun cs37 =>
 cond (Nat.beq cs37.length 2) (
 ((cs37[0]?).bind AV.asBool).bind fun b38 =>
 ((cs37[1]?).bind AV.asSl).bind fun l39 =>
 whenK (SameAt h23 q36.2 h7r 3) (
 whenK (SameAt h23 q36.2 h8r 3) (
 whenK (SameAt h23 q36.2 h23r 0) (
 (go (.fn F.kfz [.agg [.bool b30,l31.v,l32.v],.agg [.bool b33,l34.v,l35.v]]) q36.2).bind fun q40 =>
 (AV.asAgg q40.1).bind fun cs41 =>
 cond (Nat.beq cs41.length 2) (
 ((cs41[0]?).bind AV.asBool).bind fun b42 =>
 ((cs41[1]?).bind AV.asSl).bind fun l43 =>
 whenK (SameAt q36.2 q40.2 h23r 0) (
 (go (.fn F.khk [.agg [.bool b38,l39.v],.agg [.bool b42,l43.v]]) q40.2).bind fun q44 =>
 (AV.asTup2 q44.1).bind fun p45 =>
 (AV.asAgg p45.1).bind fun cs46 =>
 cond (Nat.beq cs46.length 2) (
 ((cs46[0]?).bind AV.asBool).bind fun b47 =>
 ((cs46[1]?).bind AV.asSl).bind fun l48 =>
 ((some p45.2).bind (AV.asInt .i64)).bind fun n49 =>
 whenK (SameAt q40.2 q44.2 h23r 0) (
 (q44.2.puts h23r [.bool b47,l48.v]).bind fun h50 =>
 ((h50.cell (h7r.add 2)).bind AV.asSl).bind fun l51 =>
 ((h50.cell (h8r.add 2)).bind AV.asSl).bind fun l52 =>
 (go (.fn F.ki0 [l51.v,l52.v]) h50).bind fun q53 =>
 (AV.asTup2 q53.1).bind fun p54 =>
 ((some p54.1).bind AV.asSl).bind fun l55 =>
 ((some p54.2).bind (AV.asInt .i64)).bind fun n56 =>
 ((q53.2.cell (h23r.add 0)).bind AV.asBool).bind fun b57 =>
 ((q53.2.cell (h23r.add 1)).bind AV.asSl).bind fun l58 =>
 (go (.fn F.kic [.agg [.bool b57,l58.v],l55.v]) q53.2).bind fun q59 =>
 (AV.asTup2 q59.1).bind fun p60 =>
 (AV.asAgg p60.1).bind fun cs61 =>
 cond (Nat.beq cs61.length 3) (
 ((cs61[0]?).bind AV.asBool).bind fun b62 =>
 ((cs61[1]?).bind AV.asSl).bind fun l63 =>
 ((cs61[2]?).bind AV.asSl).bind fun l64 =>
 ((some p60.2).bind (AV.asInt .i64)).bind fun n65 =>
 (q59.2.puts h9r [.bool b62,l63.v,l64.v]).bind fun h66 =>
 ((h66.cell (h9r.add 0)).bind AV.asBool).bind fun b67 =>
 ((h66.cell (h9r.add 1)).bind AV.asSl).bind fun l68 =>
 ((h66.cell (h9r.add 2)).bind AV.asSl).bind fun l69 =>
 some (.tup [.agg [.bool b67,l68.v,l69.v],.int .i64 n65],h66)) none)) none)) none)))) none):=(ke _ h).trans (by kernel_rfl)
theorem k0h(a1:Sl)(h:AH):go (.fn F.kh8 [a1.v]) h =
 (go (.fn F.krk [a1.v,.func (.func F.kdm) [] []]) h).bind fun q2 =>
 ((some q2.1).bind AV.asBool).bind fun b3 =>
 some (.bool (!b3),q2.2):=(ke _ h).trans (by kernel_rfl)
theorem k7z(a1:Bool)(a2 a3:Sl)(a4:Bool)(a5 a6:Sl)(h:AH):go (.fn F.kfz [.agg [.bool a1,a2.v,a3.v],.agg [.bool a4,a5.v,a6.v]]) h =
 newK h (.cells [.bool a1,a2.v,a3.v] T.ky) fun h7r h7 =>
 newK h7 (.cells [.bool a4,a5.v,a6.v] T.ky) fun h8r h8 =>
 newK h8 (.cells [.bool false,(⟨none,0,.is 0⟩:Sl).v] T.kg) fun h9r h9 =>
 newK h9 (.cells [.bool false,(⟨none,0,.is 0⟩:Sl).v] T.kg) fun h10r h10 =>
 ((h10.cell ((h7r.add 0).add 0)).bind AV.asBool).bind fun b11 =>
 ((h10.cell ((h7r.add 0).add 1)).bind AV.asSl).bind fun l12 =>
 ((h10.cell (h8r.add 2)).bind AV.asSl).bind fun l13 =>
 (go (.fn F.kb5 [.bool false,l13.v]) h10).bind fun q14 =>
 (AV.asAgg q14.1).bind fun cs15 =>
 cond (Nat.beq cs15.length 2) (
 ((cs15[0]?).bind AV.asBool).bind fun b16 =>
 ((cs15[1]?).bind AV.asSl).bind fun l17 =>
 whenK (SameAt h10 q14.2 (h7r.add 0) 2) (
 whenK (SameAt h10 q14.2 h10r 0) (
 (go (.fn F.kki [.agg [.bool b11,l12.v],.agg [.bool b16,l17.v]]) q14.2).bind fun q18 =>
 (AV.asTup2 q18.1).bind fun p19 =>
 (AV.asAgg p19.1).bind fun cs20 =>
 cond (Nat.beq cs20.length 2) (
 ((cs20[0]?).bind AV.asBool).bind fun b21 =>
 ((cs20[1]?).bind AV.asSl).bind fun l22 =>
 ((some p19.2).bind (AV.asInt .i64)).bind fun n23 =>
 whenK (SameAt q14.2 q18.2 h10r 0) (
 (q18.2.puts h10r [.bool b21,l22.v]).bind fun h24 =>
 ((h24.cell (h10r.add 0)).bind AV.asBool).bind fun b25 =>
 ((h24.cell (h10r.add 1)).bind AV.asSl).bind fun l26 =>
 (h24.puts h9r [.bool b25,l26.v]).bind fun h27 =>
 ((h27.cell (h9r.add 0)).bind AV.asBool).bind fun b28 =>
 ((h27.cell (h9r.add 1)).bind AV.asSl).bind fun l29 =>
 some (.agg [.bool b28,l29.v],h27))) none))) none:=(ke _ h).trans (by kernel_rfl)
theorem kbap(a1:Bool)(a2:Sl)(a3:Bool)(a4:Sl)(h:AH):go (.fn F.knv [.agg [.bool a1,a2.v],.agg [.bool a3,a4.v]]) h =
 newK h (.cells [.bool a1,a2.v] T.kg) fun h5r h5 =>
 newK h5 (.cells [.bool a3,a4.v] T.kg) fun h6r h6 =>
 ((h6.cell (h5r.add 0)).bind AV.asBool).bind fun b7 =>
 ((h6.cell (h5r.add 1)).bind AV.asSl).bind fun l8 =>
 ((h6.cell (h6r.add 0)).bind AV.asBool).bind fun b9 =>
 ((h6.cell (h6r.add 1)).bind AV.asSl).bind fun l10 =>
 newK h6 (.cells [.bool b7,l8.v,.bool b9,l10.v] T.kg) fun h11r h11 =>
 (go (.fn F.kfd [(⟨some h11r,2,.is 2⟩:Sl).v]) h11).bind fun q12 =>
 ((some q12.1).bind AV.asBool).bind fun b13 =>
 cond (!b13) (
 some (.int .i64 0,q12.2)) (
 ((q12.2.cell (h5r.add 0)).bind AV.asBool).bind fun b14 =>
 ((q12.2.cell (h6r.add 0)).bind AV.asBool).bind fun b15 =>
 cond ((b14==true)&&((b15==false)&&true)) (
 some (.int .i64 (-1),q12.2)) (
 cond ((b14==false)&&((b15==true)&&true)) (
 some (.int .i64 1,q12.2)) (
 cond ((b14==true)&&((b15==true)&&true)) (
 ((q12.2.cell (h6r.add 1)).bind AV.asSl).bind fun l16 =>
 ((q12.2.cell (h5r.add 1)).bind AV.asSl).bind fun l17 =>
 (go (.fn F.kg7 [l16.v,l17.v]) q12.2).bind fun q18 =>
 ((some q18.1).bind (AV.asInt .i64)).bind fun n19 =>
 some (.int .i64 n19,q18.2)) (
 ((q12.2.cell (h5r.add 1)).bind AV.asSl).bind fun l20 =>
 ((q12.2.cell (h6r.add 1)).bind AV.asSl).bind fun l21 =>
 (go (.fn F.kg7 [l20.v,l21.v]) q12.2).bind fun q22 =>
 ((some q22.1).bind (AV.asInt .i64)).bind fun n23 =>
 some (.int .i64 n23,q22.2))))):=(ke _ h).trans (by kernel_rfl)
theorem k2z(a1 a2:Sl)(h:AH):go (.fn F.ki0 [a1.v,a2.v]) h =
 newK h (.cells [a1.v,a2.v] T.kci) fun h3r h3 =>
 (go (.fn F.ke4 [(⟨some h3r,2,.is 2⟩:Sl).v]) h3).bind fun q4 =>
 ((some q4.1).bind AV.asBool).bind fun b5 =>
 cond (!b5) (
 some (.tup [(⟨none,0,.is 0⟩:Sl).v,.int .i64 1],q4.2)) (
 (go (.fn F.kmr [a1.v,a2.v]) q4.2).bind fun q6 =>
 ((some q6.1).bind AV.asSl).bind fun l7 =>
 (go (.fn F.kjr [l7.v]) q6.2).bind fun q8 =>
 (AV.asTup2 q8.1).bind fun p9 =>
 ((some p9.1).bind AV.asSl).bind fun l10 =>
 ((some p9.2).bind (AV.asInt .i64)).bind fun n11 =>
 some (.tup [l10.v,.int .i64 n11],q8.2)):=(ke _ h).trans (by kernel_rfl)
theorem k4n(a1:Sl)(h:AH):go (.fn F.krh [a1.v,.func (.func F.kdo) [] []]) h =
 (go (.fn F.kh2 [a1.v,.func (.func F.kdo) [] []]) h).bind fun q2 =>
 ((some q2.1).bind (AV.asInt .i64)).bind fun n3 =>
 some (.bool (decide (n3≥0)),q2.2):=(ke _ h).trans (by kernel_rfl)
theorem k75(a1:Sl)(h:AH):go (.fn F.kjr [a1.v]) h =
 (go (.fn F.kbr [a1.v]) h).bind fun q2 =>
 ((some q2.1).bind AV.asSl).bind fun l3 =>
 cond (decide ((l3.len:Int)>64)) (
 some (.tup [(⟨none,0,.is 0⟩:Sl).v,.int .i64 4],q2.2)) (
 some (.tup [l3.v,.int .i64 0],q2.2)):=(ke _ h).trans (by kernel_rfl)
theorem k9v(a1 a2:Int)(h:AH):go (.fn F.ke2 [.int .u64 a1,.int .u64 a2]) h =
 some (.int .u64 (khs .u64 a1 a2),h):=(ke _ h).trans (by kernel_rfl)
theorem kba4(l:Nat)(pe:Option Code)(a1:Sl)(a2:AV)(a3:Ref)(a4:Sl)(a5:AV)(a6:Int)(h:AH)(hb:h.blks[l]?=some (kpv Fx.koi F.kd2 0 .ready pe [(0,a1.v),(1,a2),(2,.ptr (some a3)),(4,a4.v),(6,a5)])):go (.round l [.int .i64 a6]) h =
 (beginA l h).bind fun h7 =>
 ((h7.cell a3).bind AV.asSl).bind fun l8 =>
 newK h7 (.cells [.int .i64 a6] T.int) fun h9r h9 =>
 (kb3 Pg T.int ((⟨some h9r,1,.is 1⟩:Sl).v) h9).bind fun p11 =>
 (kx Pg l8 p11.1 p11.2 T.int 1 h9).bind fun q10 =>
 (AV.asSl q10.1).bind fun l12 =>
 (q10.2.puts a3 [l12.v]).bind fun h13 =>
 kgi l none h13:=(ke _ h).trans ((k55 hb).trans (by kernel_rfl))
theorem k2l(a1:Sl)(a2:AV)(a3:Ref)(a4:Sl)(a5:AV)(h:AH):go (.pt F.kd2 ((Option.map Item.code none).toList++Ta.ksd) [(0,a1.v),(1,a2),(2,.ptr (some a3)),(4,a4.v),(6,a5)]) h =
 ((h.cell a3).bind AV.asSl).bind fun l6 =>
 some (l6.v,h):=(ke _ h).trans (by kernel_rfl)
theorem kwo(a1:Int)(a2 a3:Ref)(a4 a5:Sl)(a6 a7:Int)(h:AH):go (.pt F.kfq Td.kio [(2,.int .i64 a1),(3,.ptr (some a2)),(6,.ptr (some a3)),(8,a4.v),(44,a5.v),(45,.int .i64 a6),(46,.int .i64 a7)]) h =
 cond (decide (a7<a6)) (
 (idx a5.ref a5.len a7 1).bind fun r8 =>
 ((h.cell r8).bind (AV.asInt .i64)).bind fun n9 =>
 cond (decide (n9≤a1)) (
 newK h (.cells [.int .i64 a7] T.int) fun h10r h10 =>
 (kb3 Pg T.int ((⟨some h10r,1,.is 1⟩:Sl).v) h10).bind fun p12 =>
 (kx Pg a4 p12.1 p12.2 T.int 1 h10).bind fun q11 =>
 (AV.asSl q11.1).bind fun l13 =>
 go (.pt F.kfq Td.kio [(2,.int .i64 a1),(3,.ptr (some a2)),(6,.ptr (some a3)),(8,l13.v),(44,a5.v),(45,.int .i64 a6),(46,.int .i64 (IntKind.wrap .i64 (a7+1)))]) q11.2) (
 go (.pt F.kfq Td.kio [(2,.int .i64 a1),(3,.ptr (some a2)),(6,.ptr (some a3)),(8,a4.v),(44,a5.v),(45,.int .i64 a6),(46,.int .i64 (IntKind.wrap .i64 (a7+1)))]) h)) (
 ((h.cell (a2.add 0)).bind AV.asSl).bind fun l14 =>
 (go (.fn F.kg3 [.int .i64 (l14.len:Int),a4.v]) h).bind fun q15 =>
 (AV.asTup2 q15.1).bind fun p16 =>
 (AV.asAgg p16.1).bind fun cs17 =>
 cond (Nat.beq cs17.length 2) (
 ((cs17[0]?).bind (AV.asInt .i64)).bind fun n18 =>
 ((cs17[1]?).bind AV.asSl).bind fun l19 =>
 ((some p16.2).bind (AV.asInt .i64)).bind fun n20 =>
 (q15.2.puts a3 [.int .i64 n18,l19.v]).bind fun h21 =>
 ((h21.cell (a3.add 0)).bind (AV.asInt .i64)).bind fun n22 =>
 ((h21.cell (a3.add 1)).bind AV.asSl).bind fun l23 =>
 some (.tup [.agg [.int .i64 n22,l23.v],.int .i64 n20],h21)) none):=(ke _ h).trans (by kernel_rfl)
theorem k4e(a1:Int)(a2:Sl)(a3:Int)(a4:Sl)(h:AH):go (.fn F.kcu [.agg [.int .i64 a1,a2.v],.agg [.int .i64 a3,a4.v],.func (.func F.keg) [] []]) h =
 newK h (.cells [.int .i64 a1,a2.v] T.kw) fun h5r h5 =>
 newK h5 (.cells [.int .i64 a3,a4.v] T.kw) fun h6r h6 =>
 newK h6 (.cells [.int .i64 0,(⟨none,0,.is 0⟩:Sl).v] T.kw) fun h7r h7 =>
 ((h7.cell (h5r.add 0)).bind (AV.asInt .i64)).bind fun n8 =>
 ((h7.cell (h5r.add 1)).bind AV.asSl).bind fun l9 =>
 (go (.fn F.kf9 [.agg [.int .i64 n8,l9.v]]) h7).bind fun q10 =>
 ((some q10.1).bind AV.asBool).bind fun b11 =>
 cond (!b11) (
 (q10.2.puts h7r [.int .i64 0,(⟨none,0,.is 0⟩:Sl).v]).bind fun h12 =>
 ((h12.cell (h7r.add 0)).bind (AV.asInt .i64)).bind fun n13 =>
 ((h12.cell (h7r.add 1)).bind AV.asSl).bind fun l14 =>
 some (.tup [.agg [.int .i64 n13,l14.v],.int .i64 1],h12)) (
 ((q10.2.cell (h6r.add 0)).bind (AV.asInt .i64)).bind fun n15 =>
 ((q10.2.cell (h6r.add 1)).bind AV.asSl).bind fun l16 =>
 (go (.fn F.kf9 [.agg [.int .i64 n15,l16.v]]) q10.2).bind fun q17 =>
 ((some q17.1).bind AV.asBool).bind fun b18 =>
 cond (!b18) (
 (q17.2.puts h7r [.int .i64 0,(⟨none,0,.is 0⟩:Sl).v]).bind fun h19 =>
 ((h19.cell (h7r.add 0)).bind (AV.asInt .i64)).bind fun n20 =>
 ((h19.cell (h7r.add 1)).bind AV.asSl).bind fun l21 =>
 some (.tup [.agg [.int .i64 n20,l21.v],.int .i64 1],h19)) (
 ((q17.2.cell (h5r.add 0)).bind (AV.asInt .i64)).bind fun n22 =>
 ((q17.2.cell (h6r.add 0)).bind (AV.asInt .i64)).bind fun n23 =>
 cond (!decide (n22=n23)) (
 (q17.2.puts h7r [.int .i64 0,(⟨none,0,.is 0⟩:Sl).v]).bind fun h24 =>
 ((h24.cell (h7r.add 0)).bind (AV.asInt .i64)).bind fun n25 =>
 ((h24.cell (h7r.add 1)).bind AV.asSl).bind fun l26 =>
 some (.tup [.agg [.int .i64 n25,l26.v],.int .i64 1],h24)) (
 ((q17.2.cell (h5r.add 0)).bind (AV.asInt .i64)).bind fun n27 =>
 (go (.fn F.kig [.int .i64 n27]) q17.2).bind fun q28 =>
 (AV.asTup2 q28.1).bind fun p29 =>
 (AV.asAgg p29.1).bind fun cs30 =>
 cond (Nat.beq cs30.length 2) (
 ((cs30[0]?).bind (AV.asInt .i64)).bind fun n31 =>
 ((cs30[1]?).bind AV.asSl).bind fun l32 =>
 ((some p29.2).bind (AV.asInt .i64)).bind fun n33 =>
 newK q28.2 (.cells [.int .i64 0,(⟨none,0,.is 0⟩:Sl).v] T.kw) fun h34r h34 =>
 (h34.puts h34r [.int .i64 n31,l32.v]).bind fun h35 =>
 ((h35.cell (h34r.add 1)).bind AV.asSl).bind fun l36 =>
 go (.pt F.kcu Td.kft [(2,.func (.func F.keg) [] []),(3,.ptr (some h5r)),(4,.ptr (some h6r)),(6,.ptr (some h7r)),(8,.ptr (some h34r)),(9,.int .i64 n33),(35,.int .i64 (l36.len:Int)),(36,.int .i64 0)]) h35) none))):=(ke _ h).trans (by kernel_rfl)
theorem k6z(a1:Sl)(h:AH):go (.fn F.kih [a1.v,.func (.func F.kdl) [] []]) h =
 go (.pt F.kih Td.klm [(0,a1.v),(1,.func (.func F.kdl) [] []),(7,.int .i64 (a1.len:Int)),(8,.int .i64 0)]) h:=(ke _ h).trans (by kernel_rfl)
theorem k6k(a1 a2 a3:Int)(h:AH):go (.fn F.kbx [.int .u64 a1,.int .u64 a2,.int .u64 a3]) h =
 cond (decide (a3=0)) (
 (h.cell (.old ⟨Gl.math_bits_divideError,0,none⟩)).bind fun v4 =>
 none) (
 go (.pt F.kbx Td.kpy [(0,.int .u64 a1),(1,.int .u64 a2),(2,.int .u64 a3)]) h):=(ke _ h).trans (by kernel_rfl)
theorem k4t(a1:Int)(h:AH):go (.fn F.kk1 [.int .u64 a1]) h =
 cond (decide (a1≥4294967296)) (
 cond (decide ((ishr .u64 a1 32)≥65536)) (
 cond (decide ((ishr .u64 (ishr .u64 a1 32) 16)≥256)) (
 cond (decide (0≤(IntKind.wrap .u8 (ishr .u64 (ishr .u64 (ishr .u64 a1 32) 16) 8)))) (
 (lit1[Int.toNat (IntKind.wrap .u8 (ishr .u64 (ishr .u64 (ishr .u64 a1 32) 16) 8))]?).bind fun b2 =>
 some (.int .i64 (IntKind.wrap .i64 ((IntKind.wrap .i64 ((IntKind.wrap .i64 (32+16))+8))+(IntKind.wrap .i64 (b2.toNat:Int)))),h)) none) (
 cond (decide (0≤(IntKind.wrap .u8 (ishr .u64 (ishr .u64 a1 32) 16)))) (
 (lit1[Int.toNat (IntKind.wrap .u8 (ishr .u64 (ishr .u64 a1 32) 16))]?).bind fun b3 =>
 some (.int .i64 (IntKind.wrap .i64 ((IntKind.wrap .i64 (32+16))+(IntKind.wrap .i64 (b3.toNat:Int)))),h)) none)) (
 cond (decide ((ishr .u64 a1 32)≥256)) (
 cond (decide (0≤(IntKind.wrap .u8 (ishr .u64 (ishr .u64 a1 32) 8)))) (
 (lit1[Int.toNat (IntKind.wrap .u8 (ishr .u64 (ishr .u64 a1 32) 8))]?).bind fun b4 =>
 some (.int .i64 (IntKind.wrap .i64 ((IntKind.wrap .i64 (32+8))+(IntKind.wrap .i64 (b4.toNat:Int)))),h)) none) (
 cond (decide (0≤(IntKind.wrap .u8 (ishr .u64 a1 32)))) (
 (lit1[Int.toNat (IntKind.wrap .u8 (ishr .u64 a1 32))]?).bind fun b5 =>
 some (.int .i64 (IntKind.wrap .i64 (32+(IntKind.wrap .i64 (b5.toNat:Int)))),h)) none))) (
 cond (decide (a1≥65536)) (
 cond (decide ((ishr .u64 a1 16)≥256)) (
 cond (decide (0≤(IntKind.wrap .u8 (ishr .u64 (ishr .u64 a1 16) 8)))) (
 (lit1[Int.toNat (IntKind.wrap .u8 (ishr .u64 (ishr .u64 a1 16) 8))]?).bind fun b6 =>
 some (.int .i64 (IntKind.wrap .i64 ((IntKind.wrap .i64 ((IntKind.wrap .i64 (0+16))+8))+(IntKind.wrap .i64 (b6.toNat:Int)))),h)) none) (
 cond (decide (0≤(IntKind.wrap .u8 (ishr .u64 a1 16)))) (
 (lit1[Int.toNat (IntKind.wrap .u8 (ishr .u64 a1 16))]?).bind fun b7 =>
 some (.int .i64 (IntKind.wrap .i64 ((IntKind.wrap .i64 (0+16))+(IntKind.wrap .i64 (b7.toNat:Int)))),h)) none)) (
 cond (decide (a1≥256)) (
 cond (decide (0≤(IntKind.wrap .u8 (ishr .u64 a1 8)))) (
 (lit1[Int.toNat (IntKind.wrap .u8 (ishr .u64 a1 8))]?).bind fun b8 =>
 some (.int .i64 (IntKind.wrap .i64 ((IntKind.wrap .i64 (0+8))+(IntKind.wrap .i64 (b8.toNat:Int)))),h)) none) (
 cond (decide (0≤(IntKind.wrap .u8 a1))) (
 (lit1[Int.toNat (IntKind.wrap .u8 a1)]?).bind fun b9 =>
 some (.int .i64 (IntKind.wrap .i64 (0+(IntKind.wrap .i64 (b9.toNat:Int)))),h)) none))):=(ke _ h).trans (by kernel_rfl)
theorem k05(a1:Int)(a2 a3:Sl)(a4 a5:Int)(h:AH):go (.pt F.kdu Td.kit [(1,.int .u64 a1),(5,a2.v),(12,a3.v),(13,.int .i64 a4),(14,.int .i64 a5)]) h =
 cond (decide (a5<a4)) (
 (idx a3.ref a3.len a5 1).bind fun r6 =>
 ((h.cell r6).bind (AV.asInt .u64)).bind fun n7 =>
 (idx a2.ref a2.len a5 1).bind fun r8 =>
 ((h.cell r8).bind (AV.asInt .u64)).bind fun n9 =>
 cond (decide (a1<0)) none (
 (idx a2.ref a2.len a5 1).bind fun r10 =>
 (h.puts r10 [.int .u64 (ior .u64 n9 (ishl .u64 n7 a1))]).bind fun h11 =>
 cond (decide (a1>0)) (
 cond (decide ((IntKind.wrap .u64 (64-a1))<0)) none (
 (idx a2.ref a2.len (IntKind.wrap .i64 (a5+1)) 1).bind fun r12 =>
 (h11.puts r12 [.int .u64 (ishr .u64 n7 (IntKind.wrap .u64 (64-a1)))]).bind fun h13 =>
 go (.pt F.kdu Td.kit [(1,.int .u64 a1),(5,a2.v),(12,a3.v),(13,.int .i64 a4),(14,.int .i64 (IntKind.wrap .i64 (a5+1)))]) h13)) (
 go (.pt F.kdu Td.kit [(1,.int .u64 a1),(5,a2.v),(12,a3.v),(13,.int .i64 a4),(14,.int .i64 (IntKind.wrap .i64 (a5+1)))]) h11))) (
 some (a2.v,h)):=(ke _ h).trans (by kernel_rfl)
theorem k4y(a1 a2 a3 a4 a5:Int)(h:AH):go (.fn F.ker [.int .u64 a1,.int .u64 a2,.int .u64 a3,.int .u64 a4,.int .u64 a5]) h =
 cond (decide (a1≥a4)) (
 some (.int .u64 18446744073709551615,h)) (
 (go (.fn F.kbx [.int .u64 a1,.int .u64 a2,.int .u64 a4]) h).bind fun q6 =>
 (AV.asTup2 q6.1).bind fun p7 =>
 ((some p7.1).bind (AV.asInt .u64)).bind fun n8 =>
 ((some p7.2).bind (AV.asInt .u64)).bind fun n9 =>
 go (.pt F.ker Td.kjx [(2,.int .u64 a3),(3,.int .u64 a4),(4,.int .u64 a5),(11,.int .u64 n8),(12,.int .u64 n9)]) q6.2):=(ke _ h).trans (by kernel_rfl)
theorem kxe(a1:Int)(a2 a3:Sl)(a4:Int)(a5:Sl)(a6 a7:Int)(a8:Sl)(h:AH):go (.pt F.kb7 Td.kmu [(6,.int .u64 a1),(7,a2.v),(8,a3.v),(9,.int .i64 a4),(10,a5.v),(11,.int .i64 a6),(12,.int .u64 a7),(13,a8.v)]) h =
 (go (.fn F.keb [.int .u64 a7]) h).bind fun q9 =>
 ((some q9.1).bind AV.asSl).bind fun l10 =>
 (go (.fn F.kcs [a3.v,l10.v]) q9.2).bind fun q11 =>
 ((some q11.1).bind AV.asSl).bind fun l12 =>
 (go (.fn F.kgo [a8.v]) q11.2).bind fun q13 =>
 ((some q13.1).bind AV.asSl).bind fun l14 =>
 (go (.fn F.kbr [l14.v]) q13.2).bind fun q15 =>
 ((some q15.1).bind AV.asSl).bind fun l16 =>
 (go (.fn F.kd7 [l16.v,l12.v]) q15.2).bind fun q17 =>
 ((some q17.1).bind (AV.asInt .i64)).bind fun n18 =>
 cond (decide (n18≥0)) (
 (go (.fn F.kc5 [a8.v,l12.v]) q17.2).bind fun q19 =>
 ((some q19.1).bind AV.asSl).bind fun l20 =>
 (copyH l20 a8 1 q19.2).bind fun h21 =>
 (idx a5.ref a5.len a6 1).bind fun r22 =>
 (h21.puts r22 [.int .u64 a7]).bind fun h23 =>
 go (.pt F.kb7 Td.kk5 [(6,.int .u64 a1),(7,a2.v),(8,a3.v),(9,.int .i64 a4),(10,a5.v),(11,.int .i64 (IntKind.wrap .i64 (a6-1)))]) h23) (
 go (.pt F.kb7 Td.kmu [(6,.int .u64 a1),(7,a2.v),(8,a3.v),(9,.int .i64 a4),(10,a5.v),(11,.int .i64 a6),(12,.int .u64 (IntKind.wrap .u64 (a7-1))),(13,a8.v)]) q17.2):=(ke _ h).trans (by kernel_rfl)
theorem kx8(a1:Int)(a2 a3 a4:Sl)(a5 a6:Int)(h:AH):go (.pt F.kb7 Td.kg8 [(6,.int .u64 a1),(10,a2.v),(15,a3.v),(16,a4.v),(112,.int .i64 a5),(113,.int .i64 a6)]) h =
 cond (decide (a6<a5)) (
 (idx a3.ref a3.len a6 1).bind fun r7 =>
 ((h.cell r7).bind (AV.asInt .u64)).bind fun n8 =>
 cond (decide (a1<0)) none (
 (idx a4.ref a4.len a6 1).bind fun r9 =>
 (h.puts r9 [.int .u64 (ishr .u64 n8 a1)]).bind fun h10 =>
 cond (decide (a1>0)) (
 cond (decide ((IntKind.wrap .i64 (a6+1))<(a3.len:Int))) (
 (idx a4.ref a4.len a6 1).bind fun r11 =>
 ((h10.cell r11).bind (AV.asInt .u64)).bind fun n12 =>
 (idx a3.ref a3.len (IntKind.wrap .i64 (a6+1)) 1).bind fun r13 =>
 ((h10.cell r13).bind (AV.asInt .u64)).bind fun n14 =>
 cond (decide ((IntKind.wrap .u64 (64-a1))<0)) none (
 (idx a4.ref a4.len a6 1).bind fun r15 =>
 (h10.puts r15 [.int .u64 (ior .u64 n12 (ishl .u64 n14 (IntKind.wrap .u64 (64-a1))))]).bind fun h16 =>
 go (.pt F.kb7 Td.kg8 [(6,.int .u64 a1),(10,a2.v),(15,a3.v),(16,a4.v),(112,.int .i64 a5),(113,.int .i64 (IntKind.wrap .i64 (a6+1)))]) h16)) (
 go (.pt F.kb7 Td.kg8 [(6,.int .u64 a1),(10,a2.v),(15,a3.v),(16,a4.v),(112,.int .i64 a5),(113,.int .i64 (IntKind.wrap .i64 (a6+1)))]) h10)) (
 go (.pt F.kb7 Td.kg8 [(6,.int .u64 a1),(10,a2.v),(15,a3.v),(16,a4.v),(112,.int .i64 a5),(113,.int .i64 (IntKind.wrap .i64 (a6+1)))]) h10))) (
 (go (.fn F.kbr [a2.v]) h).bind fun q17 =>
 ((some q17.1).bind AV.asSl).bind fun l18 =>
 (go (.fn F.kbr [a4.v]) q17.2).bind fun q19 =>
 ((some q19.1).bind AV.asSl).bind fun l20 =>
 some (.tup [l18.v,l20.v],q19.2)):=(ke _ h).trans (by kernel_rfl)
theorem k9l(a1:Bool)(a2:Sl)(a3:Bool)(a4:Sl)(h:AH):go (.fn F.kgk [.agg [.bool a1,a2.v],.agg [.bool a3,a4.v]]) h =
 newK h (.cells [.bool a1,a2.v] T.kg) fun h5r h5 =>
 newK h5 (.cells [.bool a3,a4.v] T.kg) fun h6r h6 =>
 newK h6 (.cells [.bool false,(⟨none,0,.is 0⟩:Sl).v] T.kg) fun h7r h7 =>
 ((h7.cell (h5r.add 0)).bind AV.asBool).bind fun b8 =>
 ((h7.cell (h5r.add 1)).bind AV.asSl).bind fun l9 =>
 ((h7.cell (h6r.add 0)).bind AV.asBool).bind fun b10 =>
 ((h7.cell (h6r.add 1)).bind AV.asSl).bind fun l11 =>
 newK h7 (.cells [.bool b8,l9.v,.bool b10,l11.v] T.kg) fun h12r h12 =>
 (go (.fn F.kfd [(⟨some h12r,2,.is 2⟩:Sl).v]) h12).bind fun q13 =>
 ((some q13.1).bind AV.asBool).bind fun b14 =>
 cond (!b14) (
 (q13.2.puts h7r [.bool false,(⟨none,0,.is 0⟩:Sl).v]).bind fun h15 =>
 ((h15.cell (h7r.add 0)).bind AV.asBool).bind fun b16 =>
 ((h15.cell (h7r.add 1)).bind AV.asSl).bind fun l17 =>
 some (.tup [.agg [.bool b16,l17.v],.int .i64 1],h15)) (
 ((q13.2.cell (h5r.add 0)).bind AV.asBool).bind fun b18 =>
 ((q13.2.cell (h6r.add 0)).bind AV.asBool).bind fun b19 =>
 cond (b18==b19) (
 ((q13.2.cell (h5r.add 1)).bind AV.asSl).bind fun l20 =>
 ((q13.2.cell (h6r.add 1)).bind AV.asSl).bind fun l21 =>
 (go (.fn F.klf [l20.v,l21.v]) q13.2).bind fun q22 =>
 (AV.asTup2 q22.1).bind fun p23 =>
 ((some p23.1).bind AV.asSl).bind fun l24 =>
 ((some p23.2).bind (AV.asInt .i64)).bind fun n25 =>
 ((q22.2.cell (h5r.add 0)).bind AV.asBool).bind fun b26 =>
 (go (.fn F.kb5 [.bool b26,l24.v]) q22.2).bind fun q27 =>
 (AV.asAgg q27.1).bind fun cs28 =>
 cond (Nat.beq cs28.length 2) (
 ((cs28[0]?).bind AV.asBool).bind fun b29 =>
 ((cs28[1]?).bind AV.asSl).bind fun l30 =>
 (q27.2.puts h7r [.bool b29,l30.v]).bind fun h31 =>
 ((h31.cell (h7r.add 0)).bind AV.asBool).bind fun b32 =>
 ((h31.cell (h7r.add 1)).bind AV.asSl).bind fun l33 =>
 some (.tup [.agg [.bool b32,l33.v],.int .i64 n25],h31)) none) (
 ((q13.2.cell (h5r.add 1)).bind AV.asSl).bind fun l34 =>
 ((q13.2.cell (h6r.add 1)).bind AV.asSl).bind fun l35 =>
 (go (.fn F.kg7 [l34.v,l35.v]) q13.2).bind fun q36 =>
 ((some q36.1).bind (AV.asInt .i64)).bind fun n37 =>
 cond (decide (n37<0)) (
 ((q36.2.cell (h6r.add 0)).bind AV.asBool).bind fun b38 =>
 ((q36.2.cell (h6r.add 1)).bind AV.asSl).bind fun l39 =>
 ((q36.2.cell (h5r.add 0)).bind AV.asBool).bind fun b40 =>
 ((q36.2.cell (h5r.add 1)).bind AV.asSl).bind fun l41 =>
 (q36.2.puts h5r [.bool b38,l39.v]).bind fun h42 =>
 (h42.puts h6r [.bool b40,l41.v]).bind fun h43 =>
 ((h43.cell (h5r.add 1)).bind AV.asSl).bind fun l44 =>
 ((h43.cell (h6r.add 1)).bind AV.asSl).bind fun l45 =>
 (go (.fn F.kil [l44.v,l45.v]) h43).bind fun q46 =>
 (AV.asTup2 q46.1).bind fun p47 =>
 ((some p47.1).bind AV.asSl).bind fun l48 =>
 ((some p47.2).bind (AV.asInt .i64)).bind fun n49 =>
 ((q46.2.cell (h5r.add 0)).bind AV.asBool).bind fun b50 =>
 (go (.fn F.kb5 [.bool b50,l48.v]) q46.2).bind fun q51 =>
 (AV.asAgg q51.1).bind fun cs52 =>
 cond (Nat.beq cs52.length 2) (
 ((cs52[0]?).bind AV.asBool).bind fun b53 =>
 ((cs52[1]?).bind AV.asSl).bind fun l54 =>
 (q51.2.puts h7r [.bool b53,l54.v]).bind fun h55 =>
 ((h55.cell (h7r.add 0)).bind AV.asBool).bind fun b56 =>
 ((h55.cell (h7r.add 1)).bind AV.asSl).bind fun l57 =>
 some (.tup [.agg [.bool b56,l57.v],.int .i64 n49],h55)) none) (
 ((q36.2.cell (h5r.add 1)).bind AV.asSl).bind fun l58 =>
 ((q36.2.cell (h6r.add 1)).bind AV.asSl).bind fun l59 =>
 (go (.fn F.kil [l58.v,l59.v]) q36.2).bind fun q60 =>
 (AV.asTup2 q60.1).bind fun p61 =>
 ((some p61.1).bind AV.asSl).bind fun l62 =>
 ((some p61.2).bind (AV.asInt .i64)).bind fun n63 =>
 ((q60.2.cell (h5r.add 0)).bind AV.asBool).bind fun b64 =>
 (go (.fn F.kb5 [.bool b64,l62.v]) q60.2).bind fun q65 =>
 (AV.asAgg q65.1).bind fun cs66 =>
 cond (Nat.beq cs66.length 2) (
 ((cs66[0]?).bind AV.asBool).bind fun b67 =>
 ((cs66[1]?).bind AV.asSl).bind fun l68 =>
 (q65.2.puts h7r [.bool b67,l68.v]).bind fun h69 =>
 ((h69.cell (h7r.add 0)).bind AV.asBool).bind fun b70 =>
 ((h69.cell (h7r.add 1)).bind AV.asSl).bind fun l71 =>
 some (.tup [.agg [.bool b70,l71.v],.int .i64 n63],h69)) none))):=(ke _ h).trans (by kernel_rfl)
theorem kba6(a1:Bool)(a2:Sl)(a3:Bool)(a4:Sl)(h:AH):go (.fn F.khk [.agg [.bool a1,a2.v],.agg [.bool a3,a4.v]]) h =
 newK h (.cells [.bool a1,a2.v] T.kg) fun h5r h5 =>
 newK h5 (.cells [.bool a3,a4.v] T.kg) fun h6r h6 =>
 newK h6 (.cells [.bool false,(⟨none,0,.is 0⟩:Sl).v] T.kg) fun h7r h7 =>
 ((h7.cell (h5r.add 0)).bind AV.asBool).bind fun b8 =>
 ((h7.cell (h5r.add 1)).bind AV.asSl).bind fun l9 =>
 ((h7.cell (h6r.add 0)).bind AV.asBool).bind fun b10 =>
 ((h7.cell (h6r.add 1)).bind AV.asSl).bind fun l11 =>
 newK h7 (.cells [.bool b8,l9.v,.bool b10,l11.v] T.kg) fun h12r h12 =>
 (go (.fn F.kfd [(⟨some h12r,2,.is 2⟩:Sl).v]) h12).bind fun q13 =>
 ((some q13.1).bind AV.asBool).bind fun b14 =>
 cond (!b14) (
 (q13.2.puts h7r [.bool false,(⟨none,0,.is 0⟩:Sl).v]).bind fun h15 =>
 ((h15.cell (h7r.add 0)).bind AV.asBool).bind fun b16 =>
 ((h15.cell (h7r.add 1)).bind AV.asSl).bind fun l17 =>
 some (.tup [.agg [.bool b16,l17.v],.int .i64 1],h15)) (
 ((q13.2.cell (h5r.add 0)).bind AV.asBool).bind fun b18 =>
 ((q13.2.cell (h5r.add 1)).bind AV.asSl).bind fun l19 =>
 ((q13.2.cell (h6r.add 0)).bind AV.asBool).bind fun b20 =>
 ((q13.2.cell (h6r.add 1)).bind AV.asSl).bind fun l21 =>
 (go (.fn F.kpk [.agg [.bool b20,l21.v]]) q13.2).bind fun q22 =>
 (AV.asAgg q22.1).bind fun cs23 =>
 cond (Nat.beq cs23.length 2) (
 ((cs23[0]?).bind AV.asBool).bind fun b24 =>
 ((cs23[1]?).bind AV.asSl).bind fun l25 =>
 whenK (SameAt q13.2 q22.2 h5r 2) (
 (go (.fn F.kgk [.agg [.bool b18,l19.v],.agg [.bool b24,l25.v]]) q22.2).bind fun q26 =>
 (AV.asTup2 q26.1).bind fun p27 =>
 (AV.asAgg p27.1).bind fun cs28 =>
 cond (Nat.beq cs28.length 2) (
 ((cs28[0]?).bind AV.asBool).bind fun b29 =>
 ((cs28[1]?).bind AV.asSl).bind fun l30 =>
 ((some p27.2).bind (AV.asInt .i64)).bind fun n31 =>
 (q26.2.puts h7r [.bool b29,l30.v]).bind fun h32 =>
 ((h32.cell (h7r.add 0)).bind AV.asBool).bind fun b33 =>
 ((h32.cell (h7r.add 1)).bind AV.asSl).bind fun l34 =>
 some (.tup [.agg [.bool b33,l34.v],.int .i64 n31],h32)) none)) none):=(ke _ h).trans (by kernel_rfl)
theorem kbbn(a1:Sl)(h:AH):go (.fn F.krk [a1.v,.func (.func F.kdm) [] []]) h =
 (go (.fn F.khh [a1.v,.func (.func F.kdm) [] []]) h).bind fun q2 =>
 ((some q2.1).bind (AV.asInt .i64)).bind fun n3 =>
 some (.bool (decide (n3≥0)),q2.2):=(ke _ h).trans (by kernel_rfl)
theorem k2c(a1 a2:Sl)(h:AH):go (.fn F.kg7 [a1.v,a2.v]) h =
 newK h (.cells [a1.v,a2.v] T.kci) fun h3r h3 =>
 (go (.fn F.ke4 [(⟨some h3r,2,.is 2⟩:Sl).v]) h3).bind fun q4 =>
 ((some q4.1).bind AV.asBool).bind fun b5 =>
 cond (!b5) (
 some (.int .i64 0,q4.2)) (
 (go (.fn F.kd7 [a1.v,a2.v]) q4.2).bind fun q6 =>
 ((some q6.1).bind (AV.asInt .i64)).bind fun n7 =>
 some (.int .i64 n7,q6.2)):=(ke _ h).trans (by kernel_rfl)
theorem k9i(a1 a2:Sl)(h:AH):go (.fn F.kmr [a1.v,a2.v]) h =
 newK h (.cells [.nilFunc] T.kzc) fun h3r h3 =>
 (h3.puts h3r [.func (.func F.kj2) [] [.ptr (some h3r)]]).bind fun h4 =>
 (h4.cell h3r).bind fun v5 =>
 yieldK v5 [a1.v,a2.v] (fun y7 =>
 (go (.round y7.1 y7.2) h4).bind fun q6 =>
 ((some q6.1).bind AV.asSl).bind fun l9 =>
 some (l9.v,q6.2)) (
 (callV Pg go v5 [a1.v,a2.v] h4).bind fun q8 =>
 ((some q8.1).bind AV.asSl).bind fun l10 =>
 some (l10.v,q8.2)):=(ke _ h).trans (by kernel_rfl)
theorem kzm(a1:Sl)(h:AH):go (.fn F.kh2 [a1.v,.func (.func F.kdo) [] []]) h =
 go (.pt F.kh2 Td.kk9 [(0,a1.v),(1,.func (.func F.kdo) [] []),(7,.int .i64 (a1.len:Int)),(8,.int .i64 0)]) h:=(ke _ h).trans (by kernel_rfl)
theorem k7l(a1:Int)(a2:Sl)(h:AH):go (.fn F.kg3 [.int .i64 a1,a2.v]) h =
 newK h (.cells [.int .i64 a1] T.int) fun h3r h3 =>
 newK h3 (.cells [.int .i64 0,(⟨none,0,.is 0⟩:Sl).v] T.kw) fun h4r h4 =>
 ((h4.cell h3r).bind (AV.asInt .i64)).bind fun n5 =>
 (go (.fn F.kig [.int .i64 n5]) h4).bind fun q6 =>
 (AV.asTup2 q6.1).bind fun p7 =>
 (AV.asAgg p7.1).bind fun cs8 =>
 cond (Nat.beq cs8.length 2) (
 ((cs8[0]?).bind (AV.asInt .i64)).bind fun n9 =>
 ((cs8[1]?).bind AV.asSl).bind fun l10 =>
 ((some p7.2).bind (AV.asInt .i64)).bind fun n11 =>
 newK q6.2 (.cells [.int .i64 0,(⟨none,0,.is 0⟩:Sl).v] T.kw) fun h12r h12 =>
 (h12.puts h12r [.int .i64 n9,l10.v]).bind fun h13 =>
 cond (!decide (n11=0)) (
 (h13.puts h4r [.int .i64 0,(⟨none,0,.is 0⟩:Sl).v]).bind fun h14 =>
 ((h14.cell (h4r.add 0)).bind (AV.asInt .i64)).bind fun n15 =>
 ((h14.cell (h4r.add 1)).bind AV.asSl).bind fun l16 =>
 some (.tup [.agg [.int .i64 n15,l16.v],.int .i64 1],h14)) (
 (go (.fn F.kdi [a2.v,.func (.func F.kdf) [] [.ptr (some h3r)]]) h13).bind fun q17 =>
 ((some q17.1).bind AV.asBool).bind fun b18 =>
 cond b18 (
 (q17.2.puts h4r [.int .i64 0,(⟨none,0,.is 0⟩:Sl).v]).bind fun h19 =>
 ((h19.cell (h4r.add 0)).bind (AV.asInt .i64)).bind fun n20 =>
 ((h19.cell (h4r.add 1)).bind AV.asSl).bind fun l21 =>
 some (.tup [.agg [.int .i64 n20,l21.v],.int .i64 1],h19)) (
 go (.pt F.kg3 Td.kmp [(4,.ptr (some h4r)),(6,.ptr (some h12r)),(23,a2.v),(24,.int .i64 (a2.len:Int)),(25,.int .i64 0)]) q17.2))) none:=(ke _ h).trans (by kernel_rfl)
theorem kwq(a1 a2 a3 a4:Ref)(a5 a6 a7:Int)(h:AH):go (.pt F.kcu Td.kft [(2,.func (.func F.keg) [] []),(3,.ptr (some a1)),(4,.ptr (some a2)),(6,.ptr (some a3)),(8,.ptr (some a4)),(9,.int .i64 a5),(35,.int .i64 a6),(36,.int .i64 a7)]) h =
 cond (decide (a7<a6)) (
 ((h.cell (a4.add 1)).bind AV.asSl).bind fun l8 =>
 ((h.cell (a1.add 1)).bind AV.asSl).bind fun l9 =>
 (idx l9.ref l9.len a7 1).bind fun r10 =>
 ((h.cell r10).bind (AV.asInt .u64)).bind fun n11 =>
 ((h.cell (a2.add 1)).bind AV.asSl).bind fun l12 =>
 (idx l12.ref l12.len a7 1).bind fun r13 =>
 ((h.cell r13).bind (AV.asInt .u64)).bind fun n14 =>
 (go (.fn F.keg [.int .u64 n11,.int .u64 n14]) h).bind fun q15 =>
 ((some q15.1).bind (AV.asInt .u64)).bind fun n16 =>
 whenK (SameAt h q15.2 (a4.add 1) 1) (
 (idx l8.ref l8.len a7 1).bind fun r17 =>
 (q15.2.puts r17 [.int .u64 n16]).bind fun h18 =>
 go (.pt F.kcu Td.kft [(2,.func (.func F.keg) [] []),(3,.ptr (some a1)),(4,.ptr (some a2)),(6,.ptr (some a3)),(8,.ptr (some a4)),(9,.int .i64 a5),(35,.int .i64 a6),(36,.int .i64 (IntKind.wrap .i64 (a7+1)))]) h18)) (
 ((h.cell (a4.add 0)).bind (AV.asInt .i64)).bind fun n19 =>
 ((h.cell (a4.add 1)).bind AV.asSl).bind fun l20 =>
 (h.puts a3 [.int .i64 n19,l20.v]).bind fun h21 =>
 ((h21.cell (a3.add 0)).bind (AV.asInt .i64)).bind fun n22 =>
 ((h21.cell (a3.add 1)).bind AV.asSl).bind fun l23 =>
 some (.tup [.agg [.int .i64 n22,l23.v],.int .i64 a5],h21)):=(ke _ h).trans (by kernel_rfl)
theorem krz(a1:Sl)(a2 a3:Int)(h:AH):go (.pt F.kih Td.klm [(0,a1.v),(1,.func (.func F.kdl) [] []),(7,.int .i64 a2),(8,.int .i64 a3)]) h =
 cond (decide (a3<a2)) (
 (idx a1.ref a1.len a3 1).bind fun r4 =>
 ((h.cell r4).bind AV.asSl).bind fun l5 =>
 (go (.fn F.kdl [l5.v]) h).bind fun q6 =>
 ((some q6.1).bind AV.asBool).bind fun b7 =>
 cond b7 (
 some (.int .i64 a3,q6.2)) (
 go (.pt F.kih Td.klm [(0,a1.v),(1,.func (.func F.kdl) [] []),(7,.int .i64 a2),(8,.int .i64 (IntKind.wrap .i64 (a3+1)))]) q6.2)) (
 some (.int .i64 (-1),h)):=(ke _ h).trans (by kernel_rfl)
theorem kzb(a1 a2 a3:Int)(h:AH):go (.pt F.kbx Td.kpy [(0,.int .u64 a1),(1,.int .u64 a2),(2,.int .u64 a3)]) h =
 cond (decide (a3≤a1)) (
 (h.cell (.old ⟨Gl.math_bits_overflowError,0,none⟩)).bind fun v4 =>
 none) (
 cond (decide (a1=0)) (
 cond (decide (a3=0)) none (
 cond (decide (a3=0)) none (
 some (.tup [.int .u64 (IntKind.wrap .u64 (Int.tdiv a2 a3)),.int .u64 (Int.tmod a2 a3)],h)))) (
 (go (.fn F.kl7 [.int .u64 a3]) h).bind fun q5 =>
 ((some q5.1).bind (AV.asInt .i64)).bind fun n6 =>
 cond (decide ((IntKind.wrap .u64 n6)<0)) none (
 cond (decide ((IntKind.wrap .u64 n6)<0)) none (
 cond (decide ((IntKind.wrap .u64 (64-(IntKind.wrap .u64 n6)))<0)) none (
 cond (decide ((IntKind.wrap .u64 n6)<0)) none (
 cond (decide ((ishr .u64 (ishl .u64 a3 (IntKind.wrap .u64 n6)) 32)=0)) none (
 go (.pt F.kbx Td.kkd [(2,.int .u64 (ishl .u64 a3 (IntKind.wrap .u64 n6))),(8,.int .u64 (IntKind.wrap .u64 n6)),(9,.int .u64 (ishr .u64 (ishl .u64 a3 (IntKind.wrap .u64 n6)) 32)),(10,.int .u64 (iand .u64 (ishl .u64 a3 (IntKind.wrap .u64 n6)) 4294967295)),(11,.int .u64 (ior .u64 (ishl .u64 a1 (IntKind.wrap .u64 n6)) (ishr .u64 a2 (IntKind.wrap .u64 (64-(IntKind.wrap .u64 n6)))))),(13,.int .u64 (ishr .u64 (ishl .u64 a2 (IntKind.wrap .u64 n6)) 32)),(14,.int .u64 (iand .u64 (ishl .u64 a2 (IntKind.wrap .u64 n6)) 4294967295)),(15,.int .u64 (IntKind.wrap .u64 (Int.tdiv (ior .u64 (ishl .u64 a1 (IntKind.wrap .u64 n6)) (ishr .u64 a2 (IntKind.wrap .u64 (64-(IntKind.wrap .u64 n6))))) (ishr .u64 (ishl .u64 a3 (IntKind.wrap .u64 n6)) 32)))),(16,.int .u64 (IntKind.wrap .u64 ((ior .u64 (ishl .u64 a1 (IntKind.wrap .u64 n6)) (ishr .u64 a2 (IntKind.wrap .u64 (64-(IntKind.wrap .u64 n6)))))-(IntKind.wrap .u64 ((IntKind.wrap .u64 (Int.tdiv (ior .u64 (ishl .u64 a1 (IntKind.wrap .u64 n6)) (ishr .u64 a2 (IntKind.wrap .u64 (64-(IntKind.wrap .u64 n6))))) (ishr .u64 (ishl .u64 a3 (IntKind.wrap .u64 n6)) 32)))*(ishr .u64 (ishl .u64 a3 (IntKind.wrap .u64 n6)) 32))))))]) q5.2))))))):=(ke _ h).trans (by kernel_rfl)
theorem k3x(a1 a2 a3 a4 a5:Int)(h:AH):go (.pt F.ker Td.kjx [(2,.int .u64 a1),(3,.int .u64 a2),(4,.int .u64 a3),(11,.int .u64 a4),(12,.int .u64 a5)]) h =
 (go (.fn F.knf [.int .u64 a4,.int .u64 a3]) h).bind fun q6 =>
 (AV.asTup2 q6.1).bind fun p7 =>
 ((some p7.1).bind (AV.asInt .u64)).bind fun n8 =>
 ((some p7.2).bind (AV.asInt .u64)).bind fun n9 =>
 cond (decide (n8<a5)) (
 some (.int .u64 a4,q6.2)) (
 cond (decide (n8=a5)) (
 cond (decide (n9≤a1)) (
 some (.int .u64 a4,q6.2)) (
 cond (decide ((IntKind.wrap .u64 (a5+a2))<a5)) (
 some (.int .u64 (IntKind.wrap .u64 (a4-1)),q6.2)) (
 go (.pt F.ker Td.kjx [(2,.int .u64 a1),(3,.int .u64 a2),(4,.int .u64 a3),(11,.int .u64 (IntKind.wrap .u64 (a4-1))),(12,.int .u64 (IntKind.wrap .u64 (a5+a2)))]) q6.2))) (
 cond (decide ((IntKind.wrap .u64 (a5+a2))<a5)) (
 some (.int .u64 (IntKind.wrap .u64 (a4-1)),q6.2)) (
 go (.pt F.ker Td.kjx [(2,.int .u64 a1),(3,.int .u64 a2),(4,.int .u64 a3),(11,.int .u64 (IntKind.wrap .u64 (a4-1))),(12,.int .u64 (IntKind.wrap .u64 (a5+a2)))]) q6.2))):=(ke _ h).trans (by kernel_rfl)
theorem kxh(a1:Bool)(a2:Sl)(h:AH):go (.fn F.kpk [.agg [.bool a1,a2.v]]) h =
 newK h (.cells [.bool a1,a2.v] T.kg) fun h3r h3 =>
 newK h3 (.cells [.bool false,(⟨none,0,.is 0⟩:Sl).v] T.kg) fun h4r h4 =>
 ((h4.cell (h3r.add 0)).bind AV.asBool).bind fun b5 =>
 ((h4.cell (h3r.add 1)).bind AV.asSl).bind fun l6 =>
 (go (.fn F.ke7 [.agg [.bool b5,l6.v]]) h4).bind fun q7 =>
 ((some q7.1).bind AV.asBool).bind fun b8 =>
 cond (!b8) (
 (q7.2.puts h4r [.bool false,(⟨none,0,.is 0⟩:Sl).v]).bind fun h9 =>
 ((h9.cell (h4r.add 0)).bind AV.asBool).bind fun b10 =>
 ((h9.cell (h4r.add 1)).bind AV.asSl).bind fun l11 =>
 some (.agg [.bool b10,l11.v],h9)) (
 ((q7.2.cell (h3r.add 0)).bind AV.asBool).bind fun b12 =>
 ((q7.2.cell (h3r.add 1)).bind AV.asSl).bind fun l13 =>
 (go (.fn F.kb5 [.bool (!b12),l13.v]) q7.2).bind fun q14 =>
 (AV.asAgg q14.1).bind fun cs15 =>
 cond (Nat.beq cs15.length 2) (
 ((cs15[0]?).bind AV.asBool).bind fun b16 =>
 ((cs15[1]?).bind AV.asSl).bind fun l17 =>
 (q14.2.puts h4r [.bool b16,l17.v]).bind fun h18 =>
 ((h18.cell (h4r.add 0)).bind AV.asBool).bind fun b19 =>
 ((h18.cell (h4r.add 1)).bind AV.asSl).bind fun l20 =>
 some (.agg [.bool b19,l20.v],h18)) none):=(ke _ h).trans (by kernel_rfl)
theorem kbac(a1:Sl)(h:AH):go (.fn F.khh [a1.v,.func (.func F.kdm) [] []]) h =
 go (.pt F.khh Td.kme [(0,a1.v),(1,.func (.func F.kdm) [] []),(7,.int .i64 (a1.len:Int)),(8,.int .i64 0)]) h:=(ke _ h).trans (by kernel_rfl)
theorem krq(a1:Sl)(a2 a3:Int)(h:AH):go (.pt F.kh2 Td.kk9 [(0,a1.v),(1,.func (.func F.kdo) [] []),(7,.int .i64 a2),(8,.int .i64 a3)]) h =
 cond (decide (a3<a2)) (
 (idx a1.ref a1.len a3 2).bind fun r4 =>
 ((h.cell (r4.add 0)).bind AV.asBool).bind fun b5 =>
 ((h.cell (r4.add 1)).bind AV.asSl).bind fun l6 =>
 (go (.fn F.kdo [.agg [.bool b5,l6.v]]) h).bind fun q7 =>
 ((some q7.1).bind AV.asBool).bind fun b8 =>
 cond b8 (
 some (.int .i64 a3,q7.2)) (
 go (.pt F.kh2 Td.kk9 [(0,a1.v),(1,.func (.func F.kdo) [] []),(7,.int .i64 a2),(8,.int .i64 (IntKind.wrap .i64 (a3+1)))]) q7.2)) (
 some (.int .i64 (-1),h)):=(ke _ h).trans (by kernel_rfl)
theorem kxt(a1:Sl)(a2:Option Ref)(h:AH):go (.fn F.kdi [a1.v,.func (.func F.kdf) [] [.ptr a2]]) h =
 (go (.fn F.kbo [a1.v,.func (.func F.kdf) [] [.ptr a2]]) h).bind fun q3 =>
 ((some q3.1).bind (AV.asInt .i64)).bind fun n4 =>
 some (.bool (decide (n4≥0)),q3.2):=(ke _ h).trans (by kernel_rfl)
theorem kw2(a1 a2:Ref)(a3:Sl)(a4 a5:Int)(h:AH):go (.pt F.kg3 Td.kmp [(4,.ptr (some a1)),(6,.ptr (some a2)),(23,a3.v),(24,.int .i64 a4),(25,.int .i64 a5)]) h =
 cond (decide (a5<a4)) (
 (idx a3.ref a3.len a5 1).bind fun r6 =>
 ((h.cell r6).bind (AV.asInt .i64)).bind fun n7 =>
 ((h.cell (a2.add 1)).bind AV.asSl).bind fun l8 =>
 (idx l8.ref l8.len (IntKind.wrap .i64 (Int.tdiv n7 64)) 1).bind fun r9 =>
 ((h.cell r9).bind (AV.asInt .u64)).bind fun n10 =>
 cond (decide ((Int.tmod n7 64)<0)) none (
 (idx l8.ref l8.len (IntKind.wrap .i64 (Int.tdiv n7 64)) 1).bind fun r11 =>
 (h.puts r11 [.int .u64 (ior .u64 n10 (ishl .u64 1 (Int.tmod n7 64)))]).bind fun h12 =>
 go (.pt F.kg3 Td.kmp [(4,.ptr (some a1)),(6,.ptr (some a2)),(23,a3.v),(24,.int .i64 a4),(25,.int .i64 (IntKind.wrap .i64 (a5+1)))]) h12)) (
 ((h.cell (a2.add 0)).bind (AV.asInt .i64)).bind fun n13 =>
 ((h.cell (a2.add 1)).bind AV.asSl).bind fun l14 =>
 (h.puts a1 [.int .i64 n13,l14.v]).bind fun h15 =>
 ((h15.cell (a1.add 0)).bind (AV.asInt .i64)).bind fun n16 =>
 ((h15.cell (a1.add 1)).bind AV.asSl).bind fun l17 =>
 some (.tup [.agg [.int .i64 n16,l17.v],.int .i64 0],h15)):=(ke _ h).trans (by kernel_rfl)
theorem kz3(a1 a2:Int)(h:AH):go (.fn F.keg [.int .u64 a1,.int .u64 a2]) h =
 some (.int .u64 (iand .u64 a1 a2),h):=(ke _ h).trans (by kernel_rfl)
theorem k3a(a1:Sl)(h:AH):go (.fn F.kdl [a1.v]) h =
 (go (.fn F.kd5 [a1.v]) h).bind fun q2 =>
 ((some q2.1).bind AV.asBool).bind fun b3 =>
 some (.bool (!b3),q2.2):=(ke _ h).trans (by kernel_rfl)
theorem k3e(a1 a2 a3 a4 a5 a6 a7 a8 a9:Int)(h:AH):go (.pt F.kbx Td.kkd [(2,.int .u64 a1),(8,.int .u64 a2),(9,.int .u64 a3),(10,.int .u64 a4),(11,.int .u64 a5),(13,.int .u64 a6),(14,.int .u64 a7),(15,.int .u64 a8),(16,.int .u64 a9)]) h =
 cond (decide (a8≥4294967296)) (
 cond (decide ((IntKind.wrap .u64 (a9+a3))≥4294967296)) (
 cond (decide (a3=0)) none (
 go (.pt F.kbx Td.kg1 [(2,.int .u64 a1),(8,.int .u64 a2),(9,.int .u64 a3),(10,.int .u64 a4),(14,.int .u64 a7),(15,.int .u64 (IntKind.wrap .u64 (a8-1))),(16,.int .u64 (IntKind.wrap .u64 ((IntKind.wrap .u64 ((IntKind.wrap .u64 ((IntKind.wrap .u64 (a5*4294967296))+a6))-(IntKind.wrap .u64 ((IntKind.wrap .u64 (a8-1))*a1))))-(IntKind.wrap .u64 ((IntKind.wrap .u64 (Int.tdiv (IntKind.wrap .u64 ((IntKind.wrap .u64 ((IntKind.wrap .u64 (a5*4294967296))+a6))-(IntKind.wrap .u64 ((IntKind.wrap .u64 (a8-1))*a1)))) a3))*a3))))),(17,.int .u64 (IntKind.wrap .u64 ((IntKind.wrap .u64 ((IntKind.wrap .u64 (a5*4294967296))+a6))-(IntKind.wrap .u64 ((IntKind.wrap .u64 (a8-1))*a1))))),(18,.int .u64 (IntKind.wrap .u64 (Int.tdiv (IntKind.wrap .u64 ((IntKind.wrap .u64 ((IntKind.wrap .u64 (a5*4294967296))+a6))-(IntKind.wrap .u64 ((IntKind.wrap .u64 (a8-1))*a1)))) a3)))]) h)) (
 go (.pt F.kbx Td.kkd [(2,.int .u64 a1),(8,.int .u64 a2),(9,.int .u64 a3),(10,.int .u64 a4),(11,.int .u64 a5),(13,.int .u64 a6),(14,.int .u64 a7),(15,.int .u64 (IntKind.wrap .u64 (a8-1))),(16,.int .u64 (IntKind.wrap .u64 (a9+a3)))]) h)) (
 cond (decide ((IntKind.wrap .u64 (a8*a4))>(IntKind.wrap .u64 ((IntKind.wrap .u64 (4294967296*a9))+a6)))) (
 cond (decide ((IntKind.wrap .u64 (a9+a3))≥4294967296)) (
 cond (decide (a3=0)) none (
 go (.pt F.kbx Td.kg1 [(2,.int .u64 a1),(8,.int .u64 a2),(9,.int .u64 a3),(10,.int .u64 a4),(14,.int .u64 a7),(15,.int .u64 (IntKind.wrap .u64 (a8-1))),(16,.int .u64 (IntKind.wrap .u64 ((IntKind.wrap .u64 ((IntKind.wrap .u64 ((IntKind.wrap .u64 (a5*4294967296))+a6))-(IntKind.wrap .u64 ((IntKind.wrap .u64 (a8-1))*a1))))-(IntKind.wrap .u64 ((IntKind.wrap .u64 (Int.tdiv (IntKind.wrap .u64 ((IntKind.wrap .u64 ((IntKind.wrap .u64 (a5*4294967296))+a6))-(IntKind.wrap .u64 ((IntKind.wrap .u64 (a8-1))*a1)))) a3))*a3))))),(17,.int .u64 (IntKind.wrap .u64 ((IntKind.wrap .u64 ((IntKind.wrap .u64 (a5*4294967296))+a6))-(IntKind.wrap .u64 ((IntKind.wrap .u64 (a8-1))*a1))))),(18,.int .u64 (IntKind.wrap .u64 (Int.tdiv (IntKind.wrap .u64 ((IntKind.wrap .u64 ((IntKind.wrap .u64 (a5*4294967296))+a6))-(IntKind.wrap .u64 ((IntKind.wrap .u64 (a8-1))*a1)))) a3)))]) h)) (
 go (.pt F.kbx Td.kkd [(2,.int .u64 a1),(8,.int .u64 a2),(9,.int .u64 a3),(10,.int .u64 a4),(11,.int .u64 a5),(13,.int .u64 a6),(14,.int .u64 a7),(15,.int .u64 (IntKind.wrap .u64 (a8-1))),(16,.int .u64 (IntKind.wrap .u64 (a9+a3)))]) h)) (
 cond (decide (a3=0)) none (
 go (.pt F.kbx Td.kg1 [(2,.int .u64 a1),(8,.int .u64 a2),(9,.int .u64 a3),(10,.int .u64 a4),(14,.int .u64 a7),(15,.int .u64 a8),(16,.int .u64 (IntKind.wrap .u64 ((IntKind.wrap .u64 ((IntKind.wrap .u64 ((IntKind.wrap .u64 (a5*4294967296))+a6))-(IntKind.wrap .u64 (a8*a1))))-(IntKind.wrap .u64 ((IntKind.wrap .u64 (Int.tdiv (IntKind.wrap .u64 ((IntKind.wrap .u64 ((IntKind.wrap .u64 (a5*4294967296))+a6))-(IntKind.wrap .u64 (a8*a1)))) a3))*a3))))),(17,.int .u64 (IntKind.wrap .u64 ((IntKind.wrap .u64 ((IntKind.wrap .u64 (a5*4294967296))+a6))-(IntKind.wrap .u64 (a8*a1))))),(18,.int .u64 (IntKind.wrap .u64 (Int.tdiv (IntKind.wrap .u64 ((IntKind.wrap .u64 ((IntKind.wrap .u64 (a5*4294967296))+a6))-(IntKind.wrap .u64 (a8*a1)))) a3)))]) h))):=(ke _ h).trans (by kernel_rfl)
theorem kvl(a1:Sl)(a2 a3:Int)(h:AH):go (.pt F.khh Td.kme [(0,a1.v),(1,.func (.func F.kdm) [] []),(7,.int .i64 a2),(8,.int .i64 a3)]) h =
 cond (decide (a3<a2)) (
 (idx a1.ref a1.len a3 3).bind fun r4 =>
 ((h.cell (r4.add 0)).bind AV.asBool).bind fun b5 =>
 ((h.cell (r4.add 1)).bind AV.asSl).bind fun l6 =>
 ((h.cell (r4.add 2)).bind AV.asSl).bind fun l7 =>
 (go (.fn F.kdm [.agg [.bool b5,l6.v,l7.v]]) h).bind fun q8 =>
 ((some q8.1).bind AV.asBool).bind fun b9 =>
 cond b9 (
 some (.int .i64 a3,q8.2)) (
 go (.pt F.khh Td.kme [(0,a1.v),(1,.func (.func F.kdm) [] []),(7,.int .i64 a2),(8,.int .i64 (IntKind.wrap .i64 (a3+1)))]) q8.2)) (
 some (.int .i64 (-1),h)):=(ke _ h).trans (by kernel_rfl)
theorem k6y(a1:Bool)(a2:Sl)(h:AH):go (.fn F.kdo [.agg [.bool a1,a2.v]]) h =
 newK h (.cells [.bool a1,a2.v] T.kg) fun h3r h3 =>
 ((h3.cell (h3r.add 0)).bind AV.asBool).bind fun b4 =>
 ((h3.cell (h3r.add 1)).bind AV.asSl).bind fun l5 =>
 (go (.fn F.ke7 [.agg [.bool b4,l5.v]]) h3).bind fun q6 =>
 ((some q6.1).bind AV.asBool).bind fun b7 =>
 some (.bool (!b7),q6.2):=(ke _ h).trans (by kernel_rfl)
theorem k7c(a1:Sl)(a2:Option Ref)(h:AH):go (.fn F.kbo [a1.v,.func (.func F.kdf) [] [.ptr a2]]) h =
 go (.pt F.kbo Td.kck [(0,a1.v),(1,.func (.func F.kdf) [] [.ptr a2]),(7,.int .i64 (a1.len:Int)),(8,.int .i64 0)]) h:=(ke _ h).trans (by kernel_rfl)
theorem k3k(a1 a2 a3 a4 a5 a6 a7 a8 a9:Int)(h:AH):go (.pt F.kbx Td.kg1 [(2,.int .u64 a1),(8,.int .u64 a2),(9,.int .u64 a3),(10,.int .u64 a4),(14,.int .u64 a5),(15,.int .u64 a6),(16,.int .u64 a7),(17,.int .u64 a8),(18,.int .u64 a9)]) h =
 cond (decide (a9≥4294967296)) (
 cond (decide ((IntKind.wrap .u64 (a7+a3))≥4294967296)) (
 cond (decide (a2<0)) none (
 some (.tup [.int .u64 (IntKind.wrap .u64 ((IntKind.wrap .u64 (a6*4294967296))+(IntKind.wrap .u64 (a9-1)))),.int .u64 (ishr .u64 (IntKind.wrap .u64 ((IntKind.wrap .u64 ((IntKind.wrap .u64 (a8*4294967296))+a5))-(IntKind.wrap .u64 ((IntKind.wrap .u64 (a9-1))*a1)))) a2)],h))) (
 go (.pt F.kbx Td.kg1 [(2,.int .u64 a1),(8,.int .u64 a2),(9,.int .u64 a3),(10,.int .u64 a4),(14,.int .u64 a5),(15,.int .u64 a6),(16,.int .u64 (IntKind.wrap .u64 (a7+a3))),(17,.int .u64 a8),(18,.int .u64 (IntKind.wrap .u64 (a9-1)))]) h)) (
 cond (decide ((IntKind.wrap .u64 (a9*a4))>(IntKind.wrap .u64 ((IntKind.wrap .u64 (4294967296*a7))+a5)))) (
 cond (decide ((IntKind.wrap .u64 (a7+a3))≥4294967296)) (
 cond (decide (a2<0)) none (
 some (.tup [.int .u64 (IntKind.wrap .u64 ((IntKind.wrap .u64 (a6*4294967296))+(IntKind.wrap .u64 (a9-1)))),.int .u64 (ishr .u64 (IntKind.wrap .u64 ((IntKind.wrap .u64 ((IntKind.wrap .u64 (a8*4294967296))+a5))-(IntKind.wrap .u64 ((IntKind.wrap .u64 (a9-1))*a1)))) a2)],h))) (
 go (.pt F.kbx Td.kg1 [(2,.int .u64 a1),(8,.int .u64 a2),(9,.int .u64 a3),(10,.int .u64 a4),(14,.int .u64 a5),(15,.int .u64 a6),(16,.int .u64 (IntKind.wrap .u64 (a7+a3))),(17,.int .u64 a8),(18,.int .u64 (IntKind.wrap .u64 (a9-1)))]) h)) (
 cond (decide (a2<0)) none (
 some (.tup [.int .u64 (IntKind.wrap .u64 ((IntKind.wrap .u64 (a6*4294967296))+a9)),.int .u64 (ishr .u64 (IntKind.wrap .u64 ((IntKind.wrap .u64 ((IntKind.wrap .u64 (a8*4294967296))+a5))-(IntKind.wrap .u64 (a9*a1)))) a2)],h)))):=(ke _ h).trans (by kernel_rfl)
theorem k0j(a1:Bool)(a2 a3:Sl)(h:AH):go (.fn F.kdm [.agg [.bool a1,a2.v,a3.v]]) h =
 newK h (.cells [.bool a1,a2.v,a3.v] T.ky) fun h4r h4 =>
 ((h4.cell (h4r.add 0)).bind AV.asBool).bind fun b5 =>
 ((h4.cell (h4r.add 1)).bind AV.asSl).bind fun l6 =>
 ((h4.cell (h4r.add 2)).bind AV.asSl).bind fun l7 =>
 (go (.fn F.kqx [.agg [.bool b5,l6.v,l7.v]]) h4).bind fun q8 =>
 ((some q8.1).bind AV.asBool).bind fun b9 =>
 some (.bool (!b9),q8.2):=(ke _ h).trans (by kernel_rfl)
theorem ktd(a1:Sl)(a2:Option Ref)(a3 a4:Int)(h:AH):go (.pt F.kbo Td.kck [(0,a1.v),(1,.func (.func F.kdf) [] [.ptr a2]),(7,.int .i64 a3),(8,.int .i64 a4)]) h =
 cond (decide (a4<a3)) (
 (idx a1.ref a1.len a4 1).bind fun r5 =>
 ((h.cell r5).bind (AV.asInt .i64)).bind fun n6 =>
 (go (.fn F.kdf [.int .i64 n6,.ptr a2]) h).bind fun q7 =>
 ((some q7.1).bind AV.asBool).bind fun b8 =>
 cond b8 (
 some (.int .i64 a4,q7.2)) (
 go (.pt F.kbo Td.kck [(0,a1.v),(1,.func (.func F.kdf) [] [.ptr a2]),(7,.int .i64 a3),(8,.int .i64 (IntKind.wrap .i64 (a4+1)))]) q7.2)) (
 some (.int .i64 (-1),h)):=(ke _ h).trans (by kernel_rfl)
theorem k0o(a1:Bool)(a2 a3:Sl)(h:AH):go (.fn F.kqx [.agg [.bool a1,a2.v,a3.v]]) h =
 newK h (.cells [.bool a1,a2.v,a3.v] T.ky) fun h4r h4 =>
 ((h4.cell ((h4r.add 0).add 0)).bind AV.asBool).bind fun b5 =>
 ((h4.cell ((h4r.add 0).add 1)).bind AV.asSl).bind fun l6 =>
 (go (.fn F.ke7 [.agg [.bool b5,l6.v]]) h4).bind fun q7 =>
 ((some q7.1).bind AV.asBool).bind fun b8 =>
 cond (!b8) (
 some (.bool false,q7.2)) (
 ((q7.2.cell (h4r.add 2)).bind AV.asSl).bind fun l9 =>
 (go (.fn F.kd5 [l9.v]) q7.2).bind fun q10 =>
 ((some q10.1).bind AV.asBool).bind fun b11 =>
 cond (!b11) (
 some (.bool false,q10.2)) (
 ((q10.2.cell (h4r.add 2)).bind AV.asSl).bind fun l12 =>
 cond (decide ((l12.len:Int)=0)) (
 some (.bool false,q10.2)) (
 ((q10.2.cell (h4r.add 2)).bind AV.asSl).bind fun l13 =>
 cond (decide ((l13.len:Int)>16)) (
 some (.bool false,q10.2)) (
 ((q10.2.cell ((h4r.add 0).add 1)).bind AV.asSl).bind fun l14 =>
 cond (decide ((l14.len:Int)>16)) (
 some (.bool false,q10.2)) (
 ((q10.2.cell ((h4r.add 0).add 1)).bind AV.asSl).bind fun l15 =>
 ((q10.2.cell (h4r.add 2)).bind AV.asSl).bind fun l16 =>
 (go (.fn F.ke1 [l15.v,l16.v]) q10.2).bind fun q17 =>
 (AV.asTup2 q17.1).bind fun p18 =>
 ((some p18.1).bind AV.asSl).bind fun l19 =>
 ((some p18.2).bind (AV.asInt .i64)).bind fun n20 =>
 newK q17.2 (.cells [.int .u64 1] T.kj) fun h21r h21 =>
 (go (.fn F.kg7 [l19.v,(⟨some h21r,1,.is 1⟩:Sl).v]) h21).bind fun q22 =>
 ((some q22.1).bind (AV.asInt .i64)).bind fun n23 =>
 some (.bool (decide (n23=0)),q22.2)))))):=(ke _ h).trans (by kernel_rfl)
theorem k51(a1:Int)(a2:Option Ref)(h:AH):go (.fn F.kdf [.int .i64 a1,.ptr a2]) h =
 cond (decide (a1<0)) (
 some (.bool true,h)) (
 a2.bind fun r3 =>
 ((h.cell r3).bind (AV.asInt .i64)).bind fun n4 =>
 some (.bool (decide (a1≥n4)),h)):=(ke _ h).trans (by kernel_rfl)
end Go.Ab
