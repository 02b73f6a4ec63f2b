/- Words and laws that the last text joins. -/
import Derived.Test.YtgfeahhgoiidiaaGreatDoorPAbsDra
import Derived.Test.YtgfeahhgoiidiaaGreatDoorProg
set_option linter.unusedVariables false
set_option linter.unusedSimpArgs false
set_option linter.unusedSectionVars false
set_option maxRecDepth 100000
namespace Go.Ab
open Go.Proofs
@[reducible] def kgy:FuncId:=7
@[reducible] def kqj:FuncId:=8
@[reducible] def kc0:FuncId:=10
@[reducible] def kc7:FuncId:=15
@[reducible] def kde:FuncId:=17
@[reducible] def kb3:FuncId:=18
@[reducible] def kb2:FuncId:=19
@[reducible] def kf8:FuncId:=20
@[reducible] def krf:FuncId:=21
@[reducible] def kbt:FuncId:=22
@[reducible] def kmz:FuncId:=26
@[reducible] def kmb:FuncId:=27
@[reducible] def kev:FuncId:=28
@[reducible] def krm:FuncId:=29
@[reducible] def kg6:FuncId:=30
@[reducible] def ker:FuncId:=31
@[reducible] def krk:FuncId:=32
@[reducible] def kcq:FuncId:=33
@[reducible] def kim:FuncId:=34
@[reducible] def kfn:FuncId:=35
@[reducible] def kgx:FuncId:=36
@[reducible] def kdj:FuncId:=37
@[reducible] def kdg:FuncId:=38
@[reducible] def kcu:FuncId:=39
@[reducible] def kfv:FuncId:=40
@[reducible] def knw:FuncId:=41
@[reducible] def krl:FuncId:=42
@[reducible] def kfh:FuncId:=43
@[reducible] def kcb:FuncId:=44
@[reducible] def kee:FuncId:=45
@[reducible] def kjp:FuncId:=46
@[reducible] def klz:FuncId:=47
@[reducible] def kqn:FuncId:=48
@[reducible] def kng:FuncId:=49
@[reducible] def ke9:FuncId:=58
@[reducible] def kb0:FuncId:=59
@[reducible] def kc5:FuncId:=60
@[reducible] def kqu:FuncId:=61
@[reducible] def kqh:FuncId:=62
@[reducible] def kdl:FuncId:=63
@[reducible] def kbn:FuncId:=64
@[reducible] def khd:FuncId:=65
@[reducible] def kd7:FuncId:=66
@[reducible] def kfl:FuncId:=67
@[reducible] def kqt:FuncId:=68
@[reducible] def kg4:FuncId:=69
@[reducible] def kj6:FuncId:=70
@[reducible] def kj3:FuncId:=71
@[reducible] def kg1:FuncId:=72
@[reducible] def keb:FuncId:=73
@[reducible] def kor:FuncId:=74
@[reducible] def kl2:FuncId:=75
@[reducible] def kjo:FuncId:=76
@[reducible] def kjw:FuncId:=77
@[reducible] def klh:FuncId:=78
@[reducible] def kob:FuncId:=79
@[reducible] def kf3:FuncId:=80
@[reducible] def krh:FuncId:=81
@[reducible] def kpw:FuncId:=82
@[reducible] def kcn:FuncId:=83
@[reducible] def ke7:FuncId:=84
@[reducible] def kh9:FuncId:=85
@[reducible] def kdc:FuncId:=96
@[reducible] def kgq:FuncId:=97
@[reducible] def kgv:FuncId:=98
@[reducible] def kew:FuncId:=99
@[reducible] def kfr:FuncId:=100
@[reducible] def kd0:FuncId:=101
@[reducible] def kes:FuncId:=102
@[reducible] def kgp:FuncId:=103
@[reducible] def kb4:FuncId:=104
@[reducible] def kea:FuncId:=105
@[reducible] def kj1:FuncId:=106
@[reducible] def kof:FuncId:=107
@[reducible] def kio:FuncId:=108
@[reducible] def kqw:FuncId:=109
@[reducible] def kml:FuncId:=110
@[reducible] def km6:FuncId:=111
@[reducible] def knk:FuncId:=112
@[reducible] def kl7:FuncId:=113
@[reducible] def kfm:FuncId:=114
@[reducible] def kl9:FuncId:=115
@[reducible] def kkz:FuncId:=116
@[reducible] def kjz:FuncId:=117
@[reducible] def kqz:FuncId:=118
@[reducible] def kdy:FuncId:=119
@[reducible] def kb5:FuncId:=120
@[reducible] def ko1:FuncId:=121
@[reducible] def kdh:FuncId:=139
@[reducible] def kg7:FuncId:=140
@[reducible] def kfw:FuncId:=141
@[reducible] def keg:FuncId:=142
@[reducible] def kez:FuncId:=143
@[reducible] def kb6:FuncId:=144
@[reducible] def kbo:FuncId:=145
@[reducible] def ksg:FuncId:=146
@[reducible] def kdp:FuncId:=147
@[reducible] def ko5:FuncId:=148
@[reducible] def khr:FuncId:=149
@[reducible] def kh6:FuncId:=150
@[reducible] def kf2:FuncId:=151
@[reducible] def khj:FuncId:=152
@[reducible] def ksl:FuncId:=153
@[reducible] def kdr:FuncId:=154
@[reducible] def kj8:FuncId:=155
@[reducible] def knn:FuncId:=156
@[reducible] def kcw:FuncId:=157
@[reducible] def kc2:FuncId:=158
@[reducible] def ks1:FuncId:=171
@[reducible] def kdx:FuncId:=172
@[reducible] def kbu:FuncId:=173
@[reducible] def kmx:FuncId:=174
@[reducible] def kd9:FuncId:=175
@[reducible] def keo:FuncId:=176
@[reducible] def kcr:FuncId:=177
@[reducible] def khi:FuncId:=178
@[reducible] def kq5:FuncId:=179
@[reducible] def kin:FuncId:=180
@[reducible] def kj0:FuncId:=181
@[reducible] def kie:FuncId:=182
@[reducible] def khc:FuncId:=183
@[reducible] def kc6:FuncId:=184
@[reducible] def khw:FuncId:=189
@[reducible] def klx:FuncId:=190
@[reducible] def klp:FuncId:=191
@[reducible] def kfy:FuncId:=208
@[reducible] def koc:FuncId:=209
@[reducible] def kru:FuncId:=210
@[reducible] def kfj:FuncId:=211
@[reducible] def T.func:TypeId:=1
@[reducible] def T.int:TypeId:=3
@[reducible] def T.bool:TypeId:=4
@[reducible] def kj:TypeId:=5
@[reducible] def T.string:TypeId:=9
@[reducible] def T.any:TypeId:=20
@[reducible] def kdu:TypeId:=23
@[reducible] def kgr:TypeId:=25
@[reducible] def kq4:TypeId:=28
@[reducible] def kce:TypeId:=30
@[reducible] def kds:TypeId:=40
@[reducible] def koz:TypeId:=45
@[reducible] def kbz:TypeId:=47
@[reducible] def kbl:TypeId:=49
@[reducible] def kq:TypeId:=58
@[reducible] def kbdi:TypeId:=68
@[reducible] def ky:TypeId:=71
@[reducible] def kbp:TypeId:=74
@[reducible] def kbf:TypeId:=76
@[reducible] def ksx:TypeId:=78
@[reducible] def kbc:TypeId:=82
@[reducible] def kec:TypeId:=93
@[reducible] def kef:TypeId:=103
@[reducible] def kch:TypeId:=115
@[reducible] def ki:TypeId:=117
@[reducible] def kba:TypeId:=119
@[reducible] def k1e:TypeId:=183
@[reducible] noncomputable def Pg:Program:=Tryz.prog
@[reducible] def Gl.math_bits_deBruijn64tab:Nat:=0
@[reducible] def Gl.math_bits_divideError:Nat:=1
@[reducible] def Gl.math_bits_overflowError:Nat:=2
def keepTab:List (Nat×Nat×List Nat):=[(4,10,[1,2,3,9,11,12]),(4,14,[1,2,3,9,11,12,13,14]),(4,18,[1,2,3,9,11,12,13,15]),(4,22,[1,2,3,9,11,12,13,15,16,17]),(4,29,[2,3,9,11,18,19]),(6,13,[1,2,3,9,12,15]),(6,18,[1,2,3,9,12,15,16,17,18]),(6,26,[1,2,9,12,19]),(7,4,[1,3,4,5]),(9,4,[1,2,5,6,7]),(9,8,[1,2,5,6,7,8]),(9,18,[2,5,9,10]),(10,7,[1,2,3,6,9,10,26,27]),(10,10,[1,2,3,6,9,10,11,26,27,32,33,34]),(11,7,[1,2,3,6,10,11,12]),(11,11,[1,2,3,6,10,11,12,13,14]),(12,4,[2,3,5]),(12,9,[2,3,5,6]),(13,5,[1,6,15,16,17]),(13,8,[1,6,8,9,15,16,17]),(14,6,[1,2,7,8]),(14,10,[1,2,7,8,9,10]),(15,4,[1,3]),(15,10,[1,3,4,5]),(16,3,[0,1,5,6]),(16,7,[0,1,5,6,7,8]),(17,4,[12,13,14]),(17,9,[4,12,13,14,29,30,31]),(18,3,[3,17,18,19]),(18,7,[3,17,18,19,31,32,33]),(18,14,[3,17,18,19,31,32,33,55,56,57]),(19,3,[1,3,4]),(19,8,[1,3,4,5,6]),(19,16,[1,3,4,5,6,8,9]),(20,4,[1,2,23,24,25]),(22,4,[1,2,3,4,8,11,12]),(22,13,[1,2,3,4,8,11,12,13,14,15,16]),(22,17,[1,2,3,4,8,11,12,18,92,93,94]),(23,5,[1,2,8]),(23,14,[2,11]),(25,3,[1,2,3,4,8,9,10]),(25,9,[1,2,3,4,8,11,12,13]),(25,19,[1,2,3,4,8,11,12,13,14,15,16,17]),(25,23,[1,2,3,4,8,11,12,13,14,20,22]),(25,1000032,[0,1,2,3,4,5,6,8,9,10,11,12,13,15,16,17,18,19,20,22,23,24,25,26,27,7,14,21,28,29,30,31]),(28,2,[0,3]),(30,4,[3,4,8,9,10]),(31,2,[0,3]),(33,3,[0,3,4]),(33,7,[0,3,4,5]),(35,4,[1,27,28,29]),(36,4,[0,1,12,13]),(40,3,[0,2,4,5,15,16]),(43,3,[0,4,5,9,10,11]),(44,4,[1,5,8,9,17,18,19]),(44,7,[1,5,8,9,10,11,17,18,19,25,26,27]),(44,10,[1,5,8,9,10,11,12,17,18,19,25,26,27,33,34]),(45,7,[0,6,10,13,47,48,49]),(46,1000004,[0,1,2,3,4,5,7,8,9,10,11,12,13,14,21,22,6,15,16,17,18,19,20,23,24,25]),(46,2000004,[21,22]),(51,5,[1,4]),(51,10,[1,4,5]),(52,4,[0,1,5]),(53,3,[0,1,4,5,6]),(54,4,[0,1,2,8,9,10]),(54,7,[0,1,2,8,9,10,11]),(54,10,[0,1,2,8,9,10,11,12]),(55,5,[0,1,3,6,11]),(55,13,[0,3,6,14,16,17]),(55,1000007,[0,1,2,3,4,9,5,6,7,8,10,11]),(55,1000016,[0,1,2,3,4,5,10,6,7,8,9,11,12]),(55,2000007,[9]),(55,2000016,[10]),(56,1000005,[0,1,2,4,5,11,3,6,7,8,9,10,12,13]),(56,1000006,[0,1,2,3,4,6,7,13,5,8,9,10,11,12,14,15]),(56,2000005,[11]),(56,2000006,[13]),(57,3,[1,2,3,4,5,11,12]),(60,3,[0,1,4]),(60,7,[0,1,2,3,4,9]),(64,2,[0,1,7,8]),(66,2,[0,1,2,7]),(67,7,[2,3,6,8,44,45,46]),(73,1000003,[0,2,1,3,4]),(74,1000003,[0,1,3,4,2,5,6,7]),(75,1000005,[0,1,3,4,10,2,5,6,7,8,9,11,12]),(75,2000005,[10]),(83,5,[2,3,4,6,8,9,35,36]),(85,0,[0,1]),(86,4,[0,3]),(92,1000005,[0,1,3,4,2,5,6,7]),(97,3,[3,7,8,9]),(98,5,[4,6,23,24,25]),(102,4,[0,1]),(108,1000001,[0,1,2,3,9,4,5,6,7,8,10,11]),(108,2000001,[9]),(120,1,[0,6,7,8]),(120,3,[0,3,4,6,7,8]),(122,2,[0,1,5]),(125,7,[8,9]),(130,1000005,[0,1,3,4,10,2,5,6,7,8,9,11,12]),(130,2000005,[10]),(131,1000005,[0,1,2,4,5,3,6,7,8,9,10,11]),(134,1000001,[0,1,2,3,9,4,5,6,7,8,10,11]),(134,2000001,[9]),(142,6,[0,1,5]),(143,4,[0,1,6,7,8]),(144,6,[6,7,8,9,10,11]),(144,10,[6,7,8,9,10,11,12,13]),(144,18,[6,10,15,16,112,113]),(145,2,[0,3]),(150,1000003,[0,1,2,4,5,11,3,6,7,8,9,10,12,13]),(150,2000003,[11]),(157,6,[0,1,5,6,21,22]),(158,4,[0,1,5,6,13,14]),(160,4,[0,1,6,7,8]),(160,9,[0,1,6,7,8,9,10]),(161,3,[0,3,4]),(161,7,[0,3,4,5,6]),(162,3,[0,4,5]),(162,7,[0,4,5,6,7]),(167,3,[0,1,5,6]),(167,7,[0,1,5,6,7,8]),(168,4,[0,1,5,6,7]),(169,6,[0,1,5]),(170,4,[0,1,5,6,7]),(170,1000006,[0,1,2,3,4,5,6,9,7,8,10,11]),(173,3,[0,1,2]),(173,17,[2,8,9,10,11,13,14,15,16]),(173,24,[2,8,9,10,14,15,16,17,18]),(175,3,[1,5,12,13,14]),(176,4,[2,3,4,11,12]),(177,3,[1,5,20,21,22]),(177,7,[1,5,6,7,8,20,21,22,27,28,29]),(178,2,[0,1,7,8]),(180,2,[0,1,7,8]),(181,1000006,[0,1,2,4,5,8,9,10,12,13,3,6,7,11,14,15,16,17]),(181,1000007,[0,1,2,4,5,9,10,12,13,3,6,7,8,11,14,15,16,17,18]),(184,2,[0,1,2,6,7]),(187,2,[0,3]),(189,2,[0,1,7,8])]
noncomputable def go:Rec:=run Pg (keepOf keepTab)
theorem kf(k:Key)(h:AH):go k h=stepA Pg (keepOf keepTab) go k h:=k2v _ k h
theorem kig:Pg.underlying T.int=some (.int .i64):=Tryz.underlying3
theorem knf:Pg.cellsOf T.int=1:=by kernel_rfl
theorem kye:kb9 Pg T.int=some [.int .i64 0]:=by kernel_rfl
theorem knl:Pg.bytesOf T.int=8:=by kernel_rfl
theorem k6j:Pg.underlying T.bool=some .bool:=Tryz.underlying4
theorem k3b:Pg.cellsOf T.bool=1:=by kernel_rfl
theorem kok:Pg.cellsOf kj=1:=by kernel_rfl
theorem k9v:kb9 Pg kj=some [.int .u8 0]:=by kernel_rfl
theorem k58:Pg.bytesOf kj=1:=by kernel_rfl
theorem k5o:Pg.underlying kq4=some (.slice kbz):=Tryz.underlying28
theorem kbd5:Pg.cellsOf kq4=1:=by kernel_rfl
theorem kw6:Pg.underlying kce=some (.struct #[{name := "Trees",type:=kq4,offset:=0,embedded:=false,tag := "",pkgPath := "",byteOffset:=0}]):=Tryz.underlying30
theorem k72:Pg.cellsOf kce=1:=by kernel_rfl
theorem k4s:Pg.underlying koz=some (.slice kbl):=Tryz.underlying45
theorem k2k:Pg.cellsOf koz=1:=by kernel_rfl
theorem k1v:Pg.underlying kbz=some (.struct #[{name := "Nodes",type:=koz,offset:=0,embedded:=false,tag := "",pkgPath := "",byteOffset:=0}]):=Tryz.underlying47
theorem ko9:Pg.cellsOf kbz=1:=by kernel_rfl
theorem k7j:kb9 Pg kbz=some [(⟨none,0,.is 0⟩:Sl).v]:=by kernel_rfl
theorem kw3:Pg.bytesOf kbz=24:=by kernel_rfl
theorem k86:Pg.underlying kbl=some (.struct #[{name := "Leaf",type:=T.bool,offset:=0,embedded:=false,tag := "",pkgPath := "",byteOffset:=0},{name := "Weight",type:=T.int,offset:=1,embedded:=false,tag := "",pkgPath := "",byteOffset:=8},{name := "Party",type:=T.int,offset:=2,embedded:=false,tag := "",pkgPath := "",byteOffset:=16},{name := "Feature",type:=T.int,offset:=3,embedded:=false,tag := "",pkgPath := "",byteOffset:=24},{name := "Cut",type:=T.int,offset:=4,embedded:=false,tag := "",pkgPath := "",byteOffset:=32},{name := "Left",type:=T.int,offset:=5,embedded:=false,tag := "",pkgPath := "",byteOffset:=40},{name := "Right",type:=T.int,offset:=6,embedded:=false,tag := "",pkgPath := "",byteOffset:=48}]):=Tryz.underlying49
theorem kn8:Pg.cellsOf kbl=7:=by kernel_rfl
theorem kbd4:kb9 Pg kbl=some [.bool false,.int .i64 0,.int .i64 0,.int .i64 0,.int .i64 0,.int .i64 0,.int .i64 0]:=by kernel_rfl
theorem kqs:Pg.bytesOf kbl=56:=by kernel_rfl
theorem k8w:Pg.cellsOf kq=1:=by kernel_rfl
theorem k25:kb9 Pg kq=some [.int .u64 0]:=by kernel_rfl
theorem ket:Pg.bytesOf kq=8:=by kernel_rfl
theorem kbbb:Pg.cellsOf kbf=4:=by kernel_rfl
theorem kbd8:kb9 Pg kbf=some [.int .i64 0,.int .i64 0,.int .i64 0,(⟨none,0,.is 0⟩:Sl).v]:=by kernel_rfl
theorem kba8:Pg.bytesOf kbf=48:=by kernel_rfl
theorem kbd6:Pg.cellsOf kbc=2:=by kernel_rfl
theorem kbck:kb9 Pg kbc=some [.int .i64 0,.int .i64 0]:=by kernel_rfl
theorem k2s:Pg.bytesOf kbc=16:=by kernel_rfl
theorem kbdq:Pg.cellsOf kec=9:=by kernel_rfl
theorem kz4:kb9 Pg kec=some [.bool false,.int .i64 0,.int .i64 0,.int .i64 0,.int .i64 0,.int .i64 0,.int .i64 0,.int .i64 0,(⟨none,0,.is 0⟩:Sl).v]:=by kernel_rfl
theorem k7m:Pg.bytesOf kec=88:=by kernel_rfl
noncomputable def kmu:List Item:=todoAt Tryz.f7 4
noncomputable def knc:List Item:=todoAt Tryz.f10 7
noncomputable def kjm:List Item:=todoAt Tryz.f10 10
noncomputable def kj2:List Item:=todoAt Tryz.f15 4
noncomputable def kn1:List Item:=todoAt Tryz.f15 10
noncomputable def kkf:List Item:=todoAt Tryz.f17 4
noncomputable def kmk:List Item:=todoAt Tryz.f17 9
noncomputable def kks:List Item:=todoAt Tryz.f18 3
noncomputable def kjb:List Item:=todoAt Tryz.f18 7
noncomputable def kke:List Item:=todoAt Tryz.f18 14
noncomputable def ki8:List Item:=todoAt Tryz.f19 3
noncomputable def kkd:List Item:=todoAt Tryz.f19 8
noncomputable def kkh:List Item:=todoAt Tryz.f19 16
noncomputable def kna:List Item:=todoAt Tryz.f20 4
noncomputable def kfc:List Item:=todoAt Tryz.f22 4
noncomputable def khb:List Item:=todoAt Tryz.f22 13
noncomputable def kmm:List Item:=todoAt Tryz.f22 17
noncomputable def kl8:List Item:=todoAt Tryz.f28 2
noncomputable def knm:List Item:=todoAt Tryz.f30 4
noncomputable def klb:List Item:=todoAt Tryz.f31 2
noncomputable def kjx:List Item:=todoAt Tryz.f33 3
noncomputable def khe:List Item:=todoAt Tryz.f33 7
noncomputable def knr:List Item:=todoAt Tryz.f35 4
noncomputable def kne:List Item:=todoAt Tryz.f36 4
noncomputable def ki4:List Item:=todoAt Tryz.f40 3
noncomputable def klc:List Item:=todoAt Tryz.f43 3
noncomputable def kiw:List Item:=todoAt Tryz.f44 4
noncomputable def kja:List Item:=todoAt Tryz.f44 7
noncomputable def kme:List Item:=todoAt Tryz.f44 10
noncomputable def kf7:List Item:=todoAt Tryz.f45 7
noncomputable def ki2:List Item:=todoAt Tryz.f60 3
noncomputable def kmi:List Item:=todoAt Tryz.f60 7
noncomputable def kcg:List Item:=todoAt Tryz.f64 2
noncomputable def kgc:List Item:=todoAt Tryz.f66 2
noncomputable def kkv:List Item:=todoAt Tryz.f67 7
noncomputable def kfb:List Item:=todoAt Tryz.f83 5
noncomputable def krd:List Item:=todoAt Tryz.f85 0
noncomputable def knj:List Item:=todoAt Tryz.f97 3
noncomputable def km7:List Item:=todoAt Tryz.f98 5
noncomputable def knt:List Item:=todoAt Tryz.f102 4
noncomputable def kkl:List Item:=todoAt Tryz.f120 1
noncomputable def kma:List Item:=todoAt Tryz.f120 3
noncomputable def klg:List Item:=todoAt Tryz.f142 6
noncomputable def kl3:List Item:=todoAt Tryz.f143 4
noncomputable def kmr:List Item:=todoAt Tryz.f144 6
noncomputable def kl0:List Item:=todoAt Tryz.f144 10
noncomputable def khn:List Item:=todoAt Tryz.f144 18
noncomputable def kjj:List Item:=todoAt Tryz.f145 2
noncomputable def kfi:List Item:=todoAt Tryz.f157 6
noncomputable def khz:List Item:=todoAt Tryz.f158 4
noncomputable def kp6:List Item:=todoAt Tryz.f173 3
noncomputable def kkr:List Item:=todoAt Tryz.f173 17
noncomputable def kg2:List Item:=todoAt Tryz.f173 24
noncomputable def kjn:List Item:=todoAt Tryz.f175 3
noncomputable def kkm:List Item:=todoAt Tryz.f176 4
noncomputable def km3:List Item:=todoAt Tryz.f177 3
noncomputable def kms:List Item:=todoAt Tryz.f177 7
noncomputable def kmd:List Item:=todoAt Tryz.f178 2
noncomputable def knb:List Item:=todoAt Tryz.f180 2
noncomputable def kgw:List Item:=todoAt Tryz.f184 2
noncomputable def kk8:List Item:=todoAt Tryz.f189 2
noncomputable def kp0:Func:=Tryz.f119
noncomputable def kxy:List Item:=kbdv Tryz.f119 0 (.tmp 6)
noncomputable def kxr:List Item:=(loopAt Tryz.f119 0).2.2.2
def lit1:ByteArray:=(⟨((List.append (List.append ([0,1,2,2,3,3,3,3,4,4,4,4,4,4,4,4,5,5,5,5,5,5,5,5,5,5,5,5,5,5,5,5,6,6,6,6,6,6,6,6,6,6,6,6,6,6,6,6,6,6,6,6,6,6,6,6,6,6,6,6,6,6,6,6]:List UInt8) ([7,7,7,7,7,7,7,7,7,7,7,7,7,7,7,7,7,7,7,7,7,7,7,7,7,7,7,7,7,7,7,7,7,7,7,7,7,7,7,7,7,7,7,7,7,7,7,7,7,7,7,7,7,7,7,7,7,7,7,7,7,7,7,7]:List UInt8)) (List.append ([8,8,8,8,8,8,8,8,8,8,8,8,8,8,8,8,8,8,8,8,8,8,8,8,8,8,8,8,8,8,8,8,8,8,8,8,8,8,8,8,8,8,8,8,8,8,8,8,8,8,8,8,8,8,8,8,8,8,8,8,8,8,8,8]:List UInt8) ([8,8,8,8,8,8,8,8,8,8,8,8,8,8,8,8,8,8,8,8,8,8,8,8,8,8,8,8,8,8,8,8,8,8,8,8,8,8,8,8,8,8,8,8,8,8,8,8,8,8,8,8,8,8,8,8,8,8,8,8,8,8,8,8]:List UInt8)))).toArray⟩:ByteArray)
theorem k68(args:List AV)(h:AH):callF Pg go kb5 args h=go (.fn kb5 args) h:=by kernel_rfl
theorem k8s(args:List AV)(h:AH):callF Pg go ke9 args h=go (.fn ke9 args) h:=by kernel_rfl
theorem kbbj(a1:Sl)(h:AH):go (.fn kgy [.agg [a1.v]]) h =
 newK h (.cells [a1.v] kce) fun h2r h2 =>
 (go (.fn kqj []) h2).bind fun q3 =>
 ((some q3.1).bind AV.asBool).bind fun b4 =>
 go (.pt kgy kmu [(1,.ptr (some h2r)),(3,.bool b4),(4,.int .i64 0),(5,.int .i64 0)]) q3.2:=(kf _ h).trans (by kernel_rfl)
theorem k5i(a1:Nat)(a2:Ref)(h:AH):go (.fn kb5 [.func (.yield a1) [] [],.ptr (some a2)]) h =
 ((h.cell (a2.add 1)).bind AV.asSl).bind fun l3 =>
 go (.pt kb5 kkl [(0,.func (.yield a1) [] []),(6,l3.v),(7,.int .i64 (l3.len:Int)),(8,.int .i64 0)]) h:=(kf _ h).trans (by kernel_rfl)
theorem kbdp(a1 a2:Sl)(a3:Ref)(h:AH):go (.fn kj0 [a1.v,a2.v,.ptr (some a3)]) h =
 cond (decide ((a1.len:Int)<24)) (
 (go (.fn kcr [a1.v,a2.v]) h).bind fun q4 =>
 ((some q4.1).bind AV.asSl).bind fun l5 =>
 some (l5.v,q4.2)) (
 cond (decide ((a2.len:Int)<24)) (
 (go (.fn kcr [a1.v,a2.v]) h).bind fun q6 =>
 ((some q6.1).bind AV.asSl).bind fun l7 =>
 some (l7.v,q6.2)) (
 newK h (.cells [.int .i64 0] T.int) fun h8r h8 =>
 (h8.puts h8r [.int .i64 (IntKind.wrap .i64 (Int.tdiv (IntKind.wrap .i64 ((imax (a1.len:Int) (a2.len:Int))+1)) 2))]).bind fun h9 =>
 (h9.cell a3).bind fun v10 =>
 (h9.cell a3).bind fun v11 =>
 (go (.fn kie [a1.v,.ptr (some h8r)]) h9).bind fun q12 =>
 ((some q12.1).bind AV.asSl).bind fun l13 =>
 whenK (SameAt h9 q12.2 a3 1) (
 whenK (SameAt h9 q12.2 a3 1) (
 (go (.fn kie [a2.v,.ptr (some h8r)]) q12.2).bind fun q14 =>
 ((some q14.1).bind AV.asSl).bind fun l15 =>
 whenK (SameAt q12.2 q14.2 a3 1) (
 whenK (SameAt q12.2 q14.2 a3 1) (
 (callV Pg go v10 [l13.v,l15.v] q14.2).bind fun q16 =>
 ((some q16.1).bind AV.asSl).bind fun l17 =>
 whenK (SameAt q14.2 q16.2 a3 1) (
 (go (.fn khc [a1.v,.ptr (some h8r)]) q16.2).bind fun q18 =>
 ((some q18.1).bind AV.asSl).bind fun l19 =>
 whenK (SameAt q16.2 q18.2 a3 1) (
 (go (.fn khc [a2.v,.ptr (some h8r)]) q18.2).bind fun q20 =>
 ((some q20.1).bind AV.asSl).bind fun l21 =>
 whenK (SameAt q18.2 q20.2 a3 1) (
 (callV Pg go v11 [l19.v,l21.v] q20.2).bind fun q22 =>
 ((some q22.1).bind AV.asSl).bind fun l23 =>
 (q22.2.cell a3).bind fun v24 =>
 (go (.fn kie [a1.v,.ptr (some h8r)]) q22.2).bind fun q25 =>
 ((some q25.1).bind AV.asSl).bind fun l26 =>
 whenK (SameAt q22.2 q25.2 a3 1) (
 (go (.fn khc [a1.v,.ptr (some h8r)]) q25.2).bind fun q27 =>
 ((some q27.1).bind AV.asSl).bind fun l28 =>
 whenK (SameAt q25.2 q27.2 a3 1) (
 (go (.fn kcw [l26.v,l28.v]) q27.2).bind fun q29 =>
 ((some q29.1).bind AV.asSl).bind fun l30 =>
 whenK (SameAt q27.2 q29.2 a3 1) (
 (go (.fn kbo [l30.v]) q29.2).bind fun q31 =>
 ((some q31.1).bind AV.asSl).bind fun l32 =>
 whenK (SameAt q29.2 q31.2 a3 1) (
 (go (.fn kie [a2.v,.ptr (some h8r)]) q31.2).bind fun q33 =>
 ((some q33.1).bind AV.asSl).bind fun l34 =>
 whenK (SameAt q31.2 q33.2 a3 1) (
 (go (.fn khc [a2.v,.ptr (some h8r)]) q33.2).bind fun q35 =>
 ((some q35.1).bind AV.asSl).bind fun l36 =>
 whenK (SameAt q33.2 q35.2 a3 1) (
 (go (.fn kcw [l34.v,l36.v]) q35.2).bind fun q37 =>
 ((some q37.1).bind AV.asSl).bind fun l38 =>
 whenK (SameAt q35.2 q37.2 a3 1) (
 (go (.fn kbo [l38.v]) q37.2).bind fun q39 =>
 ((some q39.1).bind AV.asSl).bind fun l40 =>
 whenK (SameAt q37.2 q39.2 a3 1) (
 (callV Pg go v24 [l32.v,l40.v] q39.2).bind fun q41 =>
 ((some q41.1).bind AV.asSl).bind fun l42 =>
 (go (.fn kc2 [l42.v,l17.v]) q41.2).bind fun q43 =>
 ((some q43.1).bind AV.asSl).bind fun l44 =>
 (go (.fn kbo [l44.v]) q43.2).bind fun q45 =>
 ((some q45.1).bind AV.asSl).bind fun l46 =>
 (go (.fn kc2 [l46.v,l23.v]) q45.2).bind fun q47 =>
 ((some q47.1).bind AV.asSl).bind fun l48 =>
 (go (.fn kbo [l48.v]) q47.2).bind fun q49 =>
 ((some q49.1).bind AV.asSl).bind fun l50 =>
 (kbx (IntKind.wrap .i64 ((IntKind.wrap .i64 ((a1.len:Int)+(a2.len:Int)))+1)) (IntKind.wrap .i64 ((IntKind.wrap .i64 ((a1.len:Int)+(a2.len:Int)))+1)) kq (Pg.bytesOf kq) [.int .u64 0] q49.2).bind fun q51 =>
 (copyH l17 q51.1 1 q51.2).bind fun h52 =>
 ((h52.cell h8r).bind (AV.asInt .i64)).bind fun n53 =>
 (go (.fn kc6 [q51.1.v,l50.v,.int .i64 n53]) h52).bind fun q54 =>
 (AV.asTup0 q54.1).bind fun _ =>
 ((q54.2.cell h8r).bind (AV.asInt .i64)).bind fun n55 =>
 (go (.fn kc6 [q51.1.v,l23.v,.int .i64 (IntKind.wrap .i64 (2*n55))]) q54.2).bind fun q56 =>
 (AV.asTup0 q56.1).bind fun _ =>
 (go (.fn kbo [q51.1.v]) q56.2).bind fun q57 =>
 ((some q57.1).bind AV.asSl).bind fun l58 =>
 some (l58.v,q57.2)))))))))))))))))):=(kf _ h).trans (by kernel_rfl)
theorem k7y(a1 a2 a3:Int)(h:AH):go (.fn ke9 [.int .i64 a1,.int .i64 a2,.int .i64 a3]) h =
 cond (decide (a1≥a2)) (
 some (.bool (decide (a1≤a3)),h)) (
 some (.bool false,h)):=(kf _ h).trans (by kernel_rfl)
theorem k0i  (h:AH):go (.fn kqj []) h =
 newK h (.cells [.int .i64 0,.int .i64 1,.int .i64 2,.int .i64 3] T.int) fun h1r h1 =>
 newK h1 (.cells [.int .i64 2] T.int) fun h2r h2 =>
 newK h2 (.cells [.int .i64 0,.int .i64 0,.int .i64 1,.int .i64 1] T.int) fun h3r h3 =>
 newK h3 (.cells [(⟨some h3r,4,.is 4⟩:Sl).v] kgr) fun h4r h4 =>
 newK h4 (.cells [(⟨none,0,.is 0⟩:Sl).v,(⟨none,0,.is 0⟩:Sl).v,(⟨none,0,.is 0⟩:Sl).v] kds) fun h5r h5 =>
 (h5.puts h5r [(⟨some h1r,4,.is 4⟩:Sl).v,(⟨some h2r,1,.is 1⟩:Sl).v,(⟨some h4r,1,.is 1⟩:Sl).v]).bind fun h6 =>
 ((h6.cell (h5r.add 0)).bind AV.asSl).bind fun l7 =>
 ((h6.cell (h5r.add 1)).bind AV.asSl).bind fun l8 =>
 ((h6.cell (h5r.add 2)).bind AV.asSl).bind fun l9 =>
 newK h6 (.cells [l7.v,l8.v,l9.v] kds) fun h10r h10 =>
 newK h10 (.cells [.int .i64 10,.int .i64 10,.int .i64 (-10),.int .i64 (-10)] T.int) fun h11r h11 =>
 (go (.fn kc0 [.agg [.int .i64 1,.int .i64 1,.int .i64 1,.int .i64 0,.int .i64 1,.int .i64 1,.int .i64 0,.int .i64 0],(⟨some h10r,1,.is 1⟩:Sl).v,(⟨some h11r,4,.is 4⟩:Sl).v]) h11).bind fun q12 =>
 (AV.asTup2 q12.1).bind fun p13 =>
 (AV.asAgg p13.1).bind fun cs14 =>
 cond (Nat.beq cs14.length 1) (
 ((cs14[0]?).bind AV.asSl).bind fun l15 =>
 ((some p13.2).bind (AV.asInt .i64)).bind fun n16 =>
 newK q12.2 (.cells [(⟨none,0,.is 0⟩:Sl).v] kce) fun h17r h17 =>
 (h17.puts h17r [l15.v]).bind fun h18 =>
 cond (!decide (n16=0)) (
 some (.bool false,h18)) (
 ((h18.cell (h17r.add 0)).bind AV.asSl).bind fun l19 =>
 cond (!decide ((l19.len:Int)=1)) (
 some (.bool false,h18)) (
 ((h18.cell (h17r.add 0)).bind AV.asSl).bind fun l20 =>
 (idx l20.ref l20.len 0 1).bind fun r21 =>
 ((h18.cell (r21.add 0)).bind AV.asSl).bind fun l22 =>
 cond (!decide ((l22.len:Int)=3)) (
 some (.bool false,h18)) (
 ((h18.cell (h17r.add 0)).bind AV.asSl).bind fun l23 =>
 (idx l23.ref l23.len 0 1).bind fun r24 =>
 ((h18.cell (r24.add 0)).bind AV.asSl).bind fun l25 =>
 (idx l25.ref l25.len 0 7).bind fun r26 =>
 ((h18.cell (r26.add 0)).bind AV.asBool).bind fun b27 =>
 cond (!b27) (
 (idx l25.ref l25.len 1 7).bind fun r28 =>
 ((h18.cell (r28.add 1)).bind (AV.asInt .i64)).bind fun n29 =>
 cond (decide (n29=6)) (
 (idx l25.ref l25.len 2 7).bind fun r30 =>
 ((h18.cell (r30.add 1)).bind (AV.asInt .i64)).bind fun n31 =>
 some (.bool (decide (n31=(-7))),h18)) (
 some (.bool false,h18))) (
 some (.bool false,h18)))))) none:=(kf _ h).trans (by kernel_rfl)
theorem kbbs(a1 a2 a3 a4 a5 a6 a7 a8:Int)(a9 a10:Sl)(h:AH):go (.fn kc0 [.agg [.int .i64 a1,.int .i64 a2,.int .i64 a3,.int .i64 a4,.int .i64 a5,.int .i64 a6,.int .i64 a7,.int .i64 a8],a9.v,a10.v]) h =
 newK h (.cells [.int .i64 a1,.int .i64 a2,.int .i64 a3,.int .i64 a4,.int .i64 a5,.int .i64 a6,.int .i64 a7,.int .i64 a8] kdu) fun h11r h11 =>
 newK h11 (.cells [(⟨none,0,.is 0⟩:Sl).v] kce) fun h12r h12 =>
 ((h12.cell (h11r.add 0)).bind (AV.asInt .i64)).bind fun n13 =>
 ((h12.cell (h11r.add 1)).bind (AV.asInt .i64)).bind fun n14 =>
 ((h12.cell (h11r.add 2)).bind (AV.asInt .i64)).bind fun n15 =>
 ((h12.cell (h11r.add 3)).bind (AV.asInt .i64)).bind fun n16 =>
 ((h12.cell (h11r.add 4)).bind (AV.asInt .i64)).bind fun n17 =>
 ((h12.cell (h11r.add 5)).bind (AV.asInt .i64)).bind fun n18 =>
 ((h12.cell (h11r.add 6)).bind (AV.asInt .i64)).bind fun n19 =>
 ((h12.cell (h11r.add 7)).bind (AV.asInt .i64)).bind fun n20 =>
 (go (.fn kf8 [.agg [.int .i64 n13,.int .i64 n14,.int .i64 n15,.int .i64 n16,.int .i64 n17,.int .i64 n18,.int .i64 n19,.int .i64 n20],a9.v,a10.v]) h12).bind fun q21 =>
 ((some q21.1).bind (AV.asInt .i64)).bind fun n22 =>
 cond (!decide (n22=0)) (
 (q21.2.puts h12r [(⟨none,0,.is 0⟩:Sl).v]).bind fun h23 =>
 ((h23.cell (h12r.add 0)).bind AV.asSl).bind fun l24 =>
 some (.tup [.agg [l24.v],.int .i64 n22],h23)) (
 (kbx (a10.len:Int) (a10.len:Int) T.int (Pg.bytesOf T.int) [.int .i64 0] q21.2).bind fun q25 =>
 newK q25.2 (.cells [(⟨none,0,.is 0⟩:Sl).v] kce) fun h26r h26 =>
 ((h26.cell (h11r.add 0)).bind (AV.asInt .i64)).bind fun n27 =>
 go (.pt kc0 knc [(1,a9.v),(2,a10.v),(3,.ptr (some h11r)),(6,.ptr (some h12r)),(9,q25.1.v),(10,.ptr (some h26r)),(26,.int .i64 n27),(27,.int .i64 0)]) h26):=(kf _ h).trans (by kernel_rfl)
theorem k9h(a1:Sl)(h:AH):go (.fn kc7 [.agg [a1.v]]) h =
 newK h (.cells [a1.v] kce) fun h2r h2 =>
 ((h2.cell (h2r.add 0)).bind AV.asSl).bind fun l3 =>
 cond (decide ((l3.len:Int)>16)) (
 some (.bool false,h2)) (
 go (.pt kc7 kj2 [(1,.ptr (some h2r)),(3,.int .i64 0)]) h2):=(kf _ h).trans (by kernel_rfl)
theorem kxc(a1:Ref)(a2:Bool)(a3 a4:Int)(h:AH):go (.pt kgy kmu [(1,.ptr (some a1)),(3,.bool a2),(4,.int .i64 a3),(5,.int .i64 a4)]) h =
 ((h.cell (a1.add 0)).bind AV.asSl).bind fun l5 =>
 cond (decide (a4<(l5.len:Int))) (
 ((h.cell (a1.add 0)).bind AV.asSl).bind fun l6 =>
 (idx l6.ref l6.len a4 1).bind fun r7 =>
 ((h.cell (r7.add 0)).bind AV.asSl).bind fun l8 =>
 cond (decide ((IntKind.wrap .i64 (a3+(l8.len:Int)))>100000)) (
 some (.bool a2,h)) (
 go (.pt kgy kmu [(1,.ptr (some a1)),(3,.bool a2),(4,.int .i64 (IntKind.wrap .i64 (a3+(l8.len:Int)))),(5,.int .i64 (IntKind.wrap .i64 (a4+1)))]) h)) (
 ((h.cell (a1.add 0)).bind AV.asSl).bind fun l9 =>
 (go (.fn kde [.agg [l9.v]]) h).bind fun q10 =>
 ((some q10.1).bind AV.asBool).bind fun b11 =>
 ((q10.2.cell (a1.add 0)).bind AV.asSl).bind fun l12 =>
 (go (.fn kb3 [.agg [l12.v]]) q10.2).bind fun q13 =>
 ((some q13.1).bind (AV.asInt .i64)).bind fun n14 =>
 cond a2 (
 ((q13.2.cell (a1.add 0)).bind AV.asSl).bind fun l15 =>
 (go (.fn kc7 [.agg [l15.v]]) q13.2).bind fun q16 =>
 ((some q16.1).bind AV.asBool).bind fun b17 =>
 cond (b11==b17) (
 ((q16.2.cell (a1.add 0)).bind AV.asSl).bind fun l18 =>
 (go (.fn kb2 [.agg [l18.v]]) q16.2).bind fun q19 =>
 ((some q19.1).bind (AV.asInt .i64)).bind fun n20 =>
 some (.bool (decide (n14=n20)),q19.2)) (
 some (.bool false,q16.2))) (
 some (.bool false,q13.2))):=(kf _ h).trans (by kernel_rfl)
theorem kv1(a1:Nat)(a2:Sl)(a3 a4:Int)(h:AH):go (.pt kb5 kkl [(0,.func (.yield a1) [] []),(6,a2.v),(7,.int .i64 a3),(8,.int .i64 a4)]) h =
 cond (decide (a4<a3)) (
 (idx a2.ref a2.len a4 1).bind fun r5 =>
 ((h.cell r5).bind (AV.asInt .u64)).bind fun n6 =>
 go (.pt kb5 kma [(0,.func (.yield a1) [] []),(3,.int .i64 a4),(4,.int .u64 n6),(6,a2.v),(7,.int .i64 a3),(8,.int .i64 a4)]) h) (
 some (.tup [],h)):=(kf _ h).trans (by kernel_rfl)
theorem k9p(a1 a2:Sl)(h:AH):go (.fn kcr [a1.v,a2.v]) h =
 (kbx (IntKind.wrap .i64 ((a1.len:Int)+(a2.len:Int))) (IntKind.wrap .i64 ((a1.len:Int)+(a2.len:Int))) kq (Pg.bytesOf kq) [.int .u64 0] h).bind fun q3 =>
 go (.pt kcr km3 [(1,a2.v),(5,q3.1.v),(20,a1.v),(21,.int .i64 (a1.len:Int)),(22,.int .i64 0)]) q3.2:=(kf _ h).trans (by kernel_rfl)
theorem k6e(a1:Sl)(a2:Ref)(h:AH):go (.fn kie [a1.v,.ptr (some a2)]) h =
 ((h.cell a2).bind (AV.asInt .i64)).bind fun n3 =>
 (cutSl a1 0 (imin n3 (a1.len:Int)) 1).bind fun l4 =>
 (go (.fn kbo [l4.v]) h).bind fun q5 =>
 ((some q5.1).bind AV.asSl).bind fun l6 =>
 some (l6.v,q5.2):=(kf _ h).trans (by kernel_rfl)
theorem k06(a1:Sl)(a2:Ref)(h:AH):go (.fn khc [a1.v,.ptr (some a2)]) h =
 ((h.cell a2).bind (AV.asInt .i64)).bind fun n3 =>
 (cutSl a1 (imin n3 (a1.len:Int)) (a1.len:Int) 1).bind fun l4 =>
 some (l4.v,h):=(kf _ h).trans (by kernel_rfl)
theorem kbdj(a1 a2:Sl)(h:AH):go (.fn kcw [a1.v,a2.v]) h =
 cond (decide ((a1.len:Int)<(a2.len:Int))) (
 (kbx (IntKind.wrap .i64 ((a2.len:Int)+1)) (IntKind.wrap .i64 ((a2.len:Int)+1)) kq (Pg.bytesOf kq) [.int .u64 0] h).bind fun q3 =>
 go (.pt kcw kfi [(0,a2.v),(1,a1.v),(5,q3.1.v),(6,.int .u64 0),(21,.int .i64 (a2.len:Int)),(22,.int .i64 0)]) q3.2) (
 (kbx (IntKind.wrap .i64 ((a1.len:Int)+1)) (IntKind.wrap .i64 ((a1.len:Int)+1)) kq (Pg.bytesOf kq) [.int .u64 0] h).bind fun q4 =>
 go (.pt kcw kfi [(0,a1.v),(1,a2.v),(5,q4.1.v),(6,.int .u64 0),(21,.int .i64 (a1.len:Int)),(22,.int .i64 0)]) q4.2):=(kf _ h).trans (by kernel_rfl)
theorem kpl(a1:Sl)(h:AH):go (.fn kbo [a1.v]) h =
 go (.pt kbo kjj [(0,a1.v),(3,.int .i64 (a1.len:Int))]) h:=(kf _ h).trans (by kernel_rfl)
theorem kbbu(a1 a2:Sl)(h:AH):go (.fn kc2 [a1.v,a2.v]) h =
 (kbx (a1.len:Int) (a1.len:Int) kq (Pg.bytesOf kq) [.int .u64 0] h).bind fun q3 =>
 go (.pt kc2 khz [(0,a1.v),(1,a2.v),(5,q3.1.v),(6,.int .u64 0),(13,.int .i64 (a1.len:Int)),(14,.int .i64 0)]) q3.2:=(kf _ h).trans (by kernel_rfl)
theorem k0u(a1 a2:Sl)(a3:Int)(h:AH):go (.fn kc6 [a1.v,a2.v,.int .i64 a3]) h =
 go (.pt kc6 kgw [(0,a1.v),(1,a2.v),(2,.int .i64 a3),(6,.int .u64 0),(7,.int .i64 a3)]) h:=(kf _ h).trans (by kernel_rfl)
theorem k5j(a1 a2 a3 a4 a5 a6 a7 a8:Int)(a9 a10:Sl)(h:AH):go (.fn kf8 [.agg [.int .i64 a1,.int .i64 a2,.int .i64 a3,.int .i64 a4,.int .i64 a5,.int .i64 a6,.int .i64 a7,.int .i64 a8],a9.v,a10.v]) h =
 newK h (.cells [.int .i64 a1,.int .i64 a2,.int .i64 a3,.int .i64 a4,.int .i64 a5,.int .i64 a6,.int .i64 a7,.int .i64 a8] kdu) fun h11r h11 =>
 ((h11.cell (h11r.add 0)).bind (AV.asInt .i64)).bind fun n12 =>
 ((h11.cell (h11r.add 1)).bind (AV.asInt .i64)).bind fun n13 =>
 ((h11.cell (h11r.add 2)).bind (AV.asInt .i64)).bind fun n14 =>
 ((h11.cell (h11r.add 3)).bind (AV.asInt .i64)).bind fun n15 =>
 ((h11.cell (h11r.add 4)).bind (AV.asInt .i64)).bind fun n16 =>
 ((h11.cell (h11r.add 5)).bind (AV.asInt .i64)).bind fun n17 =>
 ((h11.cell (h11r.add 6)).bind (AV.asInt .i64)).bind fun n18 =>
 ((h11.cell (h11r.add 7)).bind (AV.asInt .i64)).bind fun n19 =>
 (go (.fn kim [.agg [.int .i64 n12,.int .i64 n13,.int .i64 n14,.int .i64 n15,.int .i64 n16,.int .i64 n17,.int .i64 n18,.int .i64 n19]]) h11).bind fun q20 =>
 ((some q20.1).bind AV.asBool).bind fun b21 =>
 cond (!b21) (
 some (.int .i64 1,q20.2)) (
 cond (decide ((a9.len:Int)=0)) (
 some (.int .i64 1,q20.2)) (
 cond (decide ((a9.len:Int)>16)) (
 some (.int .i64 1,q20.2)) (
 go (.pt kf8 kna [(1,a9.v),(2,a10.v),(23,a9.v),(24,.int .i64 (a9.len:Int)),(25,.int .i64 0)]) q20.2))):=(kf _ h).trans (by kernel_rfl)
theorem kts(a1 a2:Sl)(a3 a4:Ref)(a5:Sl)(a6:Ref)(a7 a8:Int)(h:AH):go (.pt kc0 knc [(1,a1.v),(2,a2.v),(3,.ptr (some a3)),(6,.ptr (some a4)),(9,a5.v),(10,.ptr (some a6)),(26,.int .i64 a7),(27,.int .i64 a8)]) h =
 cond (decide (a8<a7)) (
 (kbx (a2.len:Int) (a2.len:Int) T.int (Pg.bytesOf T.int) [.int .i64 0] h).bind fun q9 =>
 go (.pt kc0 kjm [(1,a1.v),(2,a2.v),(3,.ptr (some a3)),(6,.ptr (some a4)),(9,a5.v),(10,.ptr (some a6)),(11,q9.1.v),(26,.int .i64 a7),(27,.int .i64 a8),(32,a2.v),(33,.int .i64 (a2.len:Int)),(34,.int .i64 0)]) q9.2) (
 ((h.cell (a6.add 0)).bind AV.asSl).bind fun l10 =>
 (h.puts a4 [l10.v]).bind fun h11 =>
 ((h11.cell (a4.add 0)).bind AV.asSl).bind fun l12 =>
 some (.tup [.agg [l12.v],.int .i64 0],h11)):=(kf _ h).trans (by kernel_rfl)
theorem k8h(a1:Sl)(h:AH):go (.fn kde [.agg [a1.v]]) h =
 newK h (.cells [a1.v] kce) fun h2r h2 =>
 ((h2.cell (h2r.add 0)).bind AV.asSl).bind fun l3 =>
 cond (decide ((l3.len:Int)>16)) (
 some (.bool false,h2)) (
 ((h2.cell (h2r.add 0)).bind AV.asSl).bind fun l4 =>
 go (.pt kde kkf [(12,l4.v),(13,.int .i64 (l4.len:Int)),(14,.int .i64 0)]) h2):=(kf _ h).trans (by kernel_rfl)
theorem kwa(a1:Ref)(a2:Int)(h:AH):go (.pt kc7 kj2 [(1,.ptr (some a1)),(3,.int .i64 a2)]) h =
 ((h.cell (a1.add 0)).bind AV.asSl).bind fun l3 =>
 cond (decide (a2<(l3.len:Int))) (
 ((h.cell (a1.add 0)).bind AV.asSl).bind fun l4 =>
 (idx l4.ref l4.len a2 1).bind fun r5 =>
 ((h.cell (r5.add 0)).bind AV.asSl).bind fun l6 =>
 cond (decide ((l6.len:Int)<1)) (
 some (.bool false,h)) (
 cond (decide ((l6.len:Int)>63)) (
 some (.bool false,h)) (
 go (.pt kc7 kn1 [(1,.ptr (some a1)),(3,.int .i64 a2),(4,l6.v),(5,.int .i64 0)]) h))) (
 some (.bool true,h)):=(kf _ h).trans (by kernel_rfl)
theorem k2t(a1:Sl)(h:AH):go (.fn kb3 [.agg [a1.v]]) h =
 newK h (.cells [a1.v] kce) fun h2r h2 =>
 ((h2.cell (h2r.add 0)).bind AV.asSl).bind fun l3 =>
 (go (.fn kev [.int .u64 (IntKind.wrap .u64 (l3.len:Int))]) h2).bind fun q4 =>
 ((some q4.1).bind AV.asSl).bind fun l5 =>
 ((q4.2.cell (h2r.add 0)).bind AV.asSl).bind fun l6 =>
 go (.pt kb3 kks [(3,l5.v),(17,l6.v),(18,.int .i64 (l6.len:Int)),(19,.int .i64 0)]) q4.2:=(kf _ h).trans (by kernel_rfl)
theorem k9o(a1:Sl)(h:AH):go (.fn kb2 [.agg [a1.v]]) h =
 newK h (.cells [a1.v] kce) fun h2r h2 =>
 ((h2.cell (h2r.add 0)).bind AV.asSl).bind fun l3 =>
 (go (.fn ker [.int .u64 (IntKind.wrap .u64 (l3.len:Int))]) h2).bind fun q4 =>
 ((some q4.1).bind AV.asSl).bind fun l5 =>
 go (.pt kb2 ki8 [(1,.ptr (some h2r)),(3,l5.v),(4,.int .i64 0)]) q4.2:=(kf _ h).trans (by kernel_rfl)
theorem kwm(a1:Nat)(a2 a3:Int)(a4:Sl)(a5 a6:Int)(h:AH):go (.pt kb5 kma [(0,.func (.yield a1) [] []),(3,.int .i64 a2),(4,.int .u64 a3),(6,a4.v),(7,.int .i64 a5),(8,.int .i64 a6)]) h =
 cond (!decide (a3=0)) (
 (go (.fn ko1 [.int .u64 a3]) h).bind fun q7 =>
 ((some q7.1).bind (AV.asInt .i64)).bind fun n8 =>
 (go (.round a1 [.int .i64 (IntKind.wrap .i64 ((IntKind.wrap .i64 (64*a2))+n8))]) q7.2).bind fun q9 =>
 ((some q9.1).bind AV.asBool).bind fun b10 =>
 cond (!b10) (
 some (.tup [],q9.2)) (
 go (.pt kb5 kma [(0,.func (.yield a1) [] []),(3,.int .i64 a2),(4,.int .u64 (iand .u64 a3 (IntKind.wrap .u64 (a3-1)))),(6,a4.v),(7,.int .i64 a5),(8,.int .i64 a6)]) q9.2)) (
 go (.pt kb5 kkl [(0,.func (.yield a1) [] []),(6,a4.v),(7,.int .i64 a5),(8,.int .i64 (IntKind.wrap .i64 (a6+1)))]) h):=(kf _ h).trans (by kernel_rfl)
theorem k9f(a1 a2 a3:Sl)(a4 a5:Int)(h:AH):go (.pt kcr km3 [(1,a1.v),(5,a2.v),(20,a3.v),(21,.int .i64 a4),(22,.int .i64 a5)]) h =
 cond (decide (a5<a4)) (
 (idx a3.ref a3.len a5 1).bind fun r6 =>
 ((h.cell r6).bind (AV.asInt .u64)).bind fun n7 =>
 go (.pt kcr kms [(1,a1.v),(5,a2.v),(6,.int .i64 a5),(7,.int .u64 n7),(8,.int .u64 0),(20,a3.v),(21,.int .i64 a4),(22,.int .i64 a5),(27,a1.v),(28,.int .i64 (a1.len:Int)),(29,.int .i64 0)]) h) (
 (go (.fn kbo [a2.v]) h).bind fun q8 =>
 ((some q8.1).bind AV.asSl).bind fun l9 =>
 some (l9.v,q8.2)):=(kf _ h).trans (by kernel_rfl)
theorem kt5(a1 a2 a3:Sl)(a4 a5 a6:Int)(h:AH):go (.pt kcw kfi [(0,a1.v),(1,a2.v),(5,a3.v),(6,.int .u64 a4),(21,.int .i64 a5),(22,.int .i64 a6)]) h =
 cond (decide (a6<a5)) (
 cond (decide (a6<(a2.len:Int))) (
 (idx a2.ref a2.len a6 1).bind fun r7 =>
 ((h.cell r7).bind (AV.asInt .u64)).bind fun n8 =>
 (idx a1.ref a1.len a6 1).bind fun r9 =>
 ((h.cell r9).bind (AV.asInt .u64)).bind fun n10 =>
 ((prim "math/bits.Add64" [.int .u64 n10,.int .u64 n8,.int .u64 a4]).map fun v=>(v,h)).bind fun q11 =>
 (AV.asTup2 q11.1).bind fun p12 =>
 ((some p12.1).bind (AV.asInt .u64)).bind fun n13 =>
 ((some p12.2).bind (AV.asInt .u64)).bind fun n14 =>
 (idx a3.ref a3.len a6 1).bind fun r15 =>
 (q11.2.puts r15 [.int .u64 n13]).bind fun h16 =>
 go (.pt kcw kfi [(0,a1.v),(1,a2.v),(5,a3.v),(6,.int .u64 n14),(21,.int .i64 a5),(22,.int .i64 (IntKind.wrap .i64 (a6+1)))]) h16) (
 (idx a1.ref a1.len a6 1).bind fun r17 =>
 ((h.cell r17).bind (AV.asInt .u64)).bind fun n18 =>
 ((prim "math/bits.Add64" [.int .u64 n18,.int .u64 0,.int .u64 a4]).map fun v=>(v,h)).bind fun q19 =>
 (AV.asTup2 q19.1).bind fun p20 =>
 ((some p20.1).bind (AV.asInt .u64)).bind fun n21 =>
 ((some p20.2).bind (AV.asInt .u64)).bind fun n22 =>
 (idx a3.ref a3.len a6 1).bind fun r23 =>
 (q19.2.puts r23 [.int .u64 n21]).bind fun h24 =>
 go (.pt kcw kfi [(0,a1.v),(1,a2.v),(5,a3.v),(6,.int .u64 n22),(21,.int .i64 a5),(22,.int .i64 (IntKind.wrap .i64 (a6+1)))]) h24)) (
 (idx a3.ref a3.len (a1.len:Int) 1).bind fun r25 =>
 (h.puts r25 [.int .u64 a4]).bind fun h26 =>
 some (a3.v,h26)):=(kf _ h).trans (by kernel_rfl)
theorem kly(a1:Sl)(a2:Int)(h:AH):go (.pt kbo kjj [(0,a1.v),(3,.int .i64 a2)]) h =
 cond (decide (a2>0)) (
 (idx a1.ref a1.len (IntKind.wrap .i64 (a2-1)) 1).bind fun r3 =>
 ((h.cell r3).bind (AV.asInt .u64)).bind fun n4 =>
 cond (decide (n4=0)) (
 go (.pt kbo kjj [(0,a1.v),(3,.int .i64 (IntKind.wrap .i64 (a2-1)))]) h) (
 (cutSl a1 0 a2 1).bind fun l5 =>
 some (l5.v,h))) (
 (cutSl a1 0 a2 1).bind fun l6 =>
 some (l6.v,h)):=(kf _ h).trans (by kernel_rfl)
theorem ksi(a1 a2 a3:Sl)(a4 a5 a6:Int)(h:AH):go (.pt kc2 khz [(0,a1.v),(1,a2.v),(5,a3.v),(6,.int .u64 a4),(13,.int .i64 a5),(14,.int .i64 a6)]) h =
 cond (decide (a6<a5)) (
 cond (decide (a6<(a2.len:Int))) (
 (idx a2.ref a2.len a6 1).bind fun r7 =>
 ((h.cell r7).bind (AV.asInt .u64)).bind fun n8 =>
 (idx a1.ref a1.len a6 1).bind fun r9 =>
 ((h.cell r9).bind (AV.asInt .u64)).bind fun n10 =>
 ((prim "math/bits.Sub64" [.int .u64 n10,.int .u64 n8,.int .u64 a4]).map fun v=>(v,h)).bind fun q11 =>
 (AV.asTup2 q11.1).bind fun p12 =>
 ((some p12.1).bind (AV.asInt .u64)).bind fun n13 =>
 ((some p12.2).bind (AV.asInt .u64)).bind fun n14 =>
 (idx a3.ref a3.len a6 1).bind fun r15 =>
 (q11.2.puts r15 [.int .u64 n13]).bind fun h16 =>
 go (.pt kc2 khz [(0,a1.v),(1,a2.v),(5,a3.v),(6,.int .u64 n14),(13,.int .i64 a5),(14,.int .i64 (IntKind.wrap .i64 (a6+1)))]) h16) (
 (idx a1.ref a1.len a6 1).bind fun r17 =>
 ((h.cell r17).bind (AV.asInt .u64)).bind fun n18 =>
 ((prim "math/bits.Sub64" [.int .u64 n18,.int .u64 0,.int .u64 a4]).map fun v=>(v,h)).bind fun q19 =>
 (AV.asTup2 q19.1).bind fun p20 =>
 ((some p20.1).bind (AV.asInt .u64)).bind fun n21 =>
 ((some p20.2).bind (AV.asInt .u64)).bind fun n22 =>
 (idx a3.ref a3.len a6 1).bind fun r23 =>
 (q19.2.puts r23 [.int .u64 n21]).bind fun h24 =>
 go (.pt kc2 khz [(0,a1.v),(1,a2.v),(5,a3.v),(6,.int .u64 n22),(13,.int .i64 a5),(14,.int .i64 (IntKind.wrap .i64 (a6+1)))]) h24)) (
 some (a3.v,h)):=(kf _ h).trans (by kernel_rfl)
theorem ky6(a1 a2:Sl)(a3 a4 a5:Int)(h:AH):go (.pt kc6 kgw [(0,a1.v),(1,a2.v),(2,.int .i64 a3),(6,.int .u64 a4),(7,.int .i64 a5)]) h =
 cond (decide (a5<(a1.len:Int))) (
 cond (decide ((IntKind.wrap .i64 (a5-a3))<(a2.len:Int))) (
 cond (decide ((IntKind.wrap .i64 (a5-a3))<(a2.len:Int))) (
 (idx a2.ref a2.len (IntKind.wrap .i64 (a5-a3)) 1).bind fun r6 =>
 ((h.cell r6).bind (AV.asInt .u64)).bind fun n7 =>
 (idx a1.ref a1.len a5 1).bind fun r8 =>
 ((h.cell r8).bind (AV.asInt .u64)).bind fun n9 =>
 ((prim "math/bits.Add64" [.int .u64 n9,.int .u64 n7,.int .u64 a4]).map fun v=>(v,h)).bind fun q10 =>
 (AV.asTup2 q10.1).bind fun p11 =>
 ((some p11.1).bind (AV.asInt .u64)).bind fun n12 =>
 ((some p11.2).bind (AV.asInt .u64)).bind fun n13 =>
 (idx a1.ref a1.len a5 1).bind fun r14 =>
 (q10.2.puts r14 [.int .u64 n12]).bind fun h15 =>
 go (.pt kc6 kgw [(0,a1.v),(1,a2.v),(2,.int .i64 a3),(6,.int .u64 n13),(7,.int .i64 (IntKind.wrap .i64 (a5+1)))]) h15) (
 (idx a1.ref a1.len a5 1).bind fun r16 =>
 ((h.cell r16).bind (AV.asInt .u64)).bind fun n17 =>
 ((prim "math/bits.Add64" [.int .u64 n17,.int .u64 0,.int .u64 a4]).map fun v=>(v,h)).bind fun q18 =>
 (AV.asTup2 q18.1).bind fun p19 =>
 ((some p19.1).bind (AV.asInt .u64)).bind fun n20 =>
 ((some p19.2).bind (AV.asInt .u64)).bind fun n21 =>
 (idx a1.ref a1.len a5 1).bind fun r22 =>
 (q18.2.puts r22 [.int .u64 n20]).bind fun h23 =>
 go (.pt kc6 kgw [(0,a1.v),(1,a2.v),(2,.int .i64 a3),(6,.int .u64 n21),(7,.int .i64 (IntKind.wrap .i64 (a5+1)))]) h23)) (
 cond (decide (a4>0)) (
 cond (decide ((IntKind.wrap .i64 (a5-a3))<(a2.len:Int))) (
 (idx a2.ref a2.len (IntKind.wrap .i64 (a5-a3)) 1).bind fun r24 =>
 ((h.cell r24).bind (AV.asInt .u64)).bind fun n25 =>
 (idx a1.ref a1.len a5 1).bind fun r26 =>
 ((h.cell r26).bind (AV.asInt .u64)).bind fun n27 =>
 ((prim "math/bits.Add64" [.int .u64 n27,.int .u64 n25,.int .u64 a4]).map fun v=>(v,h)).bind fun q28 =>
 (AV.asTup2 q28.1).bind fun p29 =>
 ((some p29.1).bind (AV.asInt .u64)).bind fun n30 =>
 ((some p29.2).bind (AV.asInt .u64)).bind fun n31 =>
 (idx a1.ref a1.len a5 1).bind fun r32 =>
 (q28.2.puts r32 [.int .u64 n30]).bind fun h33 =>
 go (.pt kc6 kgw [(0,a1.v),(1,a2.v),(2,.int .i64 a3),(6,.int .u64 n31),(7,.int .i64 (IntKind.wrap .i64 (a5+1)))]) h33) (
 (idx a1.ref a1.len a5 1).bind fun r34 =>
 ((h.cell r34).bind (AV.asInt .u64)).bind fun n35 =>
 ((prim "math/bits.Add64" [.int .u64 n35,.int .u64 0,.int .u64 a4]).map fun v=>(v,h)).bind fun q36 =>
 (AV.asTup2 q36.1).bind fun p37 =>
 ((some p37.1).bind (AV.asInt .u64)).bind fun n38 =>
 ((some p37.2).bind (AV.asInt .u64)).bind fun n39 =>
 (idx a1.ref a1.len a5 1).bind fun r40 =>
 (q36.2.puts r40 [.int .u64 n38]).bind fun h41 =>
 go (.pt kc6 kgw [(0,a1.v),(1,a2.v),(2,.int .i64 a3),(6,.int .u64 n39),(7,.int .i64 (IntKind.wrap .i64 (a5+1)))]) h41)) (
 some (.tup [],h)))) (
 some (.tup [],h)):=(kf _ h).trans (by kernel_rfl)
theorem k4j(a1 a2 a3 a4 a5 a6 a7 a8:Int)(h:AH):go (.fn kim [.agg [.int .i64 a1,.int .i64 a2,.int .i64 a3,.int .i64 a4,.int .i64 a5,.int .i64 a6,.int .i64 a7,.int .i64 a8]]) h =
 newK h (.cells [.int .i64 a1,.int .i64 a2,.int .i64 a3,.int .i64 a4,.int .i64 a5,.int .i64 a6,.int .i64 a7,.int .i64 a8] kdu) fun h9r h9 =>
 ((h9.cell (h9r.add 0)).bind (AV.asInt .i64)).bind fun n10 =>
 (go (.fn kcu [.int .i64 n10,.int .i64 1,.int .i64 16]) h9).bind fun q11 =>
 ((some q11.1).bind AV.asBool).bind fun b12 =>
 cond (!b12) (
 some (.bool false,q11.2)) (
 ((q11.2.cell (h9r.add 1)).bind (AV.asInt .i64)).bind fun n13 =>
 (go (.fn kcu [.int .i64 n13,.int .i64 1,.int .i64 5]) q11.2).bind fun q14 =>
 ((some q14.1).bind AV.asBool).bind fun b15 =>
 cond (!b15) (
 some (.bool false,q14.2)) (
 ((q14.2.cell (h9r.add 2)).bind (AV.asInt .i64)).bind fun n16 =>
 (go (.fn kcu [.int .i64 n16,.int .i64 1,.int .i64 1048576]) q14.2).bind fun q17 =>
 ((some q17.1).bind AV.asBool).bind fun b18 =>
 cond (!b18) (
 some (.bool false,q17.2)) (
 ((q17.2.cell (h9r.add 3)).bind (AV.asInt .i64)).bind fun n19 =>
 (go (.fn kcu [.int .i64 n19,.int .i64 0,.int .i64 1048576]) q17.2).bind fun q20 =>
 ((some q20.1).bind AV.asBool).bind fun b21 =>
 cond (!b21) (
 some (.bool false,q20.2)) (
 ((q20.2.cell (h9r.add 5)).bind (AV.asInt .i64)).bind fun n22 =>
 (go (.fn kcu [.int .i64 n22,.int .i64 1,.int .i64 1048576]) q20.2).bind fun q23 =>
 ((some q23.1).bind AV.asBool).bind fun b24 =>
 cond (!b24) (
 some (.bool false,q23.2)) (
 ((q23.2.cell (h9r.add 4)).bind (AV.asInt .i64)).bind fun n25 =>
 ((q23.2.cell (h9r.add 5)).bind (AV.asInt .i64)).bind fun n26 =>
 (go (.fn kcu [.int .i64 n25,.int .i64 1,.int .i64 n26]) q23.2).bind fun q27 =>
 ((some q27.1).bind AV.asBool).bind fun b28 =>
 cond (!b28) (
 some (.bool false,q27.2)) (
 ((q27.2.cell (h9r.add 6)).bind (AV.asInt .i64)).bind fun n29 =>
 cond (decide (n29=0)) (
 ((q27.2.cell (h9r.add 7)).bind (AV.asInt .i64)).bind fun n30 =>
 some (.bool (decide (n30=0)),q27.2)) (
 cond (decide (n29=1)) (
 ((q27.2.cell (h9r.add 7)).bind (AV.asInt .i64)).bind fun n31 =>
 (go (.fn kcu [.int .i64 n31,.int .i64 1,.int .i64 1048576]) q27.2).bind fun q32 =>
 ((some q32.1).bind AV.asBool).bind fun b33 =>
 some (.bool b33,q32.2)) (
 some (.bool false,q27.2))))))))):=(kf _ h).trans (by kernel_rfl)
theorem kx6(a1 a2 a3:Sl)(a4 a5:Int)(h:AH):go (.pt kf8 kna [(1,a1.v),(2,a2.v),(23,a3.v),(24,.int .i64 a4),(25,.int .i64 a5)]) h =
 cond (decide (a5<a4)) (
 (idx a3.ref a3.len a5 3).bind fun r6 =>
 ((h.cell (r6.add 0)).bind AV.asSl).bind fun l7 =>
 ((h.cell (r6.add 1)).bind AV.asSl).bind fun l8 =>
 ((h.cell (r6.add 2)).bind AV.asSl).bind fun l9 =>
 newK h (.cells [(⟨none,0,.is 0⟩:Sl).v,(⟨none,0,.is 0⟩:Sl).v,(⟨none,0,.is 0⟩:Sl).v] kds) fun h10r h10 =>
 (h10.puts h10r [l7.v,l8.v,l9.v]).bind fun h11 =>
 ((h11.cell (h10r.add 0)).bind AV.asSl).bind fun l12 =>
 ((h11.cell (h10r.add 1)).bind AV.asSl).bind fun l13 =>
 ((h11.cell (h10r.add 2)).bind AV.asSl).bind fun l14 =>
 (go (.fn kfn [.agg [l12.v,l13.v,l14.v]]) h11).bind fun q15 =>
 ((some q15.1).bind AV.asBool).bind fun b16 =>
 cond (!b16) (
 some (.int .i64 20,q15.2)) (
 ((q15.2.cell (h10r.add 0)).bind AV.asSl).bind fun l17 =>
 (idx a1.ref a1.len 0 3).bind fun r18 =>
 ((q15.2.cell (r18.add 0)).bind AV.asSl).bind fun l19 =>
 (go (.fn kgx [l17.v,l19.v]) q15.2).bind fun q20 =>
 ((some q20.1).bind AV.asBool).bind fun b21 =>
 cond (!b21) (
 some (.int .i64 20,q20.2)) (
 ((q20.2.cell (h10r.add 0)).bind AV.asSl).bind fun l22 =>
 cond (decide ((l22.len:Int)=0)) (
 some (.int .i64 20,q20.2)) (
 go (.pt kf8 kna [(1,a1.v),(2,a2.v),(23,a3.v),(24,.int .i64 a4),(25,.int .i64 (IntKind.wrap .i64 (a5+1)))]) q20.2)))) (
 (idx a1.ref a1.len 0 3).bind fun r23 =>
 ((h.cell (r23.add 0)).bind AV.asSl).bind fun l24 =>
 cond (!decide ((a2.len:Int)=(l24.len:Int))) (
 some (.int .i64 1,h)) (
 (go (.fn kdg [a2.v,.func (.func kdj) [] []]) h).bind fun q25 =>
 ((some q25.1).bind AV.asBool).bind fun b26 =>
 cond b26 (
 some (.int .i64 1,q25.2)) (
 some (.int .i64 0,q25.2)))):=(kf _ h).trans (by kernel_rfl)
theorem ktl(a1 a2:Sl)(a3 a4:Ref)(a5:Sl)(a6:Ref)(a7:Sl)(a8 a9:Int)(a10:Sl)(a11 a12:Int)(h:AH):go (.pt kc0 kjm [(1,a1.v),(2,a2.v),(3,.ptr (some a3)),(6,.ptr (some a4)),(9,a5.v),(10,.ptr (some a6)),(11,a7.v),(26,.int .i64 a8),(27,.int .i64 a9),(32,a10.v),(33,.int .i64 a11),(34,.int .i64 a12)]) h =
 cond (decide (a12<a11)) (
 (idx a10.ref a10.len a12 1).bind fun r13 =>
 ((h.cell r13).bind (AV.asInt .i64)).bind fun n14 =>
 ((h.cell (a3.add 0)).bind (AV.asInt .i64)).bind fun n15 =>
 ((h.cell (a3.add 1)).bind (AV.asInt .i64)).bind fun n16 =>
 ((h.cell (a3.add 2)).bind (AV.asInt .i64)).bind fun n17 =>
 ((h.cell (a3.add 3)).bind (AV.asInt .i64)).bind fun n18 =>
 ((h.cell (a3.add 4)).bind (AV.asInt .i64)).bind fun n19 =>
 ((h.cell (a3.add 5)).bind (AV.asInt .i64)).bind fun n20 =>
 ((h.cell (a3.add 6)).bind (AV.asInt .i64)).bind fun n21 =>
 ((h.cell (a3.add 7)).bind (AV.asInt .i64)).bind fun n22 =>
 (idx a5.ref a5.len a12 1).bind fun r23 =>
 ((h.cell r23).bind (AV.asInt .i64)).bind fun n24 =>
 (go (.fn krf [.agg [.int .i64 n15,.int .i64 n16,.int .i64 n17,.int .i64 n18,.int .i64 n19,.int .i64 n20,.int .i64 n21,.int .i64 n22],.int .i64 n24,.int .i64 n14]) h).bind fun q25 =>
 (AV.asTup2 q25.1).bind fun p26 =>
 ((some p26.1).bind (AV.asInt .i64)).bind fun n27 =>
 ((some p26.2).bind (AV.asInt .i64)).bind fun n28 =>
 (idx a7.ref a7.len a12 1).bind fun r29 =>
 (q25.2.puts r29 [.int .i64 n27]).bind fun h30 =>
 go (.pt kc0 kjm [(1,a1.v),(2,a2.v),(3,.ptr (some a3)),(6,.ptr (some a4)),(9,a5.v),(10,.ptr (some a6)),(11,a7.v),(26,.int .i64 a8),(27,.int .i64 a9),(32,a10.v),(33,.int .i64 a11),(34,.int .i64 (IntKind.wrap .i64 (a12+1)))]) h30) (
 ((h.cell (a6.add 0)).bind AV.asSl).bind fun l31 =>
 ((h.cell (a3.add 0)).bind (AV.asInt .i64)).bind fun n32 =>
 ((h.cell (a3.add 1)).bind (AV.asInt .i64)).bind fun n33 =>
 ((h.cell (a3.add 2)).bind (AV.asInt .i64)).bind fun n34 =>
 ((h.cell (a3.add 3)).bind (AV.asInt .i64)).bind fun n35 =>
 ((h.cell (a3.add 4)).bind (AV.asInt .i64)).bind fun n36 =>
 ((h.cell (a3.add 5)).bind (AV.asInt .i64)).bind fun n37 =>
 ((h.cell (a3.add 6)).bind (AV.asInt .i64)).bind fun n38 =>
 ((h.cell (a3.add 7)).bind (AV.asInt .i64)).bind fun n39 =>
 (go (.fn kbt [.agg [.int .i64 n32,.int .i64 n33,.int .i64 n34,.int .i64 n35,.int .i64 n36,.int .i64 n37,.int .i64 n38,.int .i64 n39],a1.v,a7.v,a5.v]) h).bind fun q40 =>
 (AV.asAgg q40.1).bind fun cs41 =>
 cond (Nat.beq cs41.length 1) (
 ((cs41[0]?).bind AV.asSl).bind fun l42 =>
 whenK (SameAt h q40.2 (a6.add 0) 1) (
 newK q40.2 (.cells [l42.v] kbz) fun h43r h43 =>
 whenK (SameAt q40.2 h43 (a6.add 0) 1) (
 (kbd Pg kbz ((⟨some h43r,1,.is 1⟩:Sl).v) h43).bind fun p45 =>
 (kz Pg l31 p45.1 p45.2 kbz 1 h43).bind fun q44 =>
 (AV.asSl q44.1).bind fun l46 =>
 (q44.2.puts (a6.add 0) [l46.v]).bind fun h47 =>
 go (.pt kc0 knc [(1,a1.v),(2,a2.v),(3,.ptr (some a3)),(6,.ptr (some a4)),(9,a5.v),(10,.ptr (some a6)),(26,.int .i64 a8),(27,.int .i64 (IntKind.wrap .i64 (a9+1)))]) h47))) none):=(kf _ h).trans (by kernel_rfl)
theorem kya(a1:Sl)(a2 a3:Int)(h:AH):go (.pt kde kkf [(12,a1.v),(13,.int .i64 a2),(14,.int .i64 a3)]) h =
 cond (decide (a3<a2)) (
 (idx a1.ref a1.len a3 1).bind fun r4 =>
 ((h.cell (r4.add 0)).bind AV.asSl).bind fun l5 =>
 newK h (.cells [(⟨none,0,.is 0⟩:Sl).v] kbz) fun h6r h6 =>
 (h6.puts h6r [l5.v]).bind fun h7 =>
 ((h7.cell (h6r.add 0)).bind AV.asSl).bind fun l8 =>
 cond (decide ((l8.len:Int)<1)) (
 some (.bool false,h7)) (
 ((h7.cell (h6r.add 0)).bind AV.asSl).bind fun l9 =>
 cond (decide ((l9.len:Int)>63)) (
 some (.bool false,h7)) (
 ((h7.cell (h6r.add 0)).bind AV.asSl).bind fun l10 =>
 go (.pt kde kmk [(4,.ptr (some h6r)),(12,a1.v),(13,.int .i64 a2),(14,.int .i64 a3),(29,l10.v),(30,.int .i64 (l10.len:Int)),(31,.int .i64 0)]) h7))) (
 some (.bool true,h)):=(kf _ h).trans (by kernel_rfl)
theorem kv9(a1:Ref)(a2:Int)(a3:Sl)(a4:Int)(h:AH):go (.pt kc7 kn1 [(1,.ptr (some a1)),(3,.int .i64 a2),(4,a3.v),(5,.int .i64 a4)]) h =
 cond (decide (a4<(a3.len:Int))) (
 (idx a3.ref a3.len a4 7).bind fun r5 =>
 ((h.cell (r5.add 0)).bind AV.asBool).bind fun b6 =>
 ((h.cell (r5.add 1)).bind (AV.asInt .i64)).bind fun n7 =>
 ((h.cell (r5.add 2)).bind (AV.asInt .i64)).bind fun n8 =>
 ((h.cell (r5.add 3)).bind (AV.asInt .i64)).bind fun n9 =>
 ((h.cell (r5.add 4)).bind (AV.asInt .i64)).bind fun n10 =>
 ((h.cell (r5.add 5)).bind (AV.asInt .i64)).bind fun n11 =>
 ((h.cell (r5.add 6)).bind (AV.asInt .i64)).bind fun n12 =>
 (go (.fn kmz [.agg [.bool b6,.int .i64 n7,.int .i64 n8,.int .i64 n9,.int .i64 n10,.int .i64 n11,.int .i64 n12],.int .i64 a4,.int .i64 (a3.len:Int)]) h).bind fun q13 =>
 ((some q13.1).bind AV.asBool).bind fun b14 =>
 cond (!b14) (
 some (.bool false,q13.2)) (
 go (.pt kc7 kn1 [(1,.ptr (some a1)),(3,.int .i64 a2),(4,a3.v),(5,.int .i64 (IntKind.wrap .i64 (a4+1)))]) q13.2)) (
 go (.pt kc7 kj2 [(1,.ptr (some a1)),(3,.int .i64 (IntKind.wrap .i64 (a2+1)))]) h):=(kf _ h).trans (by kernel_rfl)
theorem kzb(a1:Int)(h:AH):go (.fn kev [.int .u64 a1]) h =
 go (.pt kev kl8 [(0,.int .u64 a1),(3,(⟨none,0,.is 0⟩:Sl).v)]) h:=(kf _ h).trans (by kernel_rfl)
theorem ksj(a1 a2:Sl)(a3 a4:Int)(h:AH):go (.pt kb3 kks [(3,a1.v),(17,a2.v),(18,.int .i64 a3),(19,.int .i64 a4)]) h =
 cond (decide (a4<a3)) (
 (idx a2.ref a2.len a4 1).bind fun r5 =>
 ((h.cell (r5.add 0)).bind AV.asSl).bind fun l6 =>
 newK h (.cells [(⟨none,0,.is 0⟩:Sl).v] kbz) fun h7r h7 =>
 (h7.puts h7r [l6.v]).bind fun h8 =>
 ((h8.cell (h7r.add 0)).bind AV.asSl).bind fun l9 =>
 (go (.fn kev [.int .u64 (IntKind.wrap .u64 (l9.len:Int))]) h8).bind fun q10 =>
 ((some q10.1).bind AV.asSl).bind fun l11 =>
 (kbd Pg kj l11.v q10.2).bind fun p13 =>
 (kz Pg a1 p13.1 p13.2 kj 1 q10.2).bind fun q12 =>
 (AV.asSl q12.1).bind fun l14 =>
 ((q12.2.cell (h7r.add 0)).bind AV.asSl).bind fun l15 =>
 go (.pt kb3 kjb [(3,l14.v),(17,a2.v),(18,.int .i64 a3),(19,.int .i64 a4),(31,l15.v),(32,.int .i64 (l15.len:Int)),(33,.int .i64 0)]) q12.2) (
 (go (.fn kg6 [a1.v]) h).bind fun q16 =>
 ((some q16.1).bind (AV.asInt .u32)).bind fun n17 =>
 some (.int .i64 (IntKind.wrap .i64 (ishr .u32 n17 2)),q16.2)):=(kf _ h).trans (by kernel_rfl)
theorem k6h(a1:Int)(h:AH):go (.fn ker [.int .u64 a1]) h =
 go (.pt ker klb [(0,.int .u64 a1),(3,(⟨none,0,.is 0⟩:Sl).v)]) h:=(kf _ h).trans (by kernel_rfl)
theorem ks6(a1:Ref)(a2:Sl)(a3:Int)(h:AH):go (.pt kb2 ki8 [(1,.ptr (some a1)),(3,a2.v),(4,.int .i64 a3)]) h =
 ((h.cell (a1.add 0)).bind AV.asSl).bind fun l4 =>
 cond (decide (a3<(l4.len:Int))) (
 ((h.cell (a1.add 0)).bind AV.asSl).bind fun l5 =>
 (idx l5.ref l5.len a3 1).bind fun r6 =>
 ((h.cell (r6.add 0)).bind AV.asSl).bind fun l7 =>
 (go (.fn ker [.int .u64 (IntKind.wrap .u64 (l7.len:Int))]) h).bind fun q8 =>
 ((some q8.1).bind AV.asSl).bind fun l9 =>
 (kbd Pg kj l9.v q8.2).bind fun p11 =>
 (kz Pg a2 p11.1 p11.2 kj 1 q8.2).bind fun q10 =>
 (AV.asSl q10.1).bind fun l12 =>
 go (.pt kb2 kkd [(1,.ptr (some a1)),(3,l12.v),(4,.int .i64 a3),(5,l7.v),(6,.int .i64 0)]) q10.2) (
 (go (.fn kcq [a2.v]) h).bind fun q13 =>
 ((some q13.1).bind (AV.asInt .u32)).bind fun n14 =>
 some (.int .i64 (IntKind.wrap .i64 (IntKind.wrap .u32 (Int.tdiv n14 4))),q13.2)):=(kf _ h).trans (by kernel_rfl)
theorem k7n(a1:Int)(h:AH):go (.fn ko1 [.int .u64 a1]) h =
 cond (decide (a1=0)) (
 some (.int .i64 64,h)) (
 (idx (some (.old ⟨Gl.math_bits_deBruijn64tab,0,none⟩)) 64 (ishr .u64 (IntKind.wrap .u64 ((iand .u64 a1 (IntKind.wrap .u64 (0-a1)))*285870213051353865)) 58) 1).bind fun r2 =>
 ((h.cell r2).bind (AV.asInt .u8)).bind fun n3 =>
 some (.int .i64 (IntKind.wrap .i64 n3),h)):=(kf _ h).trans (by kernel_rfl)
theorem k4o(a1 a2:Sl)(a3 a4 a5:Int)(a6:Sl)(a7 a8:Int)(a9:Sl)(a10 a11:Int)(h:AH):go (.pt kcr kms [(1,a1.v),(5,a2.v),(6,.int .i64 a3),(7,.int .u64 a4),(8,.int .u64 a5),(20,a6.v),(21,.int .i64 a7),(22,.int .i64 a8),(27,a9.v),(28,.int .i64 a10),(29,.int .i64 a11)]) h =
 cond (decide (a11<a10)) (
 (idx a9.ref a9.len a11 1).bind fun r12 =>
 ((h.cell r12).bind (AV.asInt .u64)).bind fun n13 =>
 (go (.fn klp [.int .u64 a4,.int .u64 n13]) h).bind fun q14 =>
 (AV.asTup2 q14.1).bind fun p15 =>
 ((some p15.1).bind (AV.asInt .u64)).bind fun n16 =>
 ((some p15.2).bind (AV.asInt .u64)).bind fun n17 =>
 (idx a2.ref a2.len (IntKind.wrap .i64 (a3+a11)) 1).bind fun r18 =>
 ((q14.2.cell r18).bind (AV.asInt .u64)).bind fun n19 =>
 ((prim "math/bits.Add64" [.int .u64 n17,.int .u64 n19,.int .u64 0]).map fun v=>(v,q14.2)).bind fun q20 =>
 (AV.asTup2 q20.1).bind fun p21 =>
 ((some p21.1).bind (AV.asInt .u64)).bind fun n22 =>
 ((some p21.2).bind (AV.asInt .u64)).bind fun n23 =>
 ((prim "math/bits.Add64" [.int .u64 n22,.int .u64 a5,.int .u64 0]).map fun v=>(v,q20.2)).bind fun q24 =>
 (AV.asTup2 q24.1).bind fun p25 =>
 ((some p25.1).bind (AV.asInt .u64)).bind fun n26 =>
 ((some p25.2).bind (AV.asInt .u64)).bind fun n27 =>
 (idx a2.ref a2.len (IntKind.wrap .i64 (a3+a11)) 1).bind fun r28 =>
 (q24.2.puts r28 [.int .u64 n26]).bind fun h29 =>
 go (.pt kcr kms [(1,a1.v),(5,a2.v),(6,.int .i64 a3),(7,.int .u64 a4),(8,.int .u64 (IntKind.wrap .u64 ((IntKind.wrap .u64 (n16+n23))+n27))),(20,a6.v),(21,.int .i64 a7),(22,.int .i64 a8),(27,a9.v),(28,.int .i64 a10),(29,.int .i64 (IntKind.wrap .i64 (a11+1)))]) h29) (
 (idx a2.ref a2.len (IntKind.wrap .i64 (a3+(a1.len:Int))) 1).bind fun r30 =>
 (h.puts r30 [.int .u64 a5]).bind fun h31 =>
 go (.pt kcr km3 [(1,a1.v),(5,a2.v),(20,a6.v),(21,.int .i64 a7),(22,.int .i64 (IntKind.wrap .i64 (a8+1)))]) h31):=(kf _ h).trans (by kernel_rfl)
theorem kbbq(a1 a2 a3:Int)(h:AH):go (.fn kcu [.int .i64 a1,.int .i64 a2,.int .i64 a3]) h =
 cond (decide (a1≥a2)) (
 some (.bool (decide (a1≤a3)),h)) (
 some (.bool false,h)):=(kf _ h).trans (by kernel_rfl)
theorem k4e(a1 a2 a3:Sl)(h:AH):go (.fn kfn [.agg [a1.v,a2.v,a3.v]]) h =
 newK h (.cells [a1.v,a2.v,a3.v] kds) fun h4r h4 =>
 ((h4.cell (h4r.add 0)).bind AV.asSl).bind fun l5 =>
 (go (.fn kqh [l5.v]) h4).bind fun q6 =>
 ((some q6.1).bind AV.asBool).bind fun b7 =>
 cond (!b7) (
 some (.bool false,q6.2)) (
 ((q6.2.cell (h4r.add 2)).bind AV.asSl).bind fun l8 =>
 cond (decide ((l8.len:Int)>16)) (
 some (.bool false,q6.2)) (
 ((q6.2.cell (h4r.add 1)).bind AV.asSl).bind fun l9 =>
 ((q6.2.cell (h4r.add 2)).bind AV.asSl).bind fun l10 =>
 cond (!decide ((l9.len:Int)=(l10.len:Int))) (
 some (.bool false,q6.2)) (
 ((q6.2.cell (h4r.add 2)).bind AV.asSl).bind fun l11 =>
 go (.pt kfn knr [(1,.ptr (some h4r)),(27,l11.v),(28,.int .i64 (l11.len:Int)),(29,.int .i64 0)]) q6.2))):=(kf _ h).trans (by kernel_rfl)
theorem kbbt(a1 a2:Sl)(h:AH):go (.fn kgx [a1.v,a2.v]) h =
 cond (!decide ((a1.len:Int)=(a2.len:Int))) (
 some (.bool false,h)) (
 go (.pt kgx kne [(0,a1.v),(1,a2.v),(12,.int .i64 (a1.len:Int)),(13,.int .i64 0)]) h):=(kf _ h).trans (by kernel_rfl)
theorem kbco(a1:Sl)(h:AH):go (.fn kdg [a1.v,.func (.func kdj) [] []]) h =
 (go (.fn kbn [a1.v,.func (.func kdj) [] []]) h).bind fun q2 =>
 ((some q2.1).bind (AV.asInt .i64)).bind fun n3 =>
 some (.bool (decide (n3≥0)),q2.2):=(kf _ h).trans (by kernel_rfl)
theorem kbbp(a1 a2 a3 a4 a5 a6 a7 a8 a9 a10:Int)(h:AH):go (.fn krf [.agg [.int .i64 a1,.int .i64 a2,.int .i64 a3,.int .i64 a4,.int .i64 a5,.int .i64 a6,.int .i64 a7,.int .i64 a8],.int .i64 a9,.int .i64 a10]) h =
 newK h (.cells [.int .i64 a1,.int .i64 a2,.int .i64 a3,.int .i64 a4,.int .i64 a5,.int .i64 a6,.int .i64 a7,.int .i64 a8] kdu) fun h11r h11 =>
 ((h11.cell (h11r.add 0)).bind (AV.asInt .i64)).bind fun n12 =>
 ((h11.cell (h11r.add 1)).bind (AV.asInt .i64)).bind fun n13 =>
 ((h11.cell (h11r.add 2)).bind (AV.asInt .i64)).bind fun n14 =>
 ((h11.cell (h11r.add 3)).bind (AV.asInt .i64)).bind fun n15 =>
 ((h11.cell (h11r.add 4)).bind (AV.asInt .i64)).bind fun n16 =>
 ((h11.cell (h11r.add 5)).bind (AV.asInt .i64)).bind fun n17 =>
 ((h11.cell (h11r.add 6)).bind (AV.asInt .i64)).bind fun n18 =>
 ((h11.cell (h11r.add 7)).bind (AV.asInt .i64)).bind fun n19 =>
 (go (.fn kim [.agg [.int .i64 n12,.int .i64 n13,.int .i64 n14,.int .i64 n15,.int .i64 n16,.int .i64 n17,.int .i64 n18,.int .i64 n19]]) h11).bind fun q20 =>
 ((some q20.1).bind AV.asBool).bind fun b21 =>
 cond (!b21) (
 some (.tup [.int .i64 0,.int .i64 1],q20.2)) (
 (go (.fn kcu [.int .i64 a9,.int .i64 (-1099511627776),.int .i64 1099511627776]) q20.2).bind fun q22 =>
 ((some q22.1).bind AV.asBool).bind fun b23 =>
 cond (!b23) (
 some (.tup [.int .i64 0,.int .i64 1],q22.2)) (
 (go (.fn kcu [.int .i64 a10,.int .i64 (-1048576),.int .i64 1048576]) q22.2).bind fun q24 =>
 ((some q24.1).bind AV.asBool).bind fun b25 =>
 cond (!b25) (
 some (.tup [.int .i64 0,.int .i64 1],q24.2)) (
 ((q24.2.cell (h11r.add 6)).bind (AV.asInt .i64)).bind fun n26 =>
 cond (decide (n26=1)) (
 ((q24.2.cell (h11r.add 7)).bind (AV.asInt .i64)).bind fun n27 =>
 some (.tup [.int .i64 (imin (imax (IntKind.wrap .i64 (a9-a10)) (IntKind.wrap .i64 (0-n27))) n27),.int .i64 0],q24.2)) (
 some (.tup [.int .i64 (imin (imax (IntKind.wrap .i64 (a9-a10)) (IntKind.wrap .i64 (0-1048576))) 1048576),.int .i64 0],q24.2))))):=(kf _ h).trans (by kernel_rfl)
theorem kbcw(a1 a2 a3 a4 a5 a6 a7 a8:Int)(a9 a10 a11:Sl)(h:AH):go (.fn kbt [.agg [.int .i64 a1,.int .i64 a2,.int .i64 a3,.int .i64 a4,.int .i64 a5,.int .i64 a6,.int .i64 a7,.int .i64 a8],a9.v,a10.v,a11.v]) h =
 newK h (.cells [.int .i64 a1,.int .i64 a2,.int .i64 a3,.int .i64 a4,.int .i64 a5,.int .i64 a6,.int .i64 a7,.int .i64 a8] kdu) fun h12r h12 =>
 newK h12 (.cells [(⟨none,0,.is 0⟩:Sl).v] kbz) fun h13r h13 =>
 (go (.fn kfv [.int .i64 (a10.len:Int)]) h13).bind fun q14 =>
 (AV.asTup2 q14.1).bind fun p15 =>
 (AV.asAgg p15.1).bind fun cs16 =>
 cond (Nat.beq cs16.length 2) (
 ((cs16[0]?).bind (AV.asInt .i64)).bind fun n17 =>
 ((cs16[1]?).bind AV.asSl).bind fun l18 =>
 ((some p15.2).bind (AV.asInt .i64)).bind fun n19 =>
 newK q14.2 (.cells [.int .i64 0,(⟨none,0,.is 0⟩:Sl).v] ky) fun h20r h20 =>
 (h20.puts h20r [.int .i64 n17,l18.v]).bind fun h21 =>
 (kbx 1 1 kbl (Pg.bytesOf kbl) [.bool false,.int .i64 0,.int .i64 0,.int .i64 0,.int .i64 0,.int .i64 0,.int .i64 0] h21).bind fun q22 =>
 newK q22.2 (.cells [(⟨none,0,.is 0⟩:Sl).v] kbz) fun h23r h23 =>
 (h23.puts h23r [q22.1.v]).bind fun h24 =>
 ((h24.cell (h20r.add 0)).bind (AV.asInt .i64)).bind fun n25 =>
 ((h24.cell (h20r.add 1)).bind AV.asSl).bind fun l26 =>
 newK h24 (.cells [.int .i64 0,.int .i64 0,.int .i64 n25,l26.v] kbf) fun h27r h27 =>
 newK h27 (.cells [(⟨some h27r,1,.is 1⟩:Sl).v] ksx) fun h28r h28 =>
 go (.pt kbt kfc [(1,a9.v),(2,a10.v),(3,a11.v),(4,.ptr (some h12r)),(8,.ptr (some h13r)),(11,.ptr (some h23r)),(12,.ptr (some h28r))]) h28) none:=(kf _ h).trans (by kernel_rfl)
theorem kw0(a1:Ref)(a2:Sl)(a3 a4:Int)(a5:Sl)(a6 a7:Int)(h:AH):go (.pt kde kmk [(4,.ptr (some a1)),(12,a2.v),(13,.int .i64 a3),(14,.int .i64 a4),(29,a5.v),(30,.int .i64 a6),(31,.int .i64 a7)]) h =
 cond (decide (a7<a6)) (
 (idx a5.ref a5.len a7 7).bind fun r8 =>
 ((h.cell (r8.add 0)).bind AV.asBool).bind fun b9 =>
 ((h.cell (r8.add 1)).bind (AV.asInt .i64)).bind fun n10 =>
 ((h.cell (r8.add 2)).bind (AV.asInt .i64)).bind fun n11 =>
 ((h.cell (r8.add 3)).bind (AV.asInt .i64)).bind fun n12 =>
 ((h.cell (r8.add 4)).bind (AV.asInt .i64)).bind fun n13 =>
 ((h.cell (r8.add 5)).bind (AV.asInt .i64)).bind fun n14 =>
 ((h.cell (r8.add 6)).bind (AV.asInt .i64)).bind fun n15 =>
 newK h (.cells [.bool false,.int .i64 0,.int .i64 0,.int .i64 0,.int .i64 0,.int .i64 0,.int .i64 0] kbl) fun h16r h16 =>
 (h16.puts h16r [.bool b9,.int .i64 n10,.int .i64 n11,.int .i64 n12,.int .i64 n13,.int .i64 n14,.int .i64 n15]).bind fun h17 =>
 ((h17.cell (h16r.add 0)).bind AV.asBool).bind fun b18 =>
 ((h17.cell (h16r.add 1)).bind (AV.asInt .i64)).bind fun n19 =>
 ((h17.cell (h16r.add 2)).bind (AV.asInt .i64)).bind fun n20 =>
 ((h17.cell (h16r.add 3)).bind (AV.asInt .i64)).bind fun n21 =>
 ((h17.cell (h16r.add 4)).bind (AV.asInt .i64)).bind fun n22 =>
 ((h17.cell (h16r.add 5)).bind (AV.asInt .i64)).bind fun n23 =>
 ((h17.cell (h16r.add 6)).bind (AV.asInt .i64)).bind fun n24 =>
 ((h17.cell (a1.add 0)).bind AV.asSl).bind fun l25 =>
 (go (.fn kmb [.agg [.bool b18,.int .i64 n19,.int .i64 n20,.int .i64 n21,.int .i64 n22,.int .i64 n23,.int .i64 n24],.int .i64 a7,.int .i64 (l25.len:Int)]) h17).bind fun q26 =>
 ((some q26.1).bind AV.asBool).bind fun b27 =>
 cond (!b27) (
 some (.bool false,q26.2)) (
 go (.pt kde kmk [(4,.ptr (some a1)),(12,a2.v),(13,.int .i64 a3),(14,.int .i64 a4),(29,a5.v),(30,.int .i64 a6),(31,.int .i64 (IntKind.wrap .i64 (a7+1)))]) q26.2)) (
 go (.pt kde kkf [(12,a2.v),(13,.int .i64 a3),(14,.int .i64 (IntKind.wrap .i64 (a4+1)))]) h):=(kf _ h).trans (by kernel_rfl)
theorem k0h(a1:Bool)(a2 a3 a4 a5 a6 a7 a8 a9:Int)(h:AH):go (.fn kmz [.agg [.bool a1,.int .i64 a2,.int .i64 a3,.int .i64 a4,.int .i64 a5,.int .i64 a6,.int .i64 a7],.int .i64 a8,.int .i64 a9]) h =
 newK h (.cells [.bool a1,.int .i64 a2,.int .i64 a3,.int .i64 a4,.int .i64 a5,.int .i64 a6,.int .i64 a7] kbl) fun h10r h10 =>
 ((h10.cell (h10r.add 0)).bind AV.asBool).bind fun b11 =>
 cond b11 (
 ((h10.cell (h10r.add 1)).bind (AV.asInt .i64)).bind fun n12 =>
 cond (decide (n12≥(-1099511627776))) (
 ((h10.cell (h10r.add 1)).bind (AV.asInt .i64)).bind fun n13 =>
 cond (decide (n13≤1099511627776)) (
 ((h10.cell (h10r.add 0)).bind AV.asBool).bind fun b14 =>
 ((h10.cell (h10r.add 1)).bind (AV.asInt .i64)).bind fun n15 =>
 ((h10.cell (h10r.add 2)).bind (AV.asInt .i64)).bind fun n16 =>
 ((h10.cell (h10r.add 3)).bind (AV.asInt .i64)).bind fun n17 =>
 ((h10.cell (h10r.add 4)).bind (AV.asInt .i64)).bind fun n18 =>
 ((h10.cell (h10r.add 5)).bind (AV.asInt .i64)).bind fun n19 =>
 ((h10.cell (h10r.add 6)).bind (AV.asInt .i64)).bind fun n20 =>
 ((h10.cell (h10r.add 1)).bind (AV.asInt .i64)).bind fun n21 =>
 some (.bool ((b14==true)&&((decide (n15=n21))&&((decide (n16=0))&&((decide (n17=0))&&((decide (n18=0))&&((decide (n19=0))&&((decide (n20=0))&&true))))))),h10)) (
 some (.bool false,h10))) (
 some (.bool false,h10))) (
 ((h10.cell (h10r.add 1)).bind (AV.asInt .i64)).bind fun n22 =>
 cond (!decide (n22=0)) (
 some (.bool false,h10)) (
 ((h10.cell (h10r.add 2)).bind (AV.asInt .i64)).bind fun n23 =>
 cond (decide (n23<0)) (
 some (.bool false,h10)) (
 ((h10.cell (h10r.add 2)).bind (AV.asInt .i64)).bind fun n24 =>
 cond (decide (n24>15)) (
 some (.bool false,h10)) (
 ((h10.cell (h10r.add 3)).bind (AV.asInt .i64)).bind fun n25 =>
 cond (decide (n25<0)) (
 some (.bool false,h10)) (
 ((h10.cell (h10r.add 3)).bind (AV.asInt .i64)).bind fun n26 =>
 cond (decide (n26>1073741824)) (
 some (.bool false,h10)) (
 ((h10.cell (h10r.add 4)).bind (AV.asInt .i64)).bind fun n27 =>
 cond (decide (n27<0)) (
 some (.bool false,h10)) (
 ((h10.cell (h10r.add 4)).bind (AV.asInt .i64)).bind fun n28 =>
 cond (decide (n28>31)) (
 some (.bool false,h10)) (
 ((h10.cell (h10r.add 5)).bind (AV.asInt .i64)).bind fun n29 =>
 cond (decide (n29>a8)) (
 ((h10.cell (h10r.add 5)).bind (AV.asInt .i64)).bind fun n30 =>
 cond (decide (n30<a9)) (
 ((h10.cell (h10r.add 6)).bind (AV.asInt .i64)).bind fun n31 =>
 cond (decide (n31>a8)) (
 ((h10.cell (h10r.add 6)).bind (AV.asInt .i64)).bind fun n32 =>
 cond (decide (n32<a9)) (
 ((h10.cell (h10r.add 5)).bind (AV.asInt .i64)).bind fun n33 =>
 ((h10.cell (h10r.add 6)).bind (AV.asInt .i64)).bind fun n34 =>
 some (.bool (!decide (n33=n34)),h10)) (
 some (.bool false,h10))) (
 some (.bool false,h10))) (
 some (.bool false,h10))) (
 some (.bool false,h10)))))))))):=(kf _ h).trans (by kernel_rfl)
theorem krx(a1:Int)(a2:Sl)(h:AH):go (.pt kev kl8 [(0,.int .u64 a1),(3,a2.v)]) h =
 cond (decide (a1≥128)) (
 newK h (.cells [.int .u8 (ior .u8 (IntKind.wrap .u8 a1) 128)] kj) fun h3r h3 =>
 (kbd Pg kj ((⟨some h3r,1,.is 1⟩:Sl).v) h3).bind fun p5 =>
 (kz Pg a2 p5.1 p5.2 kj 1 h3).bind fun q4 =>
 (AV.asSl q4.1).bind fun l6 =>
 go (.pt kev kl8 [(0,.int .u64 (ishr .u64 a1 7)),(3,l6.v)]) q4.2) (
 newK h (.cells [.int .u8 (IntKind.wrap .u8 a1)] kj) fun h7r h7 =>
 (kbd Pg kj ((⟨some h7r,1,.is 1⟩:Sl).v) h7).bind fun p9 =>
 (kz Pg a2 p9.1 p9.2 kj 1 h7).bind fun q8 =>
 (AV.asSl q8.1).bind fun l10 =>
 some (l10.v,q8.2)):=(kf _ h).trans (by kernel_rfl)
theorem kyc(a1 a2:Sl)(a3 a4:Int)(a5:Sl)(a6 a7:Int)(h:AH):go (.pt kb3 kjb [(3,a1.v),(17,a2.v),(18,.int .i64 a3),(19,.int .i64 a4),(31,a5.v),(32,.int .i64 a6),(33,.int .i64 a7)]) h =
 cond (decide (a7<a6)) (
 (idx a5.ref a5.len a7 7).bind fun r8 =>
 ((h.cell (r8.add 0)).bind AV.asBool).bind fun b9 =>
 ((h.cell (r8.add 1)).bind (AV.asInt .i64)).bind fun n10 =>
 ((h.cell (r8.add 2)).bind (AV.asInt .i64)).bind fun n11 =>
 ((h.cell (r8.add 3)).bind (AV.asInt .i64)).bind fun n12 =>
 ((h.cell (r8.add 4)).bind (AV.asInt .i64)).bind fun n13 =>
 ((h.cell (r8.add 5)).bind (AV.asInt .i64)).bind fun n14 =>
 ((h.cell (r8.add 6)).bind (AV.asInt .i64)).bind fun n15 =>
 newK h (.cells [.bool false,.int .i64 0,.int .i64 0,.int .i64 0,.int .i64 0,.int .i64 0,.int .i64 0] kbl) fun h16r h16 =>
 (h16.puts h16r [.bool b9,.int .i64 n10,.int .i64 n11,.int .i64 n12,.int .i64 n13,.int .i64 n14,.int .i64 n15]).bind fun h17 =>
 ((h17.cell (h16r.add 0)).bind AV.asBool).bind fun b18 =>
 cond b18 (
 newK h17 (.cells [.int .u8 1] kj) fun h19r h19 =>
 (kbd Pg kj ((⟨some h19r,1,.is 1⟩:Sl).v) h19).bind fun p21 =>
 (kz Pg a1 p21.1 p21.2 kj 1 h19).bind fun q20 =>
 (AV.asSl q20.1).bind fun l22 =>
 ((q20.2.cell (h16r.add 1)).bind (AV.asInt .i64)).bind fun n23 =>
 ((q20.2.cell (h16r.add 2)).bind (AV.asInt .i64)).bind fun n24 =>
 ((q20.2.cell (h16r.add 3)).bind (AV.asInt .i64)).bind fun n25 =>
 ((q20.2.cell (h16r.add 4)).bind (AV.asInt .i64)).bind fun n26 =>
 ((q20.2.cell (h16r.add 5)).bind (AV.asInt .i64)).bind fun n27 =>
 ((q20.2.cell (h16r.add 6)).bind (AV.asInt .i64)).bind fun n28 =>
 newK q20.2 (.cells [.int .i64 n23,.int .i64 n24,.int .i64 n25,.int .i64 n26,.int .i64 n27,.int .i64 n28] T.int) fun h29r h29 =>
 go (.pt kb3 kke [(3,l22.v),(17,a2.v),(18,.int .i64 a3),(19,.int .i64 a4),(31,a5.v),(32,.int .i64 a6),(33,.int .i64 a7),(55,(⟨some h29r,6,.is 6⟩:Sl).v),(56,.int .i64 6),(57,.int .i64 0)]) h29) (
 newK h17 (.cells [.int .u8 0] kj) fun h30r h30 =>
 (kbd Pg kj ((⟨some h30r,1,.is 1⟩:Sl).v) h30).bind fun p32 =>
 (kz Pg a1 p32.1 p32.2 kj 1 h30).bind fun q31 =>
 (AV.asSl q31.1).bind fun l33 =>
 ((q31.2.cell (h16r.add 1)).bind (AV.asInt .i64)).bind fun n34 =>
 ((q31.2.cell (h16r.add 2)).bind (AV.asInt .i64)).bind fun n35 =>
 ((q31.2.cell (h16r.add 3)).bind (AV.asInt .i64)).bind fun n36 =>
 ((q31.2.cell (h16r.add 4)).bind (AV.asInt .i64)).bind fun n37 =>
 ((q31.2.cell (h16r.add 5)).bind (AV.asInt .i64)).bind fun n38 =>
 ((q31.2.cell (h16r.add 6)).bind (AV.asInt .i64)).bind fun n39 =>
 newK q31.2 (.cells [.int .i64 n34,.int .i64 n35,.int .i64 n36,.int .i64 n37,.int .i64 n38,.int .i64 n39] T.int) fun h40r h40 =>
 go (.pt kb3 kke [(3,l33.v),(17,a2.v),(18,.int .i64 a3),(19,.int .i64 a4),(31,a5.v),(32,.int .i64 a6),(33,.int .i64 a7),(55,(⟨some h40r,6,.is 6⟩:Sl).v),(56,.int .i64 6),(57,.int .i64 0)]) h40)) (
 go (.pt kb3 kks [(3,a1.v),(17,a2.v),(18,.int .i64 a3),(19,.int .i64 (IntKind.wrap .i64 (a4+1)))]) h):=(kf _ h).trans (by kernel_rfl)
theorem k0q(a1:Sl)(h:AH):go (.fn kg6 [a1.v]) h =
 (go (.fn kc5 []) h).bind fun q2 =>
 (AV.asAgg q2.1).bind fun cs3 =>
 cond (Nat.beq cs3.length 256) (
 kb7 (fun i=>cs3[i]?) (List.replicate 256 (.int .u32)) 0 fun vs4 =>
 newK q2.2 (.cells (List.replicate 256 (.int .u32 0)) kef) fun h5r h5 =>
 cond (Nat.beq vs4.length 256) (
 (h5.puts h5r vs4).bind fun h6 =>
 go (.pt kg6 knm [(3,.ptr (some h5r)),(4,.int .u32 4294967295),(8,a1.v),(9,.int .i64 (a1.len:Int)),(10,.int .i64 0)]) h6) none) none:=(kf _ h).trans (by kernel_rfl)
theorem kxp(a1:Int)(a2:Sl)(h:AH):go (.pt ker klb [(0,.int .u64 a1),(3,a2.v)]) h =
 cond (decide (a1≥128)) (
 newK h (.cells [.int .u8 (IntKind.wrap .u8 (IntKind.wrap .u64 ((Int.tmod a1 128)+128)))] kj) fun h3r h3 =>
 (kbd Pg kj ((⟨some h3r,1,.is 1⟩:Sl).v) h3).bind fun p5 =>
 (kz Pg a2 p5.1 p5.2 kj 1 h3).bind fun q4 =>
 (AV.asSl q4.1).bind fun l6 =>
 go (.pt ker klb [(0,.int .u64 (IntKind.wrap .u64 (Int.tdiv a1 128))),(3,l6.v)]) q4.2) (
 newK h (.cells [.int .u8 (IntKind.wrap .u8 a1)] kj) fun h7r h7 =>
 (kbd Pg kj ((⟨some h7r,1,.is 1⟩:Sl).v) h7).bind fun p9 =>
 (kz Pg a2 p9.1 p9.2 kj 1 h7).bind fun q8 =>
 (AV.asSl q8.1).bind fun l10 =>
 some (l10.v,q8.2)):=(kf _ h).trans (by kernel_rfl)
theorem kr2(a1:Ref)(a2:Sl)(a3:Int)(a4:Sl)(a5:Int)(h:AH):go (.pt kb2 kkd [(1,.ptr (some a1)),(3,a2.v),(4,.int .i64 a3),(5,a4.v),(6,.int .i64 a5)]) h =
 cond (decide (a5<(a4.len:Int))) (
 (idx a4.ref a4.len a5 7).bind fun r6 =>
 ((h.cell (r6.add 0)).bind AV.asBool).bind fun b7 =>
 ((h.cell (r6.add 1)).bind (AV.asInt .i64)).bind fun n8 =>
 ((h.cell (r6.add 2)).bind (AV.asInt .i64)).bind fun n9 =>
 ((h.cell (r6.add 3)).bind (AV.asInt .i64)).bind fun n10 =>
 ((h.cell (r6.add 4)).bind (AV.asInt .i64)).bind fun n11 =>
 ((h.cell (r6.add 5)).bind (AV.asInt .i64)).bind fun n12 =>
 ((h.cell (r6.add 6)).bind (AV.asInt .i64)).bind fun n13 =>
 newK h (.cells [.bool false,.int .i64 0,.int .i64 0,.int .i64 0,.int .i64 0,.int .i64 0,.int .i64 0] kbl) fun h14r h14 =>
 (h14.puts h14r [.bool b7,.int .i64 n8,.int .i64 n9,.int .i64 n10,.int .i64 n11,.int .i64 n12,.int .i64 n13]).bind fun h15 =>
 ((h15.cell (h14r.add 0)).bind AV.asBool).bind fun b16 =>
 cond b16 (
 newK h15 (.cells [.int .u8 1] kj) fun h17r h17 =>
 (kbd Pg kj ((⟨some h17r,1,.is 1⟩:Sl).v) h17).bind fun p19 =>
 (kz Pg a2 p19.1 p19.2 kj 1 h17).bind fun q18 =>
 (AV.asSl q18.1).bind fun l20 =>
 ((q18.2.cell (h14r.add 1)).bind (AV.asInt .i64)).bind fun n21 =>
 ((q18.2.cell (h14r.add 2)).bind (AV.asInt .i64)).bind fun n22 =>
 ((q18.2.cell (h14r.add 3)).bind (AV.asInt .i64)).bind fun n23 =>
 ((q18.2.cell (h14r.add 4)).bind (AV.asInt .i64)).bind fun n24 =>
 ((q18.2.cell (h14r.add 5)).bind (AV.asInt .i64)).bind fun n25 =>
 ((q18.2.cell (h14r.add 6)).bind (AV.asInt .i64)).bind fun n26 =>
 newK q18.2 (.cells [.int .i64 n21,.int .i64 n22,.int .i64 n23,.int .i64 n24,.int .i64 n25,.int .i64 n26] T.int) fun h27r h27 =>
 go (.pt kb2 kkh [(1,.ptr (some a1)),(3,l20.v),(4,.int .i64 a3),(5,a4.v),(6,.int .i64 a5),(8,(⟨some h27r,6,.is 6⟩:Sl).v),(9,.int .i64 0)]) h27) (
 newK h15 (.cells [.int .u8 0] kj) fun h28r h28 =>
 (kbd Pg kj ((⟨some h28r,1,.is 1⟩:Sl).v) h28).bind fun p30 =>
 (kz Pg a2 p30.1 p30.2 kj 1 h28).bind fun q29 =>
 (AV.asSl q29.1).bind fun l31 =>
 ((q29.2.cell (h14r.add 1)).bind (AV.asInt .i64)).bind fun n32 =>
 ((q29.2.cell (h14r.add 2)).bind (AV.asInt .i64)).bind fun n33 =>
 ((q29.2.cell (h14r.add 3)).bind (AV.asInt .i64)).bind fun n34 =>
 ((q29.2.cell (h14r.add 4)).bind (AV.asInt .i64)).bind fun n35 =>
 ((q29.2.cell (h14r.add 5)).bind (AV.asInt .i64)).bind fun n36 =>
 ((q29.2.cell (h14r.add 6)).bind (AV.asInt .i64)).bind fun n37 =>
 newK q29.2 (.cells [.int .i64 n32,.int .i64 n33,.int .i64 n34,.int .i64 n35,.int .i64 n36,.int .i64 n37] T.int) fun h38r h38 =>
 go (.pt kb2 kkh [(1,.ptr (some a1)),(3,l31.v),(4,.int .i64 a3),(5,a4.v),(6,.int .i64 a5),(8,(⟨some h38r,6,.is 6⟩:Sl).v),(9,.int .i64 0)]) h38)) (
 go (.pt kb2 ki8 [(1,.ptr (some a1)),(3,a2.v),(4,.int .i64 (IntKind.wrap .i64 (a3+1)))]) h):=(kf _ h).trans (by kernel_rfl)
theorem k0w(a1:Sl)(h:AH):go (.fn kcq [a1.v]) h =
 go (.pt kcq kjx [(0,a1.v),(3,.int .u32 4294967295),(4,.int .i64 0)]) h:=(kf _ h).trans (by kernel_rfl)
theorem k8o(a1 a2:Int)(h:AH):go (.fn klp [.int .u64 a1,.int .u64 a2]) h =
 some (.tup [.int .u64 (IntKind.wrap .u64 ((IntKind.wrap .u64 ((IntKind.wrap .u64 ((ishr .u64 a1 32)*(ishr .u64 a2 32)))+(ishr .u64 (IntKind.wrap .u64 ((IntKind.wrap .u64 ((ishr .u64 a1 32)*(iand .u64 a2 4294967295)))+(ishr .u64 (IntKind.wrap .u64 ((iand .u64 a1 4294967295)*(iand .u64 a2 4294967295))) 32))) 32)))+(ishr .u64 (IntKind.wrap .u64 ((iand .u64 (IntKind.wrap .u64 ((IntKind.wrap .u64 ((ishr .u64 a1 32)*(iand .u64 a2 4294967295)))+(ishr .u64 (IntKind.wrap .u64 ((iand .u64 a1 4294967295)*(iand .u64 a2 4294967295))) 32))) 4294967295)+(IntKind.wrap .u64 ((iand .u64 a1 4294967295)*(ishr .u64 a2 32))))) 32))),.int .u64 (IntKind.wrap .u64 (a1*a2))],h):=(kf _ h).trans (by kernel_rfl)
theorem k8y(a1:Sl)(h:AH):go (.fn kqh [a1.v]) h =
 cond (decide ((a1.len:Int)≤256)) (
 (go (.fn kdg [a1.v,.func (.func kdc) [] []]) h).bind fun q2 =>
 ((some q2.1).bind AV.asBool).bind fun b3 =>
 cond (!b3) (
 (go (.fn kgq [a1.v]) q2.2).bind fun q4 =>
 ((some q4.1).bind AV.asMap).bind fun m5 =>
 (mapLen q4.2 m5).bind fun n6 =>
 some (.bool (decide ((n6:Int)=(a1.len:Int))),q4.2)) (
 some (.bool false,q2.2))) (
 some (.bool false,h)):=(kf _ h).trans (by kernel_rfl)
theorem kt6(a1:Ref)(a2:Sl)(a3 a4:Int)(h:AH):go (.pt kfn knr [(1,.ptr (some a1)),(27,a2.v),(28,.int .i64 a3),(29,.int .i64 a4)]) h =
 cond (decide (a4<a3)) (
 (idx a2.ref a2.len a4 1).bind fun r5 =>
 ((h.cell r5).bind AV.asSl).bind fun l6 =>
 ((h.cell (a1.add 1)).bind AV.asSl).bind fun l7 =>
 (idx l7.ref l7.len a4 1).bind fun r8 =>
 ((h.cell r8).bind (AV.asInt .i64)).bind fun n9 =>
 newK h (.cells [.int .i64 0] T.int) fun h10r h10 =>
 (h10.puts h10r [.int .i64 n9]).bind fun h11 =>
 ((h11.cell h10r).bind (AV.asInt .i64)).bind fun n12 =>
 cond (decide (n12<2)) (
 some (.bool false,h11)) (
 ((h11.cell h10r).bind (AV.asInt .i64)).bind fun n13 =>
 cond (decide (n13>32)) (
 some (.bool false,h11)) (
 ((h11.cell (a1.add 0)).bind AV.asSl).bind fun l14 =>
 cond (!decide ((l6.len:Int)=(l14.len:Int))) (
 some (.bool false,h11)) (
 (go (.fn kdg [l6.v,.func (.func kdl) [] [.ptr (some h10r)]]) h11).bind fun q15 =>
 ((some q15.1).bind AV.asBool).bind fun b16 =>
 cond b16 (
 some (.bool false,q15.2)) (
 go (.pt kfn knr [(1,.ptr (some a1)),(27,a2.v),(28,.int .i64 a3),(29,.int .i64 (IntKind.wrap .i64 (a4+1)))]) q15.2))))) (
 some (.bool true,h)):=(kf _ h).trans (by kernel_rfl)
theorem ktt(a1 a2:Sl)(a3 a4:Int)(h:AH):go (.pt kgx kne [(0,a1.v),(1,a2.v),(12,.int .i64 a3),(13,.int .i64 a4)]) h =
 cond (decide (a4<a3)) (
 (idx a1.ref a1.len a4 1).bind fun r5 =>
 ((h.cell r5).bind (AV.asInt .i64)).bind fun n6 =>
 (idx a2.ref a2.len a4 1).bind fun r7 =>
 ((h.cell r7).bind (AV.asInt .i64)).bind fun n8 =>
 cond (!decide (n6=n8)) (
 some (.bool false,h)) (
 go (.pt kgx kne [(0,a1.v),(1,a2.v),(12,.int .i64 a3),(13,.int .i64 (IntKind.wrap .i64 (a4+1)))]) h)) (
 some (.bool true,h)):=(kf _ h).trans (by kernel_rfl)
theorem k7h(a1:Sl)(h:AH):go (.fn kbn [a1.v,.func (.func kdj) [] []]) h =
 go (.pt kbn kcg [(0,a1.v),(1,.func (.func kdj) [] []),(7,.int .i64 (a1.len:Int)),(8,.int .i64 0)]) h:=(kf _ h).trans (by kernel_rfl)
theorem kys(a1:Int)(h:AH):go (.fn kfv [.int .i64 a1]) h =
 newK h (.cells [.int .i64 0,(⟨none,0,.is 0⟩:Sl).v] ky) fun h2r h2 =>
 (go (.fn khd [.int .i64 a1]) h2).bind fun q3 =>
 (AV.asTup2 q3.1).bind fun p4 =>
 (AV.asAgg p4.1).bind fun cs5 =>
 cond (Nat.beq cs5.length 2) (
 ((cs5[0]?).bind (AV.asInt .i64)).bind fun n6 =>
 ((cs5[1]?).bind AV.asSl).bind fun l7 =>
 ((some p4.2).bind (AV.asInt .i64)).bind fun n8 =>
 newK q3.2 (.cells [.int .i64 0,(⟨none,0,.is 0⟩:Sl).v] ky) fun h9r h9 =>
 (h9.puts h9r [.int .i64 n6,l7.v]).bind fun h10 =>
 ((h10.cell (h9r.add 1)).bind AV.asSl).bind fun l11 =>
 go (.pt kfv ki4 [(0,.int .i64 a1),(2,.ptr (some h2r)),(4,.ptr (some h9r)),(5,.int .i64 n8),(15,.int .i64 (l11.len:Int)),(16,.int .i64 0)]) h10) none:=(kf _ h).trans (by kernel_rfl)
theorem kxs(a1 a2 a3:Sl)(a4 a5 a6 a7:Ref)(h:AH):go (.pt kbt kfc [(1,a1.v),(2,a2.v),(3,a3.v),(4,.ptr (some a4)),(8,.ptr (some a5)),(11,.ptr (some a6)),(12,.ptr (some a7))]) h =
 ((h.cell a7).bind AV.asSl).bind fun l8 =>
 (go (.fn knw [l8.v]) h).bind fun q9 =>
 ((some q9.1).bind (AV.asInt .i64)).bind fun n10 =>
 cond (decide (n10>0)) (
 (go (.fn krl [.iface kbp (.ptr (some a7))]) q9.2).bind fun q11 =>
 (AV.asIface q11.1).bind fun p12 =>
 cond (Nat.beq p12.1 kbf) (
 (AV.asAgg p12.2).bind fun cs13 =>
 cond (Nat.beq cs13.length 4) (
 ((cs13[0]?).bind (AV.asInt .i64)).bind fun n14 =>
 ((cs13[1]?).bind (AV.asInt .i64)).bind fun n15 =>
 ((cs13[2]?).bind (AV.asInt .i64)).bind fun n16 =>
 ((cs13[3]?).bind AV.asSl).bind fun l17 =>
 newK q11.2 (.cells [.int .i64 0,.int .i64 0,.int .i64 0,(⟨none,0,.is 0⟩:Sl).v] kbf) fun h18r h18 =>
 (h18.puts h18r [.int .i64 n14,.int .i64 n15,.int .i64 n16,l17.v]).bind fun h19 =>
 ((h19.cell ((h18r.add 2).add 0)).bind (AV.asInt .i64)).bind fun n20 =>
 ((h19.cell ((h18r.add 2).add 1)).bind AV.asSl).bind fun l21 =>
 (go (.fn kfh [a2.v,.agg [.int .i64 n20,l21.v]]) h19).bind fun q22 =>
 (AV.asAgg q22.1).bind fun cs23 =>
 cond (Nat.beq cs23.length 2) (
 ((cs23[0]?).bind (AV.asInt .i64)).bind fun n24 =>
 ((cs23[1]?).bind (AV.asInt .i64)).bind fun n25 =>
 newK q22.2 (.cells [.int .i64 0,.int .i64 0] kbc) fun h26r h26 =>
 (h26.puts h26r [.int .i64 n24,.int .i64 n25]).bind fun h27 =>
 ((h27.cell (h18r.add 1)).bind (AV.asInt .i64)).bind fun n28 =>
 ((h27.cell (a4.add 1)).bind (AV.asInt .i64)).bind fun n29 =>
 cond (decide (n28<n29)) (
 ((h27.cell ((h18r.add 2).add 0)).bind (AV.asInt .i64)).bind fun n30 =>
 ((h27.cell ((h18r.add 2).add 1)).bind AV.asSl).bind fun l31 =>
 (go (.fn kcb [a1.v,a2.v,.agg [.int .i64 n30,l31.v]]) h27).bind fun q32 =>
 (AV.asTup2 q32.1).bind fun p33 =>
 ((some p33.1).bind AV.asSl).bind fun l34 =>
 ((some p33.2).bind AV.asSl).bind fun l35 =>
 ((q32.2.cell (a4.add 2)).bind (AV.asInt .i64)).bind fun n36 =>
 ((q32.2.cell (a4.add 3)).bind (AV.asInt .i64)).bind fun n37 =>
 ((q32.2.cell (h26r.add 0)).bind (AV.asInt .i64)).bind fun n38 =>
 ((q32.2.cell (h26r.add 1)).bind (AV.asInt .i64)).bind fun n39 =>
 (go (.fn kee [.int .i64 n36,.int .i64 n37,.agg [.int .i64 n38,.int .i64 n39],l35.v]) q32.2).bind fun q40 =>
 (AV.asTup2 q40.1).bind fun p41 =>
 ((some p41.1).bind AV.asSl).bind fun l42 =>
 ((some p41.2).bind (AV.asInt .i64)).bind fun n43 =>
 go (.pt kbt khb [(1,a1.v),(2,a2.v),(3,a3.v),(4,.ptr (some a4)),(8,.ptr (some a5)),(11,.ptr (some a6)),(12,.ptr (some a7)),(13,.ptr (some h18r)),(14,.ptr (some h26r)),(15,l42.v),(16,l34.v)]) q40.2) (
 go (.pt kbt khb [(1,a1.v),(2,a2.v),(3,a3.v),(4,.ptr (some a4)),(8,.ptr (some a5)),(11,.ptr (some a6)),(12,.ptr (some a7)),(13,.ptr (some h18r)),(14,.ptr (some h26r)),(15,(⟨none,0,.is 0⟩:Sl).v),(16,(⟨none,0,.is 0⟩:Sl).v)]) h27)) none) none) none) (
 ((q9.2.cell (a6.add 0)).bind AV.asSl).bind fun l44 =>
 (q9.2.puts a5 [l44.v]).bind fun h45 =>
 ((h45.cell (a5.add 0)).bind AV.asSl).bind fun l46 =>
 some (.agg [l46.v],h45)):=(kf _ h).trans (by kernel_rfl)
theorem k8e(a1:Bool)(a2 a3 a4 a5 a6 a7 a8 a9:Int)(h:AH):go (.fn kmb [.agg [.bool a1,.int .i64 a2,.int .i64 a3,.int .i64 a4,.int .i64 a5,.int .i64 a6,.int .i64 a7],.int .i64 a8,.int .i64 a9]) h =
 newK h (.cells [.bool a1,.int .i64 a2,.int .i64 a3,.int .i64 a4,.int .i64 a5,.int .i64 a6,.int .i64 a7] kbl) fun h10r h10 =>
 newK h10 (.cells [.int .i64 a8] T.int) fun h11r h11 =>
 newK h11 (.cells [.int .i64 a9] T.int) fun h12r h12 =>
 newK h12 (.cells [.nilFunc] kbdi) fun h13r h13 =>
 (h13.puts h13r [.func (.func ke9) [] []]).bind fun h14 =>
 ((h14.cell (h10r.add 0)).bind AV.asBool).bind fun b15 =>
 cond b15 (
 (h14.cell h13r).bind fun v16 =>
 ((h14.cell (h10r.add 1)).bind (AV.asInt .i64)).bind fun n17 =>
 yieldK v16 [.int .i64 n17,.int .i64 (-1099511627776),.int .i64 1099511627776] (fun y19 =>
 (go (.round y19.1 y19.2) h14).bind fun q18 =>
 ((some q18.1).bind AV.asBool).bind fun b21 =>
 cond b21 (
 ((q18.2.cell (h10r.add 0)).bind AV.asBool).bind fun b22 =>
 ((q18.2.cell (h10r.add 1)).bind (AV.asInt .i64)).bind fun n23 =>
 ((q18.2.cell (h10r.add 2)).bind (AV.asInt .i64)).bind fun n24 =>
 ((q18.2.cell (h10r.add 3)).bind (AV.asInt .i64)).bind fun n25 =>
 ((q18.2.cell (h10r.add 4)).bind (AV.asInt .i64)).bind fun n26 =>
 ((q18.2.cell (h10r.add 5)).bind (AV.asInt .i64)).bind fun n27 =>
 ((q18.2.cell (h10r.add 6)).bind (AV.asInt .i64)).bind fun n28 =>
 ((q18.2.cell (h10r.add 1)).bind (AV.asInt .i64)).bind fun n29 =>
 some (.bool ((b22==true)&&((decide (n23=n29))&&((decide (n24=0))&&((decide (n25=0))&&((decide (n26=0))&&((decide (n27=0))&&((decide (n28=0))&&true))))))),q18.2)) (
 some (.bool false,q18.2))) (
 (callV Pg go v16 [.int .i64 n17,.int .i64 (-1099511627776),.int .i64 1099511627776] h14).bind fun q20 =>
 ((some q20.1).bind AV.asBool).bind fun b30 =>
 cond b30 (
 ((q20.2.cell (h10r.add 0)).bind AV.asBool).bind fun b31 =>
 ((q20.2.cell (h10r.add 1)).bind (AV.asInt .i64)).bind fun n32 =>
 ((q20.2.cell (h10r.add 2)).bind (AV.asInt .i64)).bind fun n33 =>
 ((q20.2.cell (h10r.add 3)).bind (AV.asInt .i64)).bind fun n34 =>
 ((q20.2.cell (h10r.add 4)).bind (AV.asInt .i64)).bind fun n35 =>
 ((q20.2.cell (h10r.add 5)).bind (AV.asInt .i64)).bind fun n36 =>
 ((q20.2.cell (h10r.add 6)).bind (AV.asInt .i64)).bind fun n37 =>
 ((q20.2.cell (h10r.add 1)).bind (AV.asInt .i64)).bind fun n38 =>
 some (.bool ((b31==true)&&((decide (n32=n38))&&((decide (n33=0))&&((decide (n34=0))&&((decide (n35=0))&&((decide (n36=0))&&((decide (n37=0))&&true))))))),q20.2)) (
 some (.bool false,q20.2)))) (
 ((h14.cell (h10r.add 1)).bind (AV.asInt .i64)).bind fun n39 =>
 cond (decide (n39=0)) (
 (h14.cell h13r).bind fun v40 =>
 ((h14.cell (h10r.add 2)).bind (AV.asInt .i64)).bind fun n41 =>
 yieldK v40 [.int .i64 n41,.int .i64 0,.int .i64 15] (fun y43 =>
 (go (.round y43.1 y43.2) h14).bind fun q42 =>
 ((some q42.1).bind AV.asBool).bind fun b45 =>
 cond b45 (
 (q42.2.cell h13r).bind fun v46 =>
 ((q42.2.cell (h10r.add 3)).bind (AV.asInt .i64)).bind fun n47 =>
 yieldK v46 [.int .i64 n47,.int .i64 0,.int .i64 1073741824] (fun y49 =>
 (go (.round y49.1 y49.2) q42.2).bind fun q48 =>
 ((some q48.1).bind AV.asBool).bind fun b51 =>
 cond b51 (
 (q48.2.cell h13r).bind fun v52 =>
 ((q48.2.cell (h10r.add 4)).bind (AV.asInt .i64)).bind fun n53 =>
 yieldK v52 [.int .i64 n53,.int .i64 0,.int .i64 31] (fun y55 =>
 (go (.round y55.1 y55.2) q48.2).bind fun q54 =>
 ((some q54.1).bind AV.asBool).bind fun b57 =>
 cond b57 (
 ((q54.2.cell (h10r.add 5)).bind (AV.asInt .i64)).bind fun n58 =>
 (go (.fn kb0 [.int .i64 n58,.ptr (some h13r),.ptr (some h11r),.ptr (some h12r)]) q54.2).bind fun q59 =>
 ((some q59.1).bind AV.asBool).bind fun b60 =>
 cond b60 (
 ((q59.2.cell (h10r.add 6)).bind (AV.asInt .i64)).bind fun n61 =>
 (go (.fn kb0 [.int .i64 n61,.ptr (some h13r),.ptr (some h11r),.ptr (some h12r)]) q59.2).bind fun q62 =>
 ((some q62.1).bind AV.asBool).bind fun b63 =>
 cond b63 (
 ((q62.2.cell (h10r.add 5)).bind (AV.asInt .i64)).bind fun n64 =>
 ((q62.2.cell (h10r.add 6)).bind (AV.asInt .i64)).bind fun n65 =>
 some (.bool (!decide (n64=n65)),q62.2)) (
 some (.bool false,q62.2))) (
 some (.bool false,q59.2))) (
 some (.bool false,q54.2))) (
 (callV Pg go v52 [.int .i64 n53,.int .i64 0,.int .i64 31] q48.2).bind fun q56 =>
 ((some q56.1).bind AV.asBool).bind fun b66 =>
 cond b66 (
 ((q56.2.cell (h10r.add 5)).bind (AV.asInt .i64)).bind fun n67 =>
 (go (.fn kb0 [.int .i64 n67,.ptr (some h13r),.ptr (some h11r),.ptr (some h12r)]) q56.2).bind fun q68 =>
 ((some q68.1).bind AV.asBool).bind fun b69 =>
 cond b69 (
 ((q68.2.cell (h10r.add 6)).bind (AV.asInt .i64)).bind fun n70 =>
 (go (.fn kb0 [.int .i64 n70,.ptr (some h13r),.ptr (some h11r),.ptr (some h12r)]) q68.2).bind fun q71 =>
 ((some q71.1).bind AV.asBool).bind fun b72 =>
 cond b72 (
 ((q71.2.cell (h10r.add 5)).bind (AV.asInt .i64)).bind fun n73 =>
 ((q71.2.cell (h10r.add 6)).bind (AV.asInt .i64)).bind fun n74 =>
 some (.bool (!decide (n73=n74)),q71.2)) (
 some (.bool false,q71.2))) (
 some (.bool false,q68.2))) (
 some (.bool false,q56.2)))) (
 some (.bool false,q48.2))) (
 (callV Pg go v46 [.int .i64 n47,.int .i64 0,.int .i64 1073741824] q42.2).bind fun q50 =>
 ((some q50.1).bind AV.asBool).bind fun b75 =>
 cond b75 (
 (q50.2.cell h13r).bind fun v76 =>
 ((q50.2.cell (h10r.add 4)).bind (AV.asInt .i64)).bind fun n77 =>
 yieldK v76 [.int .i64 n77,.int .i64 0,.int .i64 31] (fun y79 =>
 (go (.round y79.1 y79.2) q50.2).bind fun q78 =>
 ((some q78.1).bind AV.asBool).bind fun b81 =>
 cond b81 (
 ((q78.2.cell (h10r.add 5)).bind (AV.asInt .i64)).bind fun n82 =>
 (go (.fn kb0 [.int .i64 n82,.ptr (some h13r),.ptr (some h11r),.ptr (some h12r)]) q78.2).bind fun q83 =>
 ((some q83.1).bind AV.asBool).bind fun b84 =>
 cond b84 (
 ((q83.2.cell (h10r.add 6)).bind (AV.asInt .i64)).bind fun n85 =>
 (go (.fn kb0 [.int .i64 n85,.ptr (some h13r),.ptr (some h11r),.ptr (some h12r)]) q83.2).bind fun q86 =>
 ((some q86.1).bind AV.asBool).bind fun b87 =>
 cond b87 (
 ((q86.2.cell (h10r.add 5)).bind (AV.asInt .i64)).bind fun n88 =>
 ((q86.2.cell (h10r.add 6)).bind (AV.asInt .i64)).bind fun n89 =>
 some (.bool (!decide (n88=n89)),q86.2)) (
 some (.bool false,q86.2))) (
 some (.bool false,q83.2))) (
 some (.bool false,q78.2))) (
 (callV Pg go v76 [.int .i64 n77,.int .i64 0,.int .i64 31] q50.2).bind fun q80 =>
 ((some q80.1).bind AV.asBool).bind fun b90 =>
 cond b90 (
 ((q80.2.cell (h10r.add 5)).bind (AV.asInt .i64)).bind fun n91 =>
 (go (.fn kb0 [.int .i64 n91,.ptr (some h13r),.ptr (some h11r),.ptr (some h12r)]) q80.2).bind fun q92 =>
 ((some q92.1).bind AV.asBool).bind fun b93 =>
 cond b93 (
 ((q92.2.cell (h10r.add 6)).bind (AV.asInt .i64)).bind fun n94 =>
 (go (.fn kb0 [.int .i64 n94,.ptr (some h13r),.ptr (some h11r),.ptr (some h12r)]) q92.2).bind fun q95 =>
 ((some q95.1).bind AV.asBool).bind fun b96 =>
 cond b96 (
 ((q95.2.cell (h10r.add 5)).bind (AV.asInt .i64)).bind fun n97 =>
 ((q95.2.cell (h10r.add 6)).bind (AV.asInt .i64)).bind fun n98 =>
 some (.bool (!decide (n97=n98)),q95.2)) (
 some (.bool false,q95.2))) (
 some (.bool false,q92.2))) (
 some (.bool false,q80.2)))) (
 some (.bool false,q50.2)))) (
 some (.bool false,q42.2))) (
 (callV Pg go v40 [.int .i64 n41,.int .i64 0,.int .i64 15] h14).bind fun q44 =>
 ((some q44.1).bind AV.asBool).bind fun b99 =>
 cond b99 (
 (q44.2.cell h13r).bind fun v100 =>
 ((q44.2.cell (h10r.add 3)).bind (AV.asInt .i64)).bind fun n101 =>
 yieldK v100 [.int .i64 n101,.int .i64 0,.int .i64 1073741824] (fun y103 =>
 (go (.round y103.1 y103.2) q44.2).bind fun q102 =>
 ((some q102.1).bind AV.asBool).bind fun b105 =>
 cond b105 (
 (q102.2.cell h13r).bind fun v106 =>
 ((q102.2.cell (h10r.add 4)).bind (AV.asInt .i64)).bind fun n107 =>
 yieldK v106 [.int .i64 n107,.int .i64 0,.int .i64 31] (fun y109 =>
 (go (.round y109.1 y109.2) q102.2).bind fun q108 =>
 ((some q108.1).bind AV.asBool).bind fun b111 =>
 cond b111 (
 ((q108.2.cell (h10r.add 5)).bind (AV.asInt .i64)).bind fun n112 =>
 (go (.fn kb0 [.int .i64 n112,.ptr (some h13r),.ptr (some h11r),.ptr (some h12r)]) q108.2).bind fun q113 =>
 ((some q113.1).bind AV.asBool).bind fun b114 =>
 cond b114 (
 ((q113.2.cell (h10r.add 6)).bind (AV.asInt .i64)).bind fun n115 =>
 (go (.fn kb0 [.int .i64 n115,.ptr (some h13r),.ptr (some h11r),.ptr (some h12r)]) q113.2).bind fun q116 =>
 ((some q116.1).bind AV.asBool).bind fun b117 =>
 cond b117 (
 ((q116.2.cell (h10r.add 5)).bind (AV.asInt .i64)).bind fun n118 =>
 ((q116.2.cell (h10r.add 6)).bind (AV.asInt .i64)).bind fun n119 =>
 some (.bool (!decide (n118=n119)),q116.2)) (
 some (.bool false,q116.2))) (
 some (.bool false,q113.2))) (
 some (.bool false,q108.2))) (
 (callV Pg go v106 [.int .i64 n107,.int .i64 0,.int .i64 31] q102.2).bind fun q110 =>
 ((some q110.1).bind AV.asBool).bind fun b120 =>
 cond b120 (
 ((q110.2.cell (h10r.add 5)).bind (AV.asInt .i64)).bind fun n121 =>
 (go (.fn kb0 [.int .i64 n121,.ptr (some h13r),.ptr (some h11r),.ptr (some h12r)]) q110.2).bind fun q122 =>
 ((some q122.1).bind AV.asBool).bind fun b123 =>
 cond b123 (
 ((q122.2.cell (h10r.add 6)).bind (AV.asInt .i64)).bind fun n124 =>
 (go (.fn kb0 [.int .i64 n124,.ptr (some h13r),.ptr (some h11r),.ptr (some h12r)]) q122.2).bind fun q125 =>
 ((some q125.1).bind AV.asBool).bind fun b126 =>
 cond b126 (
 ((q125.2.cell (h10r.add 5)).bind (AV.asInt .i64)).bind fun n127 =>
 ((q125.2.cell (h10r.add 6)).bind (AV.asInt .i64)).bind fun n128 =>
 some (.bool (!decide (n127=n128)),q125.2)) (
 some (.bool false,q125.2))) (
 some (.bool false,q122.2))) (
 some (.bool false,q110.2)))) (
 some (.bool false,q102.2))) (
 (callV Pg go v100 [.int .i64 n101,.int .i64 0,.int .i64 1073741824] q44.2).bind fun q104 =>
 ((some q104.1).bind AV.asBool).bind fun b129 =>
 cond b129 (
 (q104.2.cell h13r).bind fun v130 =>
 ((q104.2.cell (h10r.add 4)).bind (AV.asInt .i64)).bind fun n131 =>
 yieldK v130 [.int .i64 n131,.int .i64 0,.int .i64 31] (fun y133 =>
 (go (.round y133.1 y133.2) q104.2).bind fun q132 =>
 ((some q132.1).bind AV.asBool).bind fun b135 =>
 cond b135 (
 ((q132.2.cell (h10r.add 5)).bind (AV.asInt .i64)).bind fun n136 =>
 (go (.fn kb0 [.int .i64 n136,.ptr (some h13r),.ptr (some h11r),.ptr (some h12r)]) q132.2).bind fun q137 =>
 ((some q137.1).bind AV.asBool).bind fun b138 =>
 cond b138 (
 ((q137.2.cell (h10r.add 6)).bind (AV.asInt .i64)).bind fun n139 =>
 (go (.fn kb0 [.int .i64 n139,.ptr (some h13r),.ptr (some h11r),.ptr (some h12r)]) q137.2).bind fun q140 =>
 ((some q140.1).bind AV.asBool).bind fun b141 =>
 cond b141 (
 ((q140.2.cell (h10r.add 5)).bind (AV.asInt .i64)).bind fun n142 =>
 ((q140.2.cell (h10r.add 6)).bind (AV.asInt .i64)).bind fun n143 =>
 some (.bool (!decide (n142=n143)),q140.2)) (
 some (.bool false,q140.2))) (
 some (.bool false,q137.2))) (
 some (.bool false,q132.2))) (
 (callV Pg go v130 [.int .i64 n131,.int .i64 0,.int .i64 31] q104.2).bind fun q134 =>
 ((some q134.1).bind AV.asBool).bind fun b144 =>
 cond b144 (
 ((q134.2.cell (h10r.add 5)).bind (AV.asInt .i64)).bind fun n145 =>
 (go (.fn kb0 [.int .i64 n145,.ptr (some h13r),.ptr (some h11r),.ptr (some h12r)]) q134.2).bind fun q146 =>
 ((some q146.1).bind AV.asBool).bind fun b147 =>
 cond b147 (
 ((q146.2.cell (h10r.add 6)).bind (AV.asInt .i64)).bind fun n148 =>
 (go (.fn kb0 [.int .i64 n148,.ptr (some h13r),.ptr (some h11r),.ptr (some h12r)]) q146.2).bind fun q149 =>
 ((some q149.1).bind AV.asBool).bind fun b150 =>
 cond b150 (
 ((q149.2.cell (h10r.add 5)).bind (AV.asInt .i64)).bind fun n151 =>
 ((q149.2.cell (h10r.add 6)).bind (AV.asInt .i64)).bind fun n152 =>
 some (.bool (!decide (n151=n152)),q149.2)) (
 some (.bool false,q149.2))) (
 some (.bool false,q146.2))) (
 some (.bool false,q134.2)))) (
 some (.bool false,q104.2)))) (
 some (.bool false,q44.2)))) (
 some (.bool false,h14))):=(kf _ h).trans (by kernel_rfl)
theorem ktw(a1 a2:Sl)(a3 a4:Int)(a5:Sl)(a6 a7:Int)(a8:Sl)(a9 a10:Int)(h:AH):go (.pt kb3 kke [(3,a1.v),(17,a2.v),(18,.int .i64 a3),(19,.int .i64 a4),(31,a5.v),(32,.int .i64 a6),(33,.int .i64 a7),(55,a8.v),(56,.int .i64 a9),(57,.int .i64 a10)]) h =
 cond (decide (a10<a9)) (
 (idx a8.ref a8.len a10 1).bind fun r11 =>
 ((h.cell r11).bind (AV.asInt .i64)).bind fun n12 =>
 (go (.fn krm [.int .i64 n12]) h).bind fun q13 =>
 ((some q13.1).bind AV.asSl).bind fun l14 =>
 (kbd Pg kj l14.v q13.2).bind fun p16 =>
 (kz Pg a1 p16.1 p16.2 kj 1 q13.2).bind fun q15 =>
 (AV.asSl q15.1).bind fun l17 =>
 go (.pt kb3 kke [(3,l17.v),(17,a2.v),(18,.int .i64 a3),(19,.int .i64 a4),(31,a5.v),(32,.int .i64 a6),(33,.int .i64 a7),(55,a8.v),(56,.int .i64 a9),(57,.int .i64 (IntKind.wrap .i64 (a10+1)))]) q15.2) (
 go (.pt kb3 kjb [(3,a1.v),(17,a2.v),(18,.int .i64 a3),(19,.int .i64 a4),(31,a5.v),(32,.int .i64 a6),(33,.int .i64 (IntKind.wrap .i64 (a7+1)))]) h):=(kf _ h).trans (by kernel_rfl)
theorem k8t  (h:AH):go (.fn kc5 []) h =
 newK h (.cells (List.replicate 256 (.int .u32 0)) kef) fun h1r h1 =>
 newK h1 (.cells (List.replicate 256 (.int .u32 0)) kef) fun h2r h2 =>
 go (.pt kc5 ki2 [(0,.ptr (some h1r)),(1,.ptr (some h2r)),(4,.int .i64 0)]) h2:=(kf _ h).trans (by kernel_rfl)
theorem ks8(a1:Ref)(a2:Int)(a3:Sl)(a4 a5:Int)(h:AH):go (.pt kg6 knm [(3,.ptr (some a1)),(4,.int .u32 a2),(8,a3.v),(9,.int .i64 a4),(10,.int .i64 a5)]) h =
 cond (decide (a5<a4)) (
 (idx a3.ref a3.len a5 1).bind fun r6 =>
 ((h.cell r6).bind (AV.asInt .u8)).bind fun n7 =>
 (idx (some a1) 256 (ixor .u8 (IntKind.wrap .u8 a2) n7) 1).bind fun r8 =>
 ((h.cell r8).bind (AV.asInt .u32)).bind fun n9 =>
 go (.pt kg6 knm [(3,.ptr (some a1)),(4,.int .u32 (ixor .u32 (ishr .u32 a2 8) n9)),(8,a3.v),(9,.int .i64 a4),(10,.int .i64 (IntKind.wrap .i64 (a5+1)))]) h) (
 some (.int .u32 (ixor .u32 (cond (IntKind.signed .u32) (-1) (IntKind.max .u32)) a2),h)):=(kf _ h).trans (by kernel_rfl)
theorem kty(a1:Ref)(a2:Sl)(a3:Int)(a4:Sl)(a5:Int)(a6:Sl)(a7:Int)(h:AH):go (.pt kb2 kkh [(1,.ptr (some a1)),(3,a2.v),(4,.int .i64 a3),(5,a4.v),(6,.int .i64 a5),(8,a6.v),(9,.int .i64 a7)]) h =
 cond (decide (a7<(a6.len:Int))) (
 (idx a6.ref a6.len a7 1).bind fun r8 =>
 ((h.cell r8).bind (AV.asInt .i64)).bind fun n9 =>
 (go (.fn krk [.int .i64 n9]) h).bind fun q10 =>
 ((some q10.1).bind AV.asSl).bind fun l11 =>
 (kbd Pg kj l11.v q10.2).bind fun p13 =>
 (kz Pg a2 p13.1 p13.2 kj 1 q10.2).bind fun q12 =>
 (AV.asSl q12.1).bind fun l14 =>
 go (.pt kb2 kkh [(1,.ptr (some a1)),(3,l14.v),(4,.int .i64 a3),(5,a4.v),(6,.int .i64 a5),(8,a6.v),(9,.int .i64 (IntKind.wrap .i64 (a7+1)))]) q12.2) (
 go (.pt kb2 kkd [(1,.ptr (some a1)),(3,a2.v),(4,.int .i64 a3),(5,a4.v),(6,.int .i64 (IntKind.wrap .i64 (a5+1)))]) h):=(kf _ h).trans (by kernel_rfl)
theorem kyg(a1:Sl)(a2 a3:Int)(h:AH):go (.pt kcq kjx [(0,a1.v),(3,.int .u32 a2),(4,.int .i64 a3)]) h =
 cond (decide (a3<(a1.len:Int))) (
 (idx a1.ref a1.len a3 1).bind fun r4 =>
 ((h.cell r4).bind (AV.asInt .u8)).bind fun n5 =>
 go (.pt kcq khe [(0,a1.v),(3,.int .u32 (ixor .u32 a2 (IntKind.wrap .u32 n5))),(4,.int .i64 a3),(5,.int .i64 0)]) h) (
 some (.int .u32 (ixor .u32 a2 4294967295),h)):=(kf _ h).trans (by kernel_rfl)
theorem kzf(a1:Sl)(h:AH):go (.fn kdg [a1.v,.func (.func kdc) [] []]) h =
 (go (.fn kbn [a1.v,.func (.func kdc) [] []]) h).bind fun q2 =>
 ((some q2.1).bind (AV.asInt .i64)).bind fun n3 =>
 some (.bool (decide (n3≥0)),q2.2):=(kf _ h).trans (by kernel_rfl)
theorem k1n(a1:Sl)(h:AH):go (.fn kgq [a1.v]) h =
 newM h (.map [] 0) fun h2m h2 =>
 go (.pt kgq knj [(3,.map (some h2m)),(7,a1.v),(8,.int .i64 (a1.len:Int)),(9,.int .i64 0)]) h2:=(kf _ h).trans (by kernel_rfl)
theorem kyh(a1:Sl)(a2:Option Ref)(h:AH):go (.fn kdg [a1.v,.func (.func kdl) [] [.ptr a2]]) h =
 (go (.fn kbn [a1.v,.func (.func kdl) [] [.ptr a2]]) h).bind fun q3 =>
 ((some q3.1).bind (AV.asInt .i64)).bind fun n4 =>
 some (.bool (decide (n4≥0)),q3.2):=(kf _ h).trans (by kernel_rfl)
theorem kuc(a1:Sl)(a2 a3:Int)(h:AH):go (.pt kbn kcg [(0,a1.v),(1,.func (.func kdj) [] []),(7,.int .i64 a2),(8,.int .i64 a3)]) h =
 cond (decide (a3<a2)) (
 (idx a1.ref a1.len a3 1).bind fun r4 =>
 ((h.cell r4).bind (AV.asInt .i64)).bind fun n5 =>
 (go (.fn kdj [.int .i64 n5]) h).bind fun q6 =>
 ((some q6.1).bind AV.asBool).bind fun b7 =>
 cond b7 (
 some (.int .i64 a3,q6.2)) (
 go (.pt kbn kcg [(0,a1.v),(1,.func (.func kdj) [] []),(7,.int .i64 a2),(8,.int .i64 (IntKind.wrap .i64 (a3+1)))]) q6.2)) (
 some (.int .i64 (-1),h)):=(kf _ h).trans (by kernel_rfl)
theorem k73(a1:Int)(h:AH):go (.fn khd [.int .i64 a1]) h =
 newK h (.cells [.int .i64 0,(⟨none,0,.is 0⟩:Sl).v] ky) fun h2r h2 =>
 cond (decide (a1<0)) (
 (h2.puts h2r [.int .i64 0,(⟨none,0,.is 0⟩:Sl).v]).bind fun h3 =>
 ((h3.cell (h2r.add 0)).bind (AV.asInt .i64)).bind fun n4 =>
 ((h3.cell (h2r.add 1)).bind AV.asSl).bind fun l5 =>
 some (.tup [.agg [.int .i64 n4,l5.v],.int .i64 1],h3)) (
 cond (decide (a1>65536)) (
 (h2.puts h2r [.int .i64 0,(⟨none,0,.is 0⟩:Sl).v]).bind fun h6 =>
 ((h6.cell (h2r.add 0)).bind (AV.asInt .i64)).bind fun n7 =>
 ((h6.cell (h2r.add 1)).bind AV.asSl).bind fun l8 =>
 some (.tup [.agg [.int .i64 n7,l8.v],.int .i64 1],h6)) (
 (kbx (IntKind.wrap .i64 (Int.tdiv (IntKind.wrap .i64 ((IntKind.wrap .i64 (a1+64))-1)) 64)) (IntKind.wrap .i64 (Int.tdiv (IntKind.wrap .i64 ((IntKind.wrap .i64 (a1+64))-1)) 64)) kq (Pg.bytesOf kq) [.int .u64 0] h2).bind fun q9 =>
 (q9.2.puts h2r [.int .i64 a1,q9.1.v]).bind fun h10 =>
 ((h10.cell (h2r.add 0)).bind (AV.asInt .i64)).bind fun n11 =>
 ((h10.cell (h2r.add 1)).bind AV.asSl).bind fun l12 =>
 some (.tup [.agg [.int .i64 n11,l12.v],.int .i64 0],h10))):=(kf _ h).trans (by kernel_rfl)
theorem kr4(a1:Int)(a2 a3:Ref)(a4 a5 a6:Int)(h:AH):go (.pt kfv ki4 [(0,.int .i64 a1),(2,.ptr (some a2)),(4,.ptr (some a3)),(5,.int .i64 a4),(15,.int .i64 a5),(16,.int .i64 a6)]) h =
 cond (decide (a6<a5)) (
 ((h.cell (a3.add 1)).bind AV.asSl).bind fun l7 =>
 (idx l7.ref l7.len a6 1).bind fun r8 =>
 (h.puts r8 [.int .u64 18446744073709551615]).bind fun h9 =>
 cond (decide ((IntKind.wrap .i64 (a1-(IntKind.wrap .i64 (64*a6))))<64)) (
 ((h9.cell (a3.add 1)).bind AV.asSl).bind fun l10 =>
 cond (decide ((IntKind.wrap .i64 (a1-(IntKind.wrap .i64 (64*a6))))<0)) none (
 (idx l10.ref l10.len a6 1).bind fun r11 =>
 (h9.puts r11 [.int .u64 (IntKind.wrap .u64 ((ishl .u64 1 (IntKind.wrap .i64 (a1-(IntKind.wrap .i64 (64*a6)))))-1))]).bind fun h12 =>
 go (.pt kfv ki4 [(0,.int .i64 a1),(2,.ptr (some a2)),(4,.ptr (some a3)),(5,.int .i64 a4),(15,.int .i64 a5),(16,.int .i64 (IntKind.wrap .i64 (a6+1)))]) h12)) (
 go (.pt kfv ki4 [(0,.int .i64 a1),(2,.ptr (some a2)),(4,.ptr (some a3)),(5,.int .i64 a4),(15,.int .i64 a5),(16,.int .i64 (IntKind.wrap .i64 (a6+1)))]) h9)) (
 ((h.cell (a3.add 0)).bind (AV.asInt .i64)).bind fun n13 =>
 ((h.cell (a3.add 1)).bind AV.asSl).bind fun l14 =>
 (h.puts a2 [.int .i64 n13,l14.v]).bind fun h15 =>
 ((h15.cell (a2.add 0)).bind (AV.asInt .i64)).bind fun n16 =>
 ((h15.cell (a2.add 1)).bind AV.asSl).bind fun l17 =>
 some (.tup [.agg [.int .i64 n16,l17.v],.int .i64 a4],h15)):=(kf _ h).trans (by kernel_rfl)
theorem km0(a1:Sl)(h:AH):go (.fn knw [a1.v]) h =
 some (.int .i64 (a1.len:Int),h):=(kf _ h).trans (by kernel_rfl)
theorem kbba(a1:Ref)(h:AH):go (.fn krl [.iface kbp (.ptr (some a1))]) h =
 ((h.cell a1).bind AV.asSl).bind fun l2 =>
 (go (.fn knw [l2.v]) h).bind fun q3 =>
 ((some q3.1).bind (AV.asInt .i64)).bind fun n4 =>
 ((q3.2.cell a1).bind AV.asSl).bind fun l5 =>
 (go (.fn kfj [l5.v,.int .i64 0,.int .i64 (IntKind.wrap .i64 (n4-1))]) q3.2).bind fun q6 =>
 (AV.asTup0 q6.1).bind fun _ =>
 (go (.fn kd7 [.iface kbp (.ptr (some a1)),.int .i64 0,.int .i64 (IntKind.wrap .i64 (n4-1))]) q6.2).bind fun q7 =>
 ((some q7.1).bind AV.asBool).bind fun b8 =>
 (go (.fn koc [.ptr (some a1)]) q7.2).bind fun q9 =>
 some (q9.1,q9.2):=(kf _ h).trans (by kernel_rfl)
theorem k9u(a1:Sl)(a2:Int)(a3:Sl)(h:AH):go (.fn kfh [a1.v,.agg [.int .i64 a2,a3.v]]) h =
 newK h (.cells [.int .i64 a2,a3.v] ky) fun h4r h4 =>
 newK h4 (.cells [.int .i64 0,.int .i64 0] kbc) fun h5r h5 =>
 newK h5 (.cells [.int .i64 0,.int .i64 0] kbc) fun h6r h6 =>
 ((h6.cell (h4r.add 0)).bind (AV.asInt .i64)).bind fun n7 =>
 ((h6.cell (h4r.add 1)).bind AV.asSl).bind fun l8 =>
 (go (.fn klz [.agg [.int .i64 n7,l8.v]]) h6).bind fun q9 =>
 ((some q9.1).bind AV.asSl).bind fun l10 =>
 go (.pt kfh klc [(0,a1.v),(4,.ptr (some h5r)),(5,.ptr (some h6r)),(9,l10.v),(10,.int .i64 (l10.len:Int)),(11,.int .i64 0)]) q9.2:=(kf _ h).trans (by kernel_rfl)
theorem k8n(a1 a2:Sl)(a3:Int)(a4:Sl)(h:AH):go (.fn kcb [a1.v,a2.v,.agg [.int .i64 a3,a4.v]]) h =
 newK h (.cells [.int .i64 a3,a4.v] ky) fun h5r h5 =>
 go (.pt kcb kiw [(1,a2.v),(5,.ptr (some h5r)),(8,(⟨none,0,.is 0⟩:Sl).v),(9,(⟨none,0,.is 0⟩:Sl).v),(17,a1.v),(18,.int .i64 (a1.len:Int)),(19,.int .i64 0)]) h5:=(kf _ h).trans (by kernel_rfl)
theorem kyt(a1 a2 a3 a4:Int)(a5:Sl)(h:AH):go (.fn kee [.int .i64 a1,.int .i64 a2,.agg [.int .i64 a3,.int .i64 a4],a5.v]) h =
 newK h (.cells [.int .i64 a3,.int .i64 a4] kbc) fun h6r h6 =>
 ((h6.cell (h6r.add 0)).bind (AV.asInt .i64)).bind fun n7 =>
 ((h6.cell (h6r.add 1)).bind (AV.asInt .i64)).bind fun n8 =>
 (go (.fn kg4 [.agg [.int .i64 n7,.int .i64 n8]]) h6).bind fun q9 =>
 ((some q9.1).bind AV.asBool).bind fun b10 =>
 cond (!b10) (
 some (.tup [(⟨none,0,.is 0⟩:Sl).v,.int .i64 1],q9.2)) (
 (go (.fn kj6 [.int .i64 a1]) q9.2).bind fun q11 =>
 ((some q11.1).bind AV.asBool).bind fun b12 =>
 cond (!b12) (
 some (.tup [(⟨none,0,.is 0⟩:Sl).v,.int .i64 1],q11.2)) (
 cond (decide (a2<0)) (
 some (.tup [(⟨none,0,.is 0⟩:Sl).v,.int .i64 1],q11.2)) (
 cond (decide (a2>1048576)) (
 some (.tup [(⟨none,0,.is 0⟩:Sl).v,.int .i64 1],q11.2)) (
 cond (decide ((a5.len:Int)>16384)) (
 some (.tup [(⟨none,0,.is 0⟩:Sl).v,.int .i64 1],q11.2)) (
 newK q11.2 (.cells [(⟨none,0,.is 0⟩:Sl).v] kgr) fun h13r h13 =>
 (go (.fn kg1 [.int .i64 a2]) h13).bind fun q14 =>
 (AV.asAgg q14.1).bind fun cs15 =>
 cond (Nat.beq cs15.length 2) (
 ((cs15[0]?).bind AV.asBool).bind fun b16 =>
 ((cs15[1]?).bind AV.asSl).bind fun l17 =>
 newK q14.2 (.cells [.int .u64 1] kq) fun h18r h18 =>
 (go (.fn kj3 [.agg [.bool b16,l17.v],(⟨some h18r,1,.is 1⟩:Sl).v]) h18).bind fun q19 =>
 (AV.asTup2 q19.1).bind fun p20 =>
 (AV.asAgg p20.1).bind fun cs21 =>
 cond (Nat.beq cs21.length 3) (
 ((cs21[0]?).bind AV.asBool).bind fun b22 =>
 ((cs21[1]?).bind AV.asSl).bind fun l23 =>
 ((cs21[2]?).bind AV.asSl).bind fun l24 =>
 ((some p20.2).bind (AV.asInt .i64)).bind fun n25 =>
 newK q19.2 (.cells [.bool false,(⟨none,0,.is 0⟩:Sl).v,(⟨none,0,.is 0⟩:Sl).v] kba) fun h26r h26 =>
 (h26.puts h26r [.bool b22,l23.v,l24.v]).bind fun h27 =>
 go (.pt kee kf7 [(0,.int .i64 a1),(6,.ptr (some h6r)),(10,.ptr (some h13r)),(13,.func (.func keb) [] [.ptr (some h26r),.ptr (some h13r)]),(47,a5.v),(48,.int .i64 (a5.len:Int)),(49,.int .i64 0)]) h27) none) none))))):=(kf _ h).trans (by kernel_rfl)
theorem kt9(a1 a2 a3:Sl)(a4 a5 a6 a7 a8 a9:Ref)(a10 a11:Sl)(h:AH):go (.pt kbt khb [(1,a1.v),(2,a2.v),(3,a3.v),(4,.ptr (some a4)),(8,.ptr (some a5)),(11,.ptr (some a6)),(12,.ptr (some a7)),(13,.ptr (some a8)),(14,.ptr (some a9)),(15,a10.v),(16,a11.v)]) h =
 cond (decide ((a10.len:Int)=0)) (
 ((h.cell (a4.add 0)).bind (AV.asInt .i64)).bind fun n12 =>
 ((h.cell (a4.add 1)).bind (AV.asInt .i64)).bind fun n13 =>
 ((h.cell (a4.add 2)).bind (AV.asInt .i64)).bind fun n14 =>
 ((h.cell (a4.add 3)).bind (AV.asInt .i64)).bind fun n15 =>
 ((h.cell (a4.add 4)).bind (AV.asInt .i64)).bind fun n16 =>
 ((h.cell (a4.add 5)).bind (AV.asInt .i64)).bind fun n17 =>
 ((h.cell (a4.add 6)).bind (AV.asInt .i64)).bind fun n18 =>
 ((h.cell (a4.add 7)).bind (AV.asInt .i64)).bind fun n19 =>
 ((h.cell (a9.add 0)).bind (AV.asInt .i64)).bind fun n20 =>
 ((h.cell (a9.add 1)).bind (AV.asInt .i64)).bind fun n21 =>
 (go (.fn kjp [.agg [.int .i64 n12,.int .i64 n13,.int .i64 n14,.int .i64 n15,.int .i64 n16,.int .i64 n17,.int .i64 n18,.int .i64 n19],.agg [.int .i64 n20,.int .i64 n21]]) h).bind fun q22 =>
 (AV.asTup2 q22.1).bind fun p23 =>
 ((some p23.1).bind (AV.asInt .i64)).bind fun n24 =>
 ((some p23.2).bind (AV.asInt .i64)).bind fun n25 =>
 ((q22.2.cell (a6.add 0)).bind AV.asSl).bind fun l26 =>
 ((q22.2.cell (a8.add 0)).bind (AV.asInt .i64)).bind fun n27 =>
 (idx l26.ref l26.len n27 7).bind fun r28 =>
 (q22.2.puts r28 [.bool true,.int .i64 n24,.int .i64 0,.int .i64 0,.int .i64 0,.int .i64 0,.int .i64 0]).bind fun h29 =>
 ((h29.cell ((a8.add 2).add 0)).bind (AV.asInt .i64)).bind fun n30 =>
 ((h29.cell ((a8.add 2).add 1)).bind AV.asSl).bind fun l31 =>
 (go (.fn klz [.agg [.int .i64 n30,l31.v]]) h29).bind fun q32 =>
 ((some q32.1).bind AV.asSl).bind fun l33 =>
 go (.pt kbt kmm [(1,a1.v),(2,a2.v),(3,a3.v),(4,.ptr (some a4)),(8,.ptr (some a5)),(11,.ptr (some a6)),(12,.ptr (some a7)),(18,.int .i64 n24),(92,l33.v),(93,.int .i64 (l33.len:Int)),(94,.int .i64 0)]) q32.2) (
 (idx a10.ref a10.len 0 1).bind fun r34 =>
 ((h.cell r34).bind (AV.asInt .i64)).bind fun n35 =>
 (idx a11.ref a11.len n35 9).bind fun r36 =>
 ((h.cell (r36.add 0)).bind AV.asBool).bind fun b37 =>
 ((h.cell (r36.add 1)).bind (AV.asInt .i64)).bind fun n38 =>
 ((h.cell (r36.add 2)).bind (AV.asInt .i64)).bind fun n39 =>
 ((h.cell (r36.add 3)).bind (AV.asInt .i64)).bind fun n40 =>
 ((h.cell (r36.add 4)).bind (AV.asInt .i64)).bind fun n41 =>
 ((h.cell (r36.add 5)).bind (AV.asInt .i64)).bind fun n42 =>
 ((h.cell (r36.add 6)).bind (AV.asInt .i64)).bind fun n43 =>
 ((h.cell (r36.add 7)).bind (AV.asInt .i64)).bind fun n44 =>
 ((h.cell (r36.add 8)).bind AV.asSl).bind fun l45 =>
 newK h (.cells [.bool false,.int .i64 0,.int .i64 0,.int .i64 0,.int .i64 0,.int .i64 0,.int .i64 0,.int .i64 0,(⟨none,0,.is 0⟩:Sl).v] kec) fun h46r h46 =>
 (h46.puts h46r [.bool b37,.int .i64 n38,.int .i64 n39,.int .i64 n40,.int .i64 n41,.int .i64 n42,.int .i64 n43,.int .i64 n44,l45.v]).bind fun h47 =>
 ((h47.cell ((h46r.add 0).add 0)).bind AV.asBool).bind fun b48 =>
 ((h47.cell ((h46r.add 0).add 1)).bind (AV.asInt .i64)).bind fun n49 =>
 ((h47.cell ((h46r.add 0).add 2)).bind (AV.asInt .i64)).bind fun n50 =>
 ((h47.cell ((h46r.add 0).add 3)).bind (AV.asInt .i64)).bind fun n51 =>
 ((h47.cell ((h46r.add 0).add 4)).bind (AV.asInt .i64)).bind fun n52 =>
 ((h47.cell ((h46r.add 0).add 5)).bind (AV.asInt .i64)).bind fun n53 =>
 ((h47.cell ((h46r.add 0).add 6)).bind (AV.asInt .i64)).bind fun n54 =>
 newK h47 (.cells [.bool false,.int .i64 0,.int .i64 0,.int .i64 0,.int .i64 0,.int .i64 0,.int .i64 0] kbl) fun h55r h55 =>
 (h55.puts h55r [.bool b48,.int .i64 n49,.int .i64 n50,.int .i64 n51,.int .i64 n52,.int .i64 n53,.int .i64 n54]).bind fun h56 =>
 ((h56.cell (a6.add 0)).bind AV.asSl).bind fun l57 =>
 ((h56.cell (a6.add 0)).bind AV.asSl).bind fun l58 =>
 (h56.puts (h55r.add 5) [.int .i64 (l57.len:Int)]).bind fun h59 =>
 whenK (SameAt h56 h59 (a6.add 0) 1) (
 (h59.puts (h55r.add 6) [.int .i64 (IntKind.wrap .i64 ((l58.len:Int)+1))]).bind fun h60 =>
 ((h60.cell (a6.add 0)).bind AV.asSl).bind fun l61 =>
 ((h60.cell (a8.add 0)).bind (AV.asInt .i64)).bind fun n62 =>
 ((h60.cell (h55r.add 0)).bind AV.asBool).bind fun b63 =>
 ((h60.cell (h55r.add 1)).bind (AV.asInt .i64)).bind fun n64 =>
 ((h60.cell (h55r.add 2)).bind (AV.asInt .i64)).bind fun n65 =>
 ((h60.cell (h55r.add 3)).bind (AV.asInt .i64)).bind fun n66 =>
 ((h60.cell (h55r.add 4)).bind (AV.asInt .i64)).bind fun n67 =>
 ((h60.cell (h55r.add 5)).bind (AV.asInt .i64)).bind fun n68 =>
 ((h60.cell (h55r.add 6)).bind (AV.asInt .i64)).bind fun n69 =>
 (idx l61.ref l61.len n62 7).bind fun r70 =>
 (h60.puts r70 [.bool b63,.int .i64 n64,.int .i64 n65,.int .i64 n66,.int .i64 n67,.int .i64 n68,.int .i64 n69]).bind fun h71 =>
 ((h71.cell (a6.add 0)).bind AV.asSl).bind fun l72 =>
 newK h71 (.cells [.bool false,.int .i64 0,.int .i64 0,.int .i64 0,.int .i64 0,.int .i64 0,.int .i64 0,.bool false,.int .i64 0,.int .i64 0,.int .i64 0,.int .i64 0,.int .i64 0,.int .i64 0] kbl) fun h73r h73 =>
 (kbd Pg kbl ((⟨some h73r,2,.is 2⟩:Sl).v) h73).bind fun p75 =>
 (kz Pg l72 p75.1 p75.2 kbl 7 h73).bind fun q74 =>
 (AV.asSl q74.1).bind fun l76 =>
 (q74.2.puts (a6.add 0) [l76.v]).bind fun h77 =>
 ((h77.cell ((a8.add 2).add 0)).bind (AV.asInt .i64)).bind fun n78 =>
 ((h77.cell ((a8.add 2).add 1)).bind AV.asSl).bind fun l79 =>
 ((h77.cell ((h46r.add 7).add 0)).bind (AV.asInt .i64)).bind fun n80 =>
 ((h77.cell ((h46r.add 7).add 1)).bind AV.asSl).bind fun l81 =>
 (go (.fn kqn [.agg [.int .i64 n78,l79.v],.agg [.int .i64 n80,l81.v]]) h77).bind fun q82 =>
 (AV.asTup2 q82.1).bind fun p83 =>
 (AV.asAgg p83.1).bind fun cs84 =>
 cond (Nat.beq cs84.length 2) (
 ((cs84[0]?).bind (AV.asInt .i64)).bind fun n85 =>
 ((cs84[1]?).bind AV.asSl).bind fun l86 =>
 ((some p83.2).bind (AV.asInt .i64)).bind fun n87 =>
 newK q82.2 (.cells [.int .i64 0,(⟨none,0,.is 0⟩:Sl).v] ky) fun h88r h88 =>
 (h88.puts h88r [.int .i64 n85,l86.v]).bind fun h89 =>
 ((h89.cell (h55r.add 5)).bind (AV.asInt .i64)).bind fun n90 =>
 ((h89.cell (a8.add 1)).bind (AV.asInt .i64)).bind fun n91 =>
 ((h89.cell ((h46r.add 7).add 0)).bind (AV.asInt .i64)).bind fun n92 =>
 ((h89.cell ((h46r.add 7).add 1)).bind AV.asSl).bind fun l93 =>
 (go (.fn kng [.iface kbp (.ptr (some a7)),.iface kbf (.agg [.int .i64 n90,.int .i64 (IntKind.wrap .i64 (n91+1)),.int .i64 n92,l93.v])]) h89).bind fun q94 =>
 (AV.asTup0 q94.1).bind fun _ =>
 ((q94.2.cell (h55r.add 6)).bind (AV.asInt .i64)).bind fun n95 =>
 ((q94.2.cell (a8.add 1)).bind (AV.asInt .i64)).bind fun n96 =>
 ((q94.2.cell (h88r.add 0)).bind (AV.asInt .i64)).bind fun n97 =>
 ((q94.2.cell (h88r.add 1)).bind AV.asSl).bind fun l98 =>
 (go (.fn kng [.iface kbp (.ptr (some a7)),.iface kbf (.agg [.int .i64 n95,.int .i64 (IntKind.wrap .i64 (n96+1)),.int .i64 n97,l98.v])]) q94.2).bind fun q99 =>
 (AV.asTup0 q99.1).bind fun _ =>
 go (.pt kbt kfc [(1,a1.v),(2,a2.v),(3,a3.v),(4,.ptr (some a4)),(8,.ptr (some a5)),(11,.ptr (some a6)),(12,.ptr (some a7))]) q99.2) none)):=(kf _ h).trans (by kernel_rfl)
theorem k3i(a1:Int)(a2 a3 a4:Ref)(h:AH):go (.fn kb0 [.int .i64 a1,.ptr (some a2),.ptr (some a3),.ptr (some a4)]) h =
 (h.cell a2).bind fun v5 =>
 ((h.cell a3).bind (AV.asInt .i64)).bind fun n6 =>
 ((h.cell a4).bind (AV.asInt .i64)).bind fun n7 =>
 yieldK v5 [.int .i64 a1,.int .i64 (IntKind.wrap .i64 (n6+1)),.int .i64 (IntKind.wrap .i64 (n7-1))] (fun y9 =>
 (go (.round y9.1 y9.2) h).bind fun q8 =>
 ((some q8.1).bind AV.asBool).bind fun b11 =>
 some (.bool b11,q8.2)) (
 (callV Pg go v5 [.int .i64 a1,.int .i64 (IntKind.wrap .i64 (n6+1)),.int .i64 (IntKind.wrap .i64 (n7-1))] h).bind fun q10 =>
 ((some q10.1).bind AV.asBool).bind fun b12 =>
 some (.bool b12,q10.2)):=(kf _ h).trans (by kernel_rfl)
theorem k3s(a1:Int)(h:AH):go (.fn krm [.int .i64 a1]) h =
 (go (.fn kev [.int .u64 (ixor .u64 (ishl .u64 (IntKind.wrap .u64 a1) 1) (IntKind.wrap .u64 (ishr .i64 a1 63)))]) h).bind fun q2 =>
 ((some q2.1).bind AV.asSl).bind fun l3 =>
 some (l3.v,q2.2):=(kf _ h).trans (by kernel_rfl)
theorem ktx(a1 a2:Ref)(a3:Int)(h:AH):go (.pt kc5 ki2 [(0,.ptr (some a1)),(1,.ptr (some a2)),(4,.int .i64 a3)]) h =
 cond (decide (a3<256)) (
 go (.pt kc5 kmi [(0,.ptr (some a1)),(1,.ptr (some a2)),(2,.int .i64 a3),(3,.int .u32 (IntKind.wrap .u32 a3)),(4,.int .i64 a3),(9,.int .i64 0)]) h) (
 kb7 (fun i=>h.cell (a2.add i)) (List.replicate 256 (.int .u32)) 0 fun vs4 =>
 cond (Nat.beq vs4.length 256) (
 (h.puts a1 vs4).bind fun h5 =>
 kb7 (fun i=>h5.cell (a1.add i)) (List.replicate 256 (.int .u32)) 0 fun vs6 =>
 some (.agg vs6,h5)) none):=(kf _ h).trans (by kernel_rfl)
theorem k08(a1:Int)(h:AH):go (.fn krk [.int .i64 a1]) h =
 (go (.fn kqu [.int .i64 a1]) h).bind fun q2 =>
 ((some q2.1).bind (AV.asInt .u64)).bind fun n3 =>
 (go (.fn ker [.int .u64 n3]) q2.2).bind fun q4 =>
 ((some q4.1).bind AV.asSl).bind fun l5 =>
 some (l5.v,q4.2):=(kf _ h).trans (by kernel_rfl)
theorem kwc(a1:Sl)(a2 a3 a4:Int)(h:AH):go (.pt kcq khe [(0,a1.v),(3,.int .u32 a2),(4,.int .i64 a3),(5,.int .i64 a4)]) h =
 cond (decide (a4<8)) (
 cond (decide ((Int.tmod a2 2)=1)) (
 go (.pt kcq khe [(0,a1.v),(3,.int .u32 (ixor .u32 (IntKind.wrap .u32 (Int.tdiv a2 2)) 3988292384)),(4,.int .i64 a3),(5,.int .i64 (IntKind.wrap .i64 (a4+1)))]) h) (
 go (.pt kcq khe [(0,a1.v),(3,.int .u32 (IntKind.wrap .u32 (Int.tdiv a2 2))),(4,.int .i64 a3),(5,.int .i64 (IntKind.wrap .i64 (a4+1)))]) h)) (
 go (.pt kcq kjx [(0,a1.v),(3,.int .u32 a2),(4,.int .i64 (IntKind.wrap .i64 (a3+1)))]) h):=(kf _ h).trans (by kernel_rfl)
theorem k90(a1:Sl)(h:AH):go (.fn kbn [a1.v,.func (.func kdc) [] []]) h =
 go (.pt kbn kcg [(0,a1.v),(1,.func (.func kdc) [] []),(7,.int .i64 (a1.len:Int)),(8,.int .i64 0)]) h:=(kf _ h).trans (by kernel_rfl)
theorem kxt(a1:Nat)(a2:Sl)(a3 a4:Int)(h:AH):go (.pt kgq knj [(3,.map (some a1)),(7,a2.v),(8,.int .i64 a3),(9,.int .i64 a4)]) h =
 cond (decide (a4<a3)) (
 (idx a2.ref a2.len a4 1).bind fun r5 =>
 ((h.cell r5).bind (AV.asInt .i64)).bind fun n6 =>
 (mapPut h a1 .i64 n6 (.int .i64 a4)).bind fun h7 =>
 go (.pt kgq knj [(3,.map (some a1)),(7,a2.v),(8,.int .i64 a3),(9,.int .i64 (IntKind.wrap .i64 (a4+1)))]) h7) (
 some (.map (some a1),h)):=(kf _ h).trans (by kernel_rfl)
theorem k2n(a1:Sl)(a2:Option Ref)(h:AH):go (.fn kbn [a1.v,.func (.func kdl) [] [.ptr a2]]) h =
 go (.pt kbn kcg [(0,a1.v),(1,.func (.func kdl) [] [.ptr a2]),(7,.int .i64 (a1.len:Int)),(8,.int .i64 0)]) h:=(kf _ h).trans (by kernel_rfl)
theorem kbbd(a1:Int)(h:AH):go (.fn kdj [.int .i64 a1]) h =
 cond (decide (a1<(-1048576))) (
 some (.bool true,h)) (
 some (.bool (decide (a1>1048576)),h)):=(kf _ h).trans (by kernel_rfl)
theorem kbb9(a1:Sl)(a2 a3:Int)(h:AH):go (.fn kfj [a1.v,.int .i64 a2,.int .i64 a3]) h =
 (idx a1.ref a1.len a3 4).bind fun r4 =>
 ((h.cell (r4.add 0)).bind (AV.asInt .i64)).bind fun n5 =>
 ((h.cell (r4.add 1)).bind (AV.asInt .i64)).bind fun n6 =>
 ((h.cell (r4.add 2)).bind (AV.asInt .i64)).bind fun n7 =>
 ((h.cell (r4.add 3)).bind AV.asSl).bind fun l8 =>
 (idx a1.ref a1.len a2 4).bind fun r9 =>
 ((h.cell (r9.add 0)).bind (AV.asInt .i64)).bind fun n10 =>
 ((h.cell (r9.add 1)).bind (AV.asInt .i64)).bind fun n11 =>
 ((h.cell (r9.add 2)).bind (AV.asInt .i64)).bind fun n12 =>
 ((h.cell (r9.add 3)).bind AV.asSl).bind fun l13 =>
 (idx a1.ref a1.len a2 4).bind fun r14 =>
 (h.puts r14 [.int .i64 n5,.int .i64 n6,.int .i64 n7,l8.v]).bind fun h15 =>
 (idx a1.ref a1.len a3 4).bind fun r16 =>
 (h15.puts r16 [.int .i64 n10,.int .i64 n11,.int .i64 n12,l13.v]).bind fun h17 =>
 some (.tup [],h17):=(kf _ h).trans (by kernel_rfl)
theorem kbal(a1:Ref)(a2 a3:Int)(h:AH):go (.fn kd7 [.iface kbp (.ptr (some a1)),.int .i64 a2,.int .i64 a3]) h =
 go (.pt kd7 kgc [(0,.iface kbp (.ptr (some a1))),(1,.int .i64 a2),(2,.int .i64 a3),(7,.int .i64 a2)]) h:=(kf _ h).trans (by kernel_rfl)
theorem k1q(a1:Option Ref)(h:AH):go (.fn koc [.ptr a1]) h =
 a1.bind fun r2 =>
 ((h.cell r2).bind AV.asSl).bind fun l3 =>
 a1.bind fun r4 =>
 ((h.cell r4).bind AV.asSl).bind fun l5 =>
 (idx l5.ref l5.len (IntKind.wrap .i64 ((l3.len:Int)-1)) 4).bind fun r6 =>
 ((h.cell (r6.add 0)).bind (AV.asInt .i64)).bind fun n7 =>
 ((h.cell (r6.add 1)).bind (AV.asInt .i64)).bind fun n8 =>
 ((h.cell (r6.add 2)).bind (AV.asInt .i64)).bind fun n9 =>
 ((h.cell (r6.add 3)).bind AV.asSl).bind fun l10 =>
 newK h (.cells [.int .i64 0,.int .i64 0,.int .i64 0,(⟨none,0,.is 0⟩:Sl).v] kbf) fun h11r h11 =>
 (h11.puts h11r [.int .i64 n7,.int .i64 n8,.int .i64 n9,l10.v]).bind fun h12 =>
 a1.bind fun r13 =>
 ((h12.cell r13).bind AV.asSl).bind fun l14 =>
 (cutSl l14 0 (IntKind.wrap .i64 ((l3.len:Int)-1)) 4).bind fun l15 =>
 a1.bind fun r16 =>
 (h12.puts r16 [l15.v]).bind fun h17 =>
 ((h17.cell (h11r.add 0)).bind (AV.asInt .i64)).bind fun n18 =>
 ((h17.cell (h11r.add 1)).bind (AV.asInt .i64)).bind fun n19 =>
 ((h17.cell (h11r.add 2)).bind (AV.asInt .i64)).bind fun n20 =>
 ((h17.cell (h11r.add 3)).bind AV.asSl).bind fun l21 =>
 some (.iface kbf (.agg [.int .i64 n18,.int .i64 n19,.int .i64 n20,l21.v]),h17):=(kf _ h).trans (by kernel_rfl)
theorem kzn(a1:Int)(a2:Sl)(h:AH):go (.fn klz [.agg [.int .i64 a1,a2.v]]) h =
 newK h (.cells [.int .i64 a1,a2.v] ky) fun h3r h3 =>
 ((h3.cell (h3r.add 0)).bind (AV.asInt .i64)).bind fun n4 =>
 ((h3.cell (h3r.add 1)).bind AV.asSl).bind fun l5 =>
 (go (.fn kf3 [.agg [.int .i64 n4,l5.v]]) h3).bind fun q6 =>
 ((some q6.1).bind AV.asBool).bind fun b7 =>
 cond (!b7) (
 some ((⟨none,0,.is 0⟩:Sl).v,q6.2)) (
 ((q6.2.cell (h3r.add 0)).bind (AV.asInt .i64)).bind fun n8 =>
 ((q6.2.cell (h3r.add 1)).bind AV.asSl).bind fun l9 =>
 (go (.fn kpw [.agg [.int .i64 n8,l9.v]]) q6.2).bind fun q10 =>
 (go (.fn krh [q10.1]) q10.2).bind fun q11 =>
 ((some q11.1).bind AV.asSl).bind fun l12 =>
 some (l12.v,q11.2)):=(kf _ h).trans (by kernel_rfl)
theorem ks2(a1:Sl)(a2 a3:Ref)(a4:Sl)(a5 a6:Int)(h:AH):go (.pt kfh klc [(0,a1.v),(4,.ptr (some a2)),(5,.ptr (some a3)),(9,a4.v),(10,.int .i64 a5),(11,.int .i64 a6)]) h =
 cond (decide (a6<a5)) (
 (idx a4.ref a4.len a6 1).bind fun r7 =>
 ((h.cell r7).bind (AV.asInt .i64)).bind fun n8 =>
 ((h.cell (a3.add 0)).bind (AV.asInt .i64)).bind fun n9 =>
 (idx a1.ref a1.len n8 1).bind fun r10 =>
 ((h.cell r10).bind (AV.asInt .i64)).bind fun n11 =>
 (h.puts (a3.add 0) [.int .i64 (IntKind.wrap .i64 (n9+n11))]).bind fun h12 =>
 ((h12.cell (a3.add 1)).bind (AV.asInt .i64)).bind fun n13 =>
 (h12.puts (a3.add 1) [.int .i64 (IntKind.wrap .i64 (n13+1))]).bind fun h14 =>
 go (.pt kfh klc [(0,a1.v),(4,.ptr (some a2)),(5,.ptr (some a3)),(9,a4.v),(10,.int .i64 a5),(11,.int .i64 (IntKind.wrap .i64 (a6+1)))]) h14) (
 ((h.cell (a3.add 0)).bind (AV.asInt .i64)).bind fun n15 =>
 ((h.cell (a3.add 1)).bind (AV.asInt .i64)).bind fun n16 =>
 (h.puts a2 [.int .i64 n15,.int .i64 n16]).bind fun h17 =>
 ((h17.cell (a2.add 0)).bind (AV.asInt .i64)).bind fun n18 =>
 ((h17.cell (a2.add 1)).bind (AV.asInt .i64)).bind fun n19 =>
 some (.agg [.int .i64 n18,.int .i64 n19],h17)):=(kf _ h).trans (by kernel_rfl)
theorem kua(a1:Sl)(a2:Ref)(a3 a4 a5:Sl)(a6 a7:Int)(h:AH):go (.pt kcb kiw [(1,a1.v),(5,.ptr (some a2)),(8,a3.v),(9,a4.v),(17,a5.v),(18,.int .i64 a6),(19,.int .i64 a7)]) h =
 cond (decide (a7<a6)) (
 (idx a5.ref a5.len a7 3).bind fun r8 =>
 ((h.cell (r8.add 0)).bind AV.asSl).bind fun l9 =>
 ((h.cell (r8.add 1)).bind AV.asSl).bind fun l10 =>
 ((h.cell (r8.add 2)).bind AV.asSl).bind fun l11 =>
 newK h (.cells [(⟨none,0,.is 0⟩:Sl).v,(⟨none,0,.is 0⟩:Sl).v,(⟨none,0,.is 0⟩:Sl).v] kds) fun h12r h12 =>
 (h12.puts h12r [l9.v,l10.v,l11.v]).bind fun h13 =>
 ((h13.cell (h12r.add 1)).bind AV.asSl).bind fun l14 =>
 go (.pt kcb kja [(1,a1.v),(5,.ptr (some a2)),(8,a3.v),(9,a4.v),(10,.int .i64 a7),(11,.ptr (some h12r)),(17,a5.v),(18,.int .i64 a6),(19,.int .i64 a7),(25,l14.v),(26,.int .i64 (l14.len:Int)),(27,.int .i64 0)]) h13) (
 some (.tup [a3.v,a4.v],h)):=(kf _ h).trans (by kernel_rfl)
theorem k7v(a1 a2:Int)(h:AH):go (.fn kg4 [.agg [.int .i64 a1,.int .i64 a2]]) h =
 newK h (.cells [.int .i64 a1,.int .i64 a2] kbc) fun h3r h3 =>
 ((h3.cell (h3r.add 0)).bind (AV.asInt .i64)).bind fun n4 =>
 cond (decide (n4≥(-1099511627776))) (
 ((h3.cell (h3r.add 0)).bind (AV.asInt .i64)).bind fun n5 =>
 cond (decide (n5≤1099511627776)) (
 ((h3.cell (h3r.add 1)).bind (AV.asInt .i64)).bind fun n6 =>
 cond (decide (n6≥0)) (
 ((h3.cell (h3r.add 1)).bind (AV.asInt .i64)).bind fun n7 =>
 some (.bool (decide (n7≤1048576)),h3)) (
 some (.bool false,h3))) (
 some (.bool false,h3))) (
 some (.bool false,h3)):=(kf _ h).trans (by kernel_rfl)
theorem kbdt(a1:Int)(h:AH):go (.fn kj6 [.int .i64 a1]) h =
 cond (decide (a1≥1)) (
 some (.bool (decide (a1≤1048576)),h)) (
 some (.bool false,h)):=(kf _ h).trans (by kernel_rfl)
theorem k9l(a1:Int)(h:AH):go (.fn kg1 [.int .i64 a1]) h =
 newK h (.cells [.bool false,(⟨none,0,.is 0⟩:Sl).v] ki) fun h2r h2 =>
 cond (decide (a1<0)) (
 (go (.fn kea [.int .u64 (IntKind.wrap .u64 (0-(IntKind.wrap .u64 a1)))]) h2).bind fun q3 =>
 ((some q3.1).bind AV.asSl).bind fun l4 =>
 (go (.fn kb4 [.bool true,l4.v]) q3.2).bind fun q5 =>
 (AV.asAgg q5.1).bind fun cs6 =>
 cond (Nat.beq cs6.length 2) (
 ((cs6[0]?).bind AV.asBool).bind fun b7 =>
 ((cs6[1]?).bind AV.asSl).bind fun l8 =>
 (q5.2.puts h2r [.bool b7,l8.v]).bind fun h9 =>
 ((h9.cell (h2r.add 0)).bind AV.asBool).bind fun b10 =>
 ((h9.cell (h2r.add 1)).bind AV.asSl).bind fun l11 =>
 some (.agg [.bool b10,l11.v],h9)) none) (
 (go (.fn kea [.int .u64 (IntKind.wrap .u64 a1)]) h2).bind fun q12 =>
 ((some q12.1).bind AV.asSl).bind fun l13 =>
 (go (.fn kb4 [.bool false,l13.v]) q12.2).bind fun q14 =>
 (AV.asAgg q14.1).bind fun cs15 =>
 cond (Nat.beq cs15.length 2) (
 ((cs15[0]?).bind AV.asBool).bind fun b16 =>
 ((cs15[1]?).bind AV.asSl).bind fun l17 =>
 (q14.2.puts h2r [.bool b16,l17.v]).bind fun h18 =>
 ((h18.cell (h2r.add 0)).bind AV.asBool).bind fun b19 =>
 ((h18.cell (h2r.add 1)).bind AV.asSl).bind fun l20 =>
 some (.agg [.bool b19,l20.v],h18)) none):=(kf _ h).trans (by kernel_rfl)
theorem k84(a1:Bool)(a2 a3:Sl)(h:AH):go (.fn kj3 [.agg [.bool a1,a2.v],a3.v]) h =
 newK h (.cells [.bool a1,a2.v] ki) fun h4r h4 =>
 newK h4 (.cells [.bool false,(⟨none,0,.is 0⟩:Sl).v,(⟨none,0,.is 0⟩:Sl).v] kba) fun h5r h5 =>
 ((h5.cell (h4r.add 0)).bind AV.asBool).bind fun b6 =>
 ((h5.cell (h4r.add 1)).bind AV.asSl).bind fun l7 =>
 (go (.fn kfr [.agg [.bool b6,l7.v]]) h5).bind fun q8 =>
 ((some q8.1).bind AV.asBool).bind fun b9 =>
 cond (!b9) (
 (q8.2.puts h5r [.bool false,(⟨none,0,.is 0⟩:Sl).v,(⟨none,0,.is 0⟩:Sl).v]).bind fun h10 =>
 ((h10.cell (h5r.add 0)).bind AV.asBool).bind fun b11 =>
 ((h10.cell (h5r.add 1)).bind AV.asSl).bind fun l12 =>
 ((h10.cell (h5r.add 2)).bind AV.asSl).bind fun l13 =>
 some (.tup [.agg [.bool b11,l12.v,l13.v],.int .i64 1],h10)) (
 (go (.fn kd0 [a3.v]) q8.2).bind fun q14 =>
 ((some q14.1).bind AV.asBool).bind fun b15 =>
 cond (!b15) (
 (q14.2.puts h5r [.bool false,(⟨none,0,.is 0⟩:Sl).v,(⟨none,0,.is 0⟩:Sl).v]).bind fun h16 =>
 ((h16.cell (h5r.add 0)).bind AV.asBool).bind fun b17 =>
 ((h16.cell (h5r.add 1)).bind AV.asSl).bind fun l18 =>
 ((h16.cell (h5r.add 2)).bind AV.asSl).bind fun l19 =>
 some (.tup [.agg [.bool b17,l18.v,l19.v],.int .i64 1],h16)) (
 cond (decide ((a3.len:Int)=0)) (
 (q14.2.puts h5r [.bool false,(⟨none,0,.is 0⟩:Sl).v,(⟨none,0,.is 0⟩:Sl).v]).bind fun h20 =>
 ((h20.cell (h5r.add 0)).bind AV.asBool).bind fun b21 =>
 ((h20.cell (h5r.add 1)).bind AV.asSl).bind fun l22 =>
 ((h20.cell (h5r.add 2)).bind AV.asSl).bind fun l23 =>
 some (.tup [.agg [.bool b21,l22.v,l23.v],.int .i64 3],h20)) (
 ((q14.2.cell (h4r.add 1)).bind AV.asSl).bind fun l24 =>
 (go (.fn kes [l24.v,a3.v]) q14.2).bind fun q25 =>
 (AV.asTup2 q25.1).bind fun p26 =>
 ((some p26.1).bind AV.asSl).bind fun l27 =>
 ((some p26.2).bind (AV.asInt .i64)).bind fun n28 =>
 ((q25.2.cell (h4r.add 1)).bind AV.asSl).bind fun l29 =>
 (go (.fn kgp [l29.v,l27.v]) q25.2).bind fun q30 =>
 (AV.asTup3 q30.1).bind fun p31 =>
 ((some p31.1).bind AV.asSl).bind fun l32 =>
 ((some p31.2.1).bind AV.asSl).bind fun l33 =>
 ((some p31.2.2).bind (AV.asInt .i64)).bind fun n34 =>
 (go (.fn kgp [a3.v,l27.v]) q30.2).bind fun q35 =>
 (AV.asTup3 q35.1).bind fun p36 =>
 ((some p36.1).bind AV.asSl).bind fun l37 =>
 ((some p36.2.1).bind AV.asSl).bind fun l38 =>
 ((some p36.2.2).bind (AV.asInt .i64)).bind fun n39 =>
 cond (decide ((imax (l32.len:Int) (l37.len:Int))>16)) (
 (q35.2.puts h5r [.bool false,(⟨none,0,.is 0⟩:Sl).v,(⟨none,0,.is 0⟩:Sl).v]).bind fun h40 =>
 ((h40.cell (h5r.add 0)).bind AV.asBool).bind fun b41 =>
 ((h40.cell (h5r.add 1)).bind AV.asSl).bind fun l42 =>
 ((h40.cell (h5r.add 2)).bind AV.asSl).bind fun l43 =>
 some (.tup [.agg [.bool b41,l42.v,l43.v],.int .i64 4],h40)) (
 ((q35.2.cell (h4r.add 0)).bind AV.asBool).bind fun b44 =>
 (go (.fn kb4 [.bool b44,l32.v]) q35.2).bind fun q45 =>
 (AV.asAgg q45.1).bind fun cs46 =>
 cond (Nat.beq cs46.length 2) (
 ((cs46[0]?).bind AV.asBool).bind fun b47 =>
 ((cs46[1]?).bind AV.asSl).bind fun l48 =>
 (q45.2.puts h5r [.bool b47,l48.v,l37.v]).bind fun h49 =>
 ((h49.cell (h5r.add 0)).bind AV.asBool).bind fun b50 =>
 ((h49.cell (h5r.add 1)).bind AV.asSl).bind fun l51 =>
 ((h49.cell (h5r.add 2)).bind AV.asSl).bind fun l52 =>
 some (.tup [.agg [.bool b50,l51.v,l52.v],.int .i64 0],h49)) none)))):=(kf _ h).trans (by kernel_rfl)
theorem kwj(a1:Int)(a2 a3 a4 a5:Ref)(a6:Sl)(a7 a8:Int)(h:AH):go (.pt kee kf7 [(0,.int .i64 a1),(6,.ptr (some a2)),(10,.ptr (some a3)),(13,.func (.func keb) [] [.ptr (some a4),.ptr (some a5)]),(47,a6.v),(48,.int .i64 a7),(49,.int .i64 a8)]) h =
 cond (decide (a8<a7)) (
 (idx a6.ref a6.len a8 2).bind fun r9 =>
 ((h.cell (r9.add 0)).bind (AV.asInt .i64)).bind fun n10 =>
 ((h.cell (r9.add 1)).bind (AV.asInt .i64)).bind fun n11 =>
 newK h (.cells [.int .i64 0,.int .i64 0] kbc) fun h12r h12 =>
 (h12.puts h12r [.int .i64 n10,.int .i64 n11]).bind fun h13 =>
 ((h13.cell (h12r.add 0)).bind (AV.asInt .i64)).bind fun n14 =>
 ((h13.cell (h12r.add 1)).bind (AV.asInt .i64)).bind fun n15 =>
 ((h13.cell (a2.add 0)).bind (AV.asInt .i64)).bind fun n16 =>
 ((h13.cell (a2.add 1)).bind (AV.asInt .i64)).bind fun n17 =>
 (go (.fn kl2 [.int .i64 a1,.agg [.int .i64 n14,.int .i64 n15],.agg [.int .i64 n16,.int .i64 n17]]) h13).bind fun q18 =>
 (AV.asTup2 q18.1).bind fun p19 =>
 (AV.asAgg p19.1).bind fun cs20 =>
 cond (Nat.beq cs20.length 3) (
 ((cs20[0]?).bind AV.asBool).bind fun b21 =>
 ((cs20[1]?).bind AV.asSl).bind fun l22 =>
 ((cs20[2]?).bind AV.asSl).bind fun l23 =>
 ((some p19.2).bind (AV.asInt .i64)).bind fun n24 =>
 newK q18.2 (.cells [.bool false,(⟨none,0,.is 0⟩:Sl).v,(⟨none,0,.is 0⟩:Sl).v] kba) fun h25r h25 =>
 (h25.puts h25r [.bool b21,l22.v,l23.v]).bind fun h26 =>
 cond (!decide (n24=0)) (
 some (.tup [(⟨none,0,.is 0⟩:Sl).v,.int .i64 n24],h26)) (
 ((h26.cell (h12r.add 1)).bind (AV.asInt .i64)).bind fun n27 =>
 cond (decide (n27>0)) (
 ((h26.cell (h12r.add 1)).bind (AV.asInt .i64)).bind fun n28 =>
 ((h26.cell (a2.add 1)).bind (AV.asInt .i64)).bind fun n29 =>
 cond (decide (n28<n29)) (
 ((h26.cell (h25r.add 0)).bind AV.asBool).bind fun b30 =>
 ((h26.cell (h25r.add 1)).bind AV.asSl).bind fun l31 =>
 ((h26.cell (h25r.add 2)).bind AV.asSl).bind fun l32 =>
 (go (.fn keb [.int .i64 a8,.agg [.bool b30,l31.v,l32.v],.ptr (some a4),.ptr (some a5)]) h26).bind fun q33 =>
 (AV.asTup0 q33.1).bind fun _ =>
 go (.pt kee kf7 [(0,.int .i64 a1),(6,.ptr (some a2)),(10,.ptr (some a3)),(13,.func (.func keb) [] [.ptr (some a4),.ptr (some a5)]),(47,a6.v),(48,.int .i64 a7),(49,.int .i64 (IntKind.wrap .i64 (a8+1)))]) q33.2) (
 go (.pt kee kf7 [(0,.int .i64 a1),(6,.ptr (some a2)),(10,.ptr (some a3)),(13,.func (.func keb) [] [.ptr (some a4),.ptr (some a5)]),(47,a6.v),(48,.int .i64 a7),(49,.int .i64 (IntKind.wrap .i64 (a8+1)))]) h26)) (
 go (.pt kee kf7 [(0,.int .i64 a1),(6,.ptr (some a2)),(10,.ptr (some a3)),(13,.func (.func keb) [] [.ptr (some a4),.ptr (some a5)]),(47,a6.v),(48,.int .i64 a7),(49,.int .i64 (IntKind.wrap .i64 (a8+1)))]) h26))) none) (
 ((h.cell a3).bind AV.asSl).bind fun l34 =>
 some (.tup [l34.v,.int .i64 0],h)):=(kf _ h).trans (by kernel_rfl)
theorem k35(a1 a2 a3 a4 a5 a6 a7 a8 a9 a10:Int)(h:AH):go (.fn kjp [.agg [.int .i64 a1,.int .i64 a2,.int .i64 a3,.int .i64 a4,.int .i64 a5,.int .i64 a6,.int .i64 a7,.int .i64 a8],.agg [.int .i64 a9,.int .i64 a10]]) h =
 newK h (.cells [.int .i64 a1,.int .i64 a2,.int .i64 a3,.int .i64 a4,.int .i64 a5,.int .i64 a6,.int .i64 a7,.int .i64 a8] kdu) fun h11r h11 =>
 newK h11 (.cells [.int .i64 a9,.int .i64 a10] kbc) fun h12r h12 =>
 ((h12.cell (h11r.add 0)).bind (AV.asInt .i64)).bind fun n13 =>
 ((h12.cell (h11r.add 1)).bind (AV.asInt .i64)).bind fun n14 =>
 ((h12.cell (h11r.add 2)).bind (AV.asInt .i64)).bind fun n15 =>
 ((h12.cell (h11r.add 3)).bind (AV.asInt .i64)).bind fun n16 =>
 ((h12.cell (h11r.add 4)).bind (AV.asInt .i64)).bind fun n17 =>
 ((h12.cell (h11r.add 5)).bind (AV.asInt .i64)).bind fun n18 =>
 ((h12.cell (h11r.add 6)).bind (AV.asInt .i64)).bind fun n19 =>
 ((h12.cell (h11r.add 7)).bind (AV.asInt .i64)).bind fun n20 =>
 (go (.fn kim [.agg [.int .i64 n13,.int .i64 n14,.int .i64 n15,.int .i64 n16,.int .i64 n17,.int .i64 n18,.int .i64 n19,.int .i64 n20]]) h12).bind fun q21 =>
 ((some q21.1).bind AV.asBool).bind fun b22 =>
 cond (!b22) (
 some (.tup [.int .i64 0,.int .i64 1],q21.2)) (
 ((q21.2.cell (h12r.add 0)).bind (AV.asInt .i64)).bind fun n23 =>
 (go (.fn kcu [.int .i64 n23,.int .i64 (-1099511627776),.int .i64 1099511627776]) q21.2).bind fun q24 =>
 ((some q24.1).bind AV.asBool).bind fun b25 =>
 cond (!b25) (
 some (.tup [.int .i64 0,.int .i64 1],q24.2)) (
 ((q24.2.cell (h12r.add 1)).bind (AV.asInt .i64)).bind fun n26 =>
 (go (.fn kcu [.int .i64 n26,.int .i64 0,.int .i64 1048576]) q24.2).bind fun q27 =>
 ((some q27.1).bind AV.asBool).bind fun b28 =>
 cond (!b28) (
 some (.tup [.int .i64 0,.int .i64 1],q27.2)) (
 newK q27.2 (.cells [.bool false,(⟨none,0,.is 0⟩:Sl).v] ki) fun h29r h29 =>
 newK h29 (.cells [.bool false,(⟨none,0,.is 0⟩:Sl).v] ki) fun h30r h30 =>
 ((h30.cell (h12r.add 0)).bind (AV.asInt .i64)).bind fun n31 =>
 ((h30.cell (h11r.add 4)).bind (AV.asInt .i64)).bind fun n32 =>
 ((h30.cell (h12r.add 1)).bind (AV.asInt .i64)).bind fun n33 =>
 ((h30.cell (h11r.add 2)).bind (AV.asInt .i64)).bind fun n34 =>
 ((h30.cell (h11r.add 5)).bind (AV.asInt .i64)).bind fun n35 =>
 (go (.fn kjo [.int .i64 (IntKind.wrap .i64 (0-n31)),.int .i64 n32]) h30).bind fun q36 =>
 (AV.asAgg q36.1).bind fun cs37 =>
 cond (Nat.beq cs37.length 2) (
 ((cs37[0]?).bind AV.asBool).bind fun b38 =>
 ((cs37[1]?).bind AV.asSl).bind fun l39 =>
 whenK (SameAt h30 q36.2 (h11r.add 5) 1) (
 whenK (SameAt h30 q36.2 (h11r.add 2) 1) (
 whenK (SameAt h30 q36.2 (h12r.add 1) 1) (
 whenK (SameAt h30 q36.2 h30r 0) (
 whenK (SameAt h30 q36.2 h29r 0) (
 (go (.fn kjo [.int .i64 (IntKind.wrap .i64 (n33+n34)),.int .i64 n35]) q36.2).bind fun q40 =>
 (AV.asAgg q40.1).bind fun cs41 =>
 cond (Nat.beq cs41.length 2) (
 ((cs41[0]?).bind AV.asBool).bind fun b42 =>
 ((cs41[1]?).bind AV.asSl).bind fun l43 =>
 whenK (SameAt q36.2 q40.2 h30r 0) (
 whenK (SameAt q36.2 q40.2 h29r 0) (
 (go (.fn klh [.agg [.bool b38,l39.v],.agg [.bool b42,l43.v]]) q40.2).bind fun q44 =>
 (AV.asTup3 q44.1).bind fun p45 =>
 (AV.asAgg p45.1).bind fun cs46 =>
 cond (Nat.beq cs46.length 2) (
 ((cs46[0]?).bind AV.asBool).bind fun b47 =>
 ((cs46[1]?).bind AV.asSl).bind fun l48 =>
 (AV.asAgg p45.2.1).bind fun cs49 =>
 cond (Nat.beq cs49.length 2) (
 ((cs49[0]?).bind AV.asBool).bind fun b50 =>
 ((cs49[1]?).bind AV.asSl).bind fun l51 =>
 ((some p45.2.2).bind (AV.asInt .i64)).bind fun n52 =>
 whenK (SameAt q40.2 q44.2 h30r 0) (
 whenK (SameAt q40.2 q44.2 h29r 0) (
 (q44.2.puts h29r [.bool b47,l48.v]).bind fun h53 =>
 (h53.puts h30r [.bool b50,l51.v]).bind fun h54 =>
 ((h54.cell (h29r.add 0)).bind AV.asBool).bind fun b55 =>
 ((h54.cell (h29r.add 1)).bind AV.asSl).bind fun l56 =>
 (go (.fn kob [.agg [.bool b55,l56.v]]) h54).bind fun q57 =>
 (AV.asTup2 q57.1).bind fun p58 =>
 ((some p58.1).bind (AV.asInt .i64)).bind fun n59 =>
 ((some p58.2).bind AV.asBool).bind fun b60 =>
 some (.tup [.int .i64 n59,.int .i64 n52],q57.2)))) none) none))) none)))))) none))):=(kf _ h).trans (by kernel_rfl)
theorem kvg(a1 a2 a3:Sl)(a4 a5 a6 a7:Ref)(a8:Int)(a9:Sl)(a10 a11:Int)(h:AH):go (.pt kbt kmm [(1,a1.v),(2,a2.v),(3,a3.v),(4,.ptr (some a4)),(8,.ptr (some a5)),(11,.ptr (some a6)),(12,.ptr (some a7)),(18,.int .i64 a8),(92,a9.v),(93,.int .i64 a10),(94,.int .i64 a11)]) h =
 cond (decide (a11<a10)) (
 (idx a9.ref a9.len a11 1).bind fun r12 =>
 ((h.cell r12).bind (AV.asInt .i64)).bind fun n13 =>
 (idx a3.ref a3.len n13 1).bind fun r14 =>
 ((h.cell r14).bind (AV.asInt .i64)).bind fun n15 =>
 (idx a3.ref a3.len n13 1).bind fun r16 =>
 (h.puts r16 [.int .i64 (IntKind.wrap .i64 (n15+a8))]).bind fun h17 =>
 go (.pt kbt kmm [(1,a1.v),(2,a2.v),(3,a3.v),(4,.ptr (some a4)),(8,.ptr (some a5)),(11,.ptr (some a6)),(12,.ptr (some a7)),(18,.int .i64 a8),(92,a9.v),(93,.int .i64 a10),(94,.int .i64 (IntKind.wrap .i64 (a11+1)))]) h17) (
 go (.pt kbt kfc [(1,a1.v),(2,a2.v),(3,a3.v),(4,.ptr (some a4)),(8,.ptr (some a5)),(11,.ptr (some a6)),(12,.ptr (some a7))]) h):=(kf _ h).trans (by kernel_rfl)
theorem k0r(a1:Int)(a2:Sl)(a3:Int)(a4:Sl)(h:AH):go (.fn kqn [.agg [.int .i64 a1,a2.v],.agg [.int .i64 a3,a4.v]]) h =
 newK h (.cells [.int .i64 a1,a2.v] ky) fun h5r h5 =>
 newK h5 (.cells [.int .i64 a3,a4.v] ky) fun h6r h6 =>
 newK h6 (.cells [.int .i64 0,(⟨none,0,.is 0⟩:Sl).v] ky) fun h7r h7 =>
 ((h7.cell (h5r.add 0)).bind (AV.asInt .i64)).bind fun n8 =>
 ((h7.cell (h5r.add 1)).bind AV.asSl).bind fun l9 =>
 ((h7.cell (h6r.add 0)).bind (AV.asInt .i64)).bind fun n10 =>
 ((h7.cell (h6r.add 1)).bind AV.asSl).bind fun l11 =>
 (go (.fn kcn [.agg [.int .i64 n8,l9.v],.agg [.int .i64 n10,l11.v],.func (.func ke7) [] []]) h7).bind fun q12 =>
 (AV.asTup2 q12.1).bind fun p13 =>
 (AV.asAgg p13.1).bind fun cs14 =>
 cond (Nat.beq cs14.length 2) (
 ((cs14[0]?).bind (AV.asInt .i64)).bind fun n15 =>
 ((cs14[1]?).bind AV.asSl).bind fun l16 =>
 ((some p13.2).bind (AV.asInt .i64)).bind fun n17 =>
 (q12.2.puts h7r [.int .i64 n15,l16.v]).bind fun h18 =>
 ((h18.cell (h7r.add 0)).bind (AV.asInt .i64)).bind fun n19 =>
 ((h18.cell (h7r.add 1)).bind AV.asSl).bind fun l20 =>
 some (.tup [.agg [.int .i64 n19,l20.v],.int .i64 n17],h18)) none:=(kf _ h).trans (by kernel_rfl)
theorem k9e(a1:Ref)(a2 a3 a4:Int)(a5:Sl)(h:AH):go (.fn kng [.iface kbp (.ptr (some a1)),.iface kbf (.agg [.int .i64 a2,.int .i64 a3,.int .i64 a4,a5.v])]) h =
 (go (.fn kru [.ptr (some a1),.iface kbf (.agg [.int .i64 a2,.int .i64 a3,.int .i64 a4,a5.v])]) h).bind fun q6 =>
 (AV.asTup0 q6.1).bind fun _ =>
 ((q6.2.cell a1).bind AV.asSl).bind fun l7 =>
 (go (.fn knw [l7.v]) q6.2).bind fun q8 =>
 ((some q8.1).bind (AV.asInt .i64)).bind fun n9 =>
 (go (.fn kh9 [.iface kbp (.ptr (some a1)),.int .i64 (IntKind.wrap .i64 (n9-1))]) q8.2).bind fun q10 =>
 (AV.asTup0 q10.1).bind fun _ =>
 some (.tup [],q10.2):=(kf _ h).trans (by kernel_rfl)
theorem kum(a1 a2:Ref)(a3 a4 a5 a6:Int)(h:AH):go (.pt kc5 kmi [(0,.ptr (some a1)),(1,.ptr (some a2)),(2,.int .i64 a3),(3,.int .u32 a4),(4,.int .i64 a5),(9,.int .i64 a6)]) h =
 cond (decide (a6<8)) (
 go (.pt kc5 kmi [(0,.ptr (some a1)),(1,.ptr (some a2)),(2,.int .i64 a3),(3,.int .u32 (ixor .u32 (ishr .u32 a4 1) (iand .u32 3988292384 (IntKind.wrap .u32 (0-(iand .u32 a4 1)))))),(4,.int .i64 a5),(9,.int .i64 (IntKind.wrap .i64 (a6+1)))]) h) (
 (idx (some a2) 256 a3 1).bind fun r7 =>
 (h.puts r7 [.int .u32 a4]).bind fun h8 =>
 go (.pt kc5 ki2 [(0,.ptr (some a1)),(1,.ptr (some a2)),(4,.int .i64 (IntKind.wrap .i64 (a5+1)))]) h8):=(kf _ h).trans (by kernel_rfl)
theorem kbbl(a1:Int)(h:AH):go (.fn kqu [.int .i64 a1]) h =
 cond (decide (a1≥0)) (
 some (.int .u64 (IntKind.wrap .u64 (2*(IntKind.wrap .u64 a1))),h)) (
 some (.int .u64 (IntKind.wrap .u64 ((IntKind.wrap .u64 (2*(IntKind.wrap .u64 (IntKind.wrap .i64 (0-(IntKind.wrap .i64 (a1+1)))))))+1)),h)):=(kf _ h).trans (by kernel_rfl)
theorem kxe(a1:Sl)(a2 a3:Int)(h:AH):go (.pt kbn kcg [(0,a1.v),(1,.func (.func kdc) [] []),(7,.int .i64 a2),(8,.int .i64 a3)]) h =
 cond (decide (a3<a2)) (
 (idx a1.ref a1.len a3 1).bind fun r4 =>
 ((h.cell r4).bind (AV.asInt .i64)).bind fun n5 =>
 (go (.fn kdc [.int .i64 n5]) h).bind fun q6 =>
 ((some q6.1).bind AV.asBool).bind fun b7 =>
 cond b7 (
 some (.int .i64 a3,q6.2)) (
 go (.pt kbn kcg [(0,a1.v),(1,.func (.func kdc) [] []),(7,.int .i64 a2),(8,.int .i64 (IntKind.wrap .i64 (a3+1)))]) q6.2)) (
 some (.int .i64 (-1),h)):=(kf _ h).trans (by kernel_rfl)
theorem kt0(a1:Sl)(a2:Option Ref)(a3 a4:Int)(h:AH):go (.pt kbn kcg [(0,a1.v),(1,.func (.func kdl) [] [.ptr a2]),(7,.int .i64 a3),(8,.int .i64 a4)]) h =
 cond (decide (a4<a3)) (
 (idx a1.ref a1.len a4 1).bind fun r5 =>
 ((h.cell r5).bind (AV.asInt .i64)).bind fun n6 =>
 (go (.fn kdl [.int .i64 n6,.ptr a2]) h).bind fun q7 =>
 ((some q7.1).bind AV.asBool).bind fun b8 =>
 cond b8 (
 some (.int .i64 a4,q7.2)) (
 go (.pt kbn kcg [(0,a1.v),(1,.func (.func kdl) [] [.ptr a2]),(7,.int .i64 a3),(8,.int .i64 (IntKind.wrap .i64 (a4+1)))]) q7.2)) (
 some (.int .i64 (-1),h)):=(kf _ h).trans (by kernel_rfl)
theorem kxx(a1:Ref)(a2 a3 a4:Int)(h:AH):go (.pt kd7 kgc [(0,.iface kbp (.ptr (some a1))),(1,.int .i64 a2),(2,.int .i64 a3),(7,.int .i64 a4)]) h =
 cond (decide ((IntKind.wrap .i64 ((IntKind.wrap .i64 (2*a4))+1))≥a3)) (
 some (.bool (decide (a4>a2)),h)) (
 cond (decide ((IntKind.wrap .i64 ((IntKind.wrap .i64 (2*a4))+1))<0)) (
 some (.bool (decide (a4>a2)),h)) (
 cond (decide ((IntKind.wrap .i64 ((IntKind.wrap .i64 ((IntKind.wrap .i64 (2*a4))+1))+1))<a3)) (
 ((h.cell a1).bind AV.asSl).bind fun l5 =>
 (go (.fn kfy [l5.v,.int .i64 (IntKind.wrap .i64 ((IntKind.wrap .i64 ((IntKind.wrap .i64 (2*a4))+1))+1)),.int .i64 (IntKind.wrap .i64 ((IntKind.wrap .i64 (2*a4))+1))]) h).bind fun q6 =>
 ((some q6.1).bind AV.asBool).bind fun b7 =>
 cond b7 (
 ((q6.2.cell a1).bind AV.asSl).bind fun l8 =>
 (go (.fn kfy [l8.v,.int .i64 (IntKind.wrap .i64 ((IntKind.wrap .i64 ((IntKind.wrap .i64 (2*a4))+1))+1)),.int .i64 a4]) q6.2).bind fun q9 =>
 ((some q9.1).bind AV.asBool).bind fun b10 =>
 cond (!b10) (
 some (.bool (decide (a4>a2)),q9.2)) (
 ((q9.2.cell a1).bind AV.asSl).bind fun l11 =>
 (go (.fn kfj [l11.v,.int .i64 a4,.int .i64 (IntKind.wrap .i64 ((IntKind.wrap .i64 ((IntKind.wrap .i64 (2*a4))+1))+1))]) q9.2).bind fun q12 =>
 (AV.asTup0 q12.1).bind fun _ =>
 go (.pt kd7 kgc [(0,.iface kbp (.ptr (some a1))),(1,.int .i64 a2),(2,.int .i64 a3),(7,.int .i64 (IntKind.wrap .i64 ((IntKind.wrap .i64 ((IntKind.wrap .i64 (2*a4))+1))+1)))]) q12.2)) (
 ((q6.2.cell a1).bind AV.asSl).bind fun l13 =>
 (go (.fn kfy [l13.v,.int .i64 (IntKind.wrap .i64 ((IntKind.wrap .i64 (2*a4))+1)),.int .i64 a4]) q6.2).bind fun q14 =>
 ((some q14.1).bind AV.asBool).bind fun b15 =>
 cond (!b15) (
 some (.bool (decide (a4>a2)),q14.2)) (
 ((q14.2.cell a1).bind AV.asSl).bind fun l16 =>
 (go (.fn kfj [l16.v,.int .i64 a4,.int .i64 (IntKind.wrap .i64 ((IntKind.wrap .i64 (2*a4))+1))]) q14.2).bind fun q17 =>
 (AV.asTup0 q17.1).bind fun _ =>
 go (.pt kd7 kgc [(0,.iface kbp (.ptr (some a1))),(1,.int .i64 a2),(2,.int .i64 a3),(7,.int .i64 (IntKind.wrap .i64 ((IntKind.wrap .i64 (2*a4))+1)))]) q17.2))) (
 ((h.cell a1).bind AV.asSl).bind fun l18 =>
 (go (.fn kfy [l18.v,.int .i64 (IntKind.wrap .i64 ((IntKind.wrap .i64 (2*a4))+1)),.int .i64 a4]) h).bind fun q19 =>
 ((some q19.1).bind AV.asBool).bind fun b20 =>
 cond (!b20) (
 some (.bool (decide (a4>a2)),q19.2)) (
 ((q19.2.cell a1).bind AV.asSl).bind fun l21 =>
 (go (.fn kfj [l21.v,.int .i64 a4,.int .i64 (IntKind.wrap .i64 ((IntKind.wrap .i64 (2*a4))+1))]) q19.2).bind fun q22 =>
 (AV.asTup0 q22.1).bind fun _ =>
 go (.pt kd7 kgc [(0,.iface kbp (.ptr (some a1))),(1,.int .i64 a2),(2,.int .i64 a3),(7,.int .i64 (IntKind.wrap .i64 ((IntKind.wrap .i64 (2*a4))+1)))]) q22.2)))):=(kf _ h).trans (by kernel_rfl)
end Go.Ab
