/- squeezed -/
import Derived.Test.YtgfeahhgoiidiaaGreatDoorPAbsDra
import Derived.Test.YtgfeahhgoiidiaaGreatDoorProg
set_option linter.unusedVariables false
set_option linter.unusedSimpArgs false
set_option linter.unusedSectionVars false

set_option maxRecDepth 100000
namespace Go.Ab
open Go.Proofs
@[reducible] def F.kqo:FuncId:=5
@[reducible] def F.kps:FuncId:=8
@[reducible] def F.kcw:FuncId:=10
@[reducible] def F.kc0:FuncId:=13
@[reducible] def F.kc1:FuncId:=14
@[reducible] def F.kdb:FuncId:=15
@[reducible] def F.kdd:FuncId:=17
@[reducible] def F.kf4:FuncId:=20
@[reducible] def F.ko4:FuncId:=21
@[reducible] def F.kbt:FuncId:=22
@[reducible] def F.kne:FuncId:=26
@[reducible] def F.kmn:FuncId:=27
@[reducible] def F.kg8:FuncId:=34
@[reducible] def F.kfl:FuncId:=35
@[reducible] def F.kgj:FuncId:=36
@[reducible] def F.kc9:FuncId:=37
@[reducible] def F.kc6:FuncId:=38
@[reducible] def F.kcu:FuncId:=39
@[reducible] def F.ke9:FuncId:=40
@[reducible] def F.kkp:FuncId:=41
@[reducible] def F.kos:FuncId:=42
@[reducible] def F.kfs:FuncId:=43
@[reducible] def F.kb8:FuncId:=44
@[reducible] def F.kdz:FuncId:=45
@[reducible] def F.kju:FuncId:=46
@[reducible] def F.knk:FuncId:=47
@[reducible] def F.ko6:FuncId:=48
@[reducible] def F.km3:FuncId:=49
@[reducible] def F.ke3:FuncId:=58
@[reducible] def F.kb0:FuncId:=59
@[reducible] def F.knl:FuncId:=62
@[reducible] def F.kdh:FuncId:=63
@[reducible] def F.kbn:FuncId:=64
@[reducible] def F.khx:FuncId:=65
@[reducible] def F.kdx:FuncId:=66
@[reducible] def F.kff:FuncId:=67
@[reducible] def F.koq:FuncId:=68
@[reducible] def F.kgo:FuncId:=69
@[reducible] def F.ki1:FuncId:=70
@[reducible] def F.kh3:FuncId:=71
@[reducible] def F.kg4:FuncId:=72
@[reducible] def F.kdv:FuncId:=73
@[reducible] def F.knw:FuncId:=74
@[reducible] def F.km0:FuncId:=75
@[reducible] def F.kj6:FuncId:=76
@[reducible] def F.ki3:FuncId:=77
@[reducible] def F.kle:FuncId:=78
@[reducible] def F.kor:FuncId:=79
@[reducible] def F.kgi:FuncId:=80
@[reducible] def F.kpw:FuncId:=81
@[reducible] def F.kqj:FuncId:=82
@[reducible] def F.kcl:FuncId:=83
@[reducible] def F.kew:FuncId:=84
@[reducible] def F.kig:FuncId:=85
@[reducible] def F.kdj:FuncId:=96
@[reducible] def F.kgt:FuncId:=97
@[reducible] def F.kgk:FuncId:=98
@[reducible] def F.keo:FuncId:=99
@[reducible] def F.ke4:FuncId:=100
@[reducible] def F.kd3:FuncId:=101
@[reducible] def F.kec:FuncId:=102
@[reducible] def F.kf3:FuncId:=103
@[reducible] def F.kb2:FuncId:=104
@[reducible] def F.kea:FuncId:=105
@[reducible] def F.kib:FuncId:=106
@[reducible] def F.kp3:FuncId:=107
@[reducible] def F.kfm:FuncId:=108
@[reducible] def F.kqq:FuncId:=109
@[reducible] def F.kni:FuncId:=110
@[reducible] def F.kkn:FuncId:=111
@[reducible] def F.kls:FuncId:=112
@[reducible] def F.kms:FuncId:=113
@[reducible] def F.kfr:FuncId:=114
@[reducible] def F.kjn:FuncId:=115
@[reducible] def F.kk2:FuncId:=116
@[reducible] def F.kkf:FuncId:=117
@[reducible] def F.koi:FuncId:=118
@[reducible] def F.kd2:FuncId:=119
@[reducible] def F.kb3:FuncId:=120
@[reducible] def F.kpf:FuncId:=121
@[reducible] def F.kdi:FuncId:=139
@[reducible] def F.kf2:FuncId:=140
@[reducible] def F.ke7:FuncId:=141
@[reducible] def F.kd7:FuncId:=142
@[reducible] def F.kej:FuncId:=143
@[reducible] def F.kb5:FuncId:=144
@[reducible] def F.kbq:FuncId:=145
@[reducible] def F.krz:FuncId:=146
@[reducible] def F.kdt:FuncId:=147
@[reducible] def F.kot:FuncId:=148
@[reducible] def F.khp:FuncId:=149
@[reducible] def F.khh:FuncId:=150
@[reducible] def F.kgy:FuncId:=151
@[reducible] def F.khg:FuncId:=152
@[reducible] def F.kvj:FuncId:=153
@[reducible] def F.kdu:FuncId:=154
@[reducible] def F.kkc:FuncId:=155
@[reducible] def F.kla:FuncId:=156
@[reducible] def F.kc4:FuncId:=157
@[reducible] def F.kc3:FuncId:=158
@[reducible] def F.ktc:FuncId:=171
@[reducible] def F.kdp:FuncId:=172
@[reducible] def F.kbu:FuncId:=173
@[reducible] def F.kmo:FuncId:=174
@[reducible] def F.keb:FuncId:=175
@[reducible] def F.kem:FuncId:=176
@[reducible] def F.kco:FuncId:=177
@[reducible] def F.kg7:FuncId:=178
@[reducible] def F.knz:FuncId:=179
@[reducible] def F.kh1:FuncId:=180
@[reducible] def F.kjc:FuncId:=181
@[reducible] def F.kif:FuncId:=182
@[reducible] def F.kh0:FuncId:=183
@[reducible] def F.kda:FuncId:=184
@[reducible] def F.kie:FuncId:=189
@[reducible] def F.kl4:FuncId:=190
@[reducible] def F.kkq:FuncId:=191
@[reducible] def F.kfe:FuncId:=208
@[reducible] def F.kog:FuncId:=209
@[reducible] def F.koe:FuncId:=210
@[reducible] def F.kfu:FuncId:=211
@[reducible] def T.func:TypeId:=1
@[reducible] def T.int:TypeId:=3
@[reducible] def T.bool:TypeId:=4
@[reducible] def T.string:TypeId:=9
@[reducible] def T.any:TypeId:=20
@[reducible] def T.kci:TypeId:=23
@[reducible] def T.kdl:TypeId:=25
@[reducible] def T.kph:TypeId:=28
@[reducible] def T.kce:TypeId:=30
@[reducible] def T.kns:TypeId:=38
@[reducible] def T.kdc:TypeId:=40
@[reducible] def T.kpi:TypeId:=45
@[reducible] def T.kbr:TypeId:=47
@[reducible] def T.kbj:TypeId:=49
@[reducible] def T.kj:TypeId:=58
@[reducible] def T.k6x:TypeId:=68
@[reducible] def T.kx:TypeId:=71
@[reducible] def T.kbp:TypeId:=74
@[reducible] def T.kbg:TypeId:=76
@[reducible] def T.kwu:TypeId:=78
@[reducible] def T.kbe:TypeId:=82
@[reducible] def T.kd6:TypeId:=93
@[reducible] def T.kbbo:TypeId:=97
@[reducible] def T.kcg:TypeId:=115
@[reducible] def T.ki:TypeId:=117
@[reducible] def T.ky:TypeId:=119
@[reducible] def T.k2b:TypeId:=183
@[reducible] noncomputable def Pg:Program:=Tryz.prog
@[reducible] def Gl.math_bits_deBruijn64tab:Nat:=0
@[reducible] def Gl.math_bits_divideError:Nat:=1
@[reducible] def Gl.math_bits_overflowError:Nat:=2
def keepTab:List (Nat×Nat×List Nat):=[(4,10,[1,2,3,9,11,12]),(4,14,[1,2,3,9,11,12,13,14]),(4,18,[1,2,3,9,11,12,13,15]),(4,22,[1,2,3,9,11,12,13,15,16,17]),(4,29,[2,3,9,11,18,19]),(6,13,[1,2,3,9,12,15]),(6,18,[1,2,3,9,12,15,16,17,18]),(6,26,[1,2,9,12,19]),(7,4,[1,3,4,5]),(9,4,[1,2,5,6,7]),(9,8,[1,2,5,6,7,8]),(9,18,[2,5,9,10]),(10,7,[1,2,3,6,9,10,26,27]),(10,10,[1,2,3,6,9,10,11,26,27,32,33,34]),(11,7,[1,2,3,6,10,11,12]),(11,11,[1,2,3,6,10,11,12,13,14]),(12,4,[2,3,5]),(12,9,[2,3,5,6]),(13,5,[1,6,15,16,17]),(13,8,[1,6,8,9,15,16,17]),(14,6,[1,2,7,8]),(14,10,[1,2,7,8,9,10]),(15,4,[1,3]),(15,10,[1,3,4,5]),(16,3,[0,1,5,6]),(16,7,[0,1,5,6,7,8]),(17,4,[12,13,14]),(17,9,[4,12,13,14,29,30,31]),(18,3,[3,17,18,19]),(18,7,[3,17,18,19,31,32,33]),(18,14,[3,17,18,19,31,32,33,55,56,57]),(19,3,[1,3,4]),(19,8,[1,3,4,5,6]),(19,16,[1,3,4,5,6,8,9]),(20,4,[1,2,23,24,25]),(22,4,[1,2,3,4,8,11,12]),(22,13,[1,2,3,4,8,11,12,13,14,15,16]),(22,17,[1,2,3,4,8,11,12,18,92,93,94]),(23,5,[1,2,8]),(23,14,[2,11]),(25,3,[1,2,3,4,8,9,10]),(25,9,[1,2,3,4,8,11,12,13]),(25,19,[1,2,3,4,8,11,12,13,14,15,16,17]),(25,23,[1,2,3,4,8,11,12,13,14,20,22]),(25,1000032,[0,1,2,3,4,5,6,8,9,10,11,12,13,15,16,17,18,19,20,22,23,24,25,26,27,7,14,21,28,29,30,31]),(28,2,[0,3]),(30,4,[3,4,8,9,10]),(31,2,[0,3]),(33,3,[0,3,4]),(33,7,[0,3,4,5]),(35,4,[1,27,28,29]),(36,4,[0,1,12,13]),(40,3,[0,2,4,5,15,16]),(43,3,[0,4,5,9,10,11]),(44,4,[1,5,8,9,17,18,19]),(44,7,[1,5,8,9,10,11,17,18,19,25,26,27]),(44,10,[1,5,8,9,10,11,12,17,18,19,25,26,27,33,34]),(45,7,[0,6,10,13,47,48,49]),(46,1000004,[0,1,2,3,4,5,7,8,9,10,11,12,13,14,21,22,6,15,16,17,18,19,20,23,24,25]),(46,2000004,[21,22]),(51,5,[1,4]),(51,10,[1,4,5]),(52,4,[0,1,5]),(53,3,[0,1,4,5,6]),(54,4,[0,1,2,8,9,10]),(54,7,[0,1,2,8,9,10,11]),(54,10,[0,1,2,8,9,10,11,12]),(55,5,[0,1,3,6,11]),(55,13,[0,3,6,14,16,17]),(55,1000007,[0,1,2,3,4,9,5,6,7,8,10,11]),(55,1000016,[0,1,2,3,4,5,10,6,7,8,9,11,12]),(55,2000007,[9]),(55,2000016,[10]),(56,1000005,[0,1,2,4,5,11,3,6,7,8,9,10,12,13]),(56,1000006,[0,1,2,3,4,6,7,13,5,8,9,10,11,12,14,15]),(56,2000005,[11]),(56,2000006,[13]),(57,3,[1,2,3,4,5,11,12]),(60,3,[0,1,4]),(60,7,[0,1,2,3,4,9]),(64,2,[0,1,7,8]),(66,2,[0,1,2,7]),(67,7,[2,3,6,8,44,45,46]),(73,1000003,[0,2,1,3,4]),(74,1000003,[0,1,3,4,2,5,6,7]),(75,1000005,[0,1,3,4,10,2,5,6,7,8,9,11,12]),(75,2000005,[10]),(83,5,[2,3,4,6,8,9,35,36]),(85,0,[0,1]),(86,4,[0,3]),(92,1000005,[0,1,3,4,2,5,6,7]),(97,3,[3,7,8,9]),(98,5,[4,6,23,24,25]),(102,4,[0,1]),(108,1000001,[0,1,2,3,9,4,5,6,7,8,10,11]),(108,2000001,[9]),(120,1,[0,6,7,8]),(120,3,[0,3,4,6,7,8]),(122,2,[0,1,5]),(125,7,[8,9]),(130,1000005,[0,1,3,4,10,2,5,6,7,8,9,11,12]),(130,2000005,[10]),(131,1000005,[0,1,2,4,5,3,6,7,8,9,10,11]),(134,1000001,[0,1,2,3,9,4,5,6,7,8,10,11]),(134,2000001,[9]),(142,6,[0,1,5]),(143,4,[0,1,6,7,8]),(144,6,[6,7,8,9,10,11]),(144,10,[6,7,8,9,10,11,12,13]),(144,18,[6,10,15,16,112,113]),(145,2,[0,3]),(150,1000003,[0,1,2,4,5,11,3,6,7,8,9,10,12,13]),(150,2000003,[11]),(157,6,[0,1,5,6,21,22]),(158,4,[0,1,5,6,13,14]),(160,4,[0,1,6,7,8]),(160,9,[0,1,6,7,8,9,10]),(161,3,[0,3,4]),(161,7,[0,3,4,5,6]),(162,3,[0,4,5]),(162,7,[0,4,5,6,7]),(167,3,[0,1,5,6]),(167,7,[0,1,5,6,7,8]),(168,4,[0,1,5,6,7]),(169,6,[0,1,5]),(170,4,[0,1,5,6,7]),(170,1000006,[0,1,2,3,4,5,6,9,7,8,10,11]),(173,3,[0,1,2]),(173,17,[2,8,9,10,11,13,14,15,16]),(173,24,[2,8,9,10,14,15,16,17,18]),(175,3,[1,5,12,13,14]),(176,4,[2,3,4,11,12]),(177,3,[1,5,20,21,22]),(177,7,[1,5,6,7,8,20,21,22,27,28,29]),(178,2,[0,1,7,8]),(180,2,[0,1,7,8]),(181,1000006,[0,1,2,4,5,8,9,10,12,13,3,6,7,11,14,15,16,17]),(181,1000007,[0,1,2,4,5,9,10,12,13,3,6,7,8,11,14,15,16,17,18]),(184,2,[0,1,2,6,7]),(187,2,[0,3]),(189,2,[0,1,7,8])]
noncomputable def go:Rec:=run Pg (keepOf keepTab)
theorem kf(k:Key)(h:AH):go k h=stepA Pg (keepOf keepTab) go k h:=k4v _ k h
theorem kch:Pg.underlying T.int=some (.int .i64):=Tryz.underlying3
theorem kg9:Pg.cellsOf T.int=1:=by kernel_rfl
theorem kti:kcd Pg T.int=some [.int .i64 0]:=by kernel_rfl
theorem knj:Pg.bytesOf T.int=8:=by kernel_rfl
theorem k1u:Pg.underlying T.bool=some .bool:=Tryz.underlying4
theorem kxn:Pg.cellsOf T.bool=1:=by kernel_rfl
theorem kwr:Pg.underlying T.kci=some (.struct #[{name := "Trees",type:=T.int,offset:=0,embedded:=false,tag := "",pkgPath := "",byteOffset:=0},{name := "Depth",type:=T.int,offset:=1,embedded:=false,tag := "",pkgPath := "",byteOffset:=8},{name := "Lambda",type:=T.int,offset:=2,embedded:=false,tag := "",pkgPath := "",byteOffset:=16},{name := "Gamma",type:=T.int,offset:=3,embedded:=false,tag := "",pkgPath := "",byteOffset:=24},{name := "Num",type:=T.int,offset:=4,embedded:=false,tag := "",pkgPath := "",byteOffset:=32},{name := "Den",type:=T.int,offset:=5,embedded:=false,tag := "",pkgPath := "",byteOffset:=40},{name := "Loss",type:=T.int,offset:=6,embedded:=false,tag := "",pkgPath := "",byteOffset:=48},{name := "Clip",type:=T.int,offset:=7,embedded:=false,tag := "",pkgPath := "",byteOffset:=56}]):=Tryz.underlying23
theorem kyu:Pg.cellsOf T.kci=8:=by kernel_rfl
theorem kxm:Pg.underlying T.kdl=some (.slice T.int):=Tryz.underlying25
theorem k6s:Pg.cellsOf T.kdl=1:=by kernel_rfl
theorem k5f:Pg.underlying T.kph=some (.slice T.kbr):=Tryz.underlying28
theorem k84:Pg.cellsOf T.kph=1:=by kernel_rfl
theorem ktv:Pg.underlying T.kce=some (.struct #[{name := "Trees",type:=T.kph,offset:=0,embedded:=false,tag := "",pkgPath := "",byteOffset:=0}]):=Tryz.underlying30
theorem k5g:Pg.cellsOf T.kce=1:=by kernel_rfl
theorem kwd:Pg.underlying T.kns=some (.slice T.kdl):=Tryz.underlying38
theorem kzm:Pg.underlying T.kpi=some (.slice T.kbj):=Tryz.underlying45
theorem k6v:Pg.cellsOf T.kpi=1:=by kernel_rfl
theorem kbas:Pg.underlying T.kbr=some (.struct #[{name := "Nodes",type:=T.kpi,offset:=0,embedded:=false,tag := "",pkgPath := "",byteOffset:=0}]):=Tryz.underlying47
theorem kqn:Pg.cellsOf T.kbr=1:=by kernel_rfl
theorem k8a:kcd Pg T.kbr=some [(⟨none,0,.is 0⟩:Sl).v]:=by kernel_rfl
theorem k3c:Pg.bytesOf T.kbr=24:=by kernel_rfl
theorem kbai:Pg.underlying T.kbj=some (.struct #[{name := "Leaf",type:=T.bool,offset:=0,embedded:=false,tag := "",pkgPath := "",byteOffset:=0},{name := "Weight",type:=T.int,offset:=1,embedded:=false,tag := "",pkgPath := "",byteOffset:=8},{name := "Party",type:=T.int,offset:=2,embedded:=false,tag := "",pkgPath := "",byteOffset:=16},{name := "Feature",type:=T.int,offset:=3,embedded:=false,tag := "",pkgPath := "",byteOffset:=24},{name := "Cut",type:=T.int,offset:=4,embedded:=false,tag := "",pkgPath := "",byteOffset:=32},{name := "Left",type:=T.int,offset:=5,embedded:=false,tag := "",pkgPath := "",byteOffset:=40},{name := "Right",type:=T.int,offset:=6,embedded:=false,tag := "",pkgPath := "",byteOffset:=48}]):=Tryz.underlying49
theorem kpb:Pg.cellsOf T.kbj=7:=by kernel_rfl
theorem k2t:kcd Pg T.kbj=some [.bool false,.int .i64 0,.int .i64 0,.int .i64 0,.int .i64 0,.int .i64 0,.int .i64 0]:=by kernel_rfl
theorem kwe:Pg.bytesOf T.kbj=56:=by kernel_rfl
theorem kbaz:Pg.cellsOf T.kj=1:=by kernel_rfl
theorem kbae:kcd Pg T.kj=some [.int .u64 0]:=by kernel_rfl
theorem ken:Pg.bytesOf T.kj=8:=by kernel_rfl
theorem k1r:Pg.cellsOf T.kbg=4:=by kernel_rfl
theorem kbbg:kcd Pg T.kbg=some [.int .i64 0,.int .i64 0,.int .i64 0,(⟨none,0,.is 0⟩:Sl).v]:=by kernel_rfl
theorem k92:Pg.bytesOf T.kbg=48:=by kernel_rfl
theorem k4l:Pg.cellsOf T.kbe=2:=by kernel_rfl
theorem kzw:kcd Pg T.kbe=some [.int .i64 0,.int .i64 0]:=by kernel_rfl
theorem k89:Pg.bytesOf T.kbe=16:=by kernel_rfl
theorem k0h:Pg.cellsOf T.kd6=9:=by kernel_rfl
theorem kw3:kcd Pg T.kd6=some [.bool false,.int .i64 0,.int .i64 0,.int .i64 0,.int .i64 0,.int .i64 0,.int .i64 0,.int .i64 0,(⟨none,0,.is 0⟩:Sl).v]:=by kernel_rfl
theorem k6m:Pg.bytesOf T.kd6=88:=by kernel_rfl
noncomputable def Td.kli:List Item:=todoAt Tryz.f10 7
noncomputable def Td.kje:List Item:=todoAt Tryz.f10 10
noncomputable def Td.kjf:List Item:=todoAt Tryz.f13 5
noncomputable def Td.ki9:List Item:=todoAt Tryz.f13 8
noncomputable def Td.kik:List Item:=todoAt Tryz.f14 6
noncomputable def Td.kiz:List Item:=todoAt Tryz.f14 10
noncomputable def Td.ki2:List Item:=todoAt Tryz.f15 4
noncomputable def Td.kmw:List Item:=todoAt Tryz.f15 10
noncomputable def Td.kj4:List Item:=todoAt Tryz.f17 4
noncomputable def Td.knd:List Item:=todoAt Tryz.f17 9
noncomputable def Td.kmu:List Item:=todoAt Tryz.f20 4
noncomputable def Td.kfk:List Item:=todoAt Tryz.f22 4
noncomputable def Td.kg5:List Item:=todoAt Tryz.f22 13
noncomputable def Td.kmk:List Item:=todoAt Tryz.f22 17
noncomputable def Td.kl9:List Item:=todoAt Tryz.f35 4
noncomputable def Td.knh:List Item:=todoAt Tryz.f36 4
noncomputable def Td.kir:List Item:=todoAt Tryz.f40 3
noncomputable def Td.kme:List Item:=todoAt Tryz.f43 3
noncomputable def Td.kkh:List Item:=todoAt Tryz.f44 4
noncomputable def Td.ki5:List Item:=todoAt Tryz.f44 7
noncomputable def Td.kkw:List Item:=todoAt Tryz.f44 10
noncomputable def Td.kgm:List Item:=todoAt Tryz.f45 7
noncomputable def Td.kcf:List Item:=todoAt Tryz.f64 2
noncomputable def Td.kge:List Item:=todoAt Tryz.f66 2
noncomputable def Td.kj2:List Item:=todoAt Tryz.f67 7
noncomputable def Td.ke8:List Item:=todoAt Tryz.f83 5
noncomputable def Td.kn8:List Item:=todoAt Tryz.f85 0
noncomputable def Td.kmr:List Item:=todoAt Tryz.f97 3
noncomputable def Td.kld:List Item:=todoAt Tryz.f98 5
noncomputable def Td.kmc:List Item:=todoAt Tryz.f102 4
noncomputable def Td.ki6:List Item:=todoAt Tryz.f120 1
noncomputable def Td.knf:List Item:=todoAt Tryz.f120 3
noncomputable def Td.kkv:List Item:=todoAt Tryz.f142 6
noncomputable def Td.kkl:List Item:=todoAt Tryz.f143 4
noncomputable def Td.km8:List Item:=todoAt Tryz.f144 6
noncomputable def Td.kly:List Item:=todoAt Tryz.f144 10
noncomputable def Td.khy:List Item:=todoAt Tryz.f144 18
noncomputable def Td.kjr:List Item:=todoAt Tryz.f145 2
noncomputable def Td.kfp:List Item:=todoAt Tryz.f157 6
noncomputable def Td.kid:List Item:=todoAt Tryz.f158 4
noncomputable def Td.kqs:List Item:=todoAt Tryz.f173 3
noncomputable def Td.kj1:List Item:=todoAt Tryz.f173 17
noncomputable def Td.kgf:List Item:=todoAt Tryz.f173 24
noncomputable def Td.kj0:List Item:=todoAt Tryz.f175 3
noncomputable def Td.kin:List Item:=todoAt Tryz.f176 4
noncomputable def Td.klw:List Item:=todoAt Tryz.f177 3
noncomputable def Td.kna:List Item:=todoAt Tryz.f177 7
noncomputable def Td.klc:List Item:=todoAt Tryz.f178 2
noncomputable def Td.kl5:List Item:=todoAt Tryz.f180 2
noncomputable def Td.kgq:List Item:=todoAt Tryz.f184 2
noncomputable def Td.kma:List Item:=todoAt Tryz.f189 2
noncomputable def Fx.kn9:Func:=Tryz.f119
noncomputable def Tr.kt2:List Item:=k7a Tryz.f119 0 (.tmp 6)
noncomputable def Ta.krh:List Item:=(loopAt Tryz.f119 0).2.2.2
def lit1:ByteArray:=(⟨((List.append (List.append ([0,1,2,2,3,3,3,3,4,4,4,4,4,4,4,4,5,5,5,5,5,5,5,5,5,5,5,5,5,5,5,5,6,6,6,6,6,6,6,6,6,6,6,6,6,6,6,6,6,6,6,6,6,6,6,6,6,6,6,6,6,6,6,6]:List UInt8) ([7,7,7,7,7,7,7,7,7,7,7,7,7,7,7,7,7,7,7,7,7,7,7,7,7,7,7,7,7,7,7,7,7,7,7,7,7,7,7,7,7,7,7,7,7,7,7,7,7,7,7,7,7,7,7,7,7,7,7,7,7,7,7,7]:List UInt8)) (List.append ([8,8,8,8,8,8,8,8,8,8,8,8,8,8,8,8,8,8,8,8,8,8,8,8,8,8,8,8,8,8,8,8,8,8,8,8,8,8,8,8,8,8,8,8,8,8,8,8,8,8,8,8,8,8,8,8,8,8,8,8,8,8,8,8]:List UInt8) ([8,8,8,8,8,8,8,8,8,8,8,8,8,8,8,8,8,8,8,8,8,8,8,8,8,8,8,8,8,8,8,8,8,8,8,8,8,8,8,8,8,8,8,8,8,8,8,8,8,8,8,8,8,8,8,8,8,8,8,8,8,8,8,8]:List UInt8)))).toArray⟩:ByteArray)
theorem kbad(args:List AV)(h:AH):callF Pg go F.kb3 args h=go (.fn F.kb3 args) h:=by kernel_rfl
theorem k6c(args:List AV)(h:AH):callF Pg go F.ke3 args h=go (.fn F.ke3 args) h:=by kernel_rfl
theorem ky3(a1 a2:Sl)(h:AH):go (.fn F.kqo [.agg [a1.v],a2.v]) h =
 newK h (.cells [a1.v] T.kce) fun h3r h3 =>
 (go (.fn F.kps []) h3).bind fun q4 =>
 ((some q4.1).bind AV.asBool).bind fun b5 =>
 ((q4.2.cell (h3r.add 0)).bind AV.asSl).bind fun l6 =>
 (go (.fn F.kc0 [.agg [l6.v],a2.v]) q4.2).bind fun q7 =>
 (AV.asTup2 q7.1).bind fun p8 =>
 ((some p8.1).bind (AV.asInt .i64)).bind fun n9 =>
 ((some p8.2).bind (AV.asInt .i64)).bind fun n10 =>
 ((q7.2.cell (h3r.add 0)).bind AV.asSl).bind fun l11 =>
 (go (.fn F.kc1 [.agg [l11.v],a2.v]) q7.2).bind fun q12 =>
 (AV.asTup2 q12.1).bind fun p13 =>
 ((some p13.1).bind (AV.asInt .i64)).bind fun n14 =>
 ((some p13.2).bind (AV.asInt .i64)).bind fun n15 =>
 cond b5 (
 cond (decide (n9=n14)) (
 some (.bool (decide (n10=n15)),q12.2)) (
 some (.bool false,q12.2))) (
 some (.bool false,q12.2)):=(kf _ h).trans (by kernel_rfl)
theorem k26(a1:Nat)(a2:Ref)(h:AH):go (.fn F.kb3 [.func (.yield a1) [] [],.ptr (some a2)]) h =
 ((h.cell (a2.add 1)).bind AV.asSl).bind fun l3 =>
 go (.pt F.kb3 Td.ki6 [(0,.func (.yield a1) [] []),(6,l3.v),(7,.int .i64 (l3.len:Int)),(8,.int .i64 0)]) h:=(kf _ h).trans (by kernel_rfl)
theorem k6a(a1 a2:Sl)(a3:Ref)(h:AH):go (.fn F.kjc [a1.v,a2.v,.ptr (some a3)]) h =
 cond (decide ((a1.len:Int)<24)) (
 (go (.fn F.kco [a1.v,a2.v]) h).bind fun q4 =>
 ((some q4.1).bind AV.asSl).bind fun l5 =>
 some (l5.v,q4.2)) (
 cond (decide ((a2.len:Int)<24)) (
 (go (.fn F.kco [a1.v,a2.v]) h).bind fun q6 =>
 ((some q6.1).bind AV.asSl).bind fun l7 =>
 some (l7.v,q6.2)) (
 newK h (.cells [.int .i64 0] T.int) fun h8r h8 =>
 (h8.puts h8r [.int .i64 (IntKind.wrap .i64 (Int.tdiv (IntKind.wrap .i64 ((imax (a1.len:Int) (a2.len:Int))+1)) 2))]).bind fun h9 =>
 (h9.cell a3).bind fun v10 =>
 (h9.cell a3).bind fun v11 =>
 (go (.fn F.kif [a1.v,.ptr (some h8r)]) h9).bind fun q12 =>
 ((some q12.1).bind AV.asSl).bind fun l13 =>
 whenK (SameAt h9 q12.2 a3 1) (
 whenK (SameAt h9 q12.2 a3 1) (
 (go (.fn F.kif [a2.v,.ptr (some h8r)]) q12.2).bind fun q14 =>
 ((some q14.1).bind AV.asSl).bind fun l15 =>
 whenK (SameAt q12.2 q14.2 a3 1) (
 whenK (SameAt q12.2 q14.2 a3 1) (
 (callV Pg go v10 [l13.v,l15.v] q14.2).bind fun q16 =>
 ((some q16.1).bind AV.asSl).bind fun l17 =>
 whenK (SameAt q14.2 q16.2 a3 1) (
 (go (.fn F.kh0 [a1.v,.ptr (some h8r)]) q16.2).bind fun q18 =>
 ((some q18.1).bind AV.asSl).bind fun l19 =>
 whenK (SameAt q16.2 q18.2 a3 1) (
 (go (.fn F.kh0 [a2.v,.ptr (some h8r)]) q18.2).bind fun q20 =>
 ((some q20.1).bind AV.asSl).bind fun l21 =>
 whenK (SameAt q18.2 q20.2 a3 1) (
 (callV Pg go v11 [l19.v,l21.v] q20.2).bind fun q22 =>
 ((some q22.1).bind AV.asSl).bind fun l23 =>
 (q22.2.cell a3).bind fun v24 =>
 (go (.fn F.kif [a1.v,.ptr (some h8r)]) q22.2).bind fun q25 =>
 ((some q25.1).bind AV.asSl).bind fun l26 =>
 whenK (SameAt q22.2 q25.2 a3 1) (
 (go (.fn F.kh0 [a1.v,.ptr (some h8r)]) q25.2).bind fun q27 =>
 ((some q27.1).bind AV.asSl).bind fun l28 =>
 whenK (SameAt q25.2 q27.2 a3 1) (
 (go (.fn F.kc4 [l26.v,l28.v]) q27.2).bind fun q29 =>
 ((some q29.1).bind AV.asSl).bind fun l30 =>
 whenK (SameAt q27.2 q29.2 a3 1) (
 (go (.fn F.kbq [l30.v]) q29.2).bind fun q31 =>
 ((some q31.1).bind AV.asSl).bind fun l32 =>
 whenK (SameAt q29.2 q31.2 a3 1) (
 (go (.fn F.kif [a2.v,.ptr (some h8r)]) q31.2).bind fun q33 =>
 ((some q33.1).bind AV.asSl).bind fun l34 =>
 whenK (SameAt q31.2 q33.2 a3 1) (
 (go (.fn F.kh0 [a2.v,.ptr (some h8r)]) q33.2).bind fun q35 =>
 ((some q35.1).bind AV.asSl).bind fun l36 =>
 whenK (SameAt q33.2 q35.2 a3 1) (
 (go (.fn F.kc4 [l34.v,l36.v]) q35.2).bind fun q37 =>
 ((some q37.1).bind AV.asSl).bind fun l38 =>
 whenK (SameAt q35.2 q37.2 a3 1) (
 (go (.fn F.kbq [l38.v]) q37.2).bind fun q39 =>
 ((some q39.1).bind AV.asSl).bind fun l40 =>
 whenK (SameAt q37.2 q39.2 a3 1) (
 (callV Pg go v24 [l32.v,l40.v] q39.2).bind fun q41 =>
 ((some q41.1).bind AV.asSl).bind fun l42 =>
 (go (.fn F.kc3 [l42.v,l17.v]) q41.2).bind fun q43 =>
 ((some q43.1).bind AV.asSl).bind fun l44 =>
 (go (.fn F.kbq [l44.v]) q43.2).bind fun q45 =>
 ((some q45.1).bind AV.asSl).bind fun l46 =>
 (go (.fn F.kc3 [l46.v,l23.v]) q45.2).bind fun q47 =>
 ((some q47.1).bind AV.asSl).bind fun l48 =>
 (go (.fn F.kbq [l48.v]) q47.2).bind fun q49 =>
 ((some q49.1).bind AV.asSl).bind fun l50 =>
 (kbv (IntKind.wrap .i64 ((IntKind.wrap .i64 ((a1.len:Int)+(a2.len:Int)))+1)) (IntKind.wrap .i64 ((IntKind.wrap .i64 ((a1.len:Int)+(a2.len:Int)))+1)) T.kj (Pg.bytesOf T.kj) [.int .u64 0] q49.2).bind fun q51 =>
 (copyH l17 q51.1 1 q51.2).bind fun h52 =>
 ((h52.cell h8r).bind (AV.asInt .i64)).bind fun n53 =>
 (go (.fn F.kda [q51.1.v,l50.v,.int .i64 n53]) h52).bind fun q54 =>
 (AV.asTup0 q54.1).bind fun _ =>
 ((q54.2.cell h8r).bind (AV.asInt .i64)).bind fun n55 =>
 (go (.fn F.kda [q51.1.v,l23.v,.int .i64 (IntKind.wrap .i64 (2*n55))]) q54.2).bind fun q56 =>
 (AV.asTup0 q56.1).bind fun _ =>
 (go (.fn F.kbq [q51.1.v]) q56.2).bind fun q57 =>
 ((some q57.1).bind AV.asSl).bind fun l58 =>
 some (l58.v,q57.2)))))))))))))))))):=(kf _ h).trans (by kernel_rfl)
theorem kzf(a1 a2 a3:Int)(h:AH):go (.fn F.ke3 [.int .i64 a1,.int .i64 a2,.int .i64 a3]) h =
 cond (decide (a1≥a2)) (
 some (.bool (decide (a1≤a3)),h)) (
 some (.bool false,h)):=(kf _ h).trans (by kernel_rfl)
theorem k09  (h:AH):go (.fn F.kps []) h =
 newK h (.cells [.int .i64 0,.int .i64 1,.int .i64 2,.int .i64 3] T.int) fun h1r h1 =>
 newK h1 (.cells [.int .i64 2] T.int) fun h2r h2 =>
 newK h2 (.cells [.int .i64 0,.int .i64 0,.int .i64 1,.int .i64 1] T.int) fun h3r h3 =>
 newK h3 (.cells [(⟨some h3r,4,.is 4⟩:Sl).v] T.kdl) fun h4r h4 =>
 newK h4 (.cells [(⟨none,0,.is 0⟩:Sl).v,(⟨none,0,.is 0⟩:Sl).v,(⟨none,0,.is 0⟩:Sl).v] T.kdc) fun h5r h5 =>
 (h5.puts h5r [(⟨some h1r,4,.is 4⟩:Sl).v,(⟨some h2r,1,.is 1⟩:Sl).v,(⟨some h4r,1,.is 1⟩:Sl).v]).bind fun h6 =>
 ((h6.cell (h5r.add 0)).bind AV.asSl).bind fun l7 =>
 ((h6.cell (h5r.add 1)).bind AV.asSl).bind fun l8 =>
 ((h6.cell (h5r.add 2)).bind AV.asSl).bind fun l9 =>
 newK h6 (.cells [l7.v,l8.v,l9.v] T.kdc) fun h10r h10 =>
 newK h10 (.cells [.int .i64 10,.int .i64 10,.int .i64 (-10),.int .i64 (-10)] T.int) fun h11r h11 =>
 (go (.fn F.kcw [.agg [.int .i64 1,.int .i64 1,.int .i64 1,.int .i64 0,.int .i64 1,.int .i64 1,.int .i64 0,.int .i64 0],(⟨some h10r,1,.is 1⟩:Sl).v,(⟨some h11r,4,.is 4⟩:Sl).v]) h11).bind fun q12 =>
 (AV.asTup2 q12.1).bind fun p13 =>
 (AV.asAgg p13.1).bind fun cs14 =>
 cond (Nat.beq cs14.length 1) (
 ((cs14[0]?).bind AV.asSl).bind fun l15 =>
 ((some p13.2).bind (AV.asInt .i64)).bind fun n16 =>
 newK q12.2 (.cells [(⟨none,0,.is 0⟩:Sl).v] T.kce) fun h17r h17 =>
 (h17.puts h17r [l15.v]).bind fun h18 =>
 cond (!decide (n16=0)) (
 some (.bool false,h18)) (
 ((h18.cell (h17r.add 0)).bind AV.asSl).bind fun l19 =>
 cond (!decide ((l19.len:Int)=1)) (
 some (.bool false,h18)) (
 ((h18.cell (h17r.add 0)).bind AV.asSl).bind fun l20 =>
 (idx l20.ref l20.len 0 1).bind fun r21 =>
 ((h18.cell (r21.add 0)).bind AV.asSl).bind fun l22 =>
 cond (!decide ((l22.len:Int)=3)) (
 some (.bool false,h18)) (
 ((h18.cell (h17r.add 0)).bind AV.asSl).bind fun l23 =>
 (idx l23.ref l23.len 0 1).bind fun r24 =>
 ((h18.cell (r24.add 0)).bind AV.asSl).bind fun l25 =>
 (idx l25.ref l25.len 0 7).bind fun r26 =>
 ((h18.cell (r26.add 0)).bind AV.asBool).bind fun b27 =>
 cond (!b27) (
 (idx l25.ref l25.len 1 7).bind fun r28 =>
 ((h18.cell (r28.add 1)).bind (AV.asInt .i64)).bind fun n29 =>
 cond (decide (n29=6)) (
 (idx l25.ref l25.len 2 7).bind fun r30 =>
 ((h18.cell (r30.add 1)).bind (AV.asInt .i64)).bind fun n31 =>
 some (.bool (decide (n31=(-7))),h18)) (
 some (.bool false,h18))) (
 some (.bool false,h18)))))) none:=(kf _ h).trans (by kernel_rfl)
theorem ky4(a1 a2 a3 a4 a5 a6 a7 a8:Int)(a9 a10:Sl)(h:AH):go (.fn F.kcw [.agg [.int .i64 a1,.int .i64 a2,.int .i64 a3,.int .i64 a4,.int .i64 a5,.int .i64 a6,.int .i64 a7,.int .i64 a8],a9.v,a10.v]) h =
 newK h (.cells [.int .i64 a1,.int .i64 a2,.int .i64 a3,.int .i64 a4,.int .i64 a5,.int .i64 a6,.int .i64 a7,.int .i64 a8] T.kci) fun h11r h11 =>
 newK h11 (.cells [(⟨none,0,.is 0⟩:Sl).v] T.kce) fun h12r h12 =>
 ((h12.cell (h11r.add 0)).bind (AV.asInt .i64)).bind fun n13 =>
 ((h12.cell (h11r.add 1)).bind (AV.asInt .i64)).bind fun n14 =>
 ((h12.cell (h11r.add 2)).bind (AV.asInt .i64)).bind fun n15 =>
 ((h12.cell (h11r.add 3)).bind (AV.asInt .i64)).bind fun n16 =>
 ((h12.cell (h11r.add 4)).bind (AV.asInt .i64)).bind fun n17 =>
 ((h12.cell (h11r.add 5)).bind (AV.asInt .i64)).bind fun n18 =>
 ((h12.cell (h11r.add 6)).bind (AV.asInt .i64)).bind fun n19 =>
 ((h12.cell (h11r.add 7)).bind (AV.asInt .i64)).bind fun n20 =>
 (go (.fn F.kf4 [.agg [.int .i64 n13,.int .i64 n14,.int .i64 n15,.int .i64 n16,.int .i64 n17,.int .i64 n18,.int .i64 n19,.int .i64 n20],a9.v,a10.v]) h12).bind fun q21 =>
 ((some q21.1).bind (AV.asInt .i64)).bind fun n22 =>
 cond (!decide (n22=0)) (
 (q21.2.puts h12r [(⟨none,0,.is 0⟩:Sl).v]).bind fun h23 =>
 ((h23.cell (h12r.add 0)).bind AV.asSl).bind fun l24 =>
 some (.tup [.agg [l24.v],.int .i64 n22],h23)) (
 (kbv (a10.len:Int) (a10.len:Int) T.int (Pg.bytesOf T.int) [.int .i64 0] q21.2).bind fun q25 =>
 newK q25.2 (.cells [(⟨none,0,.is 0⟩:Sl).v] T.kce) fun h26r h26 =>
 ((h26.cell (h11r.add 0)).bind (AV.asInt .i64)).bind fun n27 =>
 go (.pt F.kcw Td.kli [(1,a9.v),(2,a10.v),(3,.ptr (some h11r)),(6,.ptr (some h12r)),(9,q25.1.v),(10,.ptr (some h26r)),(26,.int .i64 n27),(27,.int .i64 0)]) h26):=(kf _ h).trans (by kernel_rfl)
theorem kze(a1 a2:Sl)(h:AH):go (.fn F.kc0 [.agg [a1.v],a2.v]) h =
 newK h (.cells [a1.v] T.kce) fun h3r h3 =>
 ((h3.cell (h3r.add 0)).bind AV.asSl).bind fun l4 =>
 (go (.fn F.kdd [.agg [l4.v]]) h3).bind fun q5 =>
 ((some q5.1).bind AV.asBool).bind fun b6 =>
 cond (!b6) (
 some (.tup [.int .i64 0,.int .i64 1],q5.2)) (
 ((q5.2.cell (h3r.add 0)).bind AV.asSl).bind fun l7 =>
 go (.pt F.kc0 Td.kjf [(1,a2.v),(6,.int .i64 0),(15,l7.v),(16,.int .i64 (l7.len:Int)),(17,.int .i64 0)]) q5.2):=(kf _ h).trans (by kernel_rfl)
theorem k9l(a1 a2:Sl)(h:AH):go (.fn F.kc1 [.agg [a1.v],a2.v]) h =
 newK h (.cells [a1.v] T.kce) fun h3r h3 =>
 ((h3.cell (h3r.add 0)).bind AV.asSl).bind fun l4 =>
 (go (.fn F.kdb [.agg [l4.v]]) h3).bind fun q5 =>
 ((some q5.1).bind AV.asBool).bind fun b6 =>
 cond (!b6) (
 some (.tup [.int .i64 0,.int .i64 1],q5.2)) (
 go (.pt F.kc1 Td.kik [(1,a2.v),(2,.ptr (some h3r)),(7,.int .i64 0),(8,.int .i64 0)]) q5.2):=(kf _ h).trans (by kernel_rfl)
theorem k69(a1:Sl)(h:AH):go (.fn F.kdb [.agg [a1.v]]) h =
 newK h (.cells [a1.v] T.kce) fun h2r h2 =>
 ((h2.cell (h2r.add 0)).bind AV.asSl).bind fun l3 =>
 cond (decide ((l3.len:Int)>16)) (
 some (.bool false,h2)) (
 go (.pt F.kdb Td.ki2 [(1,.ptr (some h2r)),(3,.int .i64 0)]) h2):=(kf _ h).trans (by kernel_rfl)
theorem ksn(a1:Nat)(a2:Sl)(a3 a4:Int)(h:AH):go (.pt F.kb3 Td.ki6 [(0,.func (.yield a1) [] []),(6,a2.v),(7,.int .i64 a3),(8,.int .i64 a4)]) h =
 cond (decide (a4<a3)) (
 (idx a2.ref a2.len a4 1).bind fun r5 =>
 ((h.cell r5).bind (AV.asInt .u64)).bind fun n6 =>
 go (.pt F.kb3 Td.knf [(0,.func (.yield a1) [] []),(3,.int .i64 a4),(4,.int .u64 n6),(6,a2.v),(7,.int .i64 a3),(8,.int .i64 a4)]) h) (
 some (.tup [],h)):=(kf _ h).trans (by kernel_rfl)
theorem kzv(a1 a2:Sl)(h:AH):go (.fn F.kco [a1.v,a2.v]) h =
 (kbv (IntKind.wrap .i64 ((a1.len:Int)+(a2.len:Int))) (IntKind.wrap .i64 ((a1.len:Int)+(a2.len:Int))) T.kj (Pg.bytesOf T.kj) [.int .u64 0] h).bind fun q3 =>
 go (.pt F.kco Td.klw [(1,a2.v),(5,q3.1.v),(20,a1.v),(21,.int .i64 (a1.len:Int)),(22,.int .i64 0)]) q3.2:=(kf _ h).trans (by kernel_rfl)
theorem k4s(a1:Sl)(a2:Ref)(h:AH):go (.fn F.kif [a1.v,.ptr (some a2)]) h =
 ((h.cell a2).bind (AV.asInt .i64)).bind fun n3 =>
 (cutSl a1 0 (imin n3 (a1.len:Int)) 1).bind fun l4 =>
 (go (.fn F.kbq [l4.v]) h).bind fun q5 =>
 ((some q5.1).bind AV.asSl).bind fun l6 =>
 some (l6.v,q5.2):=(kf _ h).trans (by kernel_rfl)
theorem kw7(a1:Sl)(a2:Ref)(h:AH):go (.fn F.kh0 [a1.v,.ptr (some a2)]) h =
 ((h.cell a2).bind (AV.asInt .i64)).bind fun n3 =>
 (cutSl a1 (imin n3 (a1.len:Int)) (a1.len:Int) 1).bind fun l4 =>
 some (l4.v,h):=(kf _ h).trans (by kernel_rfl)
theorem kzo(a1 a2:Sl)(h:AH):go (.fn F.kc4 [a1.v,a2.v]) h =
 cond (decide ((a1.len:Int)<(a2.len:Int))) (
 (kbv (IntKind.wrap .i64 ((a2.len:Int)+1)) (IntKind.wrap .i64 ((a2.len:Int)+1)) T.kj (Pg.bytesOf T.kj) [.int .u64 0] h).bind fun q3 =>
 go (.pt F.kc4 Td.kfp [(0,a2.v),(1,a1.v),(5,q3.1.v),(6,.int .u64 0),(21,.int .i64 (a2.len:Int)),(22,.int .i64 0)]) q3.2) (
 (kbv (IntKind.wrap .i64 ((a1.len:Int)+1)) (IntKind.wrap .i64 ((a1.len:Int)+1)) T.kj (Pg.bytesOf T.kj) [.int .u64 0] h).bind fun q4 =>
 go (.pt F.kc4 Td.kfp [(0,a1.v),(1,a2.v),(5,q4.1.v),(6,.int .u64 0),(21,.int .i64 (a1.len:Int)),(22,.int .i64 0)]) q4.2):=(kf _ h).trans (by kernel_rfl)
theorem ko9(a1:Sl)(h:AH):go (.fn F.kbq [a1.v]) h =
 go (.pt F.kbq Td.kjr [(0,a1.v),(3,.int .i64 (a1.len:Int))]) h:=(kf _ h).trans (by kernel_rfl)
theorem k4m(a1 a2:Sl)(h:AH):go (.fn F.kc3 [a1.v,a2.v]) h =
 (kbv (a1.len:Int) (a1.len:Int) T.kj (Pg.bytesOf T.kj) [.int .u64 0] h).bind fun q3 =>
 go (.pt F.kc3 Td.kid [(0,a1.v),(1,a2.v),(5,q3.1.v),(6,.int .u64 0),(13,.int .i64 (a1.len:Int)),(14,.int .i64 0)]) q3.2:=(kf _ h).trans (by kernel_rfl)
theorem k40(a1 a2:Sl)(a3:Int)(h:AH):go (.fn F.kda [a1.v,a2.v,.int .i64 a3]) h =
 go (.pt F.kda Td.kgq [(0,a1.v),(1,a2.v),(2,.int .i64 a3),(6,.int .u64 0),(7,.int .i64 a3)]) h:=(kf _ h).trans (by kernel_rfl)
theorem k8p(a1 a2 a3 a4 a5 a6 a7 a8:Int)(a9 a10:Sl)(h:AH):go (.fn F.kf4 [.agg [.int .i64 a1,.int .i64 a2,.int .i64 a3,.int .i64 a4,.int .i64 a5,.int .i64 a6,.int .i64 a7,.int .i64 a8],a9.v,a10.v]) h =
 newK h (.cells [.int .i64 a1,.int .i64 a2,.int .i64 a3,.int .i64 a4,.int .i64 a5,.int .i64 a6,.int .i64 a7,.int .i64 a8] T.kci) fun h11r h11 =>
 ((h11.cell (h11r.add 0)).bind (AV.asInt .i64)).bind fun n12 =>
 ((h11.cell (h11r.add 1)).bind (AV.asInt .i64)).bind fun n13 =>
 ((h11.cell (h11r.add 2)).bind (AV.asInt .i64)).bind fun n14 =>
 ((h11.cell (h11r.add 3)).bind (AV.asInt .i64)).bind fun n15 =>
 ((h11.cell (h11r.add 4)).bind (AV.asInt .i64)).bind fun n16 =>
 ((h11.cell (h11r.add 5)).bind (AV.asInt .i64)).bind fun n17 =>
 ((h11.cell (h11r.add 6)).bind (AV.asInt .i64)).bind fun n18 =>
 ((h11.cell (h11r.add 7)).bind (AV.asInt .i64)).bind fun n19 =>
 (go (.fn F.kg8 [.agg [.int .i64 n12,.int .i64 n13,.int .i64 n14,.int .i64 n15,.int .i64 n16,.int .i64 n17,.int .i64 n18,.int .i64 n19]]) h11).bind fun q20 =>
 ((some q20.1).bind AV.asBool).bind fun b21 =>
 cond (!b21) (
 some (.int .i64 1,q20.2)) (
 cond (decide ((a9.len:Int)=0)) (
 some (.int .i64 1,q20.2)) (
 cond (decide ((a9.len:Int)>16)) (
 some (.int .i64 1,q20.2)) (
 go (.pt F.kf4 Td.kmu [(1,a9.v),(2,a10.v),(23,a9.v),(24,.int .i64 (a9.len:Int)),(25,.int .i64 0)]) q20.2))):=(kf _ h).trans (by kernel_rfl)
theorem ktz(a1 a2:Sl)(a3 a4:Ref)(a5:Sl)(a6:Ref)(a7 a8:Int)(h:AH):go (.pt F.kcw Td.kli [(1,a1.v),(2,a2.v),(3,.ptr (some a3)),(6,.ptr (some a4)),(9,a5.v),(10,.ptr (some a6)),(26,.int .i64 a7),(27,.int .i64 a8)]) h =
 cond (decide (a8<a7)) (
 (kbv (a2.len:Int) (a2.len:Int) T.int (Pg.bytesOf T.int) [.int .i64 0] h).bind fun q9 =>
 go (.pt F.kcw Td.kje [(1,a1.v),(2,a2.v),(3,.ptr (some a3)),(6,.ptr (some a4)),(9,a5.v),(10,.ptr (some a6)),(11,q9.1.v),(26,.int .i64 a7),(27,.int .i64 a8),(32,a2.v),(33,.int .i64 (a2.len:Int)),(34,.int .i64 0)]) q9.2) (
 ((h.cell (a6.add 0)).bind AV.asSl).bind fun l10 =>
 (h.puts a4 [l10.v]).bind fun h11 =>
 ((h11.cell (a4.add 0)).bind AV.asSl).bind fun l12 =>
 some (.tup [.agg [l12.v],.int .i64 0],h11)):=(kf _ h).trans (by kernel_rfl)
theorem k8t(a1:Sl)(h:AH):go (.fn F.kdd [.agg [a1.v]]) h =
 newK h (.cells [a1.v] T.kce) fun h2r h2 =>
 ((h2.cell (h2r.add 0)).bind AV.asSl).bind fun l3 =>
 cond (decide ((l3.len:Int)>16)) (
 some (.bool false,h2)) (
 ((h2.cell (h2r.add 0)).bind AV.asSl).bind fun l4 =>
 go (.pt F.kdd Td.kj4 [(12,l4.v),(13,.int .i64 (l4.len:Int)),(14,.int .i64 0)]) h2):=(kf _ h).trans (by kernel_rfl)
theorem kvv(a1:Sl)(a2:Int)(a3:Sl)(a4 a5:Int)(h:AH):go (.pt F.kc0 Td.kjf [(1,a1.v),(6,.int .i64 a2),(15,a3.v),(16,.int .i64 a4),(17,.int .i64 a5)]) h =
 cond (decide (a5<a4)) (
 (idx a3.ref a3.len a5 1).bind fun r6 =>
 ((h.cell (r6.add 0)).bind AV.asSl).bind fun l7 =>
 newK h (.cells [(⟨none,0,.is 0⟩:Sl).v] T.kbr) fun h8r h8 =>
 (h8.puts h8r [l7.v]).bind fun h9 =>
 ((h9.cell (h8r.add 0)).bind AV.asSl).bind fun l10 =>
 (idx l10.ref l10.len 0 7).bind fun r11 =>
 ((h9.cell (r11.add 0)).bind AV.asBool).bind fun b12 =>
 ((h9.cell (r11.add 1)).bind (AV.asInt .i64)).bind fun n13 =>
 ((h9.cell (r11.add 2)).bind (AV.asInt .i64)).bind fun n14 =>
 ((h9.cell (r11.add 3)).bind (AV.asInt .i64)).bind fun n15 =>
 ((h9.cell (r11.add 4)).bind (AV.asInt .i64)).bind fun n16 =>
 ((h9.cell (r11.add 5)).bind (AV.asInt .i64)).bind fun n17 =>
 ((h9.cell (r11.add 6)).bind (AV.asInt .i64)).bind fun n18 =>
 newK h9 (.cells [.bool false,.int .i64 0,.int .i64 0,.int .i64 0,.int .i64 0,.int .i64 0,.int .i64 0] T.kbj) fun h19r h19 =>
 (h19.puts h19r [.bool b12,.int .i64 n13,.int .i64 n14,.int .i64 n15,.int .i64 n16,.int .i64 n17,.int .i64 n18]).bind fun h20 =>
 go (.pt F.kc0 Td.ki9 [(1,a1.v),(6,.int .i64 a2),(8,.ptr (some h8r)),(9,.ptr (some h19r)),(15,a3.v),(16,.int .i64 a4),(17,.int .i64 a5)]) h20) (
 some (.tup [.int .i64 a2,.int .i64 0],h)):=(kf _ h).trans (by kernel_rfl)
theorem krf(a1:Sl)(a2:Ref)(a3 a4:Int)(h:AH):go (.pt F.kc1 Td.kik [(1,a1.v),(2,.ptr (some a2)),(7,.int .i64 a3),(8,.int .i64 a4)]) h =
 ((h.cell (a2.add 0)).bind AV.asSl).bind fun l5 =>
 cond (decide (a4<(l5.len:Int))) (
 ((h.cell (a2.add 0)).bind AV.asSl).bind fun l6 =>
 (idx l6.ref l6.len a4 1).bind fun r7 =>
 ((h.cell (r7.add 0)).bind AV.asSl).bind fun l8 =>
 go (.pt F.kc1 Td.kiz [(1,a1.v),(2,.ptr (some a2)),(7,.int .i64 a3),(8,.int .i64 a4),(9,l8.v),(10,.int .i64 0)]) h) (
 some (.tup [.int .i64 a3,.int .i64 0],h)):=(kf _ h).trans (by kernel_rfl)
theorem kv3(a1:Ref)(a2:Int)(h:AH):go (.pt F.kdb Td.ki2 [(1,.ptr (some a1)),(3,.int .i64 a2)]) h =
 ((h.cell (a1.add 0)).bind AV.asSl).bind fun l3 =>
 cond (decide (a2<(l3.len:Int))) (
 ((h.cell (a1.add 0)).bind AV.asSl).bind fun l4 =>
 (idx l4.ref l4.len a2 1).bind fun r5 =>
 ((h.cell (r5.add 0)).bind AV.asSl).bind fun l6 =>
 cond (decide ((l6.len:Int)<1)) (
 some (.bool false,h)) (
 cond (decide ((l6.len:Int)>63)) (
 some (.bool false,h)) (
 go (.pt F.kdb Td.kmw [(1,.ptr (some a1)),(3,.int .i64 a2),(4,l6.v),(5,.int .i64 0)]) h))) (
 some (.bool true,h)):=(kf _ h).trans (by kernel_rfl)
theorem kwb(a1:Nat)(a2 a3:Int)(a4:Sl)(a5 a6:Int)(h:AH):go (.pt F.kb3 Td.knf [(0,.func (.yield a1) [] []),(3,.int .i64 a2),(4,.int .u64 a3),(6,a4.v),(7,.int .i64 a5),(8,.int .i64 a6)]) h =
 cond (!decide (a3=0)) (
 (go (.fn F.kpf [.int .u64 a3]) h).bind fun q7 =>
 ((some q7.1).bind (AV.asInt .i64)).bind fun n8 =>
 (go (.round a1 [.int .i64 (IntKind.wrap .i64 ((IntKind.wrap .i64 (64*a2))+n8))]) q7.2).bind fun q9 =>
 ((some q9.1).bind AV.asBool).bind fun b10 =>
 cond (!b10) (
 some (.tup [],q9.2)) (
 go (.pt F.kb3 Td.knf [(0,.func (.yield a1) [] []),(3,.int .i64 a2),(4,.int .u64 (iand .u64 a3 (IntKind.wrap .u64 (a3-1)))),(6,a4.v),(7,.int .i64 a5),(8,.int .i64 a6)]) q9.2)) (
 go (.pt F.kb3 Td.ki6 [(0,.func (.yield a1) [] []),(6,a4.v),(7,.int .i64 a5),(8,.int .i64 (IntKind.wrap .i64 (a6+1)))]) h):=(kf _ h).trans (by kernel_rfl)
theorem k70(a1 a2 a3:Sl)(a4 a5:Int)(h:AH):go (.pt F.kco Td.klw [(1,a1.v),(5,a2.v),(20,a3.v),(21,.int .i64 a4),(22,.int .i64 a5)]) h =
 cond (decide (a5<a4)) (
 (idx a3.ref a3.len a5 1).bind fun r6 =>
 ((h.cell r6).bind (AV.asInt .u64)).bind fun n7 =>
 go (.pt F.kco Td.kna [(1,a1.v),(5,a2.v),(6,.int .i64 a5),(7,.int .u64 n7),(8,.int .u64 0),(20,a3.v),(21,.int .i64 a4),(22,.int .i64 a5),(27,a1.v),(28,.int .i64 (a1.len:Int)),(29,.int .i64 0)]) h) (
 (go (.fn F.kbq [a2.v]) h).bind fun q8 =>
 ((some q8.1).bind AV.asSl).bind fun l9 =>
 some (l9.v,q8.2)):=(kf _ h).trans (by kernel_rfl)
theorem ksi(a1 a2 a3:Sl)(a4 a5 a6:Int)(h:AH):go (.pt F.kc4 Td.kfp [(0,a1.v),(1,a2.v),(5,a3.v),(6,.int .u64 a4),(21,.int .i64 a5),(22,.int .i64 a6)]) h =
 cond (decide (a6<a5)) (
 cond (decide (a6<(a2.len:Int))) (
 (idx a2.ref a2.len a6 1).bind fun r7 =>
 ((h.cell r7).bind (AV.asInt .u64)).bind fun n8 =>
 (idx a1.ref a1.len a6 1).bind fun r9 =>
 ((h.cell r9).bind (AV.asInt .u64)).bind fun n10 =>
 ((prim "math/bits.Add64" [.int .u64 n10,.int .u64 n8,.int .u64 a4]).map fun v=>(v,h)).bind fun q11 =>
 (AV.asTup2 q11.1).bind fun p12 =>
 ((some p12.1).bind (AV.asInt .u64)).bind fun n13 =>
 ((some p12.2).bind (AV.asInt .u64)).bind fun n14 =>
 (idx a3.ref a3.len a6 1).bind fun r15 =>
 (q11.2.puts r15 [.int .u64 n13]).bind fun h16 =>
 go (.pt F.kc4 Td.kfp [(0,a1.v),(1,a2.v),(5,a3.v),(6,.int .u64 n14),(21,.int .i64 a5),(22,.int .i64 (IntKind.wrap .i64 (a6+1)))]) h16) (
 (idx a1.ref a1.len a6 1).bind fun r17 =>
 ((h.cell r17).bind (AV.asInt .u64)).bind fun n18 =>
 ((prim "math/bits.Add64" [.int .u64 n18,.int .u64 0,.int .u64 a4]).map fun v=>(v,h)).bind fun q19 =>
 (AV.asTup2 q19.1).bind fun p20 =>
 ((some p20.1).bind (AV.asInt .u64)).bind fun n21 =>
 ((some p20.2).bind (AV.asInt .u64)).bind fun n22 =>
 (idx a3.ref a3.len a6 1).bind fun r23 =>
 (q19.2.puts r23 [.int .u64 n21]).bind fun h24 =>
 go (.pt F.kc4 Td.kfp [(0,a1.v),(1,a2.v),(5,a3.v),(6,.int .u64 n22),(21,.int .i64 a5),(22,.int .i64 (IntKind.wrap .i64 (a6+1)))]) h24)) (
 (idx a3.ref a3.len (a1.len:Int) 1).bind fun r25 =>
 (h.puts r25 [.int .u64 a4]).bind fun h26 =>
 some (a3.v,h26)):=(kf _ h).trans (by kernel_rfl)
theorem kk6(a1:Sl)(a2:Int)(h:AH):go (.pt F.kbq Td.kjr [(0,a1.v),(3,.int .i64 a2)]) h =
 cond (decide (a2>0)) (
 (idx a1.ref a1.len (IntKind.wrap .i64 (a2-1)) 1).bind fun r3 =>
 ((h.cell r3).bind (AV.asInt .u64)).bind fun n4 =>
 cond (decide (n4=0)) (
 go (.pt F.kbq Td.kjr [(0,a1.v),(3,.int .i64 (IntKind.wrap .i64 (a2-1)))]) h) (
 (cutSl a1 0 a2 1).bind fun l5 =>
 some (l5.v,h))) (
 (cutSl a1 0 a2 1).bind fun l6 =>
 some (l6.v,h)):=(kf _ h).trans (by kernel_rfl)
theorem kru(a1 a2 a3:Sl)(a4 a5 a6:Int)(h:AH):go (.pt F.kc3 Td.kid [(0,a1.v),(1,a2.v),(5,a3.v),(6,.int .u64 a4),(13,.int .i64 a5),(14,.int .i64 a6)]) h =
 cond (decide (a6<a5)) (
 cond (decide (a6<(a2.len:Int))) (
 (idx a2.ref a2.len a6 1).bind fun r7 =>
 ((h.cell r7).bind (AV.asInt .u64)).bind fun n8 =>
 (idx a1.ref a1.len a6 1).bind fun r9 =>
 ((h.cell r9).bind (AV.asInt .u64)).bind fun n10 =>
 ((prim "math/bits.Sub64" [.int .u64 n10,.int .u64 n8,.int .u64 a4]).map fun v=>(v,h)).bind fun q11 =>
 (AV.asTup2 q11.1).bind fun p12 =>
 ((some p12.1).bind (AV.asInt .u64)).bind fun n13 =>
 ((some p12.2).bind (AV.asInt .u64)).bind fun n14 =>
 (idx a3.ref a3.len a6 1).bind fun r15 =>
 (q11.2.puts r15 [.int .u64 n13]).bind fun h16 =>
 go (.pt F.kc3 Td.kid [(0,a1.v),(1,a2.v),(5,a3.v),(6,.int .u64 n14),(13,.int .i64 a5),(14,.int .i64 (IntKind.wrap .i64 (a6+1)))]) h16) (
 (idx a1.ref a1.len a6 1).bind fun r17 =>
 ((h.cell r17).bind (AV.asInt .u64)).bind fun n18 =>
 ((prim "math/bits.Sub64" [.int .u64 n18,.int .u64 0,.int .u64 a4]).map fun v=>(v,h)).bind fun q19 =>
 (AV.asTup2 q19.1).bind fun p20 =>
 ((some p20.1).bind (AV.asInt .u64)).bind fun n21 =>
 ((some p20.2).bind (AV.asInt .u64)).bind fun n22 =>
 (idx a3.ref a3.len a6 1).bind fun r23 =>
 (q19.2.puts r23 [.int .u64 n21]).bind fun h24 =>
 go (.pt F.kc3 Td.kid [(0,a1.v),(1,a2.v),(5,a3.v),(6,.int .u64 n22),(13,.int .i64 a5),(14,.int .i64 (IntKind.wrap .i64 (a6+1)))]) h24)) (
 some (a3.v,h)):=(kf _ h).trans (by kernel_rfl)
theorem kyf(a1 a2:Sl)(a3 a4 a5:Int)(h:AH):go (.pt F.kda Td.kgq [(0,a1.v),(1,a2.v),(2,.int .i64 a3),(6,.int .u64 a4),(7,.int .i64 a5)]) h =
 cond (decide (a5<(a1.len:Int))) (
 cond (decide ((IntKind.wrap .i64 (a5-a3))<(a2.len:Int))) (
 cond (decide ((IntKind.wrap .i64 (a5-a3))<(a2.len:Int))) (
 (idx a2.ref a2.len (IntKind.wrap .i64 (a5-a3)) 1).bind fun r6 =>
 ((h.cell r6).bind (AV.asInt .u64)).bind fun n7 =>
 (idx a1.ref a1.len a5 1).bind fun r8 =>
 ((h.cell r8).bind (AV.asInt .u64)).bind fun n9 =>
 ((prim "math/bits.Add64" [.int .u64 n9,.int .u64 n7,.int .u64 a4]).map fun v=>(v,h)).bind fun q10 =>
 (AV.asTup2 q10.1).bind fun p11 =>
 ((some p11.1).bind (AV.asInt .u64)).bind fun n12 =>
 ((some p11.2).bind (AV.asInt .u64)).bind fun n13 =>
 (idx a1.ref a1.len a5 1).bind fun r14 =>
 (q10.2.puts r14 [.int .u64 n12]).bind fun h15 =>
 go (.pt F.kda Td.kgq [(0,a1.v),(1,a2.v),(2,.int .i64 a3),(6,.int .u64 n13),(7,.int .i64 (IntKind.wrap .i64 (a5+1)))]) h15) (
 (idx a1.ref a1.len a5 1).bind fun r16 =>
 ((h.cell r16).bind (AV.asInt .u64)).bind fun n17 =>
 ((prim "math/bits.Add64" [.int .u64 n17,.int .u64 0,.int .u64 a4]).map fun v=>(v,h)).bind fun q18 =>
 (AV.asTup2 q18.1).bind fun p19 =>
 ((some p19.1).bind (AV.asInt .u64)).bind fun n20 =>
 ((some p19.2).bind (AV.asInt .u64)).bind fun n21 =>
 (idx a1.ref a1.len a5 1).bind fun r22 =>
 (q18.2.puts r22 [.int .u64 n20]).bind fun h23 =>
 go (.pt F.kda Td.kgq [(0,a1.v),(1,a2.v),(2,.int .i64 a3),(6,.int .u64 n21),(7,.int .i64 (IntKind.wrap .i64 (a5+1)))]) h23)) (
 cond (decide (a4>0)) (
 cond (decide ((IntKind.wrap .i64 (a5-a3))<(a2.len:Int))) (
 (idx a2.ref a2.len (IntKind.wrap .i64 (a5-a3)) 1).bind fun r24 =>
 ((h.cell r24).bind (AV.asInt .u64)).bind fun n25 =>
 (idx a1.ref a1.len a5 1).bind fun r26 =>
 ((h.cell r26).bind (AV.asInt .u64)).bind fun n27 =>
 ((prim "math/bits.Add64" [.int .u64 n27,.int .u64 n25,.int .u64 a4]).map fun v=>(v,h)).bind fun q28 =>
 (AV.asTup2 q28.1).bind fun p29 =>
 ((some p29.1).bind (AV.asInt .u64)).bind fun n30 =>
 ((some p29.2).bind (AV.asInt .u64)).bind fun n31 =>
 (idx a1.ref a1.len a5 1).bind fun r32 =>
 (q28.2.puts r32 [.int .u64 n30]).bind fun h33 =>
 go (.pt F.kda Td.kgq [(0,a1.v),(1,a2.v),(2,.int .i64 a3),(6,.int .u64 n31),(7,.int .i64 (IntKind.wrap .i64 (a5+1)))]) h33) (
 (idx a1.ref a1.len a5 1).bind fun r34 =>
 ((h.cell r34).bind (AV.asInt .u64)).bind fun n35 =>
 ((prim "math/bits.Add64" [.int .u64 n35,.int .u64 0,.int .u64 a4]).map fun v=>(v,h)).bind fun q36 =>
 (AV.asTup2 q36.1).bind fun p37 =>
 ((some p37.1).bind (AV.asInt .u64)).bind fun n38 =>
 ((some p37.2).bind (AV.asInt .u64)).bind fun n39 =>
 (idx a1.ref a1.len a5 1).bind fun r40 =>
 (q36.2.puts r40 [.int .u64 n38]).bind fun h41 =>
 go (.pt F.kda Td.kgq [(0,a1.v),(1,a2.v),(2,.int .i64 a3),(6,.int .u64 n39),(7,.int .i64 (IntKind.wrap .i64 (a5+1)))]) h41)) (
 some (.tup [],h)))) (
 some (.tup [],h)):=(kf _ h).trans (by kernel_rfl)
theorem k7j(a1 a2 a3 a4 a5 a6 a7 a8:Int)(h:AH):go (.fn F.kg8 [.agg [.int .i64 a1,.int .i64 a2,.int .i64 a3,.int .i64 a4,.int .i64 a5,.int .i64 a6,.int .i64 a7,.int .i64 a8]]) h =
 newK h (.cells [.int .i64 a1,.int .i64 a2,.int .i64 a3,.int .i64 a4,.int .i64 a5,.int .i64 a6,.int .i64 a7,.int .i64 a8] T.kci) fun h9r h9 =>
 ((h9.cell (h9r.add 0)).bind (AV.asInt .i64)).bind fun n10 =>
 (go (.fn F.kcu [.int .i64 n10,.int .i64 1,.int .i64 16]) h9).bind fun q11 =>
 ((some q11.1).bind AV.asBool).bind fun b12 =>
 cond (!b12) (
 some (.bool false,q11.2)) (
 ((q11.2.cell (h9r.add 1)).bind (AV.asInt .i64)).bind fun n13 =>
 (go (.fn F.kcu [.int .i64 n13,.int .i64 1,.int .i64 5]) q11.2).bind fun q14 =>
 ((some q14.1).bind AV.asBool).bind fun b15 =>
 cond (!b15) (
 some (.bool false,q14.2)) (
 ((q14.2.cell (h9r.add 2)).bind (AV.asInt .i64)).bind fun n16 =>
 (go (.fn F.kcu [.int .i64 n16,.int .i64 1,.int .i64 1048576]) q14.2).bind fun q17 =>
 ((some q17.1).bind AV.asBool).bind fun b18 =>
 cond (!b18) (
 some (.bool false,q17.2)) (
 ((q17.2.cell (h9r.add 3)).bind (AV.asInt .i64)).bind fun n19 =>
 (go (.fn F.kcu [.int .i64 n19,.int .i64 0,.int .i64 1048576]) q17.2).bind fun q20 =>
 ((some q20.1).bind AV.asBool).bind fun b21 =>
 cond (!b21) (
 some (.bool false,q20.2)) (
 ((q20.2.cell (h9r.add 5)).bind (AV.asInt .i64)).bind fun n22 =>
 (go (.fn F.kcu [.int .i64 n22,.int .i64 1,.int .i64 1048576]) q20.2).bind fun q23 =>
 ((some q23.1).bind AV.asBool).bind fun b24 =>
 cond (!b24) (
 some (.bool false,q23.2)) (
 ((q23.2.cell (h9r.add 4)).bind (AV.asInt .i64)).bind fun n25 =>
 ((q23.2.cell (h9r.add 5)).bind (AV.asInt .i64)).bind fun n26 =>
 (go (.fn F.kcu [.int .i64 n25,.int .i64 1,.int .i64 n26]) q23.2).bind fun q27 =>
 ((some q27.1).bind AV.asBool).bind fun b28 =>
 cond (!b28) (
 some (.bool false,q27.2)) (
 ((q27.2.cell (h9r.add 6)).bind (AV.asInt .i64)).bind fun n29 =>
 cond (decide (n29=0)) (
 ((q27.2.cell (h9r.add 7)).bind (AV.asInt .i64)).bind fun n30 =>
 some (.bool (decide (n30=0)),q27.2)) (
 cond (decide (n29=1)) (
 ((q27.2.cell (h9r.add 7)).bind (AV.asInt .i64)).bind fun n31 =>
 (go (.fn F.kcu [.int .i64 n31,.int .i64 1,.int .i64 1048576]) q27.2).bind fun q32 =>
 ((some q32.1).bind AV.asBool).bind fun b33 =>
 some (.bool b33,q32.2)) (
 some (.bool false,q27.2))))))))):=(kf _ h).trans (by kernel_rfl)
theorem ksy(a1 a2 a3:Sl)(a4 a5:Int)(h:AH):go (.pt F.kf4 Td.kmu [(1,a1.v),(2,a2.v),(23,a3.v),(24,.int .i64 a4),(25,.int .i64 a5)]) h =
 cond (decide (a5<a4)) (
 (idx a3.ref a3.len a5 3).bind fun r6 =>
 ((h.cell (r6.add 0)).bind AV.asSl).bind fun l7 =>
 ((h.cell (r6.add 1)).bind AV.asSl).bind fun l8 =>
 ((h.cell (r6.add 2)).bind AV.asSl).bind fun l9 =>
 newK h (.cells [(⟨none,0,.is 0⟩:Sl).v,(⟨none,0,.is 0⟩:Sl).v,(⟨none,0,.is 0⟩:Sl).v] T.kdc) fun h10r h10 =>
 (h10.puts h10r [l7.v,l8.v,l9.v]).bind fun h11 =>
 ((h11.cell (h10r.add 0)).bind AV.asSl).bind fun l12 =>
 ((h11.cell (h10r.add 1)).bind AV.asSl).bind fun l13 =>
 ((h11.cell (h10r.add 2)).bind AV.asSl).bind fun l14 =>
 (go (.fn F.kfl [.agg [l12.v,l13.v,l14.v]]) h11).bind fun q15 =>
 ((some q15.1).bind AV.asBool).bind fun b16 =>
 cond (!b16) (
 some (.int .i64 20,q15.2)) (
 ((q15.2.cell (h10r.add 0)).bind AV.asSl).bind fun l17 =>
 (idx a1.ref a1.len 0 3).bind fun r18 =>
 ((q15.2.cell (r18.add 0)).bind AV.asSl).bind fun l19 =>
 (go (.fn F.kgj [l17.v,l19.v]) q15.2).bind fun q20 =>
 ((some q20.1).bind AV.asBool).bind fun b21 =>
 cond (!b21) (
 some (.int .i64 20,q20.2)) (
 ((q20.2.cell (h10r.add 0)).bind AV.asSl).bind fun l22 =>
 cond (decide ((l22.len:Int)=0)) (
 some (.int .i64 20,q20.2)) (
 go (.pt F.kf4 Td.kmu [(1,a1.v),(2,a2.v),(23,a3.v),(24,.int .i64 a4),(25,.int .i64 (IntKind.wrap .i64 (a5+1)))]) q20.2)))) (
 (idx a1.ref a1.len 0 3).bind fun r23 =>
 ((h.cell (r23.add 0)).bind AV.asSl).bind fun l24 =>
 cond (!decide ((a2.len:Int)=(l24.len:Int))) (
 some (.int .i64 1,h)) (
 (go (.fn F.kc6 [a2.v,.func (.func F.kc9) [] []]) h).bind fun q25 =>
 ((some q25.1).bind AV.asBool).bind fun b26 =>
 cond b26 (
 some (.int .i64 1,q25.2)) (
 some (.int .i64 0,q25.2)))):=(kf _ h).trans (by kernel_rfl)
theorem kuc(a1 a2:Sl)(a3 a4:Ref)(a5:Sl)(a6:Ref)(a7:Sl)(a8 a9:Int)(a10:Sl)(a11 a12:Int)(h:AH):go (.pt F.kcw Td.kje [(1,a1.v),(2,a2.v),(3,.ptr (some a3)),(6,.ptr (some a4)),(9,a5.v),(10,.ptr (some a6)),(11,a7.v),(26,.int .i64 a8),(27,.int .i64 a9),(32,a10.v),(33,.int .i64 a11),(34,.int .i64 a12)]) h =
 cond (decide (a12<a11)) (
 (idx a10.ref a10.len a12 1).bind fun r13 =>
 ((h.cell r13).bind (AV.asInt .i64)).bind fun n14 =>
 ((h.cell (a3.add 0)).bind (AV.asInt .i64)).bind fun n15 =>
 ((h.cell (a3.add 1)).bind (AV.asInt .i64)).bind fun n16 =>
 ((h.cell (a3.add 2)).bind (AV.asInt .i64)).bind fun n17 =>
 ((h.cell (a3.add 3)).bind (AV.asInt .i64)).bind fun n18 =>
 ((h.cell (a3.add 4)).bind (AV.asInt .i64)).bind fun n19 =>
 ((h.cell (a3.add 5)).bind (AV.asInt .i64)).bind fun n20 =>
 ((h.cell (a3.add 6)).bind (AV.asInt .i64)).bind fun n21 =>
 ((h.cell (a3.add 7)).bind (AV.asInt .i64)).bind fun n22 =>
 (idx a5.ref a5.len a12 1).bind fun r23 =>
 ((h.cell r23).bind (AV.asInt .i64)).bind fun n24 =>
 (go (.fn F.ko4 [.agg [.int .i64 n15,.int .i64 n16,.int .i64 n17,.int .i64 n18,.int .i64 n19,.int .i64 n20,.int .i64 n21,.int .i64 n22],.int .i64 n24,.int .i64 n14]) h).bind fun q25 =>
 (AV.asTup2 q25.1).bind fun p26 =>
 ((some p26.1).bind (AV.asInt .i64)).bind fun n27 =>
 ((some p26.2).bind (AV.asInt .i64)).bind fun n28 =>
 (idx a7.ref a7.len a12 1).bind fun r29 =>
 (q25.2.puts r29 [.int .i64 n27]).bind fun h30 =>
 go (.pt F.kcw Td.kje [(1,a1.v),(2,a2.v),(3,.ptr (some a3)),(6,.ptr (some a4)),(9,a5.v),(10,.ptr (some a6)),(11,a7.v),(26,.int .i64 a8),(27,.int .i64 a9),(32,a10.v),(33,.int .i64 a11),(34,.int .i64 (IntKind.wrap .i64 (a12+1)))]) h30) (
 ((h.cell (a6.add 0)).bind AV.asSl).bind fun l31 =>
 ((h.cell (a3.add 0)).bind (AV.asInt .i64)).bind fun n32 =>
 ((h.cell (a3.add 1)).bind (AV.asInt .i64)).bind fun n33 =>
 ((h.cell (a3.add 2)).bind (AV.asInt .i64)).bind fun n34 =>
 ((h.cell (a3.add 3)).bind (AV.asInt .i64)).bind fun n35 =>
 ((h.cell (a3.add 4)).bind (AV.asInt .i64)).bind fun n36 =>
 ((h.cell (a3.add 5)).bind (AV.asInt .i64)).bind fun n37 =>
 ((h.cell (a3.add 6)).bind (AV.asInt .i64)).bind fun n38 =>
 ((h.cell (a3.add 7)).bind (AV.asInt .i64)).bind fun n39 =>
 (go (.fn F.kbt [.agg [.int .i64 n32,.int .i64 n33,.int .i64 n34,.int .i64 n35,.int .i64 n36,.int .i64 n37,.int .i64 n38,.int .i64 n39],a1.v,a7.v,a5.v]) h).bind fun q40 =>
 (AV.asAgg q40.1).bind fun cs41 =>
 cond (Nat.beq cs41.length 1) (
 ((cs41[0]?).bind AV.asSl).bind fun l42 =>
 whenK (SameAt h q40.2 (a6.add 0) 1) (
 newK q40.2 (.cells [l42.v] T.kbr) fun h43r h43 =>
 whenK (SameAt q40.2 h43 (a6.add 0) 1) (
 (kcn Pg T.kbr ((⟨some h43r,1,.is 1⟩:Sl).v) h43).bind fun p45 =>
 (kbb Pg l31 p45.1 p45.2 T.kbr 1 h43).bind fun q44 =>
 (AV.asSl q44.1).bind fun l46 =>
 (q44.2.puts (a6.add 0) [l46.v]).bind fun h47 =>
 go (.pt F.kcw Td.kli [(1,a1.v),(2,a2.v),(3,.ptr (some a3)),(6,.ptr (some a4)),(9,a5.v),(10,.ptr (some a6)),(26,.int .i64 a8),(27,.int .i64 (IntKind.wrap .i64 (a9+1)))]) h47))) none):=(kf _ h).trans (by kernel_rfl)
theorem kuz(a1:Sl)(a2 a3:Int)(h:AH):go (.pt F.kdd Td.kj4 [(12,a1.v),(13,.int .i64 a2),(14,.int .i64 a3)]) h =
 cond (decide (a3<a2)) (
 (idx a1.ref a1.len a3 1).bind fun r4 =>
 ((h.cell (r4.add 0)).bind AV.asSl).bind fun l5 =>
 newK h (.cells [(⟨none,0,.is 0⟩:Sl).v] T.kbr) fun h6r h6 =>
 (h6.puts h6r [l5.v]).bind fun h7 =>
 ((h7.cell (h6r.add 0)).bind AV.asSl).bind fun l8 =>
 cond (decide ((l8.len:Int)<1)) (
 some (.bool false,h7)) (
 ((h7.cell (h6r.add 0)).bind AV.asSl).bind fun l9 =>
 cond (decide ((l9.len:Int)>63)) (
 some (.bool false,h7)) (
 ((h7.cell (h6r.add 0)).bind AV.asSl).bind fun l10 =>
 go (.pt F.kdd Td.knd [(4,.ptr (some h6r)),(12,a1.v),(13,.int .i64 a2),(14,.int .i64 a3),(29,l10.v),(30,.int .i64 (l10.len:Int)),(31,.int .i64 0)]) h7))) (
 some (.bool true,h)):=(kf _ h).trans (by kernel_rfl)
theorem kyz(a1:Sl)(a2:Int)(a3 a4:Ref)(a5:Sl)(a6 a7:Int)(h:AH):go (.pt F.kc0 Td.ki9 [(1,a1.v),(6,.int .i64 a2),(8,.ptr (some a3)),(9,.ptr (some a4)),(15,a5.v),(16,.int .i64 a6),(17,.int .i64 a7)]) h =
 ((h.cell (a4.add 0)).bind AV.asBool).bind fun b8 =>
 cond (!b8) (
 ((h.cell (a4.add 2)).bind (AV.asInt .i64)).bind fun n9 =>
 cond (decide (n9≥(a1.len:Int))) (
 some (.tup [.int .i64 0,.int .i64 1],h)) (
 ((h.cell (a4.add 3)).bind (AV.asInt .i64)).bind fun n10 =>
 ((h.cell (a4.add 2)).bind (AV.asInt .i64)).bind fun n11 =>
 (idx a1.ref a1.len n11 1).bind fun r12 =>
 ((h.cell r12).bind AV.asSl).bind fun l13 =>
 cond (decide (n10≥(l13.len:Int))) (
 some (.tup [.int .i64 0,.int .i64 1],h)) (
 ((h.cell (a4.add 6)).bind (AV.asInt .i64)).bind fun n14 =>
 ((h.cell (a4.add 2)).bind (AV.asInt .i64)).bind fun n15 =>
 (idx a1.ref a1.len n15 1).bind fun r16 =>
 ((h.cell r16).bind AV.asSl).bind fun l17 =>
 ((h.cell (a4.add 3)).bind (AV.asInt .i64)).bind fun n18 =>
 (idx l17.ref l17.len n18 1).bind fun r19 =>
 ((h.cell r19).bind (AV.asInt .i64)).bind fun n20 =>
 ((h.cell (a4.add 4)).bind (AV.asInt .i64)).bind fun n21 =>
 cond (decide (n20≤n21)) (
 ((h.cell (a4.add 5)).bind (AV.asInt .i64)).bind fun n22 =>
 ((h.cell (a3.add 0)).bind AV.asSl).bind fun l23 =>
 (idx l23.ref l23.len n22 7).bind fun r24 =>
 ((h.cell (r24.add 0)).bind AV.asBool).bind fun b25 =>
 ((h.cell (r24.add 1)).bind (AV.asInt .i64)).bind fun n26 =>
 ((h.cell (r24.add 2)).bind (AV.asInt .i64)).bind fun n27 =>
 ((h.cell (r24.add 3)).bind (AV.asInt .i64)).bind fun n28 =>
 ((h.cell (r24.add 4)).bind (AV.asInt .i64)).bind fun n29 =>
 ((h.cell (r24.add 5)).bind (AV.asInt .i64)).bind fun n30 =>
 ((h.cell (r24.add 6)).bind (AV.asInt .i64)).bind fun n31 =>
 (h.puts a4 [.bool b25,.int .i64 n26,.int .i64 n27,.int .i64 n28,.int .i64 n29,.int .i64 n30,.int .i64 n31]).bind fun h32 =>
 go (.pt F.kc0 Td.ki9 [(1,a1.v),(6,.int .i64 a2),(8,.ptr (some a3)),(9,.ptr (some a4)),(15,a5.v),(16,.int .i64 a6),(17,.int .i64 a7)]) h32) (
 ((h.cell (a3.add 0)).bind AV.asSl).bind fun l33 =>
 (idx l33.ref l33.len n14 7).bind fun r34 =>
 ((h.cell (r34.add 0)).bind AV.asBool).bind fun b35 =>
 ((h.cell (r34.add 1)).bind (AV.asInt .i64)).bind fun n36 =>
 ((h.cell (r34.add 2)).bind (AV.asInt .i64)).bind fun n37 =>
 ((h.cell (r34.add 3)).bind (AV.asInt .i64)).bind fun n38 =>
 ((h.cell (r34.add 4)).bind (AV.asInt .i64)).bind fun n39 =>
 ((h.cell (r34.add 5)).bind (AV.asInt .i64)).bind fun n40 =>
 ((h.cell (r34.add 6)).bind (AV.asInt .i64)).bind fun n41 =>
 (h.puts a4 [.bool b35,.int .i64 n36,.int .i64 n37,.int .i64 n38,.int .i64 n39,.int .i64 n40,.int .i64 n41]).bind fun h42 =>
 go (.pt F.kc0 Td.ki9 [(1,a1.v),(6,.int .i64 a2),(8,.ptr (some a3)),(9,.ptr (some a4)),(15,a5.v),(16,.int .i64 a6),(17,.int .i64 a7)]) h42)))) (
 ((h.cell (a4.add 1)).bind (AV.asInt .i64)).bind fun n43 =>
 go (.pt F.kc0 Td.kjf [(1,a1.v),(6,.int .i64 (IntKind.wrap .i64 (a2+n43))),(15,a5.v),(16,.int .i64 a6),(17,.int .i64 (IntKind.wrap .i64 (a7+1)))]) h):=(kf _ h).trans (by kernel_rfl)
theorem k8z(a1:Sl)(a2:Ref)(a3 a4:Int)(a5:Sl)(a6:Int)(h:AH):go (.pt F.kc1 Td.kiz [(1,a1.v),(2,.ptr (some a2)),(7,.int .i64 a3),(8,.int .i64 a4),(9,a5.v),(10,.int .i64 a6)]) h =
 (idx a5.ref a5.len a6 7).bind fun r7 =>
 ((h.cell (r7.add 0)).bind AV.asBool).bind fun b8 =>
 cond (!b8) (
 (idx a5.ref a5.len a6 7).bind fun r9 =>
 ((h.cell (r9.add 0)).bind AV.asBool).bind fun b10 =>
 ((h.cell (r9.add 1)).bind (AV.asInt .i64)).bind fun n11 =>
 ((h.cell (r9.add 2)).bind (AV.asInt .i64)).bind fun n12 =>
 ((h.cell (r9.add 3)).bind (AV.asInt .i64)).bind fun n13 =>
 ((h.cell (r9.add 4)).bind (AV.asInt .i64)).bind fun n14 =>
 ((h.cell (r9.add 5)).bind (AV.asInt .i64)).bind fun n15 =>
 ((h.cell (r9.add 6)).bind (AV.asInt .i64)).bind fun n16 =>
 newK h (.cells [.bool false,.int .i64 0,.int .i64 0,.int .i64 0,.int .i64 0,.int .i64 0,.int .i64 0] T.kbj) fun h17r h17 =>
 (h17.puts h17r [.bool b10,.int .i64 n11,.int .i64 n12,.int .i64 n13,.int .i64 n14,.int .i64 n15,.int .i64 n16]).bind fun h18 =>
 ((h18.cell (h17r.add 2)).bind (AV.asInt .i64)).bind fun n19 =>
 cond (decide (n19≥(a1.len:Int))) (
 some (.tup [.int .i64 0,.int .i64 1],h18)) (
 ((h18.cell (h17r.add 3)).bind (AV.asInt .i64)).bind fun n20 =>
 ((h18.cell (h17r.add 2)).bind (AV.asInt .i64)).bind fun n21 =>
 (idx a1.ref a1.len n21 1).bind fun r22 =>
 ((h18.cell r22).bind AV.asSl).bind fun l23 =>
 cond (decide (n20≥(l23.len:Int))) (
 some (.tup [.int .i64 0,.int .i64 1],h18)) (
 ((h18.cell (h17r.add 6)).bind (AV.asInt .i64)).bind fun n24 =>
 ((h18.cell (h17r.add 2)).bind (AV.asInt .i64)).bind fun n25 =>
 (idx a1.ref a1.len n25 1).bind fun r26 =>
 ((h18.cell r26).bind AV.asSl).bind fun l27 =>
 ((h18.cell (h17r.add 3)).bind (AV.asInt .i64)).bind fun n28 =>
 (idx l27.ref l27.len n28 1).bind fun r29 =>
 ((h18.cell r29).bind (AV.asInt .i64)).bind fun n30 =>
 ((h18.cell (h17r.add 4)).bind (AV.asInt .i64)).bind fun n31 =>
 cond (decide (n30≤n31)) (
 ((h18.cell (h17r.add 5)).bind (AV.asInt .i64)).bind fun n32 =>
 go (.pt F.kc1 Td.kiz [(1,a1.v),(2,.ptr (some a2)),(7,.int .i64 a3),(8,.int .i64 a4),(9,a5.v),(10,.int .i64 n32)]) h18) (
 go (.pt F.kc1 Td.kiz [(1,a1.v),(2,.ptr (some a2)),(7,.int .i64 a3),(8,.int .i64 a4),(9,a5.v),(10,.int .i64 n24)]) h18)))) (
 (idx a5.ref a5.len a6 7).bind fun r33 =>
 ((h.cell (r33.add 1)).bind (AV.asInt .i64)).bind fun n34 =>
 go (.pt F.kc1 Td.kik [(1,a1.v),(2,.ptr (some a2)),(7,.int .i64 (IntKind.wrap .i64 (a3+n34))),(8,.int .i64 (IntKind.wrap .i64 (a4+1)))]) h):=(kf _ h).trans (by kernel_rfl)
theorem ksu(a1:Ref)(a2:Int)(a3:Sl)(a4:Int)(h:AH):go (.pt F.kdb Td.kmw [(1,.ptr (some a1)),(3,.int .i64 a2),(4,a3.v),(5,.int .i64 a4)]) h =
 cond (decide (a4<(a3.len:Int))) (
 (idx a3.ref a3.len a4 7).bind fun r5 =>
 ((h.cell (r5.add 0)).bind AV.asBool).bind fun b6 =>
 ((h.cell (r5.add 1)).bind (AV.asInt .i64)).bind fun n7 =>
 ((h.cell (r5.add 2)).bind (AV.asInt .i64)).bind fun n8 =>
 ((h.cell (r5.add 3)).bind (AV.asInt .i64)).bind fun n9 =>
 ((h.cell (r5.add 4)).bind (AV.asInt .i64)).bind fun n10 =>
 ((h.cell (r5.add 5)).bind (AV.asInt .i64)).bind fun n11 =>
 ((h.cell (r5.add 6)).bind (AV.asInt .i64)).bind fun n12 =>
 (go (.fn F.kne [.agg [.bool b6,.int .i64 n7,.int .i64 n8,.int .i64 n9,.int .i64 n10,.int .i64 n11,.int .i64 n12],.int .i64 a4,.int .i64 (a3.len:Int)]) h).bind fun q13 =>
 ((some q13.1).bind AV.asBool).bind fun b14 =>
 cond (!b14) (
 some (.bool false,q13.2)) (
 go (.pt F.kdb Td.kmw [(1,.ptr (some a1)),(3,.int .i64 a2),(4,a3.v),(5,.int .i64 (IntKind.wrap .i64 (a4+1)))]) q13.2)) (
 go (.pt F.kdb Td.ki2 [(1,.ptr (some a1)),(3,.int .i64 (IntKind.wrap .i64 (a2+1)))]) h):=(kf _ h).trans (by kernel_rfl)
theorem k1z(a1:Int)(h:AH):go (.fn F.kpf [.int .u64 a1]) h =
 cond (decide (a1=0)) (
 some (.int .i64 64,h)) (
 (idx (some (.old ⟨Gl.math_bits_deBruijn64tab,0,none⟩)) 64 (ishr .u64 (IntKind.wrap .u64 ((iand .u64 a1 (IntKind.wrap .u64 (0-a1)))*285870213051353865)) 58) 1).bind fun r2 =>
 ((h.cell r2).bind (AV.asInt .u8)).bind fun n3 =>
 some (.int .i64 (IntKind.wrap .i64 n3),h)):=(kf _ h).trans (by kernel_rfl)
theorem kx2(a1 a2:Sl)(a3 a4 a5:Int)(a6:Sl)(a7 a8:Int)(a9:Sl)(a10 a11:Int)(h:AH):go (.pt F.kco Td.kna [(1,a1.v),(5,a2.v),(6,.int .i64 a3),(7,.int .u64 a4),(8,.int .u64 a5),(20,a6.v),(21,.int .i64 a7),(22,.int .i64 a8),(27,a9.v),(28,.int .i64 a10),(29,.int .i64 a11)]) h =
 cond (decide (a11<a10)) (
 (idx a9.ref a9.len a11 1).bind fun r12 =>
 ((h.cell r12).bind (AV.asInt .u64)).bind fun n13 =>
 (go (.fn F.kkq [.int .u64 a4,.int .u64 n13]) h).bind fun q14 =>
 (AV.asTup2 q14.1).bind fun p15 =>
 ((some p15.1).bind (AV.asInt .u64)).bind fun n16 =>
 ((some p15.2).bind (AV.asInt .u64)).bind fun n17 =>
 (idx a2.ref a2.len (IntKind.wrap .i64 (a3+a11)) 1).bind fun r18 =>
 ((q14.2.cell r18).bind (AV.asInt .u64)).bind fun n19 =>
 ((prim "math/bits.Add64" [.int .u64 n17,.int .u64 n19,.int .u64 0]).map fun v=>(v,q14.2)).bind fun q20 =>
 (AV.asTup2 q20.1).bind fun p21 =>
 ((some p21.1).bind (AV.asInt .u64)).bind fun n22 =>
 ((some p21.2).bind (AV.asInt .u64)).bind fun n23 =>
 ((prim "math/bits.Add64" [.int .u64 n22,.int .u64 a5,.int .u64 0]).map fun v=>(v,q20.2)).bind fun q24 =>
 (AV.asTup2 q24.1).bind fun p25 =>
 ((some p25.1).bind (AV.asInt .u64)).bind fun n26 =>
 ((some p25.2).bind (AV.asInt .u64)).bind fun n27 =>
 (idx a2.ref a2.len (IntKind.wrap .i64 (a3+a11)) 1).bind fun r28 =>
 (q24.2.puts r28 [.int .u64 n26]).bind fun h29 =>
 go (.pt F.kco Td.kna [(1,a1.v),(5,a2.v),(6,.int .i64 a3),(7,.int .u64 a4),(8,.int .u64 (IntKind.wrap .u64 ((IntKind.wrap .u64 (n16+n23))+n27))),(20,a6.v),(21,.int .i64 a7),(22,.int .i64 a8),(27,a9.v),(28,.int .i64 a10),(29,.int .i64 (IntKind.wrap .i64 (a11+1)))]) h29) (
 (idx a2.ref a2.len (IntKind.wrap .i64 (a3+(a1.len:Int))) 1).bind fun r30 =>
 (h.puts r30 [.int .u64 a5]).bind fun h31 =>
 go (.pt F.kco Td.klw [(1,a1.v),(5,a2.v),(20,a6.v),(21,.int .i64 a7),(22,.int .i64 (IntKind.wrap .i64 (a8+1)))]) h31):=(kf _ h).trans (by kernel_rfl)
theorem k0x(a1 a2 a3:Int)(h:AH):go (.fn F.kcu [.int .i64 a1,.int .i64 a2,.int .i64 a3]) h =
 cond (decide (a1≥a2)) (
 some (.bool (decide (a1≤a3)),h)) (
 some (.bool false,h)):=(kf _ h).trans (by kernel_rfl)
theorem k1t(a1 a2 a3:Sl)(h:AH):go (.fn F.kfl [.agg [a1.v,a2.v,a3.v]]) h =
 newK h (.cells [a1.v,a2.v,a3.v] T.kdc) fun h4r h4 =>
 ((h4.cell (h4r.add 0)).bind AV.asSl).bind fun l5 =>
 (go (.fn F.knl [l5.v]) h4).bind fun q6 =>
 ((some q6.1).bind AV.asBool).bind fun b7 =>
 cond (!b7) (
 some (.bool false,q6.2)) (
 ((q6.2.cell (h4r.add 2)).bind AV.asSl).bind fun l8 =>
 cond (decide ((l8.len:Int)>16)) (
 some (.bool false,q6.2)) (
 ((q6.2.cell (h4r.add 1)).bind AV.asSl).bind fun l9 =>
 ((q6.2.cell (h4r.add 2)).bind AV.asSl).bind fun l10 =>
 cond (!decide ((l9.len:Int)=(l10.len:Int))) (
 some (.bool false,q6.2)) (
 ((q6.2.cell (h4r.add 2)).bind AV.asSl).bind fun l11 =>
 go (.pt F.kfl Td.kl9 [(1,.ptr (some h4r)),(27,l11.v),(28,.int .i64 (l11.len:Int)),(29,.int .i64 0)]) q6.2))):=(kf _ h).trans (by kernel_rfl)
theorem k3n(a1 a2:Sl)(h:AH):go (.fn F.kgj [a1.v,a2.v]) h =
 cond (!decide ((a1.len:Int)=(a2.len:Int))) (
 some (.bool false,h)) (
 go (.pt F.kgj Td.knh [(0,a1.v),(1,a2.v),(12,.int .i64 (a1.len:Int)),(13,.int .i64 0)]) h):=(kf _ h).trans (by kernel_rfl)
theorem k0o(a1:Sl)(h:AH):go (.fn F.kc6 [a1.v,.func (.func F.kc9) [] []]) h =
 (go (.fn F.kbn [a1.v,.func (.func F.kc9) [] []]) h).bind fun q2 =>
 ((some q2.1).bind (AV.asInt .i64)).bind fun n3 =>
 some (.bool (decide (n3≥0)),q2.2):=(kf _ h).trans (by kernel_rfl)
theorem k4f(a1 a2 a3 a4 a5 a6 a7 a8 a9 a10:Int)(h:AH):go (.fn F.ko4 [.agg [.int .i64 a1,.int .i64 a2,.int .i64 a3,.int .i64 a4,.int .i64 a5,.int .i64 a6,.int .i64 a7,.int .i64 a8],.int .i64 a9,.int .i64 a10]) h =
 newK h (.cells [.int .i64 a1,.int .i64 a2,.int .i64 a3,.int .i64 a4,.int .i64 a5,.int .i64 a6,.int .i64 a7,.int .i64 a8] T.kci) fun h11r h11 =>
 ((h11.cell (h11r.add 0)).bind (AV.asInt .i64)).bind fun n12 =>
 ((h11.cell (h11r.add 1)).bind (AV.asInt .i64)).bind fun n13 =>
 ((h11.cell (h11r.add 2)).bind (AV.asInt .i64)).bind fun n14 =>
 ((h11.cell (h11r.add 3)).bind (AV.asInt .i64)).bind fun n15 =>
 ((h11.cell (h11r.add 4)).bind (AV.asInt .i64)).bind fun n16 =>
 ((h11.cell (h11r.add 5)).bind (AV.asInt .i64)).bind fun n17 =>
 ((h11.cell (h11r.add 6)).bind (AV.asInt .i64)).bind fun n18 =>
 ((h11.cell (h11r.add 7)).bind (AV.asInt .i64)).bind fun n19 =>
 (go (.fn F.kg8 [.agg [.int .i64 n12,.int .i64 n13,.int .i64 n14,.int .i64 n15,.int .i64 n16,.int .i64 n17,.int .i64 n18,.int .i64 n19]]) h11).bind fun q20 =>
 ((some q20.1).bind AV.asBool).bind fun b21 =>
 cond (!b21) (
 some (.tup [.int .i64 0,.int .i64 1],q20.2)) (
 (go (.fn F.kcu [.int .i64 a9,.int .i64 (-1099511627776),.int .i64 1099511627776]) q20.2).bind fun q22 =>
 ((some q22.1).bind AV.asBool).bind fun b23 =>
 cond (!b23) (
 some (.tup [.int .i64 0,.int .i64 1],q22.2)) (
 (go (.fn F.kcu [.int .i64 a10,.int .i64 (-1048576),.int .i64 1048576]) q22.2).bind fun q24 =>
 ((some q24.1).bind AV.asBool).bind fun b25 =>
 cond (!b25) (
 some (.tup [.int .i64 0,.int .i64 1],q24.2)) (
 ((q24.2.cell (h11r.add 6)).bind (AV.asInt .i64)).bind fun n26 =>
 cond (decide (n26=1)) (
 ((q24.2.cell (h11r.add 7)).bind (AV.asInt .i64)).bind fun n27 =>
 some (.tup [.int .i64 (imin (imax (IntKind.wrap .i64 (a9-a10)) (IntKind.wrap .i64 (0-n27))) n27),.int .i64 0],q24.2)) (
 some (.tup [.int .i64 (imin (imax (IntKind.wrap .i64 (a9-a10)) (IntKind.wrap .i64 (0-1048576))) 1048576),.int .i64 0],q24.2))))):=(kf _ h).trans (by kernel_rfl)
theorem k7m(a1 a2 a3 a4 a5 a6 a7 a8:Int)(a9 a10 a11:Sl)(h:AH):go (.fn F.kbt [.agg [.int .i64 a1,.int .i64 a2,.int .i64 a3,.int .i64 a4,.int .i64 a5,.int .i64 a6,.int .i64 a7,.int .i64 a8],a9.v,a10.v,a11.v]) h =
 newK h (.cells [.int .i64 a1,.int .i64 a2,.int .i64 a3,.int .i64 a4,.int .i64 a5,.int .i64 a6,.int .i64 a7,.int .i64 a8] T.kci) fun h12r h12 =>
 newK h12 (.cells [(⟨none,0,.is 0⟩:Sl).v] T.kbr) fun h13r h13 =>
 (go (.fn F.ke9 [.int .i64 (a10.len:Int)]) h13).bind fun q14 =>
 (AV.asTup2 q14.1).bind fun p15 =>
 (AV.asAgg p15.1).bind fun cs16 =>
 cond (Nat.beq cs16.length 2) (
 ((cs16[0]?).bind (AV.asInt .i64)).bind fun n17 =>
 ((cs16[1]?).bind AV.asSl).bind fun l18 =>
 ((some p15.2).bind (AV.asInt .i64)).bind fun n19 =>
 newK q14.2 (.cells [.int .i64 0,(⟨none,0,.is 0⟩:Sl).v] T.kx) fun h20r h20 =>
 (h20.puts h20r [.int .i64 n17,l18.v]).bind fun h21 =>
 (kbv 1 1 T.kbj (Pg.bytesOf T.kbj) [.bool false,.int .i64 0,.int .i64 0,.int .i64 0,.int .i64 0,.int .i64 0,.int .i64 0] h21).bind fun q22 =>
 newK q22.2 (.cells [(⟨none,0,.is 0⟩:Sl).v] T.kbr) fun h23r h23 =>
 (h23.puts h23r [q22.1.v]).bind fun h24 =>
 ((h24.cell (h20r.add 0)).bind (AV.asInt .i64)).bind fun n25 =>
 ((h24.cell (h20r.add 1)).bind AV.asSl).bind fun l26 =>
 newK h24 (.cells [.int .i64 0,.int .i64 0,.int .i64 n25,l26.v] T.kbg) fun h27r h27 =>
 newK h27 (.cells [(⟨some h27r,1,.is 1⟩:Sl).v] T.kwu) fun h28r h28 =>
 go (.pt F.kbt Td.kfk [(1,a9.v),(2,a10.v),(3,a11.v),(4,.ptr (some h12r)),(8,.ptr (some h13r)),(11,.ptr (some h23r)),(12,.ptr (some h28r))]) h28) none:=(kf _ h).trans (by kernel_rfl)
theorem kuj(a1:Ref)(a2:Sl)(a3 a4:Int)(a5:Sl)(a6 a7:Int)(h:AH):go (.pt F.kdd Td.knd [(4,.ptr (some a1)),(12,a2.v),(13,.int .i64 a3),(14,.int .i64 a4),(29,a5.v),(30,.int .i64 a6),(31,.int .i64 a7)]) h =
 cond (decide (a7<a6)) (
 (idx a5.ref a5.len a7 7).bind fun r8 =>
 ((h.cell (r8.add 0)).bind AV.asBool).bind fun b9 =>
 ((h.cell (r8.add 1)).bind (AV.asInt .i64)).bind fun n10 =>
 ((h.cell (r8.add 2)).bind (AV.asInt .i64)).bind fun n11 =>
 ((h.cell (r8.add 3)).bind (AV.asInt .i64)).bind fun n12 =>
 ((h.cell (r8.add 4)).bind (AV.asInt .i64)).bind fun n13 =>
 ((h.cell (r8.add 5)).bind (AV.asInt .i64)).bind fun n14 =>
 ((h.cell (r8.add 6)).bind (AV.asInt .i64)).bind fun n15 =>
 newK h (.cells [.bool false,.int .i64 0,.int .i64 0,.int .i64 0,.int .i64 0,.int .i64 0,.int .i64 0] T.kbj) fun h16r h16 =>
 (h16.puts h16r [.bool b9,.int .i64 n10,.int .i64 n11,.int .i64 n12,.int .i64 n13,.int .i64 n14,.int .i64 n15]).bind fun h17 =>
 ((h17.cell (h16r.add 0)).bind AV.asBool).bind fun b18 =>
 ((h17.cell (h16r.add 1)).bind (AV.asInt .i64)).bind fun n19 =>
 ((h17.cell (h16r.add 2)).bind (AV.asInt .i64)).bind fun n20 =>
 ((h17.cell (h16r.add 3)).bind (AV.asInt .i64)).bind fun n21 =>
 ((h17.cell (h16r.add 4)).bind (AV.asInt .i64)).bind fun n22 =>
 ((h17.cell (h16r.add 5)).bind (AV.asInt .i64)).bind fun n23 =>
 ((h17.cell (h16r.add 6)).bind (AV.asInt .i64)).bind fun n24 =>
 ((h17.cell (a1.add 0)).bind AV.asSl).bind fun l25 =>
 (go (.fn F.kmn [.agg [.bool b18,.int .i64 n19,.int .i64 n20,.int .i64 n21,.int .i64 n22,.int .i64 n23,.int .i64 n24],.int .i64 a7,.int .i64 (l25.len:Int)]) h17).bind fun q26 =>
 ((some q26.1).bind AV.asBool).bind fun b27 =>
 cond (!b27) (
 some (.bool false,q26.2)) (
 go (.pt F.kdd Td.knd [(4,.ptr (some a1)),(12,a2.v),(13,.int .i64 a3),(14,.int .i64 a4),(29,a5.v),(30,.int .i64 a6),(31,.int .i64 (IntKind.wrap .i64 (a7+1)))]) q26.2)) (
 go (.pt F.kdd Td.kj4 [(12,a2.v),(13,.int .i64 a3),(14,.int .i64 (IntKind.wrap .i64 (a4+1)))]) h):=(kf _ h).trans (by kernel_rfl)
theorem k41(a1:Bool)(a2 a3 a4 a5 a6 a7 a8 a9:Int)(h:AH):go (.fn F.kne [.agg [.bool a1,.int .i64 a2,.int .i64 a3,.int .i64 a4,.int .i64 a5,.int .i64 a6,.int .i64 a7],.int .i64 a8,.int .i64 a9]) h =
 newK h (.cells [.bool a1,.int .i64 a2,.int .i64 a3,.int .i64 a4,.int .i64 a5,.int .i64 a6,.int .i64 a7] T.kbj) fun h10r h10 =>
 ((h10.cell (h10r.add 0)).bind AV.asBool).bind fun b11 =>
 cond b11 (
 ((h10.cell (h10r.add 1)).bind (AV.asInt .i64)).bind fun n12 =>
 cond (decide (n12≥(-1099511627776))) (
 ((h10.cell (h10r.add 1)).bind (AV.asInt .i64)).bind fun n13 =>
 cond (decide (n13≤1099511627776)) (
 ((h10.cell (h10r.add 0)).bind AV.asBool).bind fun b14 =>
 ((h10.cell (h10r.add 1)).bind (AV.asInt .i64)).bind fun n15 =>
 ((h10.cell (h10r.add 2)).bind (AV.asInt .i64)).bind fun n16 =>
 ((h10.cell (h10r.add 3)).bind (AV.asInt .i64)).bind fun n17 =>
 ((h10.cell (h10r.add 4)).bind (AV.asInt .i64)).bind fun n18 =>
 ((h10.cell (h10r.add 5)).bind (AV.asInt .i64)).bind fun n19 =>
 ((h10.cell (h10r.add 6)).bind (AV.asInt .i64)).bind fun n20 =>
 ((h10.cell (h10r.add 1)).bind (AV.asInt .i64)).bind fun n21 =>
 some (.bool ((b14==true)&&((decide (n15=n21))&&((decide (n16=0))&&((decide (n17=0))&&((decide (n18=0))&&((decide (n19=0))&&((decide (n20=0))&&true))))))),h10)) (
 some (.bool false,h10))) (
 some (.bool false,h10))) (
 ((h10.cell (h10r.add 1)).bind (AV.asInt .i64)).bind fun n22 =>
 cond (!decide (n22=0)) (
 some (.bool false,h10)) (
 ((h10.cell (h10r.add 2)).bind (AV.asInt .i64)).bind fun n23 =>
 cond (decide (n23<0)) (
 some (.bool false,h10)) (
 ((h10.cell (h10r.add 2)).bind (AV.asInt .i64)).bind fun n24 =>
 cond (decide (n24>15)) (
 some (.bool false,h10)) (
 ((h10.cell (h10r.add 3)).bind (AV.asInt .i64)).bind fun n25 =>
 cond (decide (n25<0)) (
 some (.bool false,h10)) (
 ((h10.cell (h10r.add 3)).bind (AV.asInt .i64)).bind fun n26 =>
 cond (decide (n26>1073741824)) (
 some (.bool false,h10)) (
 ((h10.cell (h10r.add 4)).bind (AV.asInt .i64)).bind fun n27 =>
 cond (decide (n27<0)) (
 some (.bool false,h10)) (
 ((h10.cell (h10r.add 4)).bind (AV.asInt .i64)).bind fun n28 =>
 cond (decide (n28>31)) (
 some (.bool false,h10)) (
 ((h10.cell (h10r.add 5)).bind (AV.asInt .i64)).bind fun n29 =>
 cond (decide (n29>a8)) (
 ((h10.cell (h10r.add 5)).bind (AV.asInt .i64)).bind fun n30 =>
 cond (decide (n30<a9)) (
 ((h10.cell (h10r.add 6)).bind (AV.asInt .i64)).bind fun n31 =>
 cond (decide (n31>a8)) (
 ((h10.cell (h10r.add 6)).bind (AV.asInt .i64)).bind fun n32 =>
 cond (decide (n32<a9)) (
 ((h10.cell (h10r.add 5)).bind (AV.asInt .i64)).bind fun n33 =>
 ((h10.cell (h10r.add 6)).bind (AV.asInt .i64)).bind fun n34 =>
 some (.bool (!decide (n33=n34)),h10)) (
 some (.bool false,h10))) (
 some (.bool false,h10))) (
 some (.bool false,h10))) (
 some (.bool false,h10)))))))))):=(kf _ h).trans (by kernel_rfl)
theorem k7g(a1 a2:Int)(h:AH):go (.fn F.kkq [.int .u64 a1,.int .u64 a2]) h =
 some (.tup [.int .u64 (IntKind.wrap .u64 ((IntKind.wrap .u64 ((IntKind.wrap .u64 ((ishr .u64 a1 32)*(ishr .u64 a2 32)))+(ishr .u64 (IntKind.wrap .u64 ((IntKind.wrap .u64 ((ishr .u64 a1 32)*(iand .u64 a2 4294967295)))+(ishr .u64 (IntKind.wrap .u64 ((iand .u64 a1 4294967295)*(iand .u64 a2 4294967295))) 32))) 32)))+(ishr .u64 (IntKind.wrap .u64 ((iand .u64 (IntKind.wrap .u64 ((IntKind.wrap .u64 ((ishr .u64 a1 32)*(iand .u64 a2 4294967295)))+(ishr .u64 (IntKind.wrap .u64 ((iand .u64 a1 4294967295)*(iand .u64 a2 4294967295))) 32))) 4294967295)+(IntKind.wrap .u64 ((iand .u64 a1 4294967295)*(ishr .u64 a2 32))))) 32))),.int .u64 (IntKind.wrap .u64 (a1*a2))],h):=(kf _ h).trans (by kernel_rfl)
theorem kbak(a1:Sl)(h:AH):go (.fn F.knl [a1.v]) h =
 cond (decide ((a1.len:Int)≤256)) (
 (go (.fn F.kc6 [a1.v,.func (.func F.kdj) [] []]) h).bind fun q2 =>
 ((some q2.1).bind AV.asBool).bind fun b3 =>
 cond (!b3) (
 (go (.fn F.kgt [a1.v]) q2.2).bind fun q4 =>
 ((some q4.1).bind AV.asMap).bind fun m5 =>
 (mapLen q4.2 m5).bind fun n6 =>
 some (.bool (decide ((n6:Int)=(a1.len:Int))),q4.2)) (
 some (.bool false,q2.2))) (
 some (.bool false,h)):=(kf _ h).trans (by kernel_rfl)
theorem kwo(a1:Ref)(a2:Sl)(a3 a4:Int)(h:AH):go (.pt F.kfl Td.kl9 [(1,.ptr (some a1)),(27,a2.v),(28,.int .i64 a3),(29,.int .i64 a4)]) h =
 cond (decide (a4<a3)) (
 (idx a2.ref a2.len a4 1).bind fun r5 =>
 ((h.cell r5).bind AV.asSl).bind fun l6 =>
 ((h.cell (a1.add 1)).bind AV.asSl).bind fun l7 =>
 (idx l7.ref l7.len a4 1).bind fun r8 =>
 ((h.cell r8).bind (AV.asInt .i64)).bind fun n9 =>
 newK h (.cells [.int .i64 0] T.int) fun h10r h10 =>
 (h10.puts h10r [.int .i64 n9]).bind fun h11 =>
 ((h11.cell h10r).bind (AV.asInt .i64)).bind fun n12 =>
 cond (decide (n12<2)) (
 some (.bool false,h11)) (
 ((h11.cell h10r).bind (AV.asInt .i64)).bind fun n13 =>
 cond (decide (n13>32)) (
 some (.bool false,h11)) (
 ((h11.cell (a1.add 0)).bind AV.asSl).bind fun l14 =>
 cond (!decide ((l6.len:Int)=(l14.len:Int))) (
 some (.bool false,h11)) (
 (go (.fn F.kc6 [l6.v,.func (.func F.kdh) [] [.ptr (some h10r)]]) h11).bind fun q15 =>
 ((some q15.1).bind AV.asBool).bind fun b16 =>
 cond b16 (
 some (.bool false,q15.2)) (
 go (.pt F.kfl Td.kl9 [(1,.ptr (some a1)),(27,a2.v),(28,.int .i64 a3),(29,.int .i64 (IntKind.wrap .i64 (a4+1)))]) q15.2))))) (
 some (.bool true,h)):=(kf _ h).trans (by kernel_rfl)
theorem kvt(a1 a2:Sl)(a3 a4:Int)(h:AH):go (.pt F.kgj Td.knh [(0,a1.v),(1,a2.v),(12,.int .i64 a3),(13,.int .i64 a4)]) h =
 cond (decide (a4<a3)) (
 (idx a1.ref a1.len a4 1).bind fun r5 =>
 ((h.cell r5).bind (AV.asInt .i64)).bind fun n6 =>
 (idx a2.ref a2.len a4 1).bind fun r7 =>
 ((h.cell r7).bind (AV.asInt .i64)).bind fun n8 =>
 cond (!decide (n6=n8)) (
 some (.bool false,h)) (
 go (.pt F.kgj Td.knh [(0,a1.v),(1,a2.v),(12,.int .i64 a3),(13,.int .i64 (IntKind.wrap .i64 (a4+1)))]) h)) (
 some (.bool true,h)):=(kf _ h).trans (by kernel_rfl)
theorem kxj(a1:Sl)(h:AH):go (.fn F.kbn [a1.v,.func (.func F.kc9) [] []]) h =
 go (.pt F.kbn Td.kcf [(0,a1.v),(1,.func (.func F.kc9) [] []),(7,.int .i64 (a1.len:Int)),(8,.int .i64 0)]) h:=(kf _ h).trans (by kernel_rfl)
theorem kzt(a1:Int)(h:AH):go (.fn F.ke9 [.int .i64 a1]) h =
 newK h (.cells [.int .i64 0,(⟨none,0,.is 0⟩:Sl).v] T.kx) fun h2r h2 =>
 (go (.fn F.khx [.int .i64 a1]) h2).bind fun q3 =>
 (AV.asTup2 q3.1).bind fun p4 =>
 (AV.asAgg p4.1).bind fun cs5 =>
 cond (Nat.beq cs5.length 2) (
 ((cs5[0]?).bind (AV.asInt .i64)).bind fun n6 =>
 ((cs5[1]?).bind AV.asSl).bind fun l7 =>
 ((some p4.2).bind (AV.asInt .i64)).bind fun n8 =>
 newK q3.2 (.cells [.int .i64 0,(⟨none,0,.is 0⟩:Sl).v] T.kx) fun h9r h9 =>
 (h9.puts h9r [.int .i64 n6,l7.v]).bind fun h10 =>
 ((h10.cell (h9r.add 1)).bind AV.asSl).bind fun l11 =>
 go (.pt F.ke9 Td.kir [(0,.int .i64 a1),(2,.ptr (some h2r)),(4,.ptr (some h9r)),(5,.int .i64 n8),(15,.int .i64 (l11.len:Int)),(16,.int .i64 0)]) h10) none:=(kf _ h).trans (by kernel_rfl)
theorem kvk(a1 a2 a3:Sl)(a4 a5 a6 a7:Ref)(h:AH):go (.pt F.kbt Td.kfk [(1,a1.v),(2,a2.v),(3,a3.v),(4,.ptr (some a4)),(8,.ptr (some a5)),(11,.ptr (some a6)),(12,.ptr (some a7))]) h =
 ((h.cell a7).bind AV.asSl).bind fun l8 =>
 (go (.fn F.kkp [l8.v]) h).bind fun q9 =>
 ((some q9.1).bind (AV.asInt .i64)).bind fun n10 =>
 cond (decide (n10>0)) (
 (go (.fn F.kos [.iface T.kbp (.ptr (some a7))]) q9.2).bind fun q11 =>
 (AV.asIface q11.1).bind fun p12 =>
 cond (Nat.beq p12.1 T.kbg) (
 (AV.asAgg p12.2).bind fun cs13 =>
 cond (Nat.beq cs13.length 4) (
 ((cs13[0]?).bind (AV.asInt .i64)).bind fun n14 =>
 ((cs13[1]?).bind (AV.asInt .i64)).bind fun n15 =>
 ((cs13[2]?).bind (AV.asInt .i64)).bind fun n16 =>
 ((cs13[3]?).bind AV.asSl).bind fun l17 =>
 newK q11.2 (.cells [.int .i64 0,.int .i64 0,.int .i64 0,(⟨none,0,.is 0⟩:Sl).v] T.kbg) fun h18r h18 =>
 (h18.puts h18r [.int .i64 n14,.int .i64 n15,.int .i64 n16,l17.v]).bind fun h19 =>
 ((h19.cell ((h18r.add 2).add 0)).bind (AV.asInt .i64)).bind fun n20 =>
 ((h19.cell ((h18r.add 2).add 1)).bind AV.asSl).bind fun l21 =>
 (go (.fn F.kfs [a2.v,.agg [.int .i64 n20,l21.v]]) h19).bind fun q22 =>
 (AV.asAgg q22.1).bind fun cs23 =>
 cond (Nat.beq cs23.length 2) (
 ((cs23[0]?).bind (AV.asInt .i64)).bind fun n24 =>
 ((cs23[1]?).bind (AV.asInt .i64)).bind fun n25 =>
 newK q22.2 (.cells [.int .i64 0,.int .i64 0] T.kbe) fun h26r h26 =>
 (h26.puts h26r [.int .i64 n24,.int .i64 n25]).bind fun h27 =>
 ((h27.cell (h18r.add 1)).bind (AV.asInt .i64)).bind fun n28 =>
 ((h27.cell (a4.add 1)).bind (AV.asInt .i64)).bind fun n29 =>
 cond (decide (n28<n29)) (
 ((h27.cell ((h18r.add 2).add 0)).bind (AV.asInt .i64)).bind fun n30 =>
 ((h27.cell ((h18r.add 2).add 1)).bind AV.asSl).bind fun l31 =>
 (go (.fn F.kb8 [a1.v,a2.v,.agg [.int .i64 n30,l31.v]]) h27).bind fun q32 =>
 (AV.asTup2 q32.1).bind fun p33 =>
 ((some p33.1).bind AV.asSl).bind fun l34 =>
 ((some p33.2).bind AV.asSl).bind fun l35 =>
 ((q32.2.cell (a4.add 2)).bind (AV.asInt .i64)).bind fun n36 =>
 ((q32.2.cell (a4.add 3)).bind (AV.asInt .i64)).bind fun n37 =>
 ((q32.2.cell (h26r.add 0)).bind (AV.asInt .i64)).bind fun n38 =>
 ((q32.2.cell (h26r.add 1)).bind (AV.asInt .i64)).bind fun n39 =>
 (go (.fn F.kdz [.int .i64 n36,.int .i64 n37,.agg [.int .i64 n38,.int .i64 n39],l35.v]) q32.2).bind fun q40 =>
 (AV.asTup2 q40.1).bind fun p41 =>
 ((some p41.1).bind AV.asSl).bind fun l42 =>
 ((some p41.2).bind (AV.asInt .i64)).bind fun n43 =>
 go (.pt F.kbt Td.kg5 [(1,a1.v),(2,a2.v),(3,a3.v),(4,.ptr (some a4)),(8,.ptr (some a5)),(11,.ptr (some a6)),(12,.ptr (some a7)),(13,.ptr (some h18r)),(14,.ptr (some h26r)),(15,l42.v),(16,l34.v)]) q40.2) (
 go (.pt F.kbt Td.kg5 [(1,a1.v),(2,a2.v),(3,a3.v),(4,.ptr (some a4)),(8,.ptr (some a5)),(11,.ptr (some a6)),(12,.ptr (some a7)),(13,.ptr (some h18r)),(14,.ptr (some h26r)),(15,(⟨none,0,.is 0⟩:Sl).v),(16,(⟨none,0,.is 0⟩:Sl).v)]) h27)) none) none) none) (
 ((q9.2.cell (a6.add 0)).bind AV.asSl).bind fun l44 =>
 (q9.2.puts a5 [l44.v]).bind fun h45 =>
 ((h45.cell (a5.add 0)).bind AV.asSl).bind fun l46 =>
 some (.agg [l46.v],h45)):=(kf _ h).trans (by kernel_rfl)
theorem k3g(a1:Bool)(a2 a3 a4 a5 a6 a7 a8 a9:Int)(h:AH):go (.fn F.kmn [.agg [.bool a1,.int .i64 a2,.int .i64 a3,.int .i64 a4,.int .i64 a5,.int .i64 a6,.int .i64 a7],.int .i64 a8,.int .i64 a9]) h =
 newK h (.cells [.bool a1,.int .i64 a2,.int .i64 a3,.int .i64 a4,.int .i64 a5,.int .i64 a6,.int .i64 a7] T.kbj) fun h10r h10 =>
 newK h10 (.cells [.int .i64 a8] T.int) fun h11r h11 =>
 newK h11 (.cells [.int .i64 a9] T.int) fun h12r h12 =>
 newK h12 (.cells [.nilFunc] T.k6x) fun h13r h13 =>
 (h13.puts h13r [.func (.func F.ke3) [] []]).bind fun h14 =>
 ((h14.cell (h10r.add 0)).bind AV.asBool).bind fun b15 =>
 cond b15 (
 (h14.cell h13r).bind fun v16 =>
 ((h14.cell (h10r.add 1)).bind (AV.asInt .i64)).bind fun n17 =>
 yieldK v16 [.int .i64 n17,.int .i64 (-1099511627776),.int .i64 1099511627776] (fun y19 =>
 (go (.round y19.1 y19.2) h14).bind fun q18 =>
 ((some q18.1).bind AV.asBool).bind fun b21 =>
 cond b21 (
 ((q18.2.cell (h10r.add 0)).bind AV.asBool).bind fun b22 =>
 ((q18.2.cell (h10r.add 1)).bind (AV.asInt .i64)).bind fun n23 =>
 ((q18.2.cell (h10r.add 2)).bind (AV.asInt .i64)).bind fun n24 =>
 ((q18.2.cell (h10r.add 3)).bind (AV.asInt .i64)).bind fun n25 =>
 ((q18.2.cell (h10r.add 4)).bind (AV.asInt .i64)).bind fun n26 =>
 ((q18.2.cell (h10r.add 5)).bind (AV.asInt .i64)).bind fun n27 =>
 ((q18.2.cell (h10r.add 6)).bind (AV.asInt .i64)).bind fun n28 =>
 ((q18.2.cell (h10r.add 1)).bind (AV.asInt .i64)).bind fun n29 =>
 some (.bool ((b22==true)&&((decide (n23=n29))&&((decide (n24=0))&&((decide (n25=0))&&((decide (n26=0))&&((decide (n27=0))&&((decide (n28=0))&&true))))))),q18.2)) (
 some (.bool false,q18.2))) (
 (callV Pg go v16 [.int .i64 n17,.int .i64 (-1099511627776),.int .i64 1099511627776] h14).bind fun q20 =>
 ((some q20.1).bind AV.asBool).bind fun b30 =>
 cond b30 (
 ((q20.2.cell (h10r.add 0)).bind AV.asBool).bind fun b31 =>
 ((q20.2.cell (h10r.add 1)).bind (AV.asInt .i64)).bind fun n32 =>
 ((q20.2.cell (h10r.add 2)).bind (AV.asInt .i64)).bind fun n33 =>
 ((q20.2.cell (h10r.add 3)).bind (AV.asInt .i64)).bind fun n34 =>
 ((q20.2.cell (h10r.add 4)).bind (AV.asInt .i64)).bind fun n35 =>
 ((q20.2.cell (h10r.add 5)).bind (AV.asInt .i64)).bind fun n36 =>
 ((q20.2.cell (h10r.add 6)).bind (AV.asInt .i64)).bind fun n37 =>
 ((q20.2.cell (h10r.add 1)).bind (AV.asInt .i64)).bind fun n38 =>
 some (.bool ((b31==true)&&((decide (n32=n38))&&((decide (n33=0))&&((decide (n34=0))&&((decide (n35=0))&&((decide (n36=0))&&((decide (n37=0))&&true))))))),q20.2)) (
 some (.bool false,q20.2)))) (
 ((h14.cell (h10r.add 1)).bind (AV.asInt .i64)).bind fun n39 =>
 cond (decide (n39=0)) (
 (h14.cell h13r).bind fun v40 =>
 ((h14.cell (h10r.add 2)).bind (AV.asInt .i64)).bind fun n41 =>
 yieldK v40 [.int .i64 n41,.int .i64 0,.int .i64 15] (fun y43 =>
 (go (.round y43.1 y43.2) h14).bind fun q42 =>
 ((some q42.1).bind AV.asBool).bind fun b45 =>
 cond b45 (
 (q42.2.cell h13r).bind fun v46 =>
 ((q42.2.cell (h10r.add 3)).bind (AV.asInt .i64)).bind fun n47 =>
 yieldK v46 [.int .i64 n47,.int .i64 0,.int .i64 1073741824] (fun y49 =>
 (go (.round y49.1 y49.2) q42.2).bind fun q48 =>
 ((some q48.1).bind AV.asBool).bind fun b51 =>
 cond b51 (
 (q48.2.cell h13r).bind fun v52 =>
 ((q48.2.cell (h10r.add 4)).bind (AV.asInt .i64)).bind fun n53 =>
 yieldK v52 [.int .i64 n53,.int .i64 0,.int .i64 31] (fun y55 =>
 (go (.round y55.1 y55.2) q48.2).bind fun q54 =>
 ((some q54.1).bind AV.asBool).bind fun b57 =>
 cond b57 (
 ((q54.2.cell (h10r.add 5)).bind (AV.asInt .i64)).bind fun n58 =>
 (go (.fn F.kb0 [.int .i64 n58,.ptr (some h13r),.ptr (some h11r),.ptr (some h12r)]) q54.2).bind fun q59 =>
 ((some q59.1).bind AV.asBool).bind fun b60 =>
 cond b60 (
 ((q59.2.cell (h10r.add 6)).bind (AV.asInt .i64)).bind fun n61 =>
 (go (.fn F.kb0 [.int .i64 n61,.ptr (some h13r),.ptr (some h11r),.ptr (some h12r)]) q59.2).bind fun q62 =>
 ((some q62.1).bind AV.asBool).bind fun b63 =>
 cond b63 (
 ((q62.2.cell (h10r.add 5)).bind (AV.asInt .i64)).bind fun n64 =>
 ((q62.2.cell (h10r.add 6)).bind (AV.asInt .i64)).bind fun n65 =>
 some (.bool (!decide (n64=n65)),q62.2)) (
 some (.bool false,q62.2))) (
 some (.bool false,q59.2))) (
 some (.bool false,q54.2))) (
 (callV Pg go v52 [.int .i64 n53,.int .i64 0,.int .i64 31] q48.2).bind fun q56 =>
 ((some q56.1).bind AV.asBool).bind fun b66 =>
 cond b66 (
 ((q56.2.cell (h10r.add 5)).bind (AV.asInt .i64)).bind fun n67 =>
 (go (.fn F.kb0 [.int .i64 n67,.ptr (some h13r),.ptr (some h11r),.ptr (some h12r)]) q56.2).bind fun q68 =>
 ((some q68.1).bind AV.asBool).bind fun b69 =>
 cond b69 (
 ((q68.2.cell (h10r.add 6)).bind (AV.asInt .i64)).bind fun n70 =>
 (go (.fn F.kb0 [.int .i64 n70,.ptr (some h13r),.ptr (some h11r),.ptr (some h12r)]) q68.2).bind fun q71 =>
 ((some q71.1).bind AV.asBool).bind fun b72 =>
 cond b72 (
 ((q71.2.cell (h10r.add 5)).bind (AV.asInt .i64)).bind fun n73 =>
 ((q71.2.cell (h10r.add 6)).bind (AV.asInt .i64)).bind fun n74 =>
 some (.bool (!decide (n73=n74)),q71.2)) (
 some (.bool false,q71.2))) (
 some (.bool false,q68.2))) (
 some (.bool false,q56.2)))) (
 some (.bool false,q48.2))) (
 (callV Pg go v46 [.int .i64 n47,.int .i64 0,.int .i64 1073741824] q42.2).bind fun q50 =>
 ((some q50.1).bind AV.asBool).bind fun b75 =>
 cond b75 (
 (q50.2.cell h13r).bind fun v76 =>
 ((q50.2.cell (h10r.add 4)).bind (AV.asInt .i64)).bind fun n77 =>
 yieldK v76 [.int .i64 n77,.int .i64 0,.int .i64 31] (fun y79 =>
 (go (.round y79.1 y79.2) q50.2).bind fun q78 =>
 ((some q78.1).bind AV.asBool).bind fun b81 =>
 cond b81 (
 ((q78.2.cell (h10r.add 5)).bind (AV.asInt .i64)).bind fun n82 =>
 (go (.fn F.kb0 [.int .i64 n82,.ptr (some h13r),.ptr (some h11r),.ptr (some h12r)]) q78.2).bind fun q83 =>
 ((some q83.1).bind AV.asBool).bind fun b84 =>
 cond b84 (
 ((q83.2.cell (h10r.add 6)).bind (AV.asInt .i64)).bind fun n85 =>
 (go (.fn F.kb0 [.int .i64 n85,.ptr (some h13r),.ptr (some h11r),.ptr (some h12r)]) q83.2).bind fun q86 =>
 ((some q86.1).bind AV.asBool).bind fun b87 =>
 cond b87 (
 ((q86.2.cell (h10r.add 5)).bind (AV.asInt .i64)).bind fun n88 =>
 ((q86.2.cell (h10r.add 6)).bind (AV.asInt .i64)).bind fun n89 =>
 some (.bool (!decide (n88=n89)),q86.2)) (
 some (.bool false,q86.2))) (
 some (.bool false,q83.2))) (
 some (.bool false,q78.2))) (
 (callV Pg go v76 [.int .i64 n77,.int .i64 0,.int .i64 31] q50.2).bind fun q80 =>
 ((some q80.1).bind AV.asBool).bind fun b90 =>
 cond b90 (
 ((q80.2.cell (h10r.add 5)).bind (AV.asInt .i64)).bind fun n91 =>
 (go (.fn F.kb0 [.int .i64 n91,.ptr (some h13r),.ptr (some h11r),.ptr (some h12r)]) q80.2).bind fun q92 =>
 ((some q92.1).bind AV.asBool).bind fun b93 =>
 cond b93 (
 ((q92.2.cell (h10r.add 6)).bind (AV.asInt .i64)).bind fun n94 =>
 (go (.fn F.kb0 [.int .i64 n94,.ptr (some h13r),.ptr (some h11r),.ptr (some h12r)]) q92.2).bind fun q95 =>
 ((some q95.1).bind AV.asBool).bind fun b96 =>
 cond b96 (
 ((q95.2.cell (h10r.add 5)).bind (AV.asInt .i64)).bind fun n97 =>
 ((q95.2.cell (h10r.add 6)).bind (AV.asInt .i64)).bind fun n98 =>
 some (.bool (!decide (n97=n98)),q95.2)) (
 some (.bool false,q95.2))) (
 some (.bool false,q92.2))) (
 some (.bool false,q80.2)))) (
 some (.bool false,q50.2)))) (
 some (.bool false,q42.2))) (
 (callV Pg go v40 [.int .i64 n41,.int .i64 0,.int .i64 15] h14).bind fun q44 =>
 ((some q44.1).bind AV.asBool).bind fun b99 =>
 cond b99 (
 (q44.2.cell h13r).bind fun v100 =>
 ((q44.2.cell (h10r.add 3)).bind (AV.asInt .i64)).bind fun n101 =>
 yieldK v100 [.int .i64 n101,.int .i64 0,.int .i64 1073741824] (fun y103 =>
 (go (.round y103.1 y103.2) q44.2).bind fun q102 =>
 ((some q102.1).bind AV.asBool).bind fun b105 =>
 cond b105 (
 (q102.2.cell h13r).bind fun v106 =>
 ((q102.2.cell (h10r.add 4)).bind (AV.asInt .i64)).bind fun n107 =>
 yieldK v106 [.int .i64 n107,.int .i64 0,.int .i64 31] (fun y109 =>
 (go (.round y109.1 y109.2) q102.2).bind fun q108 =>
 ((some q108.1).bind AV.asBool).bind fun b111 =>
 cond b111 (
 ((q108.2.cell (h10r.add 5)).bind (AV.asInt .i64)).bind fun n112 =>
 (go (.fn F.kb0 [.int .i64 n112,.ptr (some h13r),.ptr (some h11r),.ptr (some h12r)]) q108.2).bind fun q113 =>
 ((some q113.1).bind AV.asBool).bind fun b114 =>
 cond b114 (
 ((q113.2.cell (h10r.add 6)).bind (AV.asInt .i64)).bind fun n115 =>
 (go (.fn F.kb0 [.int .i64 n115,.ptr (some h13r),.ptr (some h11r),.ptr (some h12r)]) q113.2).bind fun q116 =>
 ((some q116.1).bind AV.asBool).bind fun b117 =>
 cond b117 (
 ((q116.2.cell (h10r.add 5)).bind (AV.asInt .i64)).bind fun n118 =>
 ((q116.2.cell (h10r.add 6)).bind (AV.asInt .i64)).bind fun n119 =>
 some (.bool (!decide (n118=n119)),q116.2)) (
 some (.bool false,q116.2))) (
 some (.bool false,q113.2))) (
 some (.bool false,q108.2))) (
 (callV Pg go v106 [.int .i64 n107,.int .i64 0,.int .i64 31] q102.2).bind fun q110 =>
 ((some q110.1).bind AV.asBool).bind fun b120 =>
 cond b120 (
 ((q110.2.cell (h10r.add 5)).bind (AV.asInt .i64)).bind fun n121 =>
 (go (.fn F.kb0 [.int .i64 n121,.ptr (some h13r),.ptr (some h11r),.ptr (some h12r)]) q110.2).bind fun q122 =>
 ((some q122.1).bind AV.asBool).bind fun b123 =>
 cond b123 (
 ((q122.2.cell (h10r.add 6)).bind (AV.asInt .i64)).bind fun n124 =>
 (go (.fn F.kb0 [.int .i64 n124,.ptr (some h13r),.ptr (some h11r),.ptr (some h12r)]) q122.2).bind fun q125 =>
 ((some q125.1).bind AV.asBool).bind fun b126 =>
 cond b126 (
 ((q125.2.cell (h10r.add 5)).bind (AV.asInt .i64)).bind fun n127 =>
 ((q125.2.cell (h10r.add 6)).bind (AV.asInt .i64)).bind fun n128 =>
 some (.bool (!decide (n127=n128)),q125.2)) (
 some (.bool false,q125.2))) (
 some (.bool false,q122.2))) (
 some (.bool false,q110.2)))) (
 some (.bool false,q102.2))) (
 (callV Pg go v100 [.int .i64 n101,.int .i64 0,.int .i64 1073741824] q44.2).bind fun q104 =>
 ((some q104.1).bind AV.asBool).bind fun b129 =>
 cond b129 (
 (q104.2.cell h13r).bind fun v130 =>
 ((q104.2.cell (h10r.add 4)).bind (AV.asInt .i64)).bind fun n131 =>
 yieldK v130 [.int .i64 n131,.int .i64 0,.int .i64 31] (fun y133 =>
 (go (.round y133.1 y133.2) q104.2).bind fun q132 =>
 ((some q132.1).bind AV.asBool).bind fun b135 =>
 cond b135 (
 ((q132.2.cell (h10r.add 5)).bind (AV.asInt .i64)).bind fun n136 =>
 (go (.fn F.kb0 [.int .i64 n136,.ptr (some h13r),.ptr (some h11r),.ptr (some h12r)]) q132.2).bind fun q137 =>
 ((some q137.1).bind AV.asBool).bind fun b138 =>
 cond b138 (
 ((q137.2.cell (h10r.add 6)).bind (AV.asInt .i64)).bind fun n139 =>
 (go (.fn F.kb0 [.int .i64 n139,.ptr (some h13r),.ptr (some h11r),.ptr (some h12r)]) q137.2).bind fun q140 =>
 ((some q140.1).bind AV.asBool).bind fun b141 =>
 cond b141 (
 ((q140.2.cell (h10r.add 5)).bind (AV.asInt .i64)).bind fun n142 =>
 ((q140.2.cell (h10r.add 6)).bind (AV.asInt .i64)).bind fun n143 =>
 some (.bool (!decide (n142=n143)),q140.2)) (
 some (.bool false,q140.2))) (
 some (.bool false,q137.2))) (
 some (.bool false,q132.2))) (
 (callV Pg go v130 [.int .i64 n131,.int .i64 0,.int .i64 31] q104.2).bind fun q134 =>
 ((some q134.1).bind AV.asBool).bind fun b144 =>
 cond b144 (
 ((q134.2.cell (h10r.add 5)).bind (AV.asInt .i64)).bind fun n145 =>
 (go (.fn F.kb0 [.int .i64 n145,.ptr (some h13r),.ptr (some h11r),.ptr (some h12r)]) q134.2).bind fun q146 =>
 ((some q146.1).bind AV.asBool).bind fun b147 =>
 cond b147 (
 ((q146.2.cell (h10r.add 6)).bind (AV.asInt .i64)).bind fun n148 =>
 (go (.fn F.kb0 [.int .i64 n148,.ptr (some h13r),.ptr (some h11r),.ptr (some h12r)]) q146.2).bind fun q149 =>
 ((some q149.1).bind AV.asBool).bind fun b150 =>
 cond b150 (
 ((q149.2.cell (h10r.add 5)).bind (AV.asInt .i64)).bind fun n151 =>
 ((q149.2.cell (h10r.add 6)).bind (AV.asInt .i64)).bind fun n152 =>
 some (.bool (!decide (n151=n152)),q149.2)) (
 some (.bool false,q149.2))) (
 some (.bool false,q146.2))) (
 some (.bool false,q134.2)))) (
 some (.bool false,q104.2)))) (
 some (.bool false,q44.2)))) (
 some (.bool false,h14))):=(kf _ h).trans (by kernel_rfl)
theorem kbbn(a1:Sl)(h:AH):go (.fn F.kc6 [a1.v,.func (.func F.kdj) [] []]) h =
 (go (.fn F.kbn [a1.v,.func (.func F.kdj) [] []]) h).bind fun q2 =>
 ((some q2.1).bind (AV.asInt .i64)).bind fun n3 =>
 some (.bool (decide (n3≥0)),q2.2):=(kf _ h).trans (by kernel_rfl)
theorem kbbs(a1:Sl)(h:AH):go (.fn F.kgt [a1.v]) h =
 newM h (.map [] 0) fun h2m h2 =>
 go (.pt F.kgt Td.kmr [(3,.map (some h2m)),(7,a1.v),(8,.int .i64 (a1.len:Int)),(9,.int .i64 0)]) h2:=(kf _ h).trans (by kernel_rfl)
theorem k88(a1:Sl)(a2:Option Ref)(h:AH):go (.fn F.kc6 [a1.v,.func (.func F.kdh) [] [.ptr a2]]) h =
 (go (.fn F.kbn [a1.v,.func (.func F.kdh) [] [.ptr a2]]) h).bind fun q3 =>
 ((some q3.1).bind (AV.asInt .i64)).bind fun n4 =>
 some (.bool (decide (n4≥0)),q3.2):=(kf _ h).trans (by kernel_rfl)
theorem kws(a1:Sl)(a2 a3:Int)(h:AH):go (.pt F.kbn Td.kcf [(0,a1.v),(1,.func (.func F.kc9) [] []),(7,.int .i64 a2),(8,.int .i64 a3)]) h =
 cond (decide (a3<a2)) (
 (idx a1.ref a1.len a3 1).bind fun r4 =>
 ((h.cell r4).bind (AV.asInt .i64)).bind fun n5 =>
 (go (.fn F.kc9 [.int .i64 n5]) h).bind fun q6 =>
 ((some q6.1).bind AV.asBool).bind fun b7 =>
 cond b7 (
 some (.int .i64 a3,q6.2)) (
 go (.pt F.kbn Td.kcf [(0,a1.v),(1,.func (.func F.kc9) [] []),(7,.int .i64 a2),(8,.int .i64 (IntKind.wrap .i64 (a3+1)))]) q6.2)) (
 some (.int .i64 (-1),h)):=(kf _ h).trans (by kernel_rfl)
theorem k1b(a1:Int)(h:AH):go (.fn F.khx [.int .i64 a1]) h =
 newK h (.cells [.int .i64 0,(⟨none,0,.is 0⟩:Sl).v] T.kx) fun h2r h2 =>
 cond (decide (a1<0)) (
 (h2.puts h2r [.int .i64 0,(⟨none,0,.is 0⟩:Sl).v]).bind fun h3 =>
 ((h3.cell (h2r.add 0)).bind (AV.asInt .i64)).bind fun n4 =>
 ((h3.cell (h2r.add 1)).bind AV.asSl).bind fun l5 =>
 some (.tup [.agg [.int .i64 n4,l5.v],.int .i64 1],h3)) (
 cond (decide (a1>65536)) (
 (h2.puts h2r [.int .i64 0,(⟨none,0,.is 0⟩:Sl).v]).bind fun h6 =>
 ((h6.cell (h2r.add 0)).bind (AV.asInt .i64)).bind fun n7 =>
 ((h6.cell (h2r.add 1)).bind AV.asSl).bind fun l8 =>
 some (.tup [.agg [.int .i64 n7,l8.v],.int .i64 1],h6)) (
 (kbv (IntKind.wrap .i64 (Int.tdiv (IntKind.wrap .i64 ((IntKind.wrap .i64 (a1+64))-1)) 64)) (IntKind.wrap .i64 (Int.tdiv (IntKind.wrap .i64 ((IntKind.wrap .i64 (a1+64))-1)) 64)) T.kj (Pg.bytesOf T.kj) [.int .u64 0] h2).bind fun q9 =>
 (q9.2.puts h2r [.int .i64 a1,q9.1.v]).bind fun h10 =>
 ((h10.cell (h2r.add 0)).bind (AV.asInt .i64)).bind fun n11 =>
 ((h10.cell (h2r.add 1)).bind AV.asSl).bind fun l12 =>
 some (.tup [.agg [.int .i64 n11,l12.v],.int .i64 0],h10))):=(kf _ h).trans (by kernel_rfl)
theorem kwl(a1:Int)(a2 a3:Ref)(a4 a5 a6:Int)(h:AH):go (.pt F.ke9 Td.kir [(0,.int .i64 a1),(2,.ptr (some a2)),(4,.ptr (some a3)),(5,.int .i64 a4),(15,.int .i64 a5),(16,.int .i64 a6)]) h =
 cond (decide (a6<a5)) (
 ((h.cell (a3.add 1)).bind AV.asSl).bind fun l7 =>
 (idx l7.ref l7.len a6 1).bind fun r8 =>
 (h.puts r8 [.int .u64 18446744073709551615]).bind fun h9 =>
 cond (decide ((IntKind.wrap .i64 (a1-(IntKind.wrap .i64 (64*a6))))<64)) (
 ((h9.cell (a3.add 1)).bind AV.asSl).bind fun l10 =>
 cond (decide ((IntKind.wrap .i64 (a1-(IntKind.wrap .i64 (64*a6))))<0)) none (
 (idx l10.ref l10.len a6 1).bind fun r11 =>
 (h9.puts r11 [.int .u64 (IntKind.wrap .u64 ((ishl .u64 1 (IntKind.wrap .i64 (a1-(IntKind.wrap .i64 (64*a6)))))-1))]).bind fun h12 =>
 go (.pt F.ke9 Td.kir [(0,.int .i64 a1),(2,.ptr (some a2)),(4,.ptr (some a3)),(5,.int .i64 a4),(15,.int .i64 a5),(16,.int .i64 (IntKind.wrap .i64 (a6+1)))]) h12)) (
 go (.pt F.ke9 Td.kir [(0,.int .i64 a1),(2,.ptr (some a2)),(4,.ptr (some a3)),(5,.int .i64 a4),(15,.int .i64 a5),(16,.int .i64 (IntKind.wrap .i64 (a6+1)))]) h9)) (
 ((h.cell (a3.add 0)).bind (AV.asInt .i64)).bind fun n13 =>
 ((h.cell (a3.add 1)).bind AV.asSl).bind fun l14 =>
 (h.puts a2 [.int .i64 n13,l14.v]).bind fun h15 =>
 ((h15.cell (a2.add 0)).bind (AV.asInt .i64)).bind fun n16 =>
 ((h15.cell (a2.add 1)).bind AV.asSl).bind fun l17 =>
 some (.tup [.agg [.int .i64 n16,l17.v],.int .i64 a4],h15)):=(kf _ h).trans (by kernel_rfl)
theorem kko(a1:Sl)(h:AH):go (.fn F.kkp [a1.v]) h =
 some (.int .i64 (a1.len:Int),h):=(kf _ h).trans (by kernel_rfl)
theorem k51(a1:Ref)(h:AH):go (.fn F.kos [.iface T.kbp (.ptr (some a1))]) h =
 ((h.cell a1).bind AV.asSl).bind fun l2 =>
 (go (.fn F.kkp [l2.v]) h).bind fun q3 =>
 ((some q3.1).bind (AV.asInt .i64)).bind fun n4 =>
 ((q3.2.cell a1).bind AV.asSl).bind fun l5 =>
 (go (.fn F.kfu [l5.v,.int .i64 0,.int .i64 (IntKind.wrap .i64 (n4-1))]) q3.2).bind fun q6 =>
 (AV.asTup0 q6.1).bind fun _ =>
 (go (.fn F.kdx [.iface T.kbp (.ptr (some a1)),.int .i64 0,.int .i64 (IntKind.wrap .i64 (n4-1))]) q6.2).bind fun q7 =>
 ((some q7.1).bind AV.asBool).bind fun b8 =>
 (go (.fn F.kog [.ptr (some a1)]) q7.2).bind fun q9 =>
 some (q9.1,q9.2):=(kf _ h).trans (by kernel_rfl)
theorem k9e(a1:Sl)(a2:Int)(a3:Sl)(h:AH):go (.fn F.kfs [a1.v,.agg [.int .i64 a2,a3.v]]) h =
 newK h (.cells [.int .i64 a2,a3.v] T.kx) fun h4r h4 =>
 newK h4 (.cells [.int .i64 0,.int .i64 0] T.kbe) fun h5r h5 =>
 newK h5 (.cells [.int .i64 0,.int .i64 0] T.kbe) fun h6r h6 =>
 ((h6.cell (h4r.add 0)).bind (AV.asInt .i64)).bind fun n7 =>
 ((h6.cell (h4r.add 1)).bind AV.asSl).bind fun l8 =>
 (go (.fn F.knk [.agg [.int .i64 n7,l8.v]]) h6).bind fun q9 =>
 ((some q9.1).bind AV.asSl).bind fun l10 =>
 go (.pt F.kfs Td.kme [(0,a1.v),(4,.ptr (some h5r)),(5,.ptr (some h6r)),(9,l10.v),(10,.int .i64 (l10.len:Int)),(11,.int .i64 0)]) q9.2:=(kf _ h).trans (by kernel_rfl)
theorem ky8(a1 a2:Sl)(a3:Int)(a4:Sl)(h:AH):go (.fn F.kb8 [a1.v,a2.v,.agg [.int .i64 a3,a4.v]]) h =
 newK h (.cells [.int .i64 a3,a4.v] T.kx) fun h5r h5 =>
 go (.pt F.kb8 Td.kkh [(1,a2.v),(5,.ptr (some h5r)),(8,(⟨none,0,.is 0⟩:Sl).v),(9,(⟨none,0,.is 0⟩:Sl).v),(17,a1.v),(18,.int .i64 (a1.len:Int)),(19,.int .i64 0)]) h5:=(kf _ h).trans (by kernel_rfl)
theorem k9y(a1 a2 a3 a4:Int)(a5:Sl)(h:AH):go (.fn F.kdz [.int .i64 a1,.int .i64 a2,.agg [.int .i64 a3,.int .i64 a4],a5.v]) h =
 newK h (.cells [.int .i64 a3,.int .i64 a4] T.kbe) fun h6r h6 =>
 ((h6.cell (h6r.add 0)).bind (AV.asInt .i64)).bind fun n7 =>
 ((h6.cell (h6r.add 1)).bind (AV.asInt .i64)).bind fun n8 =>
 (go (.fn F.kgo [.agg [.int .i64 n7,.int .i64 n8]]) h6).bind fun q9 =>
 ((some q9.1).bind AV.asBool).bind fun b10 =>
 cond (!b10) (
 some (.tup [(⟨none,0,.is 0⟩:Sl).v,.int .i64 1],q9.2)) (
 (go (.fn F.ki1 [.int .i64 a1]) q9.2).bind fun q11 =>
 ((some q11.1).bind AV.asBool).bind fun b12 =>
 cond (!b12) (
 some (.tup [(⟨none,0,.is 0⟩:Sl).v,.int .i64 1],q11.2)) (
 cond (decide (a2<0)) (
 some (.tup [(⟨none,0,.is 0⟩:Sl).v,.int .i64 1],q11.2)) (
 cond (decide (a2>1048576)) (
 some (.tup [(⟨none,0,.is 0⟩:Sl).v,.int .i64 1],q11.2)) (
 cond (decide ((a5.len:Int)>16384)) (
 some (.tup [(⟨none,0,.is 0⟩:Sl).v,.int .i64 1],q11.2)) (
 newK q11.2 (.cells [(⟨none,0,.is 0⟩:Sl).v] T.kdl) fun h13r h13 =>
 (go (.fn F.kg4 [.int .i64 a2]) h13).bind fun q14 =>
 (AV.asAgg q14.1).bind fun cs15 =>
 cond (Nat.beq cs15.length 2) (
 ((cs15[0]?).bind AV.asBool).bind fun b16 =>
 ((cs15[1]?).bind AV.asSl).bind fun l17 =>
 newK q14.2 (.cells [.int .u64 1] T.kj) fun h18r h18 =>
 (go (.fn F.kh3 [.agg [.bool b16,l17.v],(⟨some h18r,1,.is 1⟩:Sl).v]) h18).bind fun q19 =>
 (AV.asTup2 q19.1).bind fun p20 =>
 (AV.asAgg p20.1).bind fun cs21 =>
 cond (Nat.beq cs21.length 3) (
 ((cs21[0]?).bind AV.asBool).bind fun b22 =>
 ((cs21[1]?).bind AV.asSl).bind fun l23 =>
 ((cs21[2]?).bind AV.asSl).bind fun l24 =>
 ((some p20.2).bind (AV.asInt .i64)).bind fun n25 =>
 newK q19.2 (.cells [.bool false,(⟨none,0,.is 0⟩:Sl).v,(⟨none,0,.is 0⟩:Sl).v] T.ky) fun h26r h26 =>
 (h26.puts h26r [.bool b22,l23.v,l24.v]).bind fun h27 =>
 go (.pt F.kdz Td.kgm [(0,.int .i64 a1),(6,.ptr (some h6r)),(10,.ptr (some h13r)),(13,.func (.func F.kdv) [] [.ptr (some h26r),.ptr (some h13r)]),(47,a5.v),(48,.int .i64 (a5.len:Int)),(49,.int .i64 0)]) h27) none) none))))):=(kf _ h).trans (by kernel_rfl)
theorem kqw(a1 a2 a3:Sl)(a4 a5 a6 a7 a8 a9:Ref)(a10 a11:Sl)(h:AH):go (.pt F.kbt Td.kg5 [(1,a1.v),(2,a2.v),(3,a3.v),(4,.ptr (some a4)),(8,.ptr (some a5)),(11,.ptr (some a6)),(12,.ptr (some a7)),(13,.ptr (some a8)),(14,.ptr (some a9)),(15,a10.v),(16,a11.v)]) h =
 cond (decide ((a10.len:Int)=0)) (
 ((h.cell (a4.add 0)).bind (AV.asInt .i64)).bind fun n12 =>
 ((h.cell (a4.add 1)).bind (AV.asInt .i64)).bind fun n13 =>
 ((h.cell (a4.add 2)).bind (AV.asInt .i64)).bind fun n14 =>
 ((h.cell (a4.add 3)).bind (AV.asInt .i64)).bind fun n15 =>
 ((h.cell (a4.add 4)).bind (AV.asInt .i64)).bind fun n16 =>
 ((h.cell (a4.add 5)).bind (AV.asInt .i64)).bind fun n17 =>
 ((h.cell (a4.add 6)).bind (AV.asInt .i64)).bind fun n18 =>
 ((h.cell (a4.add 7)).bind (AV.asInt .i64)).bind fun n19 =>
 ((h.cell (a9.add 0)).bind (AV.asInt .i64)).bind fun n20 =>
 ((h.cell (a9.add 1)).bind (AV.asInt .i64)).bind fun n21 =>
 (go (.fn F.kju [.agg [.int .i64 n12,.int .i64 n13,.int .i64 n14,.int .i64 n15,.int .i64 n16,.int .i64 n17,.int .i64 n18,.int .i64 n19],.agg [.int .i64 n20,.int .i64 n21]]) h).bind fun q22 =>
 (AV.asTup2 q22.1).bind fun p23 =>
 ((some p23.1).bind (AV.asInt .i64)).bind fun n24 =>
 ((some p23.2).bind (AV.asInt .i64)).bind fun n25 =>
 ((q22.2.cell (a6.add 0)).bind AV.asSl).bind fun l26 =>
 ((q22.2.cell (a8.add 0)).bind (AV.asInt .i64)).bind fun n27 =>
 (idx l26.ref l26.len n27 7).bind fun r28 =>
 (q22.2.puts r28 [.bool true,.int .i64 n24,.int .i64 0,.int .i64 0,.int .i64 0,.int .i64 0,.int .i64 0]).bind fun h29 =>
 ((h29.cell ((a8.add 2).add 0)).bind (AV.asInt .i64)).bind fun n30 =>
 ((h29.cell ((a8.add 2).add 1)).bind AV.asSl).bind fun l31 =>
 (go (.fn F.knk [.agg [.int .i64 n30,l31.v]]) h29).bind fun q32 =>
 ((some q32.1).bind AV.asSl).bind fun l33 =>
 go (.pt F.kbt Td.kmk [(1,a1.v),(2,a2.v),(3,a3.v),(4,.ptr (some a4)),(8,.ptr (some a5)),(11,.ptr (some a6)),(12,.ptr (some a7)),(18,.int .i64 n24),(92,l33.v),(93,.int .i64 (l33.len:Int)),(94,.int .i64 0)]) q32.2) (
 (idx a10.ref a10.len 0 1).bind fun r34 =>
 ((h.cell r34).bind (AV.asInt .i64)).bind fun n35 =>
 (idx a11.ref a11.len n35 9).bind fun r36 =>
 ((h.cell (r36.add 0)).bind AV.asBool).bind fun b37 =>
 ((h.cell (r36.add 1)).bind (AV.asInt .i64)).bind fun n38 =>
 ((h.cell (r36.add 2)).bind (AV.asInt .i64)).bind fun n39 =>
 ((h.cell (r36.add 3)).bind (AV.asInt .i64)).bind fun n40 =>
 ((h.cell (r36.add 4)).bind (AV.asInt .i64)).bind fun n41 =>
 ((h.cell (r36.add 5)).bind (AV.asInt .i64)).bind fun n42 =>
 ((h.cell (r36.add 6)).bind (AV.asInt .i64)).bind fun n43 =>
 ((h.cell (r36.add 7)).bind (AV.asInt .i64)).bind fun n44 =>
 ((h.cell (r36.add 8)).bind AV.asSl).bind fun l45 =>
 newK h (.cells [.bool false,.int .i64 0,.int .i64 0,.int .i64 0,.int .i64 0,.int .i64 0,.int .i64 0,.int .i64 0,(⟨none,0,.is 0⟩:Sl).v] T.kd6) fun h46r h46 =>
 (h46.puts h46r [.bool b37,.int .i64 n38,.int .i64 n39,.int .i64 n40,.int .i64 n41,.int .i64 n42,.int .i64 n43,.int .i64 n44,l45.v]).bind fun h47 =>
 ((h47.cell ((h46r.add 0).add 0)).bind AV.asBool).bind fun b48 =>
 ((h47.cell ((h46r.add 0).add 1)).bind (AV.asInt .i64)).bind fun n49 =>
 ((h47.cell ((h46r.add 0).add 2)).bind (AV.asInt .i64)).bind fun n50 =>
 ((h47.cell ((h46r.add 0).add 3)).bind (AV.asInt .i64)).bind fun n51 =>
 ((h47.cell ((h46r.add 0).add 4)).bind (AV.asInt .i64)).bind fun n52 =>
 ((h47.cell ((h46r.add 0).add 5)).bind (AV.asInt .i64)).bind fun n53 =>
 ((h47.cell ((h46r.add 0).add 6)).bind (AV.asInt .i64)).bind fun n54 =>
 newK h47 (.cells [.bool false,.int .i64 0,.int .i64 0,.int .i64 0,.int .i64 0,.int .i64 0,.int .i64 0] T.kbj) fun h55r h55 =>
 (h55.puts h55r [.bool b48,.int .i64 n49,.int .i64 n50,.int .i64 n51,.int .i64 n52,.int .i64 n53,.int .i64 n54]).bind fun h56 =>
 ((h56.cell (a6.add 0)).bind AV.asSl).bind fun l57 =>
 ((h56.cell (a6.add 0)).bind AV.asSl).bind fun l58 =>
 (h56.puts (h55r.add 5) [.int .i64 (l57.len:Int)]).bind fun h59 =>
 whenK (SameAt h56 h59 (a6.add 0) 1) (
 (h59.puts (h55r.add 6) [.int .i64 (IntKind.wrap .i64 ((l58.len:Int)+1))]).bind fun h60 =>
 ((h60.cell (a6.add 0)).bind AV.asSl).bind fun l61 =>
 ((h60.cell (a8.add 0)).bind (AV.asInt .i64)).bind fun n62 =>
 ((h60.cell (h55r.add 0)).bind AV.asBool).bind fun b63 =>
 ((h60.cell (h55r.add 1)).bind (AV.asInt .i64)).bind fun n64 =>
 ((h60.cell (h55r.add 2)).bind (AV.asInt .i64)).bind fun n65 =>
 ((h60.cell (h55r.add 3)).bind (AV.asInt .i64)).bind fun n66 =>
 ((h60.cell (h55r.add 4)).bind (AV.asInt .i64)).bind fun n67 =>
 ((h60.cell (h55r.add 5)).bind (AV.asInt .i64)).bind fun n68 =>
 ((h60.cell (h55r.add 6)).bind (AV.asInt .i64)).bind fun n69 =>
 (idx l61.ref l61.len n62 7).bind fun r70 =>
 (h60.puts r70 [.bool b63,.int .i64 n64,.int .i64 n65,.int .i64 n66,.int .i64 n67,.int .i64 n68,.int .i64 n69]).bind fun h71 =>
 ((h71.cell (a6.add 0)).bind AV.asSl).bind fun l72 =>
 newK h71 (.cells [.bool false,.int .i64 0,.int .i64 0,.int .i64 0,.int .i64 0,.int .i64 0,.int .i64 0,.bool false,.int .i64 0,.int .i64 0,.int .i64 0,.int .i64 0,.int .i64 0,.int .i64 0] T.kbj) fun h73r h73 =>
 (kcn Pg T.kbj ((⟨some h73r,2,.is 2⟩:Sl).v) h73).bind fun p75 =>
 (kbb Pg l72 p75.1 p75.2 T.kbj 7 h73).bind fun q74 =>
 (AV.asSl q74.1).bind fun l76 =>
 (q74.2.puts (a6.add 0) [l76.v]).bind fun h77 =>
 ((h77.cell ((a8.add 2).add 0)).bind (AV.asInt .i64)).bind fun n78 =>
 ((h77.cell ((a8.add 2).add 1)).bind AV.asSl).bind fun l79 =>
 ((h77.cell ((h46r.add 7).add 0)).bind (AV.asInt .i64)).bind fun n80 =>
 ((h77.cell ((h46r.add 7).add 1)).bind AV.asSl).bind fun l81 =>
 (go (.fn F.ko6 [.agg [.int .i64 n78,l79.v],.agg [.int .i64 n80,l81.v]]) h77).bind fun q82 =>
 (AV.asTup2 q82.1).bind fun p83 =>
 (AV.asAgg p83.1).bind fun cs84 =>
 cond (Nat.beq cs84.length 2) (
 ((cs84[0]?).bind (AV.asInt .i64)).bind fun n85 =>
 ((cs84[1]?).bind AV.asSl).bind fun l86 =>
 ((some p83.2).bind (AV.asInt .i64)).bind fun n87 =>
 newK q82.2 (.cells [.int .i64 0,(⟨none,0,.is 0⟩:Sl).v] T.kx) fun h88r h88 =>
 (h88.puts h88r [.int .i64 n85,l86.v]).bind fun h89 =>
 ((h89.cell (h55r.add 5)).bind (AV.asInt .i64)).bind fun n90 =>
 ((h89.cell (a8.add 1)).bind (AV.asInt .i64)).bind fun n91 =>
 ((h89.cell ((h46r.add 7).add 0)).bind (AV.asInt .i64)).bind fun n92 =>
 ((h89.cell ((h46r.add 7).add 1)).bind AV.asSl).bind fun l93 =>
 (go (.fn F.km3 [.iface T.kbp (.ptr (some a7)),.iface T.kbg (.agg [.int .i64 n90,.int .i64 (IntKind.wrap .i64 (n91+1)),.int .i64 n92,l93.v])]) h89).bind fun q94 =>
 (AV.asTup0 q94.1).bind fun _ =>
 ((q94.2.cell (h55r.add 6)).bind (AV.asInt .i64)).bind fun n95 =>
 ((q94.2.cell (a8.add 1)).bind (AV.asInt .i64)).bind fun n96 =>
 ((q94.2.cell (h88r.add 0)).bind (AV.asInt .i64)).bind fun n97 =>
 ((q94.2.cell (h88r.add 1)).bind AV.asSl).bind fun l98 =>
 (go (.fn F.km3 [.iface T.kbp (.ptr (some a7)),.iface T.kbg (.agg [.int .i64 n95,.int .i64 (IntKind.wrap .i64 (n96+1)),.int .i64 n97,l98.v])]) q94.2).bind fun q99 =>
 (AV.asTup0 q99.1).bind fun _ =>
 go (.pt F.kbt Td.kfk [(1,a1.v),(2,a2.v),(3,a3.v),(4,.ptr (some a4)),(8,.ptr (some a5)),(11,.ptr (some a6)),(12,.ptr (some a7))]) q99.2) none)):=(kf _ h).trans (by kernel_rfl)
theorem kw1(a1:Int)(a2 a3 a4:Ref)(h:AH):go (.fn F.kb0 [.int .i64 a1,.ptr (some a2),.ptr (some a3),.ptr (some a4)]) h =
 (h.cell a2).bind fun v5 =>
 ((h.cell a3).bind (AV.asInt .i64)).bind fun n6 =>
 ((h.cell a4).bind (AV.asInt .i64)).bind fun n7 =>
 yieldK v5 [.int .i64 a1,.int .i64 (IntKind.wrap .i64 (n6+1)),.int .i64 (IntKind.wrap .i64 (n7-1))] (fun y9 =>
 (go (.round y9.1 y9.2) h).bind fun q8 =>
 ((some q8.1).bind AV.asBool).bind fun b11 =>
 some (.bool b11,q8.2)) (
 (callV Pg go v5 [.int .i64 a1,.int .i64 (IntKind.wrap .i64 (n6+1)),.int .i64 (IntKind.wrap .i64 (n7-1))] h).bind fun q10 =>
 ((some q10.1).bind AV.asBool).bind fun b12 =>
 some (.bool b12,q10.2)):=(kf _ h).trans (by kernel_rfl)
theorem k3q(a1:Sl)(h:AH):go (.fn F.kbn [a1.v,.func (.func F.kdj) [] []]) h =
 go (.pt F.kbn Td.kcf [(0,a1.v),(1,.func (.func F.kdj) [] []),(7,.int .i64 (a1.len:Int)),(8,.int .i64 0)]) h:=(kf _ h).trans (by kernel_rfl)
theorem kvs(a1:Nat)(a2:Sl)(a3 a4:Int)(h:AH):go (.pt F.kgt Td.kmr [(3,.map (some a1)),(7,a2.v),(8,.int .i64 a3),(9,.int .i64 a4)]) h =
 cond (decide (a4<a3)) (
 (idx a2.ref a2.len a4 1).bind fun r5 =>
 ((h.cell r5).bind (AV.asInt .i64)).bind fun n6 =>
 (mapPut h a1 .i64 n6 (.int .i64 a4)).bind fun h7 =>
 go (.pt F.kgt Td.kmr [(3,.map (some a1)),(7,a2.v),(8,.int .i64 a3),(9,.int .i64 (IntKind.wrap .i64 (a4+1)))]) h7) (
 some (.map (some a1),h)):=(kf _ h).trans (by kernel_rfl)
theorem k9k(a1:Sl)(a2:Option Ref)(h:AH):go (.fn F.kbn [a1.v,.func (.func F.kdh) [] [.ptr a2]]) h =
 go (.pt F.kbn Td.kcf [(0,a1.v),(1,.func (.func F.kdh) [] [.ptr a2]),(7,.int .i64 (a1.len:Int)),(8,.int .i64 0)]) h:=(kf _ h).trans (by kernel_rfl)
theorem k49(a1:Int)(h:AH):go (.fn F.kc9 [.int .i64 a1]) h =
 cond (decide (a1<(-1048576))) (
 some (.bool true,h)) (
 some (.bool (decide (a1>1048576)),h)):=(kf _ h).trans (by kernel_rfl)
theorem k3z(a1:Sl)(a2 a3:Int)(h:AH):go (.fn F.kfu [a1.v,.int .i64 a2,.int .i64 a3]) h =
 (idx a1.ref a1.len a3 4).bind fun r4 =>
 ((h.cell (r4.add 0)).bind (AV.asInt .i64)).bind fun n5 =>
 ((h.cell (r4.add 1)).bind (AV.asInt .i64)).bind fun n6 =>
 ((h.cell (r4.add 2)).bind (AV.asInt .i64)).bind fun n7 =>
 ((h.cell (r4.add 3)).bind AV.asSl).bind fun l8 =>
 (idx a1.ref a1.len a2 4).bind fun r9 =>
 ((h.cell (r9.add 0)).bind (AV.asInt .i64)).bind fun n10 =>
 ((h.cell (r9.add 1)).bind (AV.asInt .i64)).bind fun n11 =>
 ((h.cell (r9.add 2)).bind (AV.asInt .i64)).bind fun n12 =>
 ((h.cell (r9.add 3)).bind AV.asSl).bind fun l13 =>
 (idx a1.ref a1.len a2 4).bind fun r14 =>
 (h.puts r14 [.int .i64 n5,.int .i64 n6,.int .i64 n7,l8.v]).bind fun h15 =>
 (idx a1.ref a1.len a3 4).bind fun r16 =>
 (h15.puts r16 [.int .i64 n10,.int .i64 n11,.int .i64 n12,l13.v]).bind fun h17 =>
 some (.tup [],h17):=(kf _ h).trans (by kernel_rfl)
theorem kba0(a1:Ref)(a2 a3:Int)(h:AH):go (.fn F.kdx [.iface T.kbp (.ptr (some a1)),.int .i64 a2,.int .i64 a3]) h =
 go (.pt F.kdx Td.kge [(0,.iface T.kbp (.ptr (some a1))),(1,.int .i64 a2),(2,.int .i64 a3),(7,.int .i64 a2)]) h:=(kf _ h).trans (by kernel_rfl)
theorem k8n(a1:Option Ref)(h:AH):go (.fn F.kog [.ptr a1]) h =
 a1.bind fun r2 =>
 ((h.cell r2).bind AV.asSl).bind fun l3 =>
 a1.bind fun r4 =>
 ((h.cell r4).bind AV.asSl).bind fun l5 =>
 (idx l5.ref l5.len (IntKind.wrap .i64 ((l3.len:Int)-1)) 4).bind fun r6 =>
 ((h.cell (r6.add 0)).bind (AV.asInt .i64)).bind fun n7 =>
 ((h.cell (r6.add 1)).bind (AV.asInt .i64)).bind fun n8 =>
 ((h.cell (r6.add 2)).bind (AV.asInt .i64)).bind fun n9 =>
 ((h.cell (r6.add 3)).bind AV.asSl).bind fun l10 =>
 newK h (.cells [.int .i64 0,.int .i64 0,.int .i64 0,(⟨none,0,.is 0⟩:Sl).v] T.kbg) fun h11r h11 =>
 (h11.puts h11r [.int .i64 n7,.int .i64 n8,.int .i64 n9,l10.v]).bind fun h12 =>
 a1.bind fun r13 =>
 ((h12.cell r13).bind AV.asSl).bind fun l14 =>
 (cutSl l14 0 (IntKind.wrap .i64 ((l3.len:Int)-1)) 4).bind fun l15 =>
 a1.bind fun r16 =>
 (h12.puts r16 [l15.v]).bind fun h17 =>
 ((h17.cell (h11r.add 0)).bind (AV.asInt .i64)).bind fun n18 =>
 ((h17.cell (h11r.add 1)).bind (AV.asInt .i64)).bind fun n19 =>
 ((h17.cell (h11r.add 2)).bind (AV.asInt .i64)).bind fun n20 =>
 ((h17.cell (h11r.add 3)).bind AV.asSl).bind fun l21 =>
 some (.iface T.kbg (.agg [.int .i64 n18,.int .i64 n19,.int .i64 n20,l21.v]),h17):=(kf _ h).trans (by kernel_rfl)
theorem kzi(a1:Int)(a2:Sl)(h:AH):go (.fn F.knk [.agg [.int .i64 a1,a2.v]]) h =
 newK h (.cells [.int .i64 a1,a2.v] T.kx) fun h3r h3 =>
 ((h3.cell (h3r.add 0)).bind (AV.asInt .i64)).bind fun n4 =>
 ((h3.cell (h3r.add 1)).bind AV.asSl).bind fun l5 =>
 (go (.fn F.kgi [.agg [.int .i64 n4,l5.v]]) h3).bind fun q6 =>
 ((some q6.1).bind AV.asBool).bind fun b7 =>
 cond (!b7) (
 some ((⟨none,0,.is 0⟩:Sl).v,q6.2)) (
 ((q6.2.cell (h3r.add 0)).bind (AV.asInt .i64)).bind fun n8 =>
 ((q6.2.cell (h3r.add 1)).bind AV.asSl).bind fun l9 =>
 (go (.fn F.kqj [.agg [.int .i64 n8,l9.v]]) q6.2).bind fun q10 =>
 (go (.fn F.kpw [q10.1]) q10.2).bind fun q11 =>
 ((some q11.1).bind AV.asSl).bind fun l12 =>
 some (l12.v,q11.2)):=(kf _ h).trans (by kernel_rfl)
theorem ktx(a1:Sl)(a2 a3:Ref)(a4:Sl)(a5 a6:Int)(h:AH):go (.pt F.kfs Td.kme [(0,a1.v),(4,.ptr (some a2)),(5,.ptr (some a3)),(9,a4.v),(10,.int .i64 a5),(11,.int .i64 a6)]) h =
 cond (decide (a6<a5)) (
 (idx a4.ref a4.len a6 1).bind fun r7 =>
 ((h.cell r7).bind (AV.asInt .i64)).bind fun n8 =>
 ((h.cell (a3.add 0)).bind (AV.asInt .i64)).bind fun n9 =>
 (idx a1.ref a1.len n8 1).bind fun r10 =>
 ((h.cell r10).bind (AV.asInt .i64)).bind fun n11 =>
 (h.puts (a3.add 0) [.int .i64 (IntKind.wrap .i64 (n9+n11))]).bind fun h12 =>
 ((h12.cell (a3.add 1)).bind (AV.asInt .i64)).bind fun n13 =>
 (h12.puts (a3.add 1) [.int .i64 (IntKind.wrap .i64 (n13+1))]).bind fun h14 =>
 go (.pt F.kfs Td.kme [(0,a1.v),(4,.ptr (some a2)),(5,.ptr (some a3)),(9,a4.v),(10,.int .i64 a5),(11,.int .i64 (IntKind.wrap .i64 (a6+1)))]) h14) (
 ((h.cell (a3.add 0)).bind (AV.asInt .i64)).bind fun n15 =>
 ((h.cell (a3.add 1)).bind (AV.asInt .i64)).bind fun n16 =>
 (h.puts a2 [.int .i64 n15,.int .i64 n16]).bind fun h17 =>
 ((h17.cell (a2.add 0)).bind (AV.asInt .i64)).bind fun n18 =>
 ((h17.cell (a2.add 1)).bind (AV.asInt .i64)).bind fun n19 =>
 some (.agg [.int .i64 n18,.int .i64 n19],h17)):=(kf _ h).trans (by kernel_rfl)
theorem kt7(a1:Sl)(a2:Ref)(a3 a4 a5:Sl)(a6 a7:Int)(h:AH):go (.pt F.kb8 Td.kkh [(1,a1.v),(5,.ptr (some a2)),(8,a3.v),(9,a4.v),(17,a5.v),(18,.int .i64 a6),(19,.int .i64 a7)]) h =
 cond (decide (a7<a6)) (
 (idx a5.ref a5.len a7 3).bind fun r8 =>
 ((h.cell (r8.add 0)).bind AV.asSl).bind fun l9 =>
 ((h.cell (r8.add 1)).bind AV.asSl).bind fun l10 =>
 ((h.cell (r8.add 2)).bind AV.asSl).bind fun l11 =>
 newK h (.cells [(⟨none,0,.is 0⟩:Sl).v,(⟨none,0,.is 0⟩:Sl).v,(⟨none,0,.is 0⟩:Sl).v] T.kdc) fun h12r h12 =>
 (h12.puts h12r [l9.v,l10.v,l11.v]).bind fun h13 =>
 ((h13.cell (h12r.add 1)).bind AV.asSl).bind fun l14 =>
 go (.pt F.kb8 Td.ki5 [(1,a1.v),(5,.ptr (some a2)),(8,a3.v),(9,a4.v),(10,.int .i64 a7),(11,.ptr (some h12r)),(17,a5.v),(18,.int .i64 a6),(19,.int .i64 a7),(25,l14.v),(26,.int .i64 (l14.len:Int)),(27,.int .i64 0)]) h13) (
 some (.tup [a3.v,a4.v],h)):=(kf _ h).trans (by kernel_rfl)
theorem k76(a1 a2:Int)(h:AH):go (.fn F.kgo [.agg [.int .i64 a1,.int .i64 a2]]) h =
 newK h (.cells [.int .i64 a1,.int .i64 a2] T.kbe) fun h3r h3 =>
 ((h3.cell (h3r.add 0)).bind (AV.asInt .i64)).bind fun n4 =>
 cond (decide (n4≥(-1099511627776))) (
 ((h3.cell (h3r.add 0)).bind (AV.asInt .i64)).bind fun n5 =>
 cond (decide (n5≤1099511627776)) (
 ((h3.cell (h3r.add 1)).bind (AV.asInt .i64)).bind fun n6 =>
 cond (decide (n6≥0)) (
 ((h3.cell (h3r.add 1)).bind (AV.asInt .i64)).bind fun n7 =>
 some (.bool (decide (n7≤1048576)),h3)) (
 some (.bool false,h3))) (
 some (.bool false,h3))) (
 some (.bool false,h3)):=(kf _ h).trans (by kernel_rfl)
theorem kw5(a1:Int)(h:AH):go (.fn F.ki1 [.int .i64 a1]) h =
 cond (decide (a1≥1)) (
 some (.bool (decide (a1≤1048576)),h)) (
 some (.bool false,h)):=(kf _ h).trans (by kernel_rfl)
theorem k2v(a1:Int)(h:AH):go (.fn F.kg4 [.int .i64 a1]) h =
 newK h (.cells [.bool false,(⟨none,0,.is 0⟩:Sl).v] T.ki) fun h2r h2 =>
 cond (decide (a1<0)) (
 (go (.fn F.kea [.int .u64 (IntKind.wrap .u64 (0-(IntKind.wrap .u64 a1)))]) h2).bind fun q3 =>
 ((some q3.1).bind AV.asSl).bind fun l4 =>
 (go (.fn F.kb2 [.bool true,l4.v]) q3.2).bind fun q5 =>
 (AV.asAgg q5.1).bind fun cs6 =>
 cond (Nat.beq cs6.length 2) (
 ((cs6[0]?).bind AV.asBool).bind fun b7 =>
 ((cs6[1]?).bind AV.asSl).bind fun l8 =>
 (q5.2.puts h2r [.bool b7,l8.v]).bind fun h9 =>
 ((h9.cell (h2r.add 0)).bind AV.asBool).bind fun b10 =>
 ((h9.cell (h2r.add 1)).bind AV.asSl).bind fun l11 =>
 some (.agg [.bool b10,l11.v],h9)) none) (
 (go (.fn F.kea [.int .u64 (IntKind.wrap .u64 a1)]) h2).bind fun q12 =>
 ((some q12.1).bind AV.asSl).bind fun l13 =>
 (go (.fn F.kb2 [.bool false,l13.v]) q12.2).bind fun q14 =>
 (AV.asAgg q14.1).bind fun cs15 =>
 cond (Nat.beq cs15.length 2) (
 ((cs15[0]?).bind AV.asBool).bind fun b16 =>
 ((cs15[1]?).bind AV.asSl).bind fun l17 =>
 (q14.2.puts h2r [.bool b16,l17.v]).bind fun h18 =>
 ((h18.cell (h2r.add 0)).bind AV.asBool).bind fun b19 =>
 ((h18.cell (h2r.add 1)).bind AV.asSl).bind fun l20 =>
 some (.agg [.bool b19,l20.v],h18)) none):=(kf _ h).trans (by kernel_rfl)
theorem k8m(a1:Bool)(a2 a3:Sl)(h:AH):go (.fn F.kh3 [.agg [.bool a1,a2.v],a3.v]) h =
 newK h (.cells [.bool a1,a2.v] T.ki) fun h4r h4 =>
 newK h4 (.cells [.bool false,(⟨none,0,.is 0⟩:Sl).v,(⟨none,0,.is 0⟩:Sl).v] T.ky) fun h5r h5 =>
 ((h5.cell (h4r.add 0)).bind AV.asBool).bind fun b6 =>
 ((h5.cell (h4r.add 1)).bind AV.asSl).bind fun l7 =>
 (go (.fn F.ke4 [.agg [.bool b6,l7.v]]) h5).bind fun q8 =>
 ((some q8.1).bind AV.asBool).bind fun b9 =>
 cond (!b9) (
 (q8.2.puts h5r [.bool false,(⟨none,0,.is 0⟩:Sl).v,(⟨none,0,.is 0⟩:Sl).v]).bind fun h10 =>
 ((h10.cell (h5r.add 0)).bind AV.asBool).bind fun b11 =>
 ((h10.cell (h5r.add 1)).bind AV.asSl).bind fun l12 =>
 ((h10.cell (h5r.add 2)).bind AV.asSl).bind fun l13 =>
 some (.tup [.agg [.bool b11,l12.v,l13.v],.int .i64 1],h10)) (
 (go (.fn F.kd3 [a3.v]) q8.2).bind fun q14 =>
 ((some q14.1).bind AV.asBool).bind fun b15 =>
 cond (!b15) (
 (q14.2.puts h5r [.bool false,(⟨none,0,.is 0⟩:Sl).v,(⟨none,0,.is 0⟩:Sl).v]).bind fun h16 =>
 ((h16.cell (h5r.add 0)).bind AV.asBool).bind fun b17 =>
 ((h16.cell (h5r.add 1)).bind AV.asSl).bind fun l18 =>
 ((h16.cell (h5r.add 2)).bind AV.asSl).bind fun l19 =>
 some (.tup [.agg [.bool b17,l18.v,l19.v],.int .i64 1],h16)) (
 cond (decide ((a3.len:Int)=0)) (
 (q14.2.puts h5r [.bool false,(⟨none,0,.is 0⟩:Sl).v,(⟨none,0,.is 0⟩:Sl).v]).bind fun h20 =>
 ((h20.cell (h5r.add 0)).bind AV.asBool).bind fun b21 =>
 ((h20.cell (h5r.add 1)).bind AV.asSl).bind fun l22 =>
 ((h20.cell (h5r.add 2)).bind AV.asSl).bind fun l23 =>
 some (.tup [.agg [.bool b21,l22.v,l23.v],.int .i64 3],h20)) (
 ((q14.2.cell (h4r.add 1)).bind AV.asSl).bind fun l24 =>
 (go (.fn F.kec [l24.v,a3.v]) q14.2).bind fun q25 =>
 (AV.asTup2 q25.1).bind fun p26 =>
 ((some p26.1).bind AV.asSl).bind fun l27 =>
 ((some p26.2).bind (AV.asInt .i64)).bind fun n28 =>
 ((q25.2.cell (h4r.add 1)).bind AV.asSl).bind fun l29 =>
 (go (.fn F.kf3 [l29.v,l27.v]) q25.2).bind fun q30 =>
 (AV.asTup3 q30.1).bind fun p31 =>
 ((some p31.1).bind AV.asSl).bind fun l32 =>
 ((some p31.2.1).bind AV.asSl).bind fun l33 =>
 ((some p31.2.2).bind (AV.asInt .i64)).bind fun n34 =>
 (go (.fn F.kf3 [a3.v,l27.v]) q30.2).bind fun q35 =>
 (AV.asTup3 q35.1).bind fun p36 =>
 ((some p36.1).bind AV.asSl).bind fun l37 =>
 ((some p36.2.1).bind AV.asSl).bind fun l38 =>
 ((some p36.2.2).bind (AV.asInt .i64)).bind fun n39 =>
 cond (decide ((imax (l32.len:Int) (l37.len:Int))>16)) (
 (q35.2.puts h5r [.bool false,(⟨none,0,.is 0⟩:Sl).v,(⟨none,0,.is 0⟩:Sl).v]).bind fun h40 =>
 ((h40.cell (h5r.add 0)).bind AV.asBool).bind fun b41 =>
 ((h40.cell (h5r.add 1)).bind AV.asSl).bind fun l42 =>
 ((h40.cell (h5r.add 2)).bind AV.asSl).bind fun l43 =>
 some (.tup [.agg [.bool b41,l42.v,l43.v],.int .i64 4],h40)) (
 ((q35.2.cell (h4r.add 0)).bind AV.asBool).bind fun b44 =>
 (go (.fn F.kb2 [.bool b44,l32.v]) q35.2).bind fun q45 =>
 (AV.asAgg q45.1).bind fun cs46 =>
 cond (Nat.beq cs46.length 2) (
 ((cs46[0]?).bind AV.asBool).bind fun b47 =>
 ((cs46[1]?).bind AV.asSl).bind fun l48 =>
 (q45.2.puts h5r [.bool b47,l48.v,l37.v]).bind fun h49 =>
 ((h49.cell (h5r.add 0)).bind AV.asBool).bind fun b50 =>
 ((h49.cell (h5r.add 1)).bind AV.asSl).bind fun l51 =>
 ((h49.cell (h5r.add 2)).bind AV.asSl).bind fun l52 =>
 some (.tup [.agg [.bool b50,l51.v,l52.v],.int .i64 0],h49)) none)))):=(kf _ h).trans (by kernel_rfl)
theorem kv5(a1:Int)(a2 a3 a4 a5:Ref)(a6:Sl)(a7 a8:Int)(h:AH):go (.pt F.kdz Td.kgm [(0,.int .i64 a1),(6,.ptr (some a2)),(10,.ptr (some a3)),(13,.func (.func F.kdv) [] [.ptr (some a4),.ptr (some a5)]),(47,a6.v),(48,.int .i64 a7),(49,.int .i64 a8)]) h =
 cond (decide (a8<a7)) (
 (idx a6.ref a6.len a8 2).bind fun r9 =>
 ((h.cell (r9.add 0)).bind (AV.asInt .i64)).bind fun n10 =>
 ((h.cell (r9.add 1)).bind (AV.asInt .i64)).bind fun n11 =>
 newK h (.cells [.int .i64 0,.int .i64 0] T.kbe) fun h12r h12 =>
 (h12.puts h12r [.int .i64 n10,.int .i64 n11]).bind fun h13 =>
 ((h13.cell (h12r.add 0)).bind (AV.asInt .i64)).bind fun n14 =>
 ((h13.cell (h12r.add 1)).bind (AV.asInt .i64)).bind fun n15 =>
 ((h13.cell (a2.add 0)).bind (AV.asInt .i64)).bind fun n16 =>
 ((h13.cell (a2.add 1)).bind (AV.asInt .i64)).bind fun n17 =>
 (go (.fn F.km0 [.int .i64 a1,.agg [.int .i64 n14,.int .i64 n15],.agg [.int .i64 n16,.int .i64 n17]]) h13).bind fun q18 =>
 (AV.asTup2 q18.1).bind fun p19 =>
 (AV.asAgg p19.1).bind fun cs20 =>
 cond (Nat.beq cs20.length 3) (
 ((cs20[0]?).bind AV.asBool).bind fun b21 =>
 ((cs20[1]?).bind AV.asSl).bind fun l22 =>
 ((cs20[2]?).bind AV.asSl).bind fun l23 =>
 ((some p19.2).bind (AV.asInt .i64)).bind fun n24 =>
 newK q18.2 (.cells [.bool false,(⟨none,0,.is 0⟩:Sl).v,(⟨none,0,.is 0⟩:Sl).v] T.ky) fun h25r h25 =>
 (h25.puts h25r [.bool b21,l22.v,l23.v]).bind fun h26 =>
 cond (!decide (n24=0)) (
 some (.tup [(⟨none,0,.is 0⟩:Sl).v,.int .i64 n24],h26)) (
 ((h26.cell (h12r.add 1)).bind (AV.asInt .i64)).bind fun n27 =>
 cond (decide (n27>0)) (
 ((h26.cell (h12r.add 1)).bind (AV.asInt .i64)).bind fun n28 =>
 ((h26.cell (a2.add 1)).bind (AV.asInt .i64)).bind fun n29 =>
 cond (decide (n28<n29)) (
 ((h26.cell (h25r.add 0)).bind AV.asBool).bind fun b30 =>
 ((h26.cell (h25r.add 1)).bind AV.asSl).bind fun l31 =>
 ((h26.cell (h25r.add 2)).bind AV.asSl).bind fun l32 =>
 (go (.fn F.kdv [.int .i64 a8,.agg [.bool b30,l31.v,l32.v],.ptr (some a4),.ptr (some a5)]) h26).bind fun q33 =>
 (AV.asTup0 q33.1).bind fun _ =>
 go (.pt F.kdz Td.kgm [(0,.int .i64 a1),(6,.ptr (some a2)),(10,.ptr (some a3)),(13,.func (.func F.kdv) [] [.ptr (some a4),.ptr (some a5)]),(47,a6.v),(48,.int .i64 a7),(49,.int .i64 (IntKind.wrap .i64 (a8+1)))]) q33.2) (
 go (.pt F.kdz Td.kgm [(0,.int .i64 a1),(6,.ptr (some a2)),(10,.ptr (some a3)),(13,.func (.func F.kdv) [] [.ptr (some a4),.ptr (some a5)]),(47,a6.v),(48,.int .i64 a7),(49,.int .i64 (IntKind.wrap .i64 (a8+1)))]) h26)) (
 go (.pt F.kdz Td.kgm [(0,.int .i64 a1),(6,.ptr (some a2)),(10,.ptr (some a3)),(13,.func (.func F.kdv) [] [.ptr (some a4),.ptr (some a5)]),(47,a6.v),(48,.int .i64 a7),(49,.int .i64 (IntKind.wrap .i64 (a8+1)))]) h26))) none) (
 ((h.cell a3).bind AV.asSl).bind fun l34 =>
 some (.tup [l34.v,.int .i64 0],h)):=(kf _ h).trans (by kernel_rfl)
theorem kye(a1 a2 a3 a4 a5 a6 a7 a8 a9 a10:Int)(h:AH):go (.fn F.kju [.agg [.int .i64 a1,.int .i64 a2,.int .i64 a3,.int .i64 a4,.int .i64 a5,.int .i64 a6,.int .i64 a7,.int .i64 a8],.agg [.int .i64 a9,.int .i64 a10]]) h =
 newK h (.cells [.int .i64 a1,.int .i64 a2,.int .i64 a3,.int .i64 a4,.int .i64 a5,.int .i64 a6,.int .i64 a7,.int .i64 a8] T.kci) fun h11r h11 =>
 newK h11 (.cells [.int .i64 a9,.int .i64 a10] T.kbe) fun h12r h12 =>
 ((h12.cell (h11r.add 0)).bind (AV.asInt .i64)).bind fun n13 =>
 ((h12.cell (h11r.add 1)).bind (AV.asInt .i64)).bind fun n14 =>
 ((h12.cell (h11r.add 2)).bind (AV.asInt .i64)).bind fun n15 =>
 ((h12.cell (h11r.add 3)).bind (AV.asInt .i64)).bind fun n16 =>
 ((h12.cell (h11r.add 4)).bind (AV.asInt .i64)).bind fun n17 =>
 ((h12.cell (h11r.add 5)).bind (AV.asInt .i64)).bind fun n18 =>
 ((h12.cell (h11r.add 6)).bind (AV.asInt .i64)).bind fun n19 =>
 ((h12.cell (h11r.add 7)).bind (AV.asInt .i64)).bind fun n20 =>
 (go (.fn F.kg8 [.agg [.int .i64 n13,.int .i64 n14,.int .i64 n15,.int .i64 n16,.int .i64 n17,.int .i64 n18,.int .i64 n19,.int .i64 n20]]) h12).bind fun q21 =>
 ((some q21.1).bind AV.asBool).bind fun b22 =>
 cond (!b22) (
 some (.tup [.int .i64 0,.int .i64 1],q21.2)) (
 ((q21.2.cell (h12r.add 0)).bind (AV.asInt .i64)).bind fun n23 =>
 (go (.fn F.kcu [.int .i64 n23,.int .i64 (-1099511627776),.int .i64 1099511627776]) q21.2).bind fun q24 =>
 ((some q24.1).bind AV.asBool).bind fun b25 =>
 cond (!b25) (
 some (.tup [.int .i64 0,.int .i64 1],q24.2)) (
 ((q24.2.cell (h12r.add 1)).bind (AV.asInt .i64)).bind fun n26 =>
 (go (.fn F.kcu [.int .i64 n26,.int .i64 0,.int .i64 1048576]) q24.2).bind fun q27 =>
 ((some q27.1).bind AV.asBool).bind fun b28 =>
 cond (!b28) (
 some (.tup [.int .i64 0,.int .i64 1],q27.2)) (
 newK q27.2 (.cells [.bool false,(⟨none,0,.is 0⟩:Sl).v] T.ki) fun h29r h29 =>
 newK h29 (.cells [.bool false,(⟨none,0,.is 0⟩:Sl).v] T.ki) fun h30r h30 =>
 ((h30.cell (h12r.add 0)).bind (AV.asInt .i64)).bind fun n31 =>
 ((h30.cell (h11r.add 4)).bind (AV.asInt .i64)).bind fun n32 =>
 ((h30.cell (h12r.add 1)).bind (AV.asInt .i64)).bind fun n33 =>
 ((h30.cell (h11r.add 2)).bind (AV.asInt .i64)).bind fun n34 =>
 ((h30.cell (h11r.add 5)).bind (AV.asInt .i64)).bind fun n35 =>
 (go (.fn F.kj6 [.int .i64 (IntKind.wrap .i64 (0-n31)),.int .i64 n32]) h30).bind fun q36 =>
 (AV.asAgg q36.1).bind fun cs37 =>
 cond (Nat.beq cs37.length 2) (
 ((cs37[0]?).bind AV.asBool).bind fun b38 =>
 ((cs37[1]?).bind AV.asSl).bind fun l39 =>
 whenK (SameAt h30 q36.2 (h11r.add 5) 1) (
 whenK (SameAt h30 q36.2 (h11r.add 2) 1) (
 whenK (SameAt h30 q36.2 (h12r.add 1) 1) (
 whenK (SameAt h30 q36.2 h30r 0) (
 whenK (SameAt h30 q36.2 h29r 0) (
 (go (.fn F.kj6 [.int .i64 (IntKind.wrap .i64 (n33+n34)),.int .i64 n35]) q36.2).bind fun q40 =>
 (AV.asAgg q40.1).bind fun cs41 =>
 cond (Nat.beq cs41.length 2) (
 ((cs41[0]?).bind AV.asBool).bind fun b42 =>
 ((cs41[1]?).bind AV.asSl).bind fun l43 =>
 whenK (SameAt q36.2 q40.2 h30r 0) (
 whenK (SameAt q36.2 q40.2 h29r 0) (
 (go (.fn F.kle [.agg [.bool b38,l39.v],.agg [.bool b42,l43.v]]) q40.2).bind fun q44 =>
 (AV.asTup3 q44.1).bind fun p45 =>
 (AV.asAgg p45.1).bind fun cs46 =>
 cond (Nat.beq cs46.length 2) (
 ((cs46[0]?).bind AV.asBool).bind fun b47 =>
 ((cs46[1]?).bind AV.asSl).bind fun l48 =>
 (AV.asAgg p45.2.1).bind fun cs49 =>
 cond (Nat.beq cs49.length 2) (
 ((cs49[0]?).bind AV.asBool).bind fun b50 =>
 ((cs49[1]?).bind AV.asSl).bind fun l51 =>
 ((some p45.2.2).bind (AV.asInt .i64)).bind fun n52 =>
 whenK (SameAt q40.2 q44.2 h30r 0) (
 whenK (SameAt q40.2 q44.2 h29r 0) (
 (q44.2.puts h29r [.bool b47,l48.v]).bind fun h53 =>
 (h53.puts h30r [.bool b50,l51.v]).bind fun h54 =>
 ((h54.cell (h29r.add 0)).bind AV.asBool).bind fun b55 =>
 ((h54.cell (h29r.add 1)).bind AV.asSl).bind fun l56 =>
 (go (.fn F.kor [.agg [.bool b55,l56.v]]) h54).bind fun q57 =>
 (AV.asTup2 q57.1).bind fun p58 =>
 ((some p58.1).bind (AV.asInt .i64)).bind fun n59 =>
 ((some p58.2).bind AV.asBool).bind fun b60 =>
 some (.tup [.int .i64 n59,.int .i64 n52],q57.2)))) none) none))) none)))))) none))):=(kf _ h).trans (by kernel_rfl)
theorem kvw(a1 a2 a3:Sl)(a4 a5 a6 a7:Ref)(a8:Int)(a9:Sl)(a10 a11:Int)(h:AH):go (.pt F.kbt Td.kmk [(1,a1.v),(2,a2.v),(3,a3.v),(4,.ptr (some a4)),(8,.ptr (some a5)),(11,.ptr (some a6)),(12,.ptr (some a7)),(18,.int .i64 a8),(92,a9.v),(93,.int .i64 a10),(94,.int .i64 a11)]) h =
 cond (decide (a11<a10)) (
 (idx a9.ref a9.len a11 1).bind fun r12 =>
 ((h.cell r12).bind (AV.asInt .i64)).bind fun n13 =>
 (idx a3.ref a3.len n13 1).bind fun r14 =>
 ((h.cell r14).bind (AV.asInt .i64)).bind fun n15 =>
 (idx a3.ref a3.len n13 1).bind fun r16 =>
 (h.puts r16 [.int .i64 (IntKind.wrap .i64 (n15+a8))]).bind fun h17 =>
 go (.pt F.kbt Td.kmk [(1,a1.v),(2,a2.v),(3,a3.v),(4,.ptr (some a4)),(8,.ptr (some a5)),(11,.ptr (some a6)),(12,.ptr (some a7)),(18,.int .i64 a8),(92,a9.v),(93,.int .i64 a10),(94,.int .i64 (IntKind.wrap .i64 (a11+1)))]) h17) (
 go (.pt F.kbt Td.kfk [(1,a1.v),(2,a2.v),(3,a3.v),(4,.ptr (some a4)),(8,.ptr (some a5)),(11,.ptr (some a6)),(12,.ptr (some a7))]) h):=(kf _ h).trans (by kernel_rfl)
theorem k6g(a1:Int)(a2:Sl)(a3:Int)(a4:Sl)(h:AH):go (.fn F.ko6 [.agg [.int .i64 a1,a2.v],.agg [.int .i64 a3,a4.v]]) h =
 newK h (.cells [.int .i64 a1,a2.v] T.kx) fun h5r h5 =>
 newK h5 (.cells [.int .i64 a3,a4.v] T.kx) fun h6r h6 =>
 newK h6 (.cells [.int .i64 0,(⟨none,0,.is 0⟩:Sl).v] T.kx) fun h7r h7 =>
 ((h7.cell (h5r.add 0)).bind (AV.asInt .i64)).bind fun n8 =>
 ((h7.cell (h5r.add 1)).bind AV.asSl).bind fun l9 =>
 ((h7.cell (h6r.add 0)).bind (AV.asInt .i64)).bind fun n10 =>
 ((h7.cell (h6r.add 1)).bind AV.asSl).bind fun l11 =>
 (go (.fn F.kcl [.agg [.int .i64 n8,l9.v],.agg [.int .i64 n10,l11.v],.func (.func F.kew) [] []]) h7).bind fun q12 =>
 (AV.asTup2 q12.1).bind fun p13 =>
 (AV.asAgg p13.1).bind fun cs14 =>
 cond (Nat.beq cs14.length 2) (
 ((cs14[0]?).bind (AV.asInt .i64)).bind fun n15 =>
 ((cs14[1]?).bind AV.asSl).bind fun l16 =>
 ((some p13.2).bind (AV.asInt .i64)).bind fun n17 =>
 (q12.2.puts h7r [.int .i64 n15,l16.v]).bind fun h18 =>
 ((h18.cell (h7r.add 0)).bind (AV.asInt .i64)).bind fun n19 =>
 ((h18.cell (h7r.add 1)).bind AV.asSl).bind fun l20 =>
 some (.tup [.agg [.int .i64 n19,l20.v],.int .i64 n17],h18)) none:=(kf _ h).trans (by kernel_rfl)
theorem k2h(a1:Ref)(a2 a3 a4:Int)(a5:Sl)(h:AH):go (.fn F.km3 [.iface T.kbp (.ptr (some a1)),.iface T.kbg (.agg [.int .i64 a2,.int .i64 a3,.int .i64 a4,a5.v])]) h =
 (go (.fn F.koe [.ptr (some a1),.iface T.kbg (.agg [.int .i64 a2,.int .i64 a3,.int .i64 a4,a5.v])]) h).bind fun q6 =>
 (AV.asTup0 q6.1).bind fun _ =>
 ((q6.2.cell a1).bind AV.asSl).bind fun l7 =>
 (go (.fn F.kkp [l7.v]) q6.2).bind fun q8 =>
 ((some q8.1).bind (AV.asInt .i64)).bind fun n9 =>
 (go (.fn F.kig [.iface T.kbp (.ptr (some a1)),.int .i64 (IntKind.wrap .i64 (n9-1))]) q8.2).bind fun q10 =>
 (AV.asTup0 q10.1).bind fun _ =>
 some (.tup [],q10.2):=(kf _ h).trans (by kernel_rfl)
theorem kwj(a1:Sl)(a2 a3:Int)(h:AH):go (.pt F.kbn Td.kcf [(0,a1.v),(1,.func (.func F.kdj) [] []),(7,.int .i64 a2),(8,.int .i64 a3)]) h =
 cond (decide (a3<a2)) (
 (idx a1.ref a1.len a3 1).bind fun r4 =>
 ((h.cell r4).bind (AV.asInt .i64)).bind fun n5 =>
 (go (.fn F.kdj [.int .i64 n5]) h).bind fun q6 =>
 ((some q6.1).bind AV.asBool).bind fun b7 =>
 cond b7 (
 some (.int .i64 a3,q6.2)) (
 go (.pt F.kbn Td.kcf [(0,a1.v),(1,.func (.func F.kdj) [] []),(7,.int .i64 a2),(8,.int .i64 (IntKind.wrap .i64 (a3+1)))]) q6.2)) (
 some (.int .i64 (-1),h)):=(kf _ h).trans (by kernel_rfl)
theorem kvf(a1:Sl)(a2:Option Ref)(a3 a4:Int)(h:AH):go (.pt F.kbn Td.kcf [(0,a1.v),(1,.func (.func F.kdh) [] [.ptr a2]),(7,.int .i64 a3),(8,.int .i64 a4)]) h =
 cond (decide (a4<a3)) (
 (idx a1.ref a1.len a4 1).bind fun r5 =>
 ((h.cell r5).bind (AV.asInt .i64)).bind fun n6 =>
 (go (.fn F.kdh [.int .i64 n6,.ptr a2]) h).bind fun q7 =>
 ((some q7.1).bind AV.asBool).bind fun b8 =>
 cond b8 (
 some (.int .i64 a4,q7.2)) (
 go (.pt F.kbn Td.kcf [(0,a1.v),(1,.func (.func F.kdh) [] [.ptr a2]),(7,.int .i64 a3),(8,.int .i64 (IntKind.wrap .i64 (a4+1)))]) q7.2)) (
 some (.int .i64 (-1),h)):=(kf _ h).trans (by kernel_rfl)
theorem krm(a1:Ref)(a2 a3 a4:Int)(h:AH):go (.pt F.kdx Td.kge [(0,.iface T.kbp (.ptr (some a1))),(1,.int .i64 a2),(2,.int .i64 a3),(7,.int .i64 a4)]) h =
 cond (decide ((IntKind.wrap .i64 ((IntKind.wrap .i64 (2*a4))+1))≥a3)) (
 some (.bool (decide (a4>a2)),h)) (
 cond (decide ((IntKind.wrap .i64 ((IntKind.wrap .i64 (2*a4))+1))<0)) (
 some (.bool (decide (a4>a2)),h)) (
 cond (decide ((IntKind.wrap .i64 ((IntKind.wrap .i64 ((IntKind.wrap .i64 (2*a4))+1))+1))<a3)) (
 ((h.cell a1).bind AV.asSl).bind fun l5 =>
 (go (.fn F.kfe [l5.v,.int .i64 (IntKind.wrap .i64 ((IntKind.wrap .i64 ((IntKind.wrap .i64 (2*a4))+1))+1)),.int .i64 (IntKind.wrap .i64 ((IntKind.wrap .i64 (2*a4))+1))]) h).bind fun q6 =>
 ((some q6.1).bind AV.asBool).bind fun b7 =>
 cond b7 (
 ((q6.2.cell a1).bind AV.asSl).bind fun l8 =>
 (go (.fn F.kfe [l8.v,.int .i64 (IntKind.wrap .i64 ((IntKind.wrap .i64 ((IntKind.wrap .i64 (2*a4))+1))+1)),.int .i64 a4]) q6.2).bind fun q9 =>
 ((some q9.1).bind AV.asBool).bind fun b10 =>
 cond (!b10) (
 some (.bool (decide (a4>a2)),q9.2)) (
 ((q9.2.cell a1).bind AV.asSl).bind fun l11 =>
 (go (.fn F.kfu [l11.v,.int .i64 a4,.int .i64 (IntKind.wrap .i64 ((IntKind.wrap .i64 ((IntKind.wrap .i64 (2*a4))+1))+1))]) q9.2).bind fun q12 =>
 (AV.asTup0 q12.1).bind fun _ =>
 go (.pt F.kdx Td.kge [(0,.iface T.kbp (.ptr (some a1))),(1,.int .i64 a2),(2,.int .i64 a3),(7,.int .i64 (IntKind.wrap .i64 ((IntKind.wrap .i64 ((IntKind.wrap .i64 (2*a4))+1))+1)))]) q12.2)) (
 ((q6.2.cell a1).bind AV.asSl).bind fun l13 =>
 (go (.fn F.kfe [l13.v,.int .i64 (IntKind.wrap .i64 ((IntKind.wrap .i64 (2*a4))+1)),.int .i64 a4]) q6.2).bind fun q14 =>
 ((some q14.1).bind AV.asBool).bind fun b15 =>
 cond (!b15) (
 some (.bool (decide (a4>a2)),q14.2)) (
 ((q14.2.cell a1).bind AV.asSl).bind fun l16 =>
 (go (.fn F.kfu [l16.v,.int .i64 a4,.int .i64 (IntKind.wrap .i64 ((IntKind.wrap .i64 (2*a4))+1))]) q14.2).bind fun q17 =>
 (AV.asTup0 q17.1).bind fun _ =>
 go (.pt F.kdx Td.kge [(0,.iface T.kbp (.ptr (some a1))),(1,.int .i64 a2),(2,.int .i64 a3),(7,.int .i64 (IntKind.wrap .i64 ((IntKind.wrap .i64 (2*a4))+1)))]) q17.2))) (
 ((h.cell a1).bind AV.asSl).bind fun l18 =>
 (go (.fn F.kfe [l18.v,.int .i64 (IntKind.wrap .i64 ((IntKind.wrap .i64 (2*a4))+1)),.int .i64 a4]) h).bind fun q19 =>
 ((some q19.1).bind AV.asBool).bind fun b20 =>
 cond (!b20) (
 some (.bool (decide (a4>a2)),q19.2)) (
 ((q19.2.cell a1).bind AV.asSl).bind fun l21 =>
 (go (.fn F.kfu [l21.v,.int .i64 a4,.int .i64 (IntKind.wrap .i64 ((IntKind.wrap .i64 (2*a4))+1))]) q19.2).bind fun q22 =>
 (AV.asTup0 q22.1).bind fun _ =>
 go (.pt F.kdx Td.kge [(0,.iface T.kbp (.ptr (some a1))),(1,.int .i64 a2),(2,.int .i64 a3),(7,.int .i64 (IntKind.wrap .i64 ((IntKind.wrap .i64 (2*a4))+1)))]) q22.2)))):=(kf _ h).trans (by kernel_rfl)
theorem kzu(a1:Int)(a2:Sl)(h:AH):go (.fn F.kgi [.agg [.int .i64 a1,a2.v]]) h =
 newK h (.cells [.int .i64 a1,a2.v] T.kx) fun h3r h3 =>
 ((h3.cell (h3r.add 0)).bind (AV.asInt .i64)).bind fun n4 =>
 cond (decide (n4<0)) (
 some (.bool false,h3)) (
 ((h3.cell (h3r.add 0)).bind (AV.asInt .i64)).bind fun n5 =>
 cond (decide (n5>65536)) (
 some (.bool false,h3)) (
 ((h3.cell (h3r.add 1)).bind AV.asSl).bind fun l6 =>
 ((h3.cell (h3r.add 0)).bind (AV.asInt .i64)).bind fun n7 =>
 cond (!decide ((l6.len:Int)=(IntKind.wrap .i64 (Int.tdiv (IntKind.wrap .i64 ((IntKind.wrap .i64 (n7+64))-1)) 64)))) (
 some (.bool false,h3)) (
 ((h3.cell (h3r.add 0)).bind (AV.asInt .i64)).bind fun n8 =>
 cond (decide ((Int.tmod n8 64)=0)) (
 some (.bool true,h3)) (
 ((h3.cell (h3r.add 1)).bind AV.asSl).bind fun l9 =>
 ((h3.cell (h3r.add 1)).bind AV.asSl).bind fun l10 =>
 (idx l9.ref l9.len (IntKind.wrap .i64 ((l10.len:Int)-1)) 1).bind fun r11 =>
 ((h3.cell r11).bind (AV.asInt .u64)).bind fun n12 =>
 ((h3.cell (h3r.add 0)).bind (AV.asInt .i64)).bind fun n13 =>
 cond (decide ((Int.tmod n13 64)<0)) none (
 some (.bool (decide ((ishr .u64 n12 (Int.tmod n13 64))=0)),h3)))))):=(kf _ h).trans (by kernel_rfl)
theorem kxw(a1:Int)(a2:Sl)(h:AH):go (.fn F.kqj [.agg [.int .i64 a1,a2.v]]) h =
 newK h (.cells [.int .i64 a1,a2.v] T.kx) fun h3r h3 =>
 some (.func (.func F.kb3) [] [.ptr (some h3r)],h3):=(kf _ h).trans (by kernel_rfl)
theorem k7r(a1:AV)(h:AH):go (.fn F.kpw [a1]) h =
 (go (.fn F.kd2 [(⟨none,0,.is 0⟩:Sl).v,a1]) h).bind fun q2 =>
 ((some q2.1).bind AV.asSl).bind fun l3 =>
 some (l3.v,q2.2):=(kf _ h).trans (by kernel_rfl)
theorem kq8(a1:Sl)(a2:Ref)(a3 a4:Sl)(a5:Int)(a6:Ref)(a7:Sl)(a8 a9:Int)(a10:Sl)(a11 a12:Int)(h:AH):go (.pt F.kb8 Td.ki5 [(1,a1.v),(5,.ptr (some a2)),(8,a3.v),(9,a4.v),(10,.int .i64 a5),(11,.ptr (some a6)),(17,a7.v),(18,.int .i64 a8),(19,.int .i64 a9),(25,a10.v),(26,.int .i64 a11),(27,.int .i64 a12)]) h =
 cond (decide (a12<a11)) (
 (idx a10.ref a10.len a12 1).bind fun r13 =>
 ((h.cell r13).bind (AV.asInt .i64)).bind fun n14 =>
 go (.pt F.kb8 Td.kkw [(1,a1.v),(5,.ptr (some a2)),(8,a3.v),(9,a4.v),(10,.int .i64 a5),(11,.ptr (some a6)),(12,.int .i64 a12),(17,a7.v),(18,.int .i64 a8),(19,.int .i64 a9),(25,a10.v),(26,.int .i64 a11),(27,.int .i64 a12),(33,.int .i64 (IntKind.wrap .i64 (n14-1))),(34,.int .i64 0)]) h) (
 go (.pt F.kb8 Td.kkh [(1,a1.v),(5,.ptr (some a2)),(8,a3.v),(9,a4.v),(17,a7.v),(18,.int .i64 a8),(19,.int .i64 (IntKind.wrap .i64 (a9+1)))]) h):=(kf _ h).trans (by kernel_rfl)
theorem k45(a1:Int)(h:AH):go (.fn F.kea [.int .u64 a1]) h =
 newK h (.cells [.int .u64 a1] T.kj) fun h2r h2 =>
 (go (.fn F.kbq [(⟨some h2r,1,.is 1⟩:Sl).v]) h2).bind fun q3 =>
 ((some q3.1).bind AV.asSl).bind fun l4 =>
 some (l4.v,q3.2):=(kf _ h).trans (by kernel_rfl)
theorem k46(a1:Bool)(a2:Sl)(h:AH):go (.fn F.kb2 [.bool a1,a2.v]) h =
 newK h (.cells [.bool false,(⟨none,0,.is 0⟩:Sl).v] T.ki) fun h3r h3 =>
 (go (.fn F.kd3 [a2.v]) h3).bind fun q4 =>
 ((some q4.1).bind AV.asBool).bind fun b5 =>
 cond (!b5) (
 (q4.2.puts h3r [.bool false,(⟨none,0,.is 0⟩:Sl).v]).bind fun h6 =>
 ((h6.cell (h3r.add 0)).bind AV.asBool).bind fun b7 =>
 ((h6.cell (h3r.add 1)).bind AV.asSl).bind fun l8 =>
 some (.agg [.bool b7,l8.v],h6)) (
 cond (decide ((a2.len:Int)=0)) (
 (q4.2.puts h3r [.bool false,(⟨none,0,.is 0⟩:Sl).v]).bind fun h9 =>
 ((h9.cell (h3r.add 0)).bind AV.asBool).bind fun b10 =>
 ((h9.cell (h3r.add 1)).bind AV.asSl).bind fun l11 =>
 some (.agg [.bool b10,l11.v],h9)) (
 (go (.fn F.kf2 [a2.v]) q4.2).bind fun q12 =>
 ((some q12.1).bind AV.asSl).bind fun l13 =>
 (q12.2.puts h3r [.bool a1,l13.v]).bind fun h14 =>
 ((h14.cell (h3r.add 0)).bind AV.asBool).bind fun b15 =>
 ((h14.cell (h3r.add 1)).bind AV.asSl).bind fun l16 =>
 some (.agg [.bool b15,l16.v],h14))):=(kf _ h).trans (by kernel_rfl)
theorem k95(a1:Bool)(a2:Sl)(h:AH):go (.fn F.ke4 [.agg [.bool a1,a2.v]]) h =
 newK h (.cells [.bool a1,a2.v] T.ki) fun h3r h3 =>
 ((h3.cell (h3r.add 1)).bind AV.asSl).bind fun l4 =>
 (go (.fn F.kd3 [l4.v]) h3).bind fun q5 =>
 ((some q5.1).bind AV.asBool).bind fun b6 =>
 cond b6 (
 ((q5.2.cell (h3r.add 0)).bind AV.asBool).bind fun b7 =>
 cond (!b7) (
 some (.bool true,q5.2)) (
 ((q5.2.cell (h3r.add 1)).bind AV.asSl).bind fun l8 =>
 some (.bool (decide ((l8.len:Int)>0)),q5.2))) (
 some (.bool false,q5.2)):=(kf _ h).trans (by kernel_rfl)
theorem kbbm(a1:Sl)(h:AH):go (.fn F.kd3 [a1.v]) h =
 cond (decide ((a1.len:Int)≤64)) (
 cond (decide ((a1.len:Int)=0)) (
 some (.bool true,h)) (
 (idx a1.ref a1.len (IntKind.wrap .i64 ((a1.len:Int)-1)) 1).bind fun r2 =>
 ((h.cell r2).bind (AV.asInt .u64)).bind fun n3 =>
 some (.bool (!decide (n3=0)),h))) (
 some (.bool false,h)):=(kf _ h).trans (by kernel_rfl)
theorem k0e(a1 a2:Sl)(h:AH):go (.fn F.kec [a1.v,a2.v]) h =
 (go (.fn F.kd3 [a1.v]) h).bind fun q3 =>
 ((some q3.1).bind AV.asBool).bind fun b4 =>
 cond (!b4) (
 some (.tup [(⟨none,0,.is 0⟩:Sl).v,.int .i64 1],q3.2)) (
 (go (.fn F.kd3 [a2.v]) q3.2).bind fun q5 =>
 ((some q5.1).bind AV.asBool).bind fun b6 =>
 cond (!b6) (
 some (.tup [(⟨none,0,.is 0⟩:Sl).v,.int .i64 1],q5.2)) (
 (go (.fn F.kf2 [a1.v]) q5.2).bind fun q7 =>
 ((some q7.1).bind AV.asSl).bind fun l8 =>
 (go (.fn F.kf2 [a2.v]) q7.2).bind fun q9 =>
 ((some q9.1).bind AV.asSl).bind fun l10 =>
 go (.pt F.kec Td.kmc [(0,l8.v),(1,l10.v)]) q9.2)):=(kf _ h).trans (by kernel_rfl)
theorem kyv(a1 a2:Sl)(h:AH):go (.fn F.kf3 [a1.v,a2.v]) h =
 newK h (.cells [a1.v,a2.v] T.kcg) fun h3r h3 =>
 (go (.fn F.ke7 [(⟨some h3r,2,.is 2⟩:Sl).v]) h3).bind fun q4 =>
 ((some q4.1).bind AV.asBool).bind fun b5 =>
 cond (!b5) (
 some (.tup [(⟨none,0,.is 0⟩:Sl).v,(⟨none,0,.is 0⟩:Sl).v,.int .i64 1],q4.2)) (
 cond (decide ((a2.len:Int)=0)) (
 some (.tup [(⟨none,0,.is 0⟩:Sl).v,(⟨none,0,.is 0⟩:Sl).v,.int .i64 3],q4.2)) (
 (go (.fn F.kd7 [a1.v,a2.v]) q4.2).bind fun q6 =>
 ((some q6.1).bind (AV.asInt .i64)).bind fun n7 =>
 cond (decide (n7<0)) (
 (go (.fn F.kf2 [a1.v]) q6.2).bind fun q8 =>
 ((some q8.1).bind AV.asSl).bind fun l9 =>
 some (.tup [(⟨none,0,.is 0⟩:Sl).v,l9.v,.int .i64 0],q8.2)) (
 cond (decide ((a2.len:Int)=1)) (
 (idx a2.ref a2.len 0 1).bind fun r10 =>
 ((q6.2.cell r10).bind (AV.asInt .u64)).bind fun n11 =>
 (go (.fn F.kej [a1.v,.int .u64 n11]) q6.2).bind fun q12 =>
 (AV.asTup2 q12.1).bind fun p13 =>
 ((some p13.1).bind AV.asSl).bind fun l14 =>
 ((some p13.2).bind (AV.asInt .u64)).bind fun n15 =>
 (go (.fn F.kea [.int .u64 n15]) q12.2).bind fun q16 =>
 ((some q16.1).bind AV.asSl).bind fun l17 =>
 some (.tup [l14.v,l17.v,.int .i64 0],q16.2)) (
 (go (.fn F.kb5 [a1.v,a2.v]) q6.2).bind fun q18 =>
 (AV.asTup2 q18.1).bind fun p19 =>
 ((some p19.1).bind AV.asSl).bind fun l20 =>
 ((some p19.2).bind AV.asSl).bind fun l21 =>
 some (.tup [l20.v,l21.v,.int .i64 0],q18.2))))):=(kf _ h).trans (by kernel_rfl)
theorem kxz(a1 a2 a3 a4 a5:Int)(h:AH):go (.fn F.km0 [.int .i64 a1,.agg [.int .i64 a2,.int .i64 a3],.agg [.int .i64 a4,.int .i64 a5]]) h =
 newK h (.cells [.int .i64 a1] T.int) fun h6r h6 =>
 newK h6 (.cells [.int .i64 a2,.int .i64 a3] T.kbe) fun h7r h7 =>
 newK h7 (.cells [.int .i64 a4,.int .i64 a5] T.kbe) fun h8r h8 =>
 newK h8 (.cells [.bool false,(⟨none,0,.is 0⟩:Sl).v,(⟨none,0,.is 0⟩:Sl).v] T.ky) fun h9r h9 =>
 ((h9.cell (h7r.add 0)).bind (AV.asInt .i64)).bind fun n10 =>
 ((h9.cell (h7r.add 1)).bind (AV.asInt .i64)).bind fun n11 =>
 ((h9.cell (h8r.add 0)).bind (AV.asInt .i64)).bind fun n12 =>
 ((h9.cell (h8r.add 1)).bind (AV.asInt .i64)).bind fun n13 =>
 (go (.fn F.kqq [.agg [.int .i64 n10,.int .i64 n11],.agg [.int .i64 n12,.int .i64 n13]]) h9).bind fun q14 =>
 (AV.asTup2 q14.1).bind fun p15 =>
 (AV.asAgg p15.1).bind fun cs16 =>
 cond (Nat.beq cs16.length 2) (
 ((cs16[0]?).bind (AV.asInt .i64)).bind fun n17 =>
 ((cs16[1]?).bind (AV.asInt .i64)).bind fun n18 =>
 ((some p15.2).bind AV.asBool).bind fun b19 =>
 newK q14.2 (.cells [.int .i64 0,.int .i64 0] T.kbe) fun h20r h20 =>
 (h20.puts h20r [.int .i64 n17,.int .i64 n18]).bind fun h21 =>
 cond (!b19) (
 (h21.puts h9r [.bool false,(⟨none,0,.is 0⟩:Sl).v,(⟨none,0,.is 0⟩:Sl).v]).bind fun h22 =>
 ((h22.cell (h9r.add 0)).bind AV.asBool).bind fun b23 =>
 ((h22.cell (h9r.add 1)).bind AV.asSl).bind fun l24 =>
 ((h22.cell (h9r.add 2)).bind AV.asSl).bind fun l25 =>
 some (.tup [.agg [.bool b23,l24.v,l25.v],.int .i64 1],h22)) (
 ((h21.cell h6r).bind (AV.asInt .i64)).bind fun n26 =>
 (go (.fn F.ki1 [.int .i64 n26]) h21).bind fun q27 =>
 ((some q27.1).bind AV.asBool).bind fun b28 =>
 cond (!b28) (
 (q27.2.puts h9r [.bool false,(⟨none,0,.is 0⟩:Sl).v,(⟨none,0,.is 0⟩:Sl).v]).bind fun h29 =>
 ((h29.cell (h9r.add 0)).bind AV.asBool).bind fun b30 =>
 ((h29.cell (h9r.add 1)).bind AV.asSl).bind fun l31 =>
 ((h29.cell (h9r.add 2)).bind AV.asSl).bind fun l32 =>
 some (.tup [.agg [.bool b30,l31.v,l32.v],.int .i64 1],h29)) (
 newK q27.2 (.cells [.bool false,(⟨none,0,.is 0⟩:Sl).v,(⟨none,0,.is 0⟩:Sl).v] T.ky) fun h33r h33 =>
 ((h33.cell (h7r.add 0)).bind (AV.asInt .i64)).bind fun n34 =>
 ((h33.cell (h7r.add 1)).bind (AV.asInt .i64)).bind fun n35 =>
 ((h33.cell (h20r.add 0)).bind (AV.asInt .i64)).bind fun n36 =>
 ((h33.cell (h20r.add 1)).bind (AV.asInt .i64)).bind fun n37 =>
 (go (.fn F.kni [.agg [.int .i64 n34,.int .i64 n35],.ptr (some h6r)]) h33).bind fun q38 =>
 (AV.asAgg q38.1).bind fun cs39 =>
 cond (Nat.beq cs39.length 3) (
 ((cs39[0]?).bind AV.asBool).bind fun b40 =>
 ((cs39[1]?).bind AV.asSl).bind fun l41 =>
 ((cs39[2]?).bind AV.asSl).bind fun l42 =>
 whenK (SameAt h33 q38.2 h20r 2) (
 whenK (SameAt h33 q38.2 h33r 0) (
 (go (.fn F.kni [.agg [.int .i64 n36,.int .i64 n37],.ptr (some h6r)]) q38.2).bind fun q43 =>
 (AV.asAgg q43.1).bind fun cs44 =>
 cond (Nat.beq cs44.length 3) (
 ((cs44[0]?).bind AV.asBool).bind fun b45 =>
 ((cs44[1]?).bind AV.asSl).bind fun l46 =>
 ((cs44[2]?).bind AV.asSl).bind fun l47 =>
 whenK (SameAt q38.2 q43.2 h33r 0) (
 (go (.fn F.kls [.agg [.bool b40,l41.v,l42.v],.agg [.bool b45,l46.v,l47.v]]) q43.2).bind fun q48 =>
 (AV.asTup2 q48.1).bind fun p49 =>
 (AV.asAgg p49.1).bind fun cs50 =>
 cond (Nat.beq cs50.length 3) (
 ((cs50[0]?).bind AV.asBool).bind fun b51 =>
 ((cs50[1]?).bind AV.asSl).bind fun l52 =>
 ((cs50[2]?).bind AV.asSl).bind fun l53 =>
 ((some p49.2).bind (AV.asInt .i64)).bind fun n54 =>
 whenK (SameAt q43.2 q48.2 h33r 0) (
 (q48.2.puts h33r [.bool b51,l52.v,l53.v]).bind fun h55 =>
 ((h55.cell (h33r.add 0)).bind AV.asBool).bind fun b56 =>
 ((h55.cell (h33r.add 1)).bind AV.asSl).bind fun l57 =>
 ((h55.cell (h33r.add 2)).bind AV.asSl).bind fun l58 =>
 ((h55.cell (h8r.add 0)).bind (AV.asInt .i64)).bind fun n59 =>
 ((h55.cell (h8r.add 1)).bind (AV.asInt .i64)).bind fun n60 =>
 (go (.fn F.kni [.agg [.int .i64 n59,.int .i64 n60],.ptr (some h6r)]) h55).bind fun q61 =>
 (AV.asAgg q61.1).bind fun cs62 =>
 cond (Nat.beq cs62.length 3) (
 ((cs62[0]?).bind AV.asBool).bind fun b63 =>
 ((cs62[1]?).bind AV.asSl).bind fun l64 =>
 ((cs62[2]?).bind AV.asSl).bind fun l65 =>
 whenK (SameAt h55 q61.2 h33r 3) (
 (go (.fn F.kms [.agg [.bool b56,l57.v,l58.v],.agg [.bool b63,l64.v,l65.v]]) q61.2).bind fun q66 =>
 (AV.asTup2 q66.1).bind fun p67 =>
 (AV.asAgg p67.1).bind fun cs68 =>
 cond (Nat.beq cs68.length 3) (
 ((cs68[0]?).bind AV.asBool).bind fun b69 =>
 ((cs68[1]?).bind AV.asSl).bind fun l70 =>
 ((cs68[2]?).bind AV.asSl).bind fun l71 =>
 ((some p67.2).bind (AV.asInt .i64)).bind fun n72 =>
 (q66.2.puts h9r [.bool b69,l70.v,l71.v]).bind fun h73 =>
 ((h73.cell (h9r.add 0)).bind AV.asBool).bind fun b74 =>
 ((h73.cell (h9r.add 1)).bind AV.asSl).bind fun l75 =>
 ((h73.cell (h9r.add 2)).bind AV.asSl).bind fun l76 =>
 some (.tup [.agg [.bool b74,l75.v,l76.v],.int .i64 n72],h73)) none)) none)) none)) none))) none))) none:=(kf _ h).trans (by kernel_rfl)
theorem k7f(a1:Int)(a2:Bool)(a3 a4:Sl)(a5 a6:Ref)(h:AH):go (.fn F.kdv [.int .i64 a1,.agg [.bool a2,a3.v,a4.v],.ptr (some a5),.ptr (some a6)]) h =
 newK h (.cells [.bool a2,a3.v,a4.v] T.ky) fun h7r h7 =>
 ((h7.cell (h7r.add 0)).bind AV.asBool).bind fun b8 =>
 ((h7.cell (h7r.add 1)).bind AV.asSl).bind fun l9 =>
 ((h7.cell (h7r.add 2)).bind AV.asSl).bind fun l10 =>
 ((h7.cell (a5.add 0)).bind AV.asBool).bind fun b11 =>
 ((h7.cell (a5.add 1)).bind AV.asSl).bind fun l12 =>
 ((h7.cell (a5.add 2)).bind AV.asSl).bind fun l13 =>
 (go (.fn F.knw [.agg [.bool b8,l9.v,l10.v],.agg [.bool b11,l12.v,l13.v]]) h7).bind fun q14 =>
 ((some q14.1).bind (AV.asInt .i64)).bind fun n15 =>
 cond (decide (n15>0)) (
 ((q14.2.cell (h7r.add 0)).bind AV.asBool).bind fun b16 =>
 ((q14.2.cell (h7r.add 1)).bind AV.asSl).bind fun l17 =>
 ((q14.2.cell (h7r.add 2)).bind AV.asSl).bind fun l18 =>
 newK q14.2 (.cells [.int .i64 a1] T.int) fun h19r h19 =>
 whenK (SameAt q14.2 h19 h7r 3) (
 (h19.puts a6 [(⟨some h19r,1,.is 1⟩:Sl).v]).bind fun h20 =>
 whenK (SameAt h19 h20 h7r 3) (
 (h20.puts a5 [.bool b16,l17.v,l18.v]).bind fun h21 =>
 some (.tup [],h21)))) (
 cond (decide (n15=0)) (
 ((q14.2.cell a6).bind AV.asSl).bind fun l22 =>
 cond (decide ((l22.len:Int)>0)) (
 ((q14.2.cell a6).bind AV.asSl).bind fun l23 =>
 newK q14.2 (.cells [.int .i64 a1] T.int) fun h24r h24 =>
 (kcn Pg T.int ((⟨some h24r,1,.is 1⟩:Sl).v) h24).bind fun p26 =>
 (kbb Pg l23 p26.1 p26.2 T.int 1 h24).bind fun q25 =>
 (AV.asSl q25.1).bind fun l27 =>
 (q25.2.puts a6 [l27.v]).bind fun h28 =>
 some (.tup [],h28)) (
 some (.tup [],q14.2))) (
 some (.tup [],q14.2))):=(kf _ h).trans (by kernel_rfl)
theorem k58(a1 a2:Int)(h:AH):go (.fn F.kj6 [.int .i64 a1,.int .i64 a2]) h =
 newK h (.cells [.bool false,(⟨none,0,.is 0⟩:Sl).v] T.ki) fun h3r h3 =>
 (go (.fn F.kg4 [.int .i64 a1]) h3).bind fun q4 =>
 (AV.asAgg q4.1).bind fun cs5 =>
 cond (Nat.beq cs5.length 2) (
 ((cs5[0]?).bind AV.asBool).bind fun b6 =>
 ((cs5[1]?).bind AV.asSl).bind fun l7 =>
 (go (.fn F.kg4 [.int .i64 a2]) q4.2).bind fun q8 =>
 (AV.asAgg q8.1).bind fun cs9 =>
 cond (Nat.beq cs9.length 2) (
 ((cs9[0]?).bind AV.asBool).bind fun b10 =>
 ((cs9[1]?).bind AV.asSl).bind fun l11 =>
 (go (.fn F.ki3 [.agg [.bool b6,l7.v],.agg [.bool b10,l11.v]]) q8.2).bind fun q12 =>
 (AV.asTup2 q12.1).bind fun p13 =>
 (AV.asAgg p13.1).bind fun cs14 =>
 cond (Nat.beq cs14.length 2) (
 ((cs14[0]?).bind AV.asBool).bind fun b15 =>
 ((cs14[1]?).bind AV.asSl).bind fun l16 =>
 ((some p13.2).bind (AV.asInt .i64)).bind fun n17 =>
 newK q12.2 (.cells [.bool false,(⟨none,0,.is 0⟩:Sl).v] T.ki) fun h18r h18 =>
 (h18.puts h18r [.bool b15,l16.v]).bind fun h19 =>
 ((h19.cell (h18r.add 0)).bind AV.asBool).bind fun b20 =>
 ((h19.cell (h18r.add 1)).bind AV.asSl).bind fun l21 =>
 (h19.puts h3r [.bool b20,l21.v]).bind fun h22 =>
 ((h22.cell (h3r.add 0)).bind AV.asBool).bind fun b23 =>
 ((h22.cell (h3r.add 1)).bind AV.asSl).bind fun l24 =>
 some (.agg [.bool b23,l24.v],h22)) none) none) none:=(kf _ h).trans (by kernel_rfl)
theorem kys(a1:Bool)(a2:Sl)(a3:Bool)(a4:Sl)(h:AH):go (.fn F.kle [.agg [.bool a1,a2.v],.agg [.bool a3,a4.v]]) h =
 newK h (.cells [.bool a1,a2.v] T.ki) fun h5r h5 =>
 newK h5 (.cells [.bool a3,a4.v] T.ki) fun h6r h6 =>
 newK h6 (.cells [.bool false,(⟨none,0,.is 0⟩:Sl).v] T.ki) fun h7r h7 =>
 newK h7 (.cells [.bool false,(⟨none,0,.is 0⟩:Sl).v] T.ki) fun h8r h8 =>
 ((h8.cell (h5r.add 0)).bind AV.asBool).bind fun b9 =>
 ((h8.cell (h5r.add 1)).bind AV.asSl).bind fun l10 =>
 ((h8.cell (h6r.add 0)).bind AV.asBool).bind fun b11 =>
 ((h8.cell (h6r.add 1)).bind AV.asSl).bind fun l12 =>
 newK h8 (.cells [.bool b9,l10.v,.bool b11,l12.v] T.ki) fun h13r h13 =>
 (go (.fn F.kfr [(⟨some h13r,2,.is 2⟩:Sl).v]) h13).bind fun q14 =>
 ((some q14.1).bind AV.asBool).bind fun b15 =>
 cond (!b15) (
 (q14.2.puts h7r [.bool false,(⟨none,0,.is 0⟩:Sl).v]).bind fun h16 =>
 (h16.puts h8r [.bool false,(⟨none,0,.is 0⟩:Sl).v]).bind fun h17 =>
 ((h17.cell (h7r.add 0)).bind AV.asBool).bind fun b18 =>
 ((h17.cell (h7r.add 1)).bind AV.asSl).bind fun l19 =>
 ((h17.cell (h8r.add 0)).bind AV.asBool).bind fun b20 =>
 ((h17.cell (h8r.add 1)).bind AV.asSl).bind fun l21 =>
 some (.tup [.agg [.bool b18,l19.v],.agg [.bool b20,l21.v],.int .i64 1],h17)) (
 ((q14.2.cell (h6r.add 1)).bind AV.asSl).bind fun l22 =>
 cond (decide ((l22.len:Int)=0)) (
 (q14.2.puts h7r [.bool false,(⟨none,0,.is 0⟩:Sl).v]).bind fun h23 =>
 (h23.puts h8r [.bool false,(⟨none,0,.is 0⟩:Sl).v]).bind fun h24 =>
 ((h24.cell (h7r.add 0)).bind AV.asBool).bind fun b25 =>
 ((h24.cell (h7r.add 1)).bind AV.asSl).bind fun l26 =>
 ((h24.cell (h8r.add 0)).bind AV.asBool).bind fun b27 =>
 ((h24.cell (h8r.add 1)).bind AV.asSl).bind fun l28 =>
 some (.tup [.agg [.bool b25,l26.v],.agg [.bool b27,l28.v],.int .i64 3],h24)) (
 ((q14.2.cell (h6r.add 0)).bind AV.asBool).bind fun b29 =>
 cond b29 (
 (q14.2.puts h7r [.bool false,(⟨none,0,.is 0⟩:Sl).v]).bind fun h30 =>
 (h30.puts h8r [.bool false,(⟨none,0,.is 0⟩:Sl).v]).bind fun h31 =>
 ((h31.cell (h7r.add 0)).bind AV.asBool).bind fun b32 =>
 ((h31.cell (h7r.add 1)).bind AV.asSl).bind fun l33 =>
 ((h31.cell (h8r.add 0)).bind AV.asBool).bind fun b34 =>
 ((h31.cell (h8r.add 1)).bind AV.asSl).bind fun l35 =>
 some (.tup [.agg [.bool b32,l33.v],.agg [.bool b34,l35.v],.int .i64 1],h31)) (
 ((q14.2.cell (h5r.add 1)).bind AV.asSl).bind fun l36 =>
 ((q14.2.cell (h6r.add 1)).bind AV.asSl).bind fun l37 =>
 (go (.fn F.kf3 [l36.v,l37.v]) q14.2).bind fun q38 =>
 (AV.asTup3 q38.1).bind fun p39 =>
 ((some p39.1).bind AV.asSl).bind fun l40 =>
 ((some p39.2.1).bind AV.asSl).bind fun l41 =>
 ((some p39.2.2).bind (AV.asInt .i64)).bind fun n42 =>
 ((q38.2.cell (h5r.add 0)).bind AV.asBool).bind fun b43 =>
 cond b43 (
 cond (decide ((l41.len:Int)>0)) (
 (go (.fn F.kea [.int .u64 1]) q38.2).bind fun q44 =>
 ((some q44.1).bind AV.asSl).bind fun l45 =>
 (go (.fn F.kk2 [l40.v,l45.v]) q44.2).bind fun q46 =>
 (AV.asTup2 q46.1).bind fun p47 =>
 ((some p47.1).bind AV.asSl).bind fun l48 =>
 ((some p47.2).bind (AV.asInt .i64)).bind fun n49 =>
 cond (!decide (n49=0)) (
 (q46.2.puts h7r [.bool false,(⟨none,0,.is 0⟩:Sl).v]).bind fun h50 =>
 (h50.puts h8r [.bool false,(⟨none,0,.is 0⟩:Sl).v]).bind fun h51 =>
 ((h51.cell (h7r.add 0)).bind AV.asBool).bind fun b52 =>
 ((h51.cell (h7r.add 1)).bind AV.asSl).bind fun l53 =>
 ((h51.cell (h8r.add 0)).bind AV.asBool).bind fun b54 =>
 ((h51.cell (h8r.add 1)).bind AV.asSl).bind fun l55 =>
 some (.tup [.agg [.bool b52,l53.v],.agg [.bool b54,l55.v],.int .i64 n49],h51)) (
 ((q46.2.cell (h6r.add 1)).bind AV.asSl).bind fun l56 =>
 (go (.fn F.kkf [l56.v,l41.v]) q46.2).bind fun q57 =>
 (AV.asTup2 q57.1).bind fun p58 =>
 ((some p58.1).bind AV.asSl).bind fun l59 =>
 ((some p58.2).bind (AV.asInt .i64)).bind fun n60 =>
 ((q57.2.cell (h5r.add 0)).bind AV.asBool).bind fun b61 =>
 (go (.fn F.kb2 [.bool b61,l48.v]) q57.2).bind fun q62 =>
 (AV.asAgg q62.1).bind fun cs63 =>
 cond (Nat.beq cs63.length 2) (
 ((cs63[0]?).bind AV.asBool).bind fun b64 =>
 ((cs63[1]?).bind AV.asSl).bind fun l65 =>
 (go (.fn F.kb2 [.bool false,l59.v]) q62.2).bind fun q66 =>
 (AV.asAgg q66.1).bind fun cs67 =>
 cond (Nat.beq cs67.length 2) (
 ((cs67[0]?).bind AV.asBool).bind fun b68 =>
 ((cs67[1]?).bind AV.asSl).bind fun l69 =>
 (q66.2.puts h7r [.bool b64,l65.v]).bind fun h70 =>
 (h70.puts h8r [.bool b68,l69.v]).bind fun h71 =>
 ((h71.cell (h7r.add 0)).bind AV.asBool).bind fun b72 =>
 ((h71.cell (h7r.add 1)).bind AV.asSl).bind fun l73 =>
 ((h71.cell (h8r.add 0)).bind AV.asBool).bind fun b74 =>
 ((h71.cell (h8r.add 1)).bind AV.asSl).bind fun l75 =>
 some (.tup [.agg [.bool b72,l73.v],.agg [.bool b74,l75.v],.int .i64 0],h71)) none) none)) (
 ((q38.2.cell (h5r.add 0)).bind AV.asBool).bind fun b76 =>
 (go (.fn F.kb2 [.bool b76,l40.v]) q38.2).bind fun q77 =>
 (AV.asAgg q77.1).bind fun cs78 =>
 cond (Nat.beq cs78.length 2) (
 ((cs78[0]?).bind AV.asBool).bind fun b79 =>
 ((cs78[1]?).bind AV.asSl).bind fun l80 =>
 (go (.fn F.kb2 [.bool false,l41.v]) q77.2).bind fun q81 =>
 (AV.asAgg q81.1).bind fun cs82 =>
 cond (Nat.beq cs82.length 2) (
 ((cs82[0]?).bind AV.asBool).bind fun b83 =>
 ((cs82[1]?).bind AV.asSl).bind fun l84 =>
 (q81.2.puts h7r [.bool b79,l80.v]).bind fun h85 =>
 (h85.puts h8r [.bool b83,l84.v]).bind fun h86 =>
 ((h86.cell (h7r.add 0)).bind AV.asBool).bind fun b87 =>
 ((h86.cell (h7r.add 1)).bind AV.asSl).bind fun l88 =>
 ((h86.cell (h8r.add 0)).bind AV.asBool).bind fun b89 =>
 ((h86.cell (h8r.add 1)).bind AV.asSl).bind fun l90 =>
 some (.tup [.agg [.bool b87,l88.v],.agg [.bool b89,l90.v],.int .i64 0],h86)) none) none)) (
 ((q38.2.cell (h5r.add 0)).bind AV.asBool).bind fun b91 =>
 (go (.fn F.kb2 [.bool b91,l40.v]) q38.2).bind fun q92 =>
 (AV.asAgg q92.1).bind fun cs93 =>
 cond (Nat.beq cs93.length 2) (
 ((cs93[0]?).bind AV.asBool).bind fun b94 =>
 ((cs93[1]?).bind AV.asSl).bind fun l95 =>
 (go (.fn F.kb2 [.bool false,l41.v]) q92.2).bind fun q96 =>
 (AV.asAgg q96.1).bind fun cs97 =>
 cond (Nat.beq cs97.length 2) (
 ((cs97[0]?).bind AV.asBool).bind fun b98 =>
 ((cs97[1]?).bind AV.asSl).bind fun l99 =>
 (q96.2.puts h7r [.bool b94,l95.v]).bind fun h100 =>
 (h100.puts h8r [.bool b98,l99.v]).bind fun h101 =>
 ((h101.cell (h7r.add 0)).bind AV.asBool).bind fun b102 =>
 ((h101.cell (h7r.add 1)).bind AV.asSl).bind fun l103 =>
 ((h101.cell (h8r.add 0)).bind AV.asBool).bind fun b104 =>
 ((h101.cell (h8r.add 1)).bind AV.asSl).bind fun l105 =>
 some (.tup [.agg [.bool b102,l103.v],.agg [.bool b104,l105.v],.int .i64 0],h101)) none) none)))):=(kf _ h).trans (by kernel_rfl)
theorem kyl(a1:Bool)(a2:Sl)(h:AH):go (.fn F.kor [.agg [.bool a1,a2.v]]) h =
 newK h (.cells [.bool a1,a2.v] T.ki) fun h3r h3 =>
 ((h3.cell (h3r.add 1)).bind AV.asSl).bind fun l4 =>
 (go (.fn F.koi [l4.v]) h3).bind fun q5 =>
 (AV.asTup2 q5.1).bind fun p6 =>
 ((some p6.1).bind (AV.asInt .u64)).bind fun n7 =>
 ((some p6.2).bind AV.asBool).bind fun b8 =>
 ((q5.2.cell (h3r.add 0)).bind AV.asBool).bind fun b9 =>
 cond b9 (
 ((q5.2.cell (h3r.add 0)).bind AV.asBool).bind fun b10 =>
 ((q5.2.cell (h3r.add 1)).bind AV.asSl).bind fun l11 =>
 (go (.fn F.ke4 [.agg [.bool b10,l11.v]]) q5.2).bind fun q12 =>
 ((some q12.1).bind AV.asBool).bind fun b13 =>
 cond (!b13) (
 some (.tup [.int .i64 0,.bool false],q12.2)) (
 cond (!b8) (
 some (.tup [.int .i64 0,.bool false],q12.2)) (
 cond (decide (n7>(IntKind.wrap .u64 (9223372036854775807+1)))) (
 some (.tup [.int .i64 0,.bool false],q12.2)) (
 ((q12.2.cell (h3r.add 0)).bind AV.asBool).bind fun b14 =>
 cond b14 (
 some (.tup [.int .i64 (IntKind.wrap .i64 (IntKind.wrap .u64 (0-n7))),.bool true],q12.2)) (
 some (.tup [.int .i64 (IntKind.wrap .i64 n7),.bool true],q12.2)))))) (
 ((q5.2.cell (h3r.add 0)).bind AV.asBool).bind fun b15 =>
 ((q5.2.cell (h3r.add 1)).bind AV.asSl).bind fun l16 =>
 (go (.fn F.ke4 [.agg [.bool b15,l16.v]]) q5.2).bind fun q17 =>
 ((some q17.1).bind AV.asBool).bind fun b18 =>
 cond (!b18) (
 some (.tup [.int .i64 0,.bool false],q17.2)) (
 cond (!b8) (
 some (.tup [.int .i64 0,.bool false],q17.2)) (
 cond (decide (n7>9223372036854775807)) (
 some (.tup [.int .i64 0,.bool false],q17.2)) (
 ((q17.2.cell (h3r.add 0)).bind AV.asBool).bind fun b19 =>
 cond b19 (
 some (.tup [.int .i64 (IntKind.wrap .i64 (IntKind.wrap .u64 (0-n7))),.bool true],q17.2)) (
 some (.tup [.int .i64 (IntKind.wrap .i64 n7),.bool true],q17.2)))))):=(kf _ h).trans (by kernel_rfl)
theorem k2g(a1:Int)(a2:Sl)(a3:Int)(a4:Sl)(h:AH):go (.fn F.kcl [.agg [.int .i64 a1,a2.v],.agg [.int .i64 a3,a4.v],.func (.func F.kew) [] []]) h =
 newK h (.cells [.int .i64 a1,a2.v] T.kx) fun h5r h5 =>
 newK h5 (.cells [.int .i64 a3,a4.v] T.kx) fun h6r h6 =>
 newK h6 (.cells [.int .i64 0,(⟨none,0,.is 0⟩:Sl).v] T.kx) fun h7r h7 =>
 ((h7.cell (h5r.add 0)).bind (AV.asInt .i64)).bind fun n8 =>
 ((h7.cell (h5r.add 1)).bind AV.asSl).bind fun l9 =>
 (go (.fn F.kgi [.agg [.int .i64 n8,l9.v]]) h7).bind fun q10 =>
 ((some q10.1).bind AV.asBool).bind fun b11 =>
 cond (!b11) (
 (q10.2.puts h7r [.int .i64 0,(⟨none,0,.is 0⟩:Sl).v]).bind fun h12 =>
 ((h12.cell (h7r.add 0)).bind (AV.asInt .i64)).bind fun n13 =>
 ((h12.cell (h7r.add 1)).bind AV.asSl).bind fun l14 =>
 some (.tup [.agg [.int .i64 n13,l14.v],.int .i64 1],h12)) (
 ((q10.2.cell (h6r.add 0)).bind (AV.asInt .i64)).bind fun n15 =>
 ((q10.2.cell (h6r.add 1)).bind AV.asSl).bind fun l16 =>
 (go (.fn F.kgi [.agg [.int .i64 n15,l16.v]]) q10.2).bind fun q17 =>
 ((some q17.1).bind AV.asBool).bind fun b18 =>
 cond (!b18) (
 (q17.2.puts h7r [.int .i64 0,(⟨none,0,.is 0⟩:Sl).v]).bind fun h19 =>
 ((h19.cell (h7r.add 0)).bind (AV.asInt .i64)).bind fun n20 =>
 ((h19.cell (h7r.add 1)).bind AV.asSl).bind fun l21 =>
 some (.tup [.agg [.int .i64 n20,l21.v],.int .i64 1],h19)) (
 ((q17.2.cell (h5r.add 0)).bind (AV.asInt .i64)).bind fun n22 =>
 ((q17.2.cell (h6r.add 0)).bind (AV.asInt .i64)).bind fun n23 =>
 cond (!decide (n22=n23)) (
 (q17.2.puts h7r [.int .i64 0,(⟨none,0,.is 0⟩:Sl).v]).bind fun h24 =>
 ((h24.cell (h7r.add 0)).bind (AV.asInt .i64)).bind fun n25 =>
 ((h24.cell (h7r.add 1)).bind AV.asSl).bind fun l26 =>
 some (.tup [.agg [.int .i64 n25,l26.v],.int .i64 1],h24)) (
 ((q17.2.cell (h5r.add 0)).bind (AV.asInt .i64)).bind fun n27 =>
 (go (.fn F.khx [.int .i64 n27]) q17.2).bind fun q28 =>
 (AV.asTup2 q28.1).bind fun p29 =>
 (AV.asAgg p29.1).bind fun cs30 =>
 cond (Nat.beq cs30.length 2) (
 ((cs30[0]?).bind (AV.asInt .i64)).bind fun n31 =>
 ((cs30[1]?).bind AV.asSl).bind fun l32 =>
 ((some p29.2).bind (AV.asInt .i64)).bind fun n33 =>
 newK q28.2 (.cells [.int .i64 0,(⟨none,0,.is 0⟩:Sl).v] T.kx) fun h34r h34 =>
 (h34.puts h34r [.int .i64 n31,l32.v]).bind fun h35 =>
 ((h35.cell (h34r.add 1)).bind AV.asSl).bind fun l36 =>
 go (.pt F.kcl Td.ke8 [(2,.func (.func F.kew) [] []),(3,.ptr (some h5r)),(4,.ptr (some h6r)),(6,.ptr (some h7r)),(8,.ptr (some h34r)),(9,.int .i64 n33),(35,.int .i64 (l36.len:Int)),(36,.int .i64 0)]) h35) none))):=(kf _ h).trans (by kernel_rfl)
theorem kyq(a1:Option Ref)(a2 a3 a4:Int)(a5:Sl)(h:AH):go (.fn F.koe [.ptr a1,.iface T.kbg (.agg [.int .i64 a2,.int .i64 a3,.int .i64 a4,a5.v])]) h =
 a1.bind fun r6 =>
 ((h.cell r6).bind AV.asSl).bind fun l7 =>
 newK h (.cells [.int .i64 a2,.int .i64 a3,.int .i64 a4,a5.v] T.kbg) fun h8r h8 =>
 whenK (SameAt h h8 r6 1) (
 (kcn Pg T.kbg ((⟨some h8r,1,.is 1⟩:Sl).v) h8).bind fun p10 =>
 (kbb Pg l7 p10.1 p10.2 T.kbg 4 h8).bind fun q9 =>
 (AV.asSl q9.1).bind fun l11 =>
 a1.bind fun r12 =>
 (q9.2.puts r12 [l11.v]).bind fun h13 =>
 some (.tup [],h13)):=(kf _ h).trans (by kernel_rfl)
theorem k1w(a1:Ref)(a2:Int)(h:AH):go (.fn F.kig [.iface T.kbp (.ptr (some a1)),.int .i64 a2]) h =
 go (.pt F.kig Td.kn8 [(0,.iface T.kbp (.ptr (some a1))),(1,.int .i64 a2)]) h:=(kf _ h).trans (by kernel_rfl)
theorem kxo(a1:Int)(h:AH):go (.fn F.kdj [.int .i64 a1]) h =
 cond (decide (a1<0)) (
 some (.bool true,h)) (
 some (.bool (decide (a1>1073741824)),h)):=(kf _ h).trans (by kernel_rfl)
theorem kx6(a1:Int)(a2:Option Ref)(h:AH):go (.fn F.kdh [.int .i64 a1,.ptr a2]) h =
 cond (decide (a1<0)) (
 some (.bool true,h)) (
 a2.bind fun r3 =>
 ((h.cell r3).bind (AV.asInt .i64)).bind fun n4 =>
 some (.bool (decide (a1≥n4)),h)):=(kf _ h).trans (by kernel_rfl)
theorem kbbp(a1:Sl)(a2 a3:Int)(h:AH):go (.fn F.kfe [a1.v,.int .i64 a2,.int .i64 a3]) h =
 (idx a1.ref a1.len a2 4).bind fun r4 =>
 ((h.cell (r4.add 0)).bind (AV.asInt .i64)).bind fun n5 =>
 (idx a1.ref a1.len a3 4).bind fun r6 =>
 ((h.cell (r6.add 0)).bind (AV.asInt .i64)).bind fun n7 =>
 some (.bool (decide (n5<n7)),h):=(kf _ h).trans (by kernel_rfl)
theorem k6q(a1:Sl)(a2:AV)(h:AH):go (.fn F.kd2 [a1.v,a2]) h =
 newK h (.cells [a1.v] T.kdl) fun h3r h3 =>
 go (.pt F.kd2 Tr.kt2 [(0,a1.v),(1,a2),(2,.ptr (some h3r)),(4,(⟨none,0,.is 0⟩:Sl).v),(6,a2)]) h3:=(kf _ h).trans (by kernel_rfl)
theorem kr1(a1:Sl)(a2:Ref)(a3 a4:Sl)(a5:Int)(a6:Ref)(a7:Int)(a8:Sl)(a9 a10:Int)(a11:Sl)(a12 a13 a14 a15:Int)(h:AH):go (.pt F.kb8 Td.kkw [(1,a1.v),(5,.ptr (some a2)),(8,a3.v),(9,a4.v),(10,.int .i64 a5),(11,.ptr (some a6)),(12,.int .i64 a7),(17,a8.v),(18,.int .i64 a9),(19,.int .i64 a10),(25,a11.v),(26,.int .i64 a12),(27,.int .i64 a13),(33,.int .i64 a14),(34,.int .i64 a15)]) h =
 cond (decide (a15<a14)) (
 ((h.cell (a6.add 0)).bind AV.asSl).bind fun l16 =>
 ((h.cell (a6.add 1)).bind AV.asSl).bind fun l17 =>
 ((h.cell (a6.add 2)).bind AV.asSl).bind fun l18 =>
 (go (.fn F.kff [.agg [l16.v,l17.v,l18.v],.int .i64 a7,.int .i64 a15]) h).bind fun q19 =>
 (AV.asTup2 q19.1).bind fun p20 =>
 (AV.asAgg p20.1).bind fun cs21 =>
 cond (Nat.beq cs21.length 2) (
 ((cs21[0]?).bind (AV.asInt .i64)).bind fun n22 =>
 ((cs21[1]?).bind AV.asSl).bind fun l23 =>
 ((some p20.2).bind (AV.asInt .i64)).bind fun n24 =>
 newK q19.2 (.cells [.int .i64 0,(⟨none,0,.is 0⟩:Sl).v] T.kx) fun h25r h25 =>
 (h25.puts h25r [.int .i64 n22,l23.v]).bind fun h26 =>
 ((h26.cell (h25r.add 0)).bind (AV.asInt .i64)).bind fun n27 =>
 ((h26.cell (h25r.add 1)).bind AV.asSl).bind fun l28 =>
 ((h26.cell (a2.add 0)).bind (AV.asInt .i64)).bind fun n29 =>
 ((h26.cell (a2.add 1)).bind AV.asSl).bind fun l30 =>
 (go (.fn F.koq [.agg [.int .i64 n27,l28.v],.agg [.int .i64 n29,l30.v]]) h26).bind fun q31 =>
 (AV.asTup2 q31.1).bind fun p32 =>
 (AV.asAgg p32.1).bind fun cs33 =>
 cond (Nat.beq cs33.length 2) (
 ((cs33[0]?).bind (AV.asInt .i64)).bind fun n34 =>
 ((cs33[1]?).bind AV.asSl).bind fun l35 =>
 ((some p32.2).bind (AV.asInt .i64)).bind fun n36 =>
 (q31.2.puts h25r [.int .i64 n34,l35.v]).bind fun h37 =>
 ((h37.cell (h25r.add 0)).bind (AV.asInt .i64)).bind fun n38 =>
 ((h37.cell (h25r.add 1)).bind AV.asSl).bind fun l39 =>
 newK h37 (.cells [.bool false,.int .i64 0,.int .i64 a5,.int .i64 a7,.int .i64 a15,.int .i64 0,.int .i64 0,.int .i64 n38,l39.v] T.kd6) fun h40r h40 =>
 (kcn Pg T.kd6 ((⟨some h40r,1,.is 1⟩:Sl).v) h40).bind fun p42 =>
 (kbb Pg a3 p42.1 p42.2 T.kd6 9 h40).bind fun q41 =>
 (AV.asSl q41.1).bind fun l43 =>
 ((q41.2.cell (h25r.add 0)).bind (AV.asInt .i64)).bind fun n44 =>
 ((q41.2.cell (h25r.add 1)).bind AV.asSl).bind fun l45 =>
 (go (.fn F.kfs [a1.v,.agg [.int .i64 n44,l45.v]]) q41.2).bind fun q46 =>
 (AV.asAgg q46.1).bind fun cs47 =>
 cond (Nat.beq cs47.length 2) (
 ((cs47[0]?).bind (AV.asInt .i64)).bind fun n48 =>
 ((cs47[1]?).bind (AV.asInt .i64)).bind fun n49 =>
 newK q46.2 (.cells [.int .i64 n48,.int .i64 n49] T.kbe) fun h50r h50 =>
 (kcn Pg T.kbe ((⟨some h50r,1,.is 1⟩:Sl).v) h50).bind fun p52 =>
 (kbb Pg a4 p52.1 p52.2 T.kbe 2 h50).bind fun q51 =>
 (AV.asSl q51.1).bind fun l53 =>
 go (.pt F.kb8 Td.kkw [(1,a1.v),(5,.ptr (some a2)),(8,l43.v),(9,l53.v),(10,.int .i64 a5),(11,.ptr (some a6)),(12,.int .i64 a7),(17,a8.v),(18,.int .i64 a9),(19,.int .i64 a10),(25,a11.v),(26,.int .i64 a12),(27,.int .i64 a13),(33,.int .i64 a14),(34,.int .i64 (IntKind.wrap .i64 (a15+1)))]) q51.2) none) none) none) (
 go (.pt F.kb8 Td.ki5 [(1,a1.v),(5,.ptr (some a2)),(8,a3.v),(9,a4.v),(10,.int .i64 a5),(11,.ptr (some a6)),(17,a8.v),(18,.int .i64 a9),(19,.int .i64 a10),(25,a11.v),(26,.int .i64 a12),(27,.int .i64 (IntKind.wrap .i64 (a13+1)))]) h):=(kf _ h).trans (by kernel_rfl)
theorem kw9(a1:Sl)(h:AH):go (.fn F.kf2 [a1.v]) h =
 cond a1.ref.isNone (
 some ((⟨none,0,.is 0⟩:Sl).v,h)) (
 newK h (.cells [] T.kj) fun h2r h2 =>
 (kcn Pg T.kj a1.v h2).bind fun p4 =>
 (kbb Pg (⟨some h2r,0,.is 0⟩:Sl) p4.1 p4.2 T.kj 1 h2).bind fun q3 =>
 (AV.asSl q3.1).bind fun l5 =>
 some (l5.v,q3.2)):=(kf _ h).trans (by kernel_rfl)
theorem kw2(a1 a2:Sl)(h:AH):go (.pt F.kec Td.kmc [(0,a1.v),(1,a2.v)]) h =
 cond (decide ((a2.len:Int)>0)) (
 (go (.fn F.kf3 [a1.v,a2.v]) h).bind fun q3 =>
 (AV.asTup3 q3.1).bind fun p4 =>
 ((some p4.1).bind AV.asSl).bind fun l5 =>
 ((some p4.2.1).bind AV.asSl).bind fun l6 =>
 ((some p4.2.2).bind (AV.asInt .i64)).bind fun n7 =>
 go (.pt F.kec Td.kmc [(0,a2.v),(1,l6.v)]) q3.2) (
 some (.tup [a1.v,.int .i64 0],h)):=(kf _ h).trans (by kernel_rfl)
theorem k6d(a1:Sl)(h:AH):go (.fn F.ke7 [a1.v]) h =
 (go (.fn F.ktc [a1.v,.func (.func F.kdp) [] []]) h).bind fun q2 =>
 ((some q2.1).bind AV.asBool).bind fun b3 =>
 some (.bool (!b3),q2.2):=(kf _ h).trans (by kernel_rfl)
theorem kz2(a1 a2:Sl)(h:AH):go (.fn F.kd7 [a1.v,a2.v]) h =
 cond (!decide ((a1.len:Int)=(a2.len:Int))) (
 cond (decide ((a1.len:Int)<(a2.len:Int))) (
 some (.int .i64 (-1),h)) (
 some (.int .i64 1,h))) (
 go (.pt F.kd7 Td.kkv [(0,a1.v),(1,a2.v),(5,.int .i64 (IntKind.wrap .i64 ((a1.len:Int)-1)))]) h):=(kf _ h).trans (by kernel_rfl)
theorem k8x(a1:Sl)(a2:Int)(h:AH):go (.fn F.kej [a1.v,.int .u64 a2]) h =
 (kbv (a1.len:Int) (a1.len:Int) T.kj (Pg.bytesOf T.kj) [.int .u64 0] h).bind fun q3 =>
 go (.pt F.kej Td.kkl [(0,a1.v),(1,.int .u64 a2),(6,q3.1.v),(7,.int .u64 0),(8,.int .i64 (IntKind.wrap .i64 ((a1.len:Int)-1)))]) q3.2:=(kf _ h).trans (by kernel_rfl)
theorem k8q(a1 a2:Sl)(h:AH):go (.fn F.kb5 [a1.v,a2.v]) h =
 (idx a2.ref a2.len (IntKind.wrap .i64 ((a2.len:Int)-1)) 1).bind fun r3 =>
 ((h.cell r3).bind (AV.asInt .u64)).bind fun n4 =>
 (go (.fn F.kmo [.int .u64 n4]) h).bind fun q5 =>
 ((some q5.1).bind (AV.asInt .i64)).bind fun n6 =>
 (go (.fn F.keb [a1.v,.int .u64 (IntKind.wrap .u64 n6)]) q5.2).bind fun q7 =>
 ((some q7.1).bind AV.asSl).bind fun l8 =>
 (go (.fn F.keb [a2.v,.int .u64 (IntKind.wrap .u64 n6)]) q7.2).bind fun q9 =>
 ((some q9.1).bind AV.asSl).bind fun l10 =>
 (go (.fn F.kbq [l10.v]) q9.2).bind fun q11 =>
 ((some q11.1).bind AV.asSl).bind fun l12 =>
 (kbv (IntKind.wrap .i64 ((l8.len:Int)-(l12.len:Int))) (IntKind.wrap .i64 ((l8.len:Int)-(l12.len:Int))) T.kj (Pg.bytesOf T.kj) [.int .u64 0] q11.2).bind fun q13 =>
 go (.pt F.kb5 Td.km8 [(6,.int .u64 (IntKind.wrap .u64 n6)),(7,l8.v),(8,l12.v),(9,.int .i64 (l12.len:Int)),(10,q13.1.v),(11,.int .i64 (IntKind.wrap .i64 ((q13.1.len:Int)-1)))]) q13.2:=(kf _ h).trans (by kernel_rfl)
theorem k8h(a1 a2 a3 a4:Int)(h:AH):go (.fn F.kqq [.agg [.int .i64 a1,.int .i64 a2],.agg [.int .i64 a3,.int .i64 a4]]) h =
 newK h (.cells [.int .i64 a1,.int .i64 a2] T.kbe) fun h5r h5 =>
 newK h5 (.cells [.int .i64 a3,.int .i64 a4] T.kbe) fun h6r h6 =>
 newK h6 (.cells [.int .i64 0,.int .i64 0] T.kbe) fun h7r h7 =>
 ((h7.cell (h5r.add 0)).bind (AV.asInt .i64)).bind fun n8 =>
 ((h7.cell (h5r.add 1)).bind (AV.asInt .i64)).bind fun n9 =>
 (go (.fn F.kgo [.agg [.int .i64 n8,.int .i64 n9]]) h7).bind fun q10 =>
 ((some q10.1).bind AV.asBool).bind fun b11 =>
 cond (!b11) (
 (q10.2.puts h7r [.int .i64 0,.int .i64 0]).bind fun h12 =>
 ((h12.cell (h7r.add 0)).bind (AV.asInt .i64)).bind fun n13 =>
 ((h12.cell (h7r.add 1)).bind (AV.asInt .i64)).bind fun n14 =>
 some (.tup [.agg [.int .i64 n13,.int .i64 n14],.bool false],h12)) (
 ((q10.2.cell (h6r.add 0)).bind (AV.asInt .i64)).bind fun n15 =>
 ((q10.2.cell (h6r.add 1)).bind (AV.asInt .i64)).bind fun n16 =>
 (go (.fn F.kgo [.agg [.int .i64 n15,.int .i64 n16]]) q10.2).bind fun q17 =>
 ((some q17.1).bind AV.asBool).bind fun b18 =>
 cond (!b18) (
 (q17.2.puts h7r [.int .i64 0,.int .i64 0]).bind fun h19 =>
 ((h19.cell (h7r.add 0)).bind (AV.asInt .i64)).bind fun n20 =>
 ((h19.cell (h7r.add 1)).bind (AV.asInt .i64)).bind fun n21 =>
 some (.tup [.agg [.int .i64 n20,.int .i64 n21],.bool false],h19)) (
 ((q17.2.cell (h6r.add 0)).bind (AV.asInt .i64)).bind fun n22 =>
 ((q17.2.cell (h5r.add 0)).bind (AV.asInt .i64)).bind fun n23 =>
 ((q17.2.cell (h6r.add 1)).bind (AV.asInt .i64)).bind fun n24 =>
 ((q17.2.cell (h5r.add 1)).bind (AV.asInt .i64)).bind fun n25 =>
 newK q17.2 (.cells [.int .i64 0,.int .i64 0] T.kbe) fun h26r h26 =>
 (h26.puts h26r [.int .i64 (IntKind.wrap .i64 (n22-n23)),.int .i64 (IntKind.wrap .i64 (n24-n25))]).bind fun h27 =>
 ((h27.cell (h26r.add 0)).bind (AV.asInt .i64)).bind fun n28 =>
 ((h27.cell (h26r.add 1)).bind (AV.asInt .i64)).bind fun n29 =>
 ((h27.cell (h26r.add 0)).bind (AV.asInt .i64)).bind fun n30 =>
 ((h27.cell (h26r.add 1)).bind (AV.asInt .i64)).bind fun n31 =>
 (go (.fn F.kgo [.agg [.int .i64 n30,.int .i64 n31]]) h27).bind fun q32 =>
 ((some q32.1).bind AV.asBool).bind fun b33 =>
 whenK (SameAt h27 q32.2 h26r 2) (
 (q32.2.puts h7r [.int .i64 n28,.int .i64 n29]).bind fun h34 =>
 ((h34.cell (h7r.add 0)).bind (AV.asInt .i64)).bind fun n35 =>
 ((h34.cell (h7r.add 1)).bind (AV.asInt .i64)).bind fun n36 =>
 some (.tup [.agg [.int .i64 n35,.int .i64 n36],.bool b33],h34)))):=(kf _ h).trans (by kernel_rfl)
theorem kpj(a1 a2:Int)(a3:Ref)(h:AH):go (.fn F.kni [.agg [.int .i64 a1,.int .i64 a2],.ptr (some a3)]) h =
 newK h (.cells [.int .i64 a1,.int .i64 a2] T.kbe) fun h4r h4 =>
 newK h4 (.cells [.bool false,(⟨none,0,.is 0⟩:Sl).v,(⟨none,0,.is 0⟩:Sl).v] T.ky) fun h5r h5 =>
 ((h5.cell a3).bind (AV.asInt .i64)).bind fun n6 =>
 ((h5.cell (h4r.add 0)).bind (AV.asInt .i64)).bind fun n7 =>
 ((h5.cell (h4r.add 1)).bind (AV.asInt .i64)).bind fun n8 =>
 (go (.fn F.kkn [.int .i64 n6,.agg [.int .i64 n7,.int .i64 n8]]) h5).bind fun q9 =>
 (AV.asTup2 q9.1).bind fun p10 =>
 (AV.asAgg p10.1).bind fun cs11 =>
 cond (Nat.beq cs11.length 3) (
 ((cs11[0]?).bind AV.asBool).bind fun b12 =>
 ((cs11[1]?).bind AV.asSl).bind fun l13 =>
 ((cs11[2]?).bind AV.asSl).bind fun l14 =>
 ((some p10.2).bind (AV.asInt .i64)).bind fun n15 =>
 newK q9.2 (.cells [.bool false,(⟨none,0,.is 0⟩:Sl).v,(⟨none,0,.is 0⟩:Sl).v] T.ky) fun h16r h16 =>
 (h16.puts h16r [.bool b12,l13.v,l14.v]).bind fun h17 =>
 ((h17.cell (h16r.add 0)).bind AV.asBool).bind fun b18 =>
 ((h17.cell (h16r.add 1)).bind AV.asSl).bind fun l19 =>
 ((h17.cell (h16r.add 2)).bind AV.asSl).bind fun l20 =>
 (h17.puts h5r [.bool b18,l19.v,l20.v]).bind fun h21 =>
 ((h21.cell (h5r.add 0)).bind AV.asBool).bind fun b22 =>
 ((h21.cell (h5r.add 1)).bind AV.asSl).bind fun l23 =>
 ((h21.cell (h5r.add 2)).bind AV.asSl).bind fun l24 =>
 some (.agg [.bool b22,l23.v,l24.v],h21)) none:=(kf _ h).trans (by kernel_rfl)
theorem kxt(a1:Bool)(a2 a3:Sl)(a4:Bool)(a5 a6:Sl)(h:AH):go (.fn F.kls [.agg [.bool a1,a2.v,a3.v],.agg [.bool a4,a5.v,a6.v]]) h =
 newK h (.cells [.bool a1,a2.v,a3.v] T.ky) fun h7r h7 =>
 newK h7 (.cells [.bool a4,a5.v,a6.v] T.ky) fun h8r h8 =>
 newK h8 (.cells [.bool false,(⟨none,0,.is 0⟩:Sl).v,(⟨none,0,.is 0⟩:Sl).v] T.ky) fun h9r h9 =>
 ((h9.cell (h7r.add 0)).bind AV.asBool).bind fun b10 =>
 ((h9.cell (h7r.add 1)).bind AV.asSl).bind fun l11 =>
 ((h9.cell (h7r.add 2)).bind AV.asSl).bind fun l12 =>
 ((h9.cell (h8r.add 0)).bind AV.asBool).bind fun b13 =>
 ((h9.cell (h8r.add 1)).bind AV.asSl).bind fun l14 =>
 ((h9.cell (h8r.add 2)).bind AV.asSl).bind fun l15 =>
 (go (.fn F.khh [.agg [.bool b10,l11.v,l12.v],.agg [.bool b13,l14.v,l15.v],.func (.func F.kgy) [] []]) h9).bind fun q16 =>
 (AV.asTup2 q16.1).bind fun p17 =>
 (AV.asAgg p17.1).bind fun cs18 =>
 cond (Nat.beq cs18.length 3) (
 ((cs18[0]?).bind AV.asBool).bind fun b19 =>
 ((cs18[1]?).bind AV.asSl).bind fun l20 =>
 ((cs18[2]?).bind AV.asSl).bind fun l21 =>
 ((some p17.2).bind (AV.asInt .i64)).bind fun n22 =>
 (q16.2.puts h9r [.bool b19,l20.v,l21.v]).bind fun h23 =>
 ((h23.cell (h9r.add 0)).bind AV.asBool).bind fun b24 =>
 ((h23.cell (h9r.add 1)).bind AV.asSl).bind fun l25 =>
 ((h23.cell (h9r.add 2)).bind AV.asSl).bind fun l26 =>
 some (.tup [.agg [.bool b24,l25.v,l26.v],.int .i64 n22],h23)) none:=(kf _ h).trans (by kernel_rfl)
theorem kyi(a1:Bool)(a2 a3:Sl)(a4:Bool)(a5 a6:Sl)(h:AH):go (.fn F.kms [.agg [.bool a1,a2.v,a3.v],.agg [.bool a4,a5.v,a6.v]]) h =
 newK h (.cells [.bool a1,a2.v,a3.v] T.ky) fun h7r h7 =>
 newK h7 (.cells [.bool a4,a5.v,a6.v] T.ky) fun h8r h8 =>
 newK h8 (.cells [.bool false,(⟨none,0,.is 0⟩:Sl).v,(⟨none,0,.is 0⟩:Sl).v] T.ky) fun h9r h9 =>
 ((h9.cell (h7r.add 0)).bind AV.asBool).bind fun b10 =>
 ((h9.cell (h7r.add 1)).bind AV.asSl).bind fun l11 =>
 ((h9.cell (h7r.add 2)).bind AV.asSl).bind fun l12 =>
 ((h9.cell (h8r.add 0)).bind AV.asBool).bind fun b13 =>
 ((h9.cell (h8r.add 1)).bind AV.asSl).bind fun l14 =>
 ((h9.cell (h8r.add 2)).bind AV.asSl).bind fun l15 =>
 (go (.fn F.khh [.agg [.bool b10,l11.v,l12.v],.agg [.bool b13,l14.v,l15.v],.func (.func F.khg) [] []]) h9).bind fun q16 =>
 (AV.asTup2 q16.1).bind fun p17 =>
 (AV.asAgg p17.1).bind fun cs18 =>
 cond (Nat.beq cs18.length 3) (
 ((cs18[0]?).bind AV.asBool).bind fun b19 =>
 ((cs18[1]?).bind AV.asSl).bind fun l20 =>
 ((cs18[2]?).bind AV.asSl).bind fun l21 =>
 ((some p17.2).bind (AV.asInt .i64)).bind fun n22 =>
 (q16.2.puts h9r [.bool b19,l20.v,l21.v]).bind fun h23 =>
 ((h23.cell (h9r.add 0)).bind AV.asBool).bind fun b24 =>
 ((h23.cell (h9r.add 1)).bind AV.asSl).bind fun l25 =>
 ((h23.cell (h9r.add 2)).bind AV.asSl).bind fun l26 =>
 some (.tup [.agg [.bool b24,l25.v,l26.v],.int .i64 n22],h23)) none:=(kf _ h).trans (by kernel_rfl)
theorem k2n(a1:Bool)(a2 a3:Sl)(a4:Bool)(a5 a6:Sl)(h:AH):go (.fn F.knw [.agg [.bool a1,a2.v,a3.v],.agg [.bool a4,a5.v,a6.v]]) h =
 newK h (.cells [.bool a1,a2.v,a3.v] T.ky) fun h7r h7 =>
 newK h7 (.cells [.bool a4,a5.v,a6.v] T.ky) fun h8r h8 =>
 ((h8.cell (h7r.add 0)).bind AV.asBool).bind fun b9 =>
 ((h8.cell (h7r.add 1)).bind AV.asSl).bind fun l10 =>
 ((h8.cell (h7r.add 2)).bind AV.asSl).bind fun l11 =>
 ((h8.cell (h8r.add 0)).bind AV.asBool).bind fun b12 =>
 ((h8.cell (h8r.add 1)).bind AV.asSl).bind fun l13 =>
 ((h8.cell (h8r.add 2)).bind AV.asSl).bind fun l14 =>
 newK h8 (.cells [.bool b9,l10.v,l11.v,.bool b12,l13.v,l14.v] T.ky) fun h15r h15 =>
 (go (.fn F.kib [(⟨some h15r,2,.is 2⟩:Sl).v]) h15).bind fun q16 =>
 ((some q16.1).bind AV.asBool).bind fun b17 =>
 cond (!b17) (
 some (.int .i64 0,q16.2)) (
 ((q16.2.cell (h7r.add 0)).bind AV.asBool).bind fun b18 =>
 ((q16.2.cell (h7r.add 1)).bind AV.asSl).bind fun l19 =>
 ((q16.2.cell (h7r.add 2)).bind AV.asSl).bind fun l20 =>
 ((q16.2.cell (h8r.add 0)).bind AV.asBool).bind fun b21 =>
 ((q16.2.cell (h8r.add 1)).bind AV.asSl).bind fun l22 =>
 ((q16.2.cell (h8r.add 2)).bind AV.asSl).bind fun l23 =>
 ((q16.2.cell (h8r.add 0)).bind AV.asBool).bind fun b24 =>
 ((q16.2.cell (h8r.add 1)).bind AV.asSl).bind fun l25 =>
 ((q16.2.cell (h8r.add 2)).bind AV.asSl).bind fun l26 =>
 ((q16.2.cell (h7r.add 0)).bind AV.asBool).bind fun b27 =>
 ((q16.2.cell (h7r.add 1)).bind AV.asSl).bind fun l28 =>
 ((q16.2.cell (h7r.add 2)).bind AV.asSl).bind fun l29 =>
 (go (.fn F.kfm [.agg [.bool b18,l19.v,l20.v],.agg [.bool b21,l22.v,l23.v]]) q16.2).bind fun q30 =>
 (AV.asAgg q30.1).bind fun cs31 =>
 cond (Nat.beq cs31.length 2) (
 ((cs31[0]?).bind AV.asBool).bind fun b32 =>
 ((cs31[1]?).bind AV.asSl).bind fun l33 =>
 whenK (SameAt q16.2 q30.2 h7r 3) (
 whenK (SameAt q16.2 q30.2 h8r 3) (
 (go (.fn F.kfm [.agg [.bool b24,l25.v,l26.v],.agg [.bool b27,l28.v,l29.v]]) q30.2).bind fun q34 =>
 (AV.asAgg q34.1).bind fun cs35 =>
 cond (Nat.beq cs35.length 2) (
 ((cs35[0]?).bind AV.asBool).bind fun b36 =>
 ((cs35[1]?).bind AV.asSl).bind fun l37 =>
 (go (.fn F.kp3 [.agg [.bool b32,l33.v],.agg [.bool b36,l37.v]]) q34.2).bind fun q38 =>
 ((some q38.1).bind (AV.asInt .i64)).bind fun n39 =>
 some (.int .i64 n39,q38.2)) none))) none):=(kf _ h).trans (by kernel_rfl)
theorem k5j(a1:Bool)(a2:Sl)(a3:Bool)(a4:Sl)(h:AH):go (.fn F.ki3 [.agg [.bool a1,a2.v],.agg [.bool a3,a4.v]]) h =
 newK h (.cells [.bool a1,a2.v] T.ki) fun h5r h5 =>
 newK h5 (.cells [.bool a3,a4.v] T.ki) fun h6r h6 =>
 newK h6 (.cells [.bool false,(⟨none,0,.is 0⟩:Sl).v] T.ki) fun h7r h7 =>
 ((h7.cell (h5r.add 0)).bind AV.asBool).bind fun b8 =>
 ((h7.cell (h5r.add 1)).bind AV.asSl).bind fun l9 =>
 ((h7.cell (h6r.add 0)).bind AV.asBool).bind fun b10 =>
 ((h7.cell (h6r.add 1)).bind AV.asSl).bind fun l11 =>
 newK h7 (.cells [.bool b8,l9.v,.bool b10,l11.v] T.ki) fun h12r h12 =>
 (go (.fn F.kfr [(⟨some h12r,2,.is 2⟩:Sl).v]) h12).bind fun q13 =>
 ((some q13.1).bind AV.asBool).bind fun b14 =>
 cond (!b14) (
 (q13.2.puts h7r [.bool false,(⟨none,0,.is 0⟩:Sl).v]).bind fun h15 =>
 ((h15.cell (h7r.add 0)).bind AV.asBool).bind fun b16 =>
 ((h15.cell (h7r.add 1)).bind AV.asSl).bind fun l17 =>
 some (.tup [.agg [.bool b16,l17.v],.int .i64 1],h15)) (
 ((q13.2.cell (h5r.add 1)).bind AV.asSl).bind fun l18 =>
 ((q13.2.cell (h6r.add 1)).bind AV.asSl).bind fun l19 =>
 (go (.fn F.kjn [l18.v,l19.v]) q13.2).bind fun q20 =>
 (AV.asTup2 q20.1).bind fun p21 =>
 ((some p21.1).bind AV.asSl).bind fun l22 =>
 ((some p21.2).bind (AV.asInt .i64)).bind fun n23 =>
 ((q20.2.cell (h5r.add 0)).bind AV.asBool).bind fun b24 =>
 ((q20.2.cell (h6r.add 0)).bind AV.asBool).bind fun b25 =>
 (go (.fn F.kb2 [.bool (!(b24==b25)),l22.v]) q20.2).bind fun q26 =>
 (AV.asAgg q26.1).bind fun cs27 =>
 cond (Nat.beq cs27.length 2) (
 ((cs27[0]?).bind AV.asBool).bind fun b28 =>
 ((cs27[1]?).bind AV.asSl).bind fun l29 =>
 (q26.2.puts h7r [.bool b28,l29.v]).bind fun h30 =>
 ((h30.cell (h7r.add 0)).bind AV.asBool).bind fun b31 =>
 ((h30.cell (h7r.add 1)).bind AV.asSl).bind fun l32 =>
 some (.tup [.agg [.bool b31,l32.v],.int .i64 n23],h30)) none):=(kf _ h).trans (by kernel_rfl)
theorem k7y(a1:Sl)(h:AH):go (.fn F.kfr [a1.v]) h =
 (go (.fn F.kvj [a1.v,.func (.func F.kdu) [] []]) h).bind fun q2 =>
 ((some q2.1).bind AV.asBool).bind fun b3 =>
 some (.bool (!b3),q2.2):=(kf _ h).trans (by kernel_rfl)
theorem kxd(a1 a2:Sl)(h:AH):go (.fn F.kk2 [a1.v,a2.v]) h =
 newK h (.cells [a1.v,a2.v] T.kcg) fun h3r h3 =>
 (go (.fn F.ke7 [(⟨some h3r,2,.is 2⟩:Sl).v]) h3).bind fun q4 =>
 ((some q4.1).bind AV.asBool).bind fun b5 =>
 cond (!b5) (
 some (.tup [(⟨none,0,.is 0⟩:Sl).v,.int .i64 1],q4.2)) (
 (go (.fn F.kc4 [a1.v,a2.v]) q4.2).bind fun q6 =>
 ((some q6.1).bind AV.asSl).bind fun l7 =>
 (go (.fn F.kkc [l7.v]) q6.2).bind fun q8 =>
 (AV.asTup2 q8.1).bind fun p9 =>
 ((some p9.1).bind AV.asSl).bind fun l10 =>
 ((some p9.2).bind (AV.asInt .i64)).bind fun n11 =>
 some (.tup [l10.v,.int .i64 n11],q8.2)):=(kf _ h).trans (by kernel_rfl)
theorem k93(a1 a2:Sl)(h:AH):go (.fn F.kkf [a1.v,a2.v]) h =
 newK h (.cells [a1.v,a2.v] T.kcg) fun h3r h3 =>
 (go (.fn F.ke7 [(⟨some h3r,2,.is 2⟩:Sl).v]) h3).bind fun q4 =>
 ((some q4.1).bind AV.asBool).bind fun b5 =>
 cond (!b5) (
 some (.tup [(⟨none,0,.is 0⟩:Sl).v,.int .i64 1],q4.2)) (
 (go (.fn F.kd7 [a1.v,a2.v]) q4.2).bind fun q6 =>
 ((some q6.1).bind (AV.asInt .i64)).bind fun n7 =>
 cond (decide (n7<0)) (
 some (.tup [(⟨none,0,.is 0⟩:Sl).v,.int .i64 2],q6.2)) (
 (go (.fn F.kc3 [a1.v,a2.v]) q6.2).bind fun q8 =>
 ((some q8.1).bind AV.asSl).bind fun l9 =>
 (go (.fn F.kkc [l9.v]) q8.2).bind fun q10 =>
 (AV.asTup2 q10.1).bind fun p11 =>
 ((some p11.1).bind AV.asSl).bind fun l12 =>
 ((some p11.2).bind (AV.asInt .i64)).bind fun n13 =>
 some (.tup [l12.v,.int .i64 n13],q10.2))):=(kf _ h).trans (by kernel_rfl)
theorem kw0(a1:Sl)(h:AH):go (.fn F.koi [a1.v]) h =
 (go (.fn F.kd3 [a1.v]) h).bind fun q2 =>
 ((some q2.1).bind AV.asBool).bind fun b3 =>
 cond (!b3) (
 some (.tup [.int .u64 0,.bool false],q2.2)) (
 cond (decide ((a1.len:Int)>1)) (
 some (.tup [.int .u64 0,.bool false],q2.2)) (
 cond (decide ((a1.len:Int)=0)) (
 some (.tup [.int .u64 0,.bool true],q2.2)) (
 (idx a1.ref a1.len 0 1).bind fun r4 =>
 ((q2.2.cell r4).bind (AV.asInt .u64)).bind fun n5 =>
 some (.tup [.int .u64 n5,.bool true],q2.2)))):=(kf _ h).trans (by kernel_rfl)
theorem kwm(a1 a2 a3 a4:Ref)(a5 a6 a7:Int)(h:AH):go (.pt F.kcl Td.ke8 [(2,.func (.func F.kew) [] []),(3,.ptr (some a1)),(4,.ptr (some a2)),(6,.ptr (some a3)),(8,.ptr (some a4)),(9,.int .i64 a5),(35,.int .i64 a6),(36,.int .i64 a7)]) h =
 cond (decide (a7<a6)) (
 ((h.cell (a4.add 1)).bind AV.asSl).bind fun l8 =>
 ((h.cell (a1.add 1)).bind AV.asSl).bind fun l9 =>
 (idx l9.ref l9.len a7 1).bind fun r10 =>
 ((h.cell r10).bind (AV.asInt .u64)).bind fun n11 =>
 ((h.cell (a2.add 1)).bind AV.asSl).bind fun l12 =>
 (idx l12.ref l12.len a7 1).bind fun r13 =>
 ((h.cell r13).bind (AV.asInt .u64)).bind fun n14 =>
 (go (.fn F.kew [.int .u64 n11,.int .u64 n14]) h).bind fun q15 =>
 ((some q15.1).bind (AV.asInt .u64)).bind fun n16 =>
 whenK (SameAt h q15.2 (a4.add 1) 1) (
 (idx l8.ref l8.len a7 1).bind fun r17 =>
 (q15.2.puts r17 [.int .u64 n16]).bind fun h18 =>
 go (.pt F.kcl Td.ke8 [(2,.func (.func F.kew) [] []),(3,.ptr (some a1)),(4,.ptr (some a2)),(6,.ptr (some a3)),(8,.ptr (some a4)),(9,.int .i64 a5),(35,.int .i64 a6),(36,.int .i64 (IntKind.wrap .i64 (a7+1)))]) h18)) (
 ((h.cell (a4.add 0)).bind (AV.asInt .i64)).bind fun n19 =>
 ((h.cell (a4.add 1)).bind AV.asSl).bind fun l20 =>
 (h.puts a3 [.int .i64 n19,l20.v]).bind fun h21 =>
 ((h21.cell (a3.add 0)).bind (AV.asInt .i64)).bind fun n22 =>
 ((h21.cell (a3.add 1)).bind AV.asSl).bind fun l23 =>
 some (.tup [.agg [.int .i64 n22,l23.v],.int .i64 a5],h21)):=(kf _ h).trans (by kernel_rfl)
theorem k43(a1:Ref)(a2:Int)(h:AH):go (.pt F.kig Td.kn8 [(0,.iface T.kbp (.ptr (some a1))),(1,.int .i64 a2)]) h =
 cond (decide ((IntKind.wrap .i64 (Int.tdiv (IntKind.wrap .i64 (a2-1)) 2))=a2)) (
 some (.tup [],h)) (
 ((h.cell a1).bind AV.asSl).bind fun l3 =>
 (go (.fn F.kfe [l3.v,.int .i64 a2,.int .i64 (IntKind.wrap .i64 (Int.tdiv (IntKind.wrap .i64 (a2-1)) 2))]) h).bind fun q4 =>
 ((some q4.1).bind AV.asBool).bind fun b5 =>
 cond (!b5) (
 some (.tup [],q4.2)) (
 ((q4.2.cell a1).bind AV.asSl).bind fun l6 =>
 (go (.fn F.kfu [l6.v,.int .i64 (IntKind.wrap .i64 (Int.tdiv (IntKind.wrap .i64 (a2-1)) 2)),.int .i64 a2]) q4.2).bind fun q7 =>
 (AV.asTup0 q7.1).bind fun _ =>
 go (.pt F.kig Td.kn8 [(0,.iface T.kbp (.ptr (some a1))),(1,.int .i64 (IntKind.wrap .i64 (Int.tdiv (IntKind.wrap .i64 (a2-1)) 2)))]) q7.2)):=(kf _ h).trans (by kernel_rfl)
theorem k7s(a1:Sl)(a2:AV)(a3:Ref)(a4:Sl)(a5:AV)(h:AH):go (.pt F.kd2 Tr.kt2 [(0,a1.v),(1,a2),(2,.ptr (some a3)),(4,a4.v),(6,a5)]) h =
 funcK a5 fun g10 f11 c12 =>
 newM h (knn Fx.kn9 F.kd2 0 .ready none [(0,a1.v),(1,a2),(2,.ptr (some a3)),(4,a4.v),(6,a5)]) fun m6 h7 =>
 (callF Pg go g10 (f11++[.func (.yield m6) [] []]++c12) h7).bind fun q8 =>
 (kht m6 q8.2).bind fun p9 =>
 go (.pt F.kd2 ((p9.1.map Item.code).toList++Ta.krh) [(0,a1.v),(1,a2),(2,.ptr (some a3)),(4,a4.v),(6,a5)]) p9.2:=(kf _ h).trans (by kernel_rfl)
theorem k8g(a1 a2 a3:Sl)(a4 a5:Int)(h:AH):go (.fn F.kff [.agg [a1.v,a2.v,a3.v],.int .i64 a4,.int .i64 a5]) h =
 newK h (.cells [a1.v,a2.v,a3.v] T.kdc) fun h6r h6 =>
 newK h6 (.cells [.int .i64 0,(⟨none,0,.is 0⟩:Sl).v] T.kx) fun h7r h7 =>
 ((h7.cell (h6r.add 0)).bind AV.asSl).bind fun l8 =>
 ((h7.cell (h6r.add 1)).bind AV.asSl).bind fun l9 =>
 ((h7.cell (h6r.add 2)).bind AV.asSl).bind fun l10 =>
 (go (.fn F.kfl [.agg [l8.v,l9.v,l10.v]]) h7).bind fun q11 =>
 ((some q11.1).bind AV.asBool).bind fun b12 =>
 cond (!b12) (
 (q11.2.puts h7r [.int .i64 0,(⟨none,0,.is 0⟩:Sl).v]).bind fun h13 =>
 ((h13.cell (h7r.add 0)).bind (AV.asInt .i64)).bind fun n14 =>
 ((h13.cell (h7r.add 1)).bind AV.asSl).bind fun l15 =>
 some (.tup [.agg [.int .i64 n14,l15.v],.int .i64 20],h13)) (
 cond (decide (a4<0)) (
 (q11.2.puts h7r [.int .i64 0,(⟨none,0,.is 0⟩:Sl).v]).bind fun h16 =>
 ((h16.cell (h7r.add 0)).bind (AV.asInt .i64)).bind fun n17 =>
 ((h16.cell (h7r.add 1)).bind AV.asSl).bind fun l18 =>
 some (.tup [.agg [.int .i64 n17,l18.v],.int .i64 1],h16)) (
 ((q11.2.cell (h6r.add 2)).bind AV.asSl).bind fun l19 =>
 cond (decide (a4≥(l19.len:Int))) (
 (q11.2.puts h7r [.int .i64 0,(⟨none,0,.is 0⟩:Sl).v]).bind fun h20 =>
 ((h20.cell (h7r.add 0)).bind (AV.asInt .i64)).bind fun n21 =>
 ((h20.cell (h7r.add 1)).bind AV.asSl).bind fun l22 =>
 some (.tup [.agg [.int .i64 n21,l22.v],.int .i64 1],h20)) (
 cond (decide (a5<0)) (
 (q11.2.puts h7r [.int .i64 0,(⟨none,0,.is 0⟩:Sl).v]).bind fun h23 =>
 ((h23.cell (h7r.add 0)).bind (AV.asInt .i64)).bind fun n24 =>
 ((h23.cell (h7r.add 1)).bind AV.asSl).bind fun l25 =>
 some (.tup [.agg [.int .i64 n24,l25.v],.int .i64 1],h23)) (
 ((q11.2.cell (h6r.add 1)).bind AV.asSl).bind fun l26 =>
 (idx l26.ref l26.len a4 1).bind fun r27 =>
 ((q11.2.cell r27).bind (AV.asInt .i64)).bind fun n28 =>
 cond (decide (a5≥n28)) (
 (q11.2.puts h7r [.int .i64 0,(⟨none,0,.is 0⟩:Sl).v]).bind fun h29 =>
 ((h29.cell (h7r.add 0)).bind (AV.asInt .i64)).bind fun n30 =>
 ((h29.cell (h7r.add 1)).bind AV.asSl).bind fun l31 =>
 some (.tup [.agg [.int .i64 n30,l31.v],.int .i64 1],h29)) (
 ((q11.2.cell (h6r.add 2)).bind AV.asSl).bind fun l32 =>
 (idx l32.ref l32.len a4 1).bind fun r33 =>
 ((q11.2.cell r33).bind AV.asSl).bind fun l34 =>
 go (.pt F.kff Td.kj2 [(2,.int .i64 a5),(3,.ptr (some h6r)),(6,.ptr (some h7r)),(8,(⟨none,0,.is 0⟩:Sl).v),(44,l34.v),(45,.int .i64 (l34.len:Int)),(46,.int .i64 0)]) q11.2))))):=(kf _ h).trans (by kernel_rfl)
theorem ky5(a1:Int)(a2:Sl)(a3:Int)(a4:Sl)(h:AH):go (.fn F.koq [.agg [.int .i64 a1,a2.v],.agg [.int .i64 a3,a4.v]]) h =
 newK h (.cells [.int .i64 a1,a2.v] T.kx) fun h5r h5 =>
 newK h5 (.cells [.int .i64 a3,a4.v] T.kx) fun h6r h6 =>
 newK h6 (.cells [.int .i64 0,(⟨none,0,.is 0⟩:Sl).v] T.kx) fun h7r h7 =>
 ((h7.cell (h5r.add 0)).bind (AV.asInt .i64)).bind fun n8 =>
 ((h7.cell (h5r.add 1)).bind AV.asSl).bind fun l9 =>
 ((h7.cell (h6r.add 0)).bind (AV.asInt .i64)).bind fun n10 =>
 ((h7.cell (h6r.add 1)).bind AV.asSl).bind fun l11 =>
 (go (.fn F.kcl [.agg [.int .i64 n8,l9.v],.agg [.int .i64 n10,l11.v],.func (.func F.keo) [] []]) h7).bind fun q12 =>
 (AV.asTup2 q12.1).bind fun p13 =>
 (AV.asAgg p13.1).bind fun cs14 =>
 cond (Nat.beq cs14.length 2) (
 ((cs14[0]?).bind (AV.asInt .i64)).bind fun n15 =>
 ((cs14[1]?).bind AV.asSl).bind fun l16 =>
 ((some p13.2).bind (AV.asInt .i64)).bind fun n17 =>
 (q12.2.puts h7r [.int .i64 n15,l16.v]).bind fun h18 =>
 ((h18.cell (h7r.add 0)).bind (AV.asInt .i64)).bind fun n19 =>
 ((h18.cell (h7r.add 1)).bind AV.asSl).bind fun l20 =>
 some (.tup [.agg [.int .i64 n19,l20.v],.int .i64 n17],h18)) none:=(kf _ h).trans (by kernel_rfl)
theorem k7e(a1:Sl)(h:AH):go (.fn F.ktc [a1.v,.func (.func F.kdp) [] []]) h =
 (go (.fn F.kie [a1.v,.func (.func F.kdp) [] []]) h).bind fun q2 =>
 ((some q2.1).bind (AV.asInt .i64)).bind fun n3 =>
 some (.bool (decide (n3≥0)),q2.2):=(kf _ h).trans (by kernel_rfl)
theorem kv9(a1 a2:Sl)(a3:Int)(h:AH):go (.pt F.kd7 Td.kkv [(0,a1.v),(1,a2.v),(5,.int .i64 a3)]) h =
 cond (decide (a3≥0)) (
 (idx a1.ref a1.len a3 1).bind fun r4 =>
 ((h.cell r4).bind (AV.asInt .u64)).bind fun n5 =>
 (idx a2.ref a2.len a3 1).bind fun r6 =>
 ((h.cell r6).bind (AV.asInt .u64)).bind fun n7 =>
 cond (!decide (n5=n7)) (
 (idx a1.ref a1.len a3 1).bind fun r8 =>
 ((h.cell r8).bind (AV.asInt .u64)).bind fun n9 =>
 (idx a2.ref a2.len a3 1).bind fun r10 =>
 ((h.cell r10).bind (AV.asInt .u64)).bind fun n11 =>
 cond (decide (n9<n11)) (
 some (.int .i64 (-1),h)) (
 some (.int .i64 1,h))) (
 go (.pt F.kd7 Td.kkv [(0,a1.v),(1,a2.v),(5,.int .i64 (IntKind.wrap .i64 (a3-1)))]) h)) (
 some (.int .i64 0,h)):=(kf _ h).trans (by kernel_rfl)
theorem k0n(a1:Sl)(a2:Int)(a3:Sl)(a4 a5:Int)(h:AH):go (.pt F.kej Td.kkl [(0,a1.v),(1,.int .u64 a2),(6,a3.v),(7,.int .u64 a4),(8,.int .i64 a5)]) h =
 cond (decide (a5≥0)) (
 (idx a1.ref a1.len a5 1).bind fun r6 =>
 ((h.cell r6).bind (AV.asInt .u64)).bind fun n7 =>
 (go (.fn F.kbu [.int .u64 a4,.int .u64 n7,.int .u64 a2]) h).bind fun q8 =>
 (AV.asTup2 q8.1).bind fun p9 =>
 ((some p9.1).bind (AV.asInt .u64)).bind fun n10 =>
 ((some p9.2).bind (AV.asInt .u64)).bind fun n11 =>
 (idx a3.ref a3.len a5 1).bind fun r12 =>
 (q8.2.puts r12 [.int .u64 n10]).bind fun h13 =>
 go (.pt F.kej Td.kkl [(0,a1.v),(1,.int .u64 a2),(6,a3.v),(7,.int .u64 n11),(8,.int .i64 (IntKind.wrap .i64 (a5-1)))]) h13) (
 (go (.fn F.kbq [a3.v]) h).bind fun q14 =>
 ((some q14.1).bind AV.asSl).bind fun l15 =>
 some (.tup [l15.v,.int .u64 a4],q14.2)):=(kf _ h).trans (by kernel_rfl)
theorem k9p(a1:Int)(h:AH):go (.fn F.kmo [.int .u64 a1]) h =
 (go (.fn F.kl4 [.int .u64 a1]) h).bind fun q2 =>
 ((some q2.1).bind (AV.asInt .i64)).bind fun n3 =>
 some (.int .i64 (IntKind.wrap .i64 (64-n3)),q2.2):=(kf _ h).trans (by kernel_rfl)
theorem k0d(a1:Sl)(a2:Int)(h:AH):go (.fn F.keb [a1.v,.int .u64 a2]) h =
 (kbv (IntKind.wrap .i64 ((a1.len:Int)+1)) (IntKind.wrap .i64 ((a1.len:Int)+1)) T.kj (Pg.bytesOf T.kj) [.int .u64 0] h).bind fun q3 =>
 go (.pt F.keb Td.kj0 [(1,.int .u64 a2),(5,q3.1.v),(12,a1.v),(13,.int .i64 (a1.len:Int)),(14,.int .i64 0)]) q3.2:=(kf _ h).trans (by kernel_rfl)
theorem k1g(a1:Int)(a2 a3:Sl)(a4:Int)(a5:Sl)(a6:Int)(h:AH):go (.pt F.kb5 Td.km8 [(6,.int .u64 a1),(7,a2.v),(8,a3.v),(9,.int .i64 a4),(10,a5.v),(11,.int .i64 a6)]) h =
 cond (decide (a6≥0)) (
 (idx a2.ref a2.len (IntKind.wrap .i64 (a6+a4)) 1).bind fun r7 =>
 ((h.cell r7).bind (AV.asInt .u64)).bind fun n8 =>
 (idx a2.ref a2.len (IntKind.wrap .i64 ((IntKind.wrap .i64 (a6+a4))-1)) 1).bind fun r9 =>
 ((h.cell r9).bind (AV.asInt .u64)).bind fun n10 =>
 (idx a2.ref a2.len (IntKind.wrap .i64 ((IntKind.wrap .i64 (a6+a4))-2)) 1).bind fun r11 =>
 ((h.cell r11).bind (AV.asInt .u64)).bind fun n12 =>
 (idx a3.ref a3.len (IntKind.wrap .i64 (a4-1)) 1).bind fun r13 =>
 ((h.cell r13).bind (AV.asInt .u64)).bind fun n14 =>
 (idx a3.ref a3.len (IntKind.wrap .i64 (a4-2)) 1).bind fun r15 =>
 ((h.cell r15).bind (AV.asInt .u64)).bind fun n16 =>
 (go (.fn F.kem [.int .u64 n8,.int .u64 n10,.int .u64 n12,.int .u64 n14,.int .u64 n16]) h).bind fun q17 =>
 ((some q17.1).bind (AV.asInt .u64)).bind fun n18 =>
 (cutSl a2 a6 (IntKind.wrap .i64 ((IntKind.wrap .i64 (a6+a4))+1)) 1).bind fun l19 =>
 go (.pt F.kb5 Td.kly [(6,.int .u64 a1),(7,a2.v),(8,a3.v),(9,.int .i64 a4),(10,a5.v),(11,.int .i64 a6),(12,.int .u64 n18),(13,l19.v)]) q17.2) (
 (go (.fn F.kbq [a2.v]) h).bind fun q20 =>
 ((some q20.1).bind AV.asSl).bind fun l21 =>
 (kbv (l21.len:Int) (l21.len:Int) T.kj (Pg.bytesOf T.kj) [.int .u64 0] q20.2).bind fun q22 =>
 go (.pt F.kb5 Td.khy [(6,.int .u64 a1),(10,a5.v),(15,l21.v),(16,q22.1.v),(112,.int .i64 (l21.len:Int)),(113,.int .i64 0)]) q22.2):=(kf _ h).trans (by kernel_rfl)
theorem kba8(a1 a2 a3:Int)(h:AH):go (.fn F.kkn [.int .i64 a1,.agg [.int .i64 a2,.int .i64 a3]]) h =
 newK h (.cells [.int .i64 a2,.int .i64 a3] T.kbe) fun h4r h4 =>
 newK h4 (.cells [.bool false,(⟨none,0,.is 0⟩:Sl).v,(⟨none,0,.is 0⟩:Sl).v] T.ky) fun h5r h5 =>
 ((h5.cell (h4r.add 0)).bind (AV.asInt .i64)).bind fun n6 =>
 ((h5.cell (h4r.add 1)).bind (AV.asInt .i64)).bind fun n7 =>
 (go (.fn F.kgo [.agg [.int .i64 n6,.int .i64 n7]]) h5).bind fun q8 =>
 ((some q8.1).bind AV.asBool).bind fun b9 =>
 cond (!b9) (
 (q8.2.puts h5r [.bool false,(⟨none,0,.is 0⟩:Sl).v,(⟨none,0,.is 0⟩:Sl).v]).bind fun h10 =>
 ((h10.cell (h5r.add 0)).bind AV.asBool).bind fun b11 =>
 ((h10.cell (h5r.add 1)).bind AV.asSl).bind fun l12 =>
 ((h10.cell (h5r.add 2)).bind AV.asSl).bind fun l13 =>
 some (.tup [.agg [.bool b11,l12.v,l13.v],.int .i64 1],h10)) (
 (go (.fn F.ki1 [.int .i64 a1]) q8.2).bind fun q14 =>
 ((some q14.1).bind AV.asBool).bind fun b15 =>
 cond (!b15) (
 (q14.2.puts h5r [.bool false,(⟨none,0,.is 0⟩:Sl).v,(⟨none,0,.is 0⟩:Sl).v]).bind fun h16 =>
 ((h16.cell (h5r.add 0)).bind AV.asBool).bind fun b17 =>
 ((h16.cell (h5r.add 1)).bind AV.asSl).bind fun l18 =>
 ((h16.cell (h5r.add 2)).bind AV.asSl).bind fun l19 =>
 some (.tup [.agg [.bool b17,l18.v,l19.v],.int .i64 1],h16)) (
 ((q14.2.cell (h4r.add 0)).bind (AV.asInt .i64)).bind fun n20 =>
 (go (.fn F.kg4 [.int .i64 n20]) q14.2).bind fun q21 =>
 (AV.asAgg q21.1).bind fun cs22 =>
 cond (Nat.beq cs22.length 2) (
 ((cs22[0]?).bind AV.asBool).bind fun b23 =>
 ((cs22[1]?).bind AV.asSl).bind fun l24 =>
 newK q21.2 (.cells [.bool false,(⟨none,0,.is 0⟩:Sl).v] T.ki) fun h25r h25 =>
 (h25.puts h25r [.bool b23,l24.v]).bind fun h26 =>
 ((h26.cell (h25r.add 0)).bind AV.asBool).bind fun b27 =>
 ((h26.cell (h25r.add 1)).bind AV.asSl).bind fun l28 =>
 ((h26.cell (h25r.add 0)).bind AV.asBool).bind fun b29 =>
 ((h26.cell (h25r.add 1)).bind AV.asSl).bind fun l30 =>
 (go (.fn F.ki3 [.agg [.bool b27,l28.v],.agg [.bool b29,l30.v]]) h26).bind fun q31 =>
 (AV.asTup2 q31.1).bind fun p32 =>
 (AV.asAgg p32.1).bind fun cs33 =>
 cond (Nat.beq cs33.length 2) (
 ((cs33[0]?).bind AV.asBool).bind fun b34 =>
 ((cs33[1]?).bind AV.asSl).bind fun l35 =>
 ((some p32.2).bind (AV.asInt .i64)).bind fun n36 =>
 newK q31.2 (.cells [.bool false,(⟨none,0,.is 0⟩:Sl).v] T.ki) fun h37r h37 =>
 (h37.puts h37r [.bool b34,l35.v]).bind fun h38 =>
 ((h38.cell (h37r.add 0)).bind AV.asBool).bind fun b39 =>
 ((h38.cell (h37r.add 1)).bind AV.asSl).bind fun l40 =>
 ((h38.cell (h4r.add 1)).bind (AV.asInt .i64)).bind fun n41 =>
 (go (.fn F.kea [.int .u64 (IntKind.wrap .u64 (IntKind.wrap .i64 (n41+a1)))]) h38).bind fun q42 =>
 ((some q42.1).bind AV.asSl).bind fun l43 =>
 whenK (SameAt h38 q42.2 h37r 2) (
 (go (.fn F.kh3 [.agg [.bool b39,l40.v],l43.v]) q42.2).bind fun q44 =>
 (AV.asTup2 q44.1).bind fun p45 =>
 (AV.asAgg p45.1).bind fun cs46 =>
 cond (Nat.beq cs46.length 3) (
 ((cs46[0]?).bind AV.asBool).bind fun b47 =>
 ((cs46[1]?).bind AV.asSl).bind fun l48 =>
 ((cs46[2]?).bind AV.asSl).bind fun l49 =>
 ((some p45.2).bind (AV.asInt .i64)).bind fun n50 =>
 (q44.2.puts h5r [.bool b47,l48.v,l49.v]).bind fun h51 =>
 ((h51.cell (h5r.add 0)).bind AV.asBool).bind fun b52 =>
 ((h51.cell (h5r.add 1)).bind AV.asSl).bind fun l53 =>
 ((h51.cell (h5r.add 2)).bind AV.asSl).bind fun l54 =>
 some (.tup [.agg [.bool b52,l53.v,l54.v],.int .i64 n50],h51)) none)) none) none)):=(kf _ h).trans (by kernel_rfl)
theorem k59(a1:Bool)(a2 a3:Sl)(a4:Bool)(a5 a6:Sl)(h:AH):go (.fn F.khh [.agg [.bool a1,a2.v,a3.v],.agg [.bool a4,a5.v,a6.v],.func (.func F.kgy) [] []]) h =
 newK h (.cells [.bool a1,a2.v,a3.v] T.ky) fun h7r h7 =>
 newK h7 (.cells [.bool a4,a5.v,a6.v] T.ky) fun h8r h8 =>
 newK h8 (.cells [.bool false,(⟨none,0,.is 0⟩:Sl).v,(⟨none,0,.is 0⟩:Sl).v] T.ky) fun h9r h9 =>
 ((h9.cell (h7r.add 0)).bind AV.asBool).bind fun b10 =>
 ((h9.cell (h7r.add 1)).bind AV.asSl).bind fun l11 =>
 ((h9.cell (h7r.add 2)).bind AV.asSl).bind fun l12 =>
 ((h9.cell (h8r.add 0)).bind AV.asBool).bind fun b13 =>
 ((h9.cell (h8r.add 1)).bind AV.asSl).bind fun l14 =>
 ((h9.cell (h8r.add 2)).bind AV.asSl).bind fun l15 =>
 newK h9 (.cells [.bool b10,l11.v,l12.v,.bool b13,l14.v,l15.v] T.ky) fun h16r h16 =>
 (go (.fn F.kib [(⟨some h16r,2,.is 2⟩:Sl).v]) h16).bind fun q17 =>
 ((some q17.1).bind AV.asBool).bind fun b18 =>
 cond (!b18) (
 (q17.2.puts h9r [.bool false,(⟨none,0,.is 0⟩:Sl).v,(⟨none,0,.is 0⟩:Sl).v]).bind fun h19 =>
 ((h19.cell (h9r.add 0)).bind AV.asBool).bind fun b20 =>
 ((h19.cell (h9r.add 1)).bind AV.asSl).bind fun l21 =>
 ((h19.cell (h9r.add 2)).bind AV.asSl).bind fun l22 =>
 some (.tup [.agg [.bool b20,l21.v,l22.v],.int .i64 1],h19)) (
 newK q17.2 (.cells [.bool false,(⟨none,0,.is 0⟩:Sl).v] T.ki) fun h23r h23 =>
 ((h23.cell (h7r.add 0)).bind AV.asBool).bind fun b24 =>
 ((h23.cell (h7r.add 1)).bind AV.asSl).bind fun l25 =>
 ((h23.cell (h7r.add 2)).bind AV.asSl).bind fun l26 =>
 ((h23.cell (h8r.add 0)).bind AV.asBool).bind fun b27 =>
 ((h23.cell (h8r.add 1)).bind AV.asSl).bind fun l28 =>
 ((h23.cell (h8r.add 2)).bind AV.asSl).bind fun l29 =>
 ((h23.cell (h8r.add 0)).bind AV.asBool).bind fun b30 =>
 ((h23.cell (h8r.add 1)).bind AV.asSl).bind fun l31 =>
 ((h23.cell (h8r.add 2)).bind AV.asSl).bind fun l32 =>
 ((h23.cell (h7r.add 0)).bind AV.asBool).bind fun b33 =>
 ((h23.cell (h7r.add 1)).bind AV.asSl).bind fun l34 =>
 ((h23.cell (h7r.add 2)).bind AV.asSl).bind fun l35 =>
 (go (.fn F.kfm [.agg [.bool b24,l25.v,l26.v],.agg [.bool b27,l28.v,l29.v]]) h23).bind fun q36 =>
 (AV.asAgg q36.1).bind fun cs37 =>
 cond (Nat.beq cs37.length 2) (
 ((cs37[0]?).bind AV.asBool).bind fun b38 =>
 ((cs37[1]?).bind AV.asSl).bind fun l39 =>
 whenK (SameAt h23 q36.2 h7r 3) (
 whenK (SameAt h23 q36.2 h8r 3) (
 whenK (SameAt h23 q36.2 h23r 0) (
 (go (.fn F.kfm [.agg [.bool b30,l31.v,l32.v],.agg [.bool b33,l34.v,l35.v]]) q36.2).bind fun q40 =>
 (AV.asAgg q40.1).bind fun cs41 =>
 cond (Nat.beq cs41.length 2) (
 ((cs41[0]?).bind AV.asBool).bind fun b42 =>
 ((cs41[1]?).bind AV.asSl).bind fun l43 =>
 whenK (SameAt q36.2 q40.2 h23r 0) (
 (go (.fn F.kgy [.agg [.bool b38,l39.v],.agg [.bool b42,l43.v]]) q40.2).bind fun q44 =>
 (AV.asTup2 q44.1).bind fun p45 =>
 (AV.asAgg p45.1).bind fun cs46 =>
 cond (Nat.beq cs46.length 2) (
 ((cs46[0]?).bind AV.asBool).bind fun b47 =>
 ((cs46[1]?).bind AV.asSl).bind fun l48 =>
 ((some p45.2).bind (AV.asInt .i64)).bind fun n49 =>
 whenK (SameAt q40.2 q44.2 h23r 0) (
 (q44.2.puts h23r [.bool b47,l48.v]).bind fun h50 =>
 ((h50.cell (h7r.add 2)).bind AV.asSl).bind fun l51 =>
 ((h50.cell (h8r.add 2)).bind AV.asSl).bind fun l52 =>
 (go (.fn F.kjn [l51.v,l52.v]) h50).bind fun q53 =>
 (AV.asTup2 q53.1).bind fun p54 =>
 ((some p54.1).bind AV.asSl).bind fun l55 =>
 ((some p54.2).bind (AV.asInt .i64)).bind fun n56 =>
 ((q53.2.cell (h23r.add 0)).bind AV.asBool).bind fun b57 =>
 ((q53.2.cell (h23r.add 1)).bind AV.asSl).bind fun l58 =>
 (go (.fn F.kh3 [.agg [.bool b57,l58.v],l55.v]) q53.2).bind fun q59 =>
 (AV.asTup2 q59.1).bind fun p60 =>
 (AV.asAgg p60.1).bind fun cs61 =>
 cond (Nat.beq cs61.length 3) (
 ((cs61[0]?).bind AV.asBool).bind fun b62 =>
 ((cs61[1]?).bind AV.asSl).bind fun l63 =>
 ((cs61[2]?).bind AV.asSl).bind fun l64 =>
 ((some p60.2).bind (AV.asInt .i64)).bind fun n65 =>
 (q59.2.puts h9r [.bool b62,l63.v,l64.v]).bind fun h66 =>
 ((h66.cell (h9r.add 0)).bind AV.asBool).bind fun b67 =>
 ((h66.cell (h9r.add 1)).bind AV.asSl).bind fun l68 =>
 ((h66.cell (h9r.add 2)).bind AV.asSl).bind fun l69 =>
 some (.tup [.agg [.bool b67,l68.v,l69.v],.int .i64 n65],h66)) none)) none)) none)))) none):=(kf _ h).trans (by kernel_rfl)
theorem k5u(a1:Bool)(a2 a3:Sl)(a4:Bool)(a5 a6:Sl)(h:AH):go (.fn F.khh [.agg [.bool a1,a2.v,a3.v],.agg [.bool a4,a5.v,a6.v],.func (.func F.khg) [] []]) h =
 newK h (.cells [.bool a1,a2.v,a3.v] T.ky) fun h7r h7 =>
 newK h7 (.cells [.bool a4,a5.v,a6.v] T.ky) fun h8r h8 =>
 newK h8 (.cells [.bool false,(⟨none,0,.is 0⟩:Sl).v,(⟨none,0,.is 0⟩:Sl).v] T.ky) fun h9r h9 =>
 ((h9.cell (h7r.add 0)).bind AV.asBool).bind fun b10 =>
 ((h9.cell (h7r.add 1)).bind AV.asSl).bind fun l11 =>
 ((h9.cell (h7r.add 2)).bind AV.asSl).bind fun l12 =>
 ((h9.cell (h8r.add 0)).bind AV.asBool).bind fun b13 =>
 ((h9.cell (h8r.add 1)).bind AV.asSl).bind fun l14 =>
 ((h9.cell (h8r.add 2)).bind AV.asSl).bind fun l15 =>
 newK h9 (.cells [.bool b10,l11.v,l12.v,.bool b13,l14.v,l15.v] T.ky) fun h16r h16 =>
 (go (.fn F.kib [(⟨some h16r,2,.is 2⟩:Sl).v]) h16).bind fun q17 =>
 ((some q17.1).bind AV.asBool).bind fun b18 =>
 cond (!b18) (
 (q17.2.puts h9r [.bool false,(⟨none,0,.is 0⟩:Sl).v,(⟨none,0,.is 0⟩:Sl).v]).bind fun h19 =>
 ((h19.cell (h9r.add 0)).bind AV.asBool).bind fun b20 =>
 ((h19.cell (h9r.add 1)).bind AV.asSl).bind fun l21 =>
 ((h19.cell (h9r.add 2)).bind AV.asSl).bind fun l22 =>
 some (.tup [.agg [.bool b20,l21.v,l22.v],.int .i64 1],h19)) (
 newK q17.2 (.cells [.bool false,(⟨none,0,.is 0⟩:Sl).v] T.ki) fun h23r h23 =>
 ((h23.cell (h7r.add 0)).bind AV.asBool).bind fun b24 =>
 ((h23.cell (h7r.add 1)).bind AV.asSl).bind fun l25 =>
 ((h23.cell (h7r.add 2)).bind AV.asSl).bind fun l26 =>
 ((h23.cell (h8r.add 0)).bind AV.asBool).bind fun b27 =>
 ((h23.cell (h8r.add 1)).bind AV.asSl).bind fun l28 =>
 ((h23.cell (h8r.add 2)).bind AV.asSl).bind fun l29 =>
 ((h23.cell (h8r.add 0)).bind AV.asBool).bind fun b30 =>
 ((h23.cell (h8r.add 1)).bind AV.asSl).bind fun l31 =>
 ((h23.cell (h8r.add 2)).bind AV.asSl).bind fun l32 =>
 ((h23.cell (h7r.add 0)).bind AV.asBool).bind fun b33 =>
 ((h23.cell (h7r.add 1)).bind AV.asSl).bind fun l34 =>
 ((h23.cell (h7r.add 2)).bind AV.asSl).bind fun l35 =>
 (go (.fn F.kfm [.agg [.bool b24,l25.v,l26.v],.agg [.bool b27,l28.v,l29.v]]) h23).bind fun q36 =>
 (AV.asAgg q36.1).bind fun cs37 =>
 cond (Nat.beq cs37.length 2) (
 ((cs37[0]?).bind AV.asBool).bind fun b38 =>
 ((cs37[1]?).bind AV.asSl).bind fun l39 =>
 whenK (SameAt h23 q36.2 h7r 3) (
 whenK (SameAt h23 q36.2 h8r 3) (
 whenK (SameAt h23 q36.2 h23r 0) (
 (go (.fn F.kfm [.agg [.bool b30,l31.v,l32.v],.agg [.bool b33,l34.v,l35.v]]) q36.2).bind fun q40 =>
 (AV.asAgg q40.1).bind fun cs41 =>
 cond (Nat.beq cs41.length 2) (
 ((cs41[0]?).bind AV.asBool).bind fun b42 =>
 ((cs41[1]?).bind AV.asSl).bind fun l43 =>
 whenK (SameAt q36.2 q40.2 h23r 0) (
 (go (.fn F.khg [.agg [.bool b38,l39.v],.agg [.bool b42,l43.v]]) q40.2).bind fun q44 =>
 (AV.asTup2 q44.1).bind fun p45 =>
 (AV.asAgg p45.1).bind fun cs46 =>
 cond (Nat.beq cs46.length 2) (
 ((cs46[0]?).bind AV.asBool).bind fun b47 =>
 ((cs46[1]?).bind AV.asSl).bind fun l48 =>
 ((some p45.2).bind (AV.asInt .i64)).bind fun n49 =>
 whenK (SameAt q40.2 q44.2 h23r 0) (
 (q44.2.puts h23r [.bool b47,l48.v]).bind fun h50 =>
 ((h50.cell (h7r.add 2)).bind AV.asSl).bind fun l51 =>
 ((h50.cell (h8r.add 2)).bind AV.asSl).bind fun l52 =>
 (go (.fn F.kjn [l51.v,l52.v]) h50).bind fun q53 =>
 (AV.asTup2 q53.1).bind fun p54 =>
 ((some p54.1).bind AV.asSl).bind fun l55 =>
 ((some p54.2).bind (AV.asInt .i64)).bind fun n56 =>
 ((q53.2.cell (h23r.add 0)).bind AV.asBool).bind fun b57 =>
 ((q53.2.cell (h23r.add 1)).bind AV.asSl).bind fun l58 =>
 (go (.fn F.kh3 [.agg [.bool b57,l58.v],l55.v]) q53.2).bind fun q59 =>
 (AV.asTup2 q59.1).bind fun p60 =>
 (AV.asAgg p60.1).bind fun cs61 =>
 cond (Nat.beq cs61.length 3) (
 ((cs61[0]?).bind AV.asBool).bind fun b62 =>
 ((cs61[1]?).bind AV.asSl).bind fun l63 =>
 ((cs61[2]?).bind AV.asSl).bind fun l64 =>
 ((some p60.2).bind (AV.asInt .i64)).bind fun n65 =>
 (q59.2.puts h9r [.bool b62,l63.v,l64.v]).bind fun h66 =>
 ((h66.cell (h9r.add 0)).bind AV.asBool).bind fun b67 =>
 ((h66.cell (h9r.add 1)).bind AV.asSl).bind fun l68 =>
 ((h66.cell (h9r.add 2)).bind AV.asSl).bind fun l69 =>
 some (.tup [.agg [.bool b67,l68.v,l69.v],.int .i64 n65],h66)) none)) none)) none)))) none):=(kf _ h).trans (by kernel_rfl)
theorem k39(a1:Sl)(h:AH):go (.fn F.kib [a1.v]) h =
 (go (.fn F.krz [a1.v,.func (.func F.kdt) [] []]) h).bind fun q2 =>
 ((some q2.1).bind AV.asBool).bind fun b3 =>
 some (.bool (!b3),q2.2):=(kf _ h).trans (by kernel_rfl)
theorem k78(a1:Bool)(a2 a3:Sl)(a4:Bool)(a5 a6:Sl)(h:AH):go (.fn F.kfm [.agg [.bool a1,a2.v,a3.v],.agg [.bool a4,a5.v,a6.v]]) h =
 newK h (.cells [.bool a1,a2.v,a3.v] T.ky) fun h7r h7 =>
 newK h7 (.cells [.bool a4,a5.v,a6.v] T.ky) fun h8r h8 =>
 newK h8 (.cells [.bool false,(⟨none,0,.is 0⟩:Sl).v] T.ki) fun h9r h9 =>
 newK h9 (.cells [.bool false,(⟨none,0,.is 0⟩:Sl).v] T.ki) fun h10r h10 =>
 ((h10.cell ((h7r.add 0).add 0)).bind AV.asBool).bind fun b11 =>
 ((h10.cell ((h7r.add 0).add 1)).bind AV.asSl).bind fun l12 =>
 ((h10.cell (h8r.add 2)).bind AV.asSl).bind fun l13 =>
 (go (.fn F.kb2 [.bool false,l13.v]) h10).bind fun q14 =>
 (AV.asAgg q14.1).bind fun cs15 =>
 cond (Nat.beq cs15.length 2) (
 ((cs15[0]?).bind AV.asBool).bind fun b16 =>
 ((cs15[1]?).bind AV.asSl).bind fun l17 =>
 whenK (SameAt h10 q14.2 (h7r.add 0) 2) (
 whenK (SameAt h10 q14.2 h10r 0) (
 (go (.fn F.ki3 [.agg [.bool b11,l12.v],.agg [.bool b16,l17.v]]) q14.2).bind fun q18 =>
 (AV.asTup2 q18.1).bind fun p19 =>
 (AV.asAgg p19.1).bind fun cs20 =>
 cond (Nat.beq cs20.length 2) (
 ((cs20[0]?).bind AV.asBool).bind fun b21 =>
 ((cs20[1]?).bind AV.asSl).bind fun l22 =>
 ((some p19.2).bind (AV.asInt .i64)).bind fun n23 =>
 whenK (SameAt q14.2 q18.2 h10r 0) (
 (q18.2.puts h10r [.bool b21,l22.v]).bind fun h24 =>
 ((h24.cell (h10r.add 0)).bind AV.asBool).bind fun b25 =>
 ((h24.cell (h10r.add 1)).bind AV.asSl).bind fun l26 =>
 (h24.puts h9r [.bool b25,l26.v]).bind fun h27 =>
 ((h27.cell (h9r.add 0)).bind AV.asBool).bind fun b28 =>
 ((h27.cell (h9r.add 1)).bind AV.asSl).bind fun l29 =>
 some (.agg [.bool b28,l29.v],h27))) none))) none:=(kf _ h).trans (by kernel_rfl)
theorem k50(a1:Bool)(a2:Sl)(a3:Bool)(a4:Sl)(h:AH):go (.fn F.kp3 [.agg [.bool a1,a2.v],.agg [.bool a3,a4.v]]) h =
 newK h (.cells [.bool a1,a2.v] T.ki) fun h5r h5 =>
 newK h5 (.cells [.bool a3,a4.v] T.ki) fun h6r h6 =>
 ((h6.cell (h5r.add 0)).bind AV.asBool).bind fun b7 =>
 ((h6.cell (h5r.add 1)).bind AV.asSl).bind fun l8 =>
 ((h6.cell (h6r.add 0)).bind AV.asBool).bind fun b9 =>
 ((h6.cell (h6r.add 1)).bind AV.asSl).bind fun l10 =>
 newK h6 (.cells [.bool b7,l8.v,.bool b9,l10.v] T.ki) fun h11r h11 =>
 (go (.fn F.kfr [(⟨some h11r,2,.is 2⟩:Sl).v]) h11).bind fun q12 =>
 ((some q12.1).bind AV.asBool).bind fun b13 =>
 cond (!b13) (
 some (.int .i64 0,q12.2)) (
 ((q12.2.cell (h5r.add 0)).bind AV.asBool).bind fun b14 =>
 ((q12.2.cell (h6r.add 0)).bind AV.asBool).bind fun b15 =>
 cond ((b14==true)&&((b15==false)&&true)) (
 some (.int .i64 (-1),q12.2)) (
 cond ((b14==false)&&((b15==true)&&true)) (
 some (.int .i64 1,q12.2)) (
 cond ((b14==true)&&((b15==true)&&true)) (
 ((q12.2.cell (h6r.add 1)).bind AV.asSl).bind fun l16 =>
 ((q12.2.cell (h5r.add 1)).bind AV.asSl).bind fun l17 =>
 (go (.fn F.khp [l16.v,l17.v]) q12.2).bind fun q18 =>
 ((some q18.1).bind (AV.asInt .i64)).bind fun n19 =>
 some (.int .i64 n19,q18.2)) (
 ((q12.2.cell (h5r.add 1)).bind AV.asSl).bind fun l20 =>
 ((q12.2.cell (h6r.add 1)).bind AV.asSl).bind fun l21 =>
 (go (.fn F.khp [l20.v,l21.v]) q12.2).bind fun q22 =>
 ((some q22.1).bind (AV.asInt .i64)).bind fun n23 =>
 some (.int .i64 n23,q22.2))))):=(kf _ h).trans (by kernel_rfl)
theorem k8e(a1 a2:Sl)(h:AH):go (.fn F.kjn [a1.v,a2.v]) h =
 newK h (.cells [a1.v,a2.v] T.kcg) fun h3r h3 =>
 (go (.fn F.ke7 [(⟨some h3r,2,.is 2⟩:Sl).v]) h3).bind fun q4 =>
 ((some q4.1).bind AV.asBool).bind fun b5 =>
 cond (!b5) (
 some (.tup [(⟨none,0,.is 0⟩:Sl).v,.int .i64 1],q4.2)) (
 (go (.fn F.kla [a1.v,a2.v]) q4.2).bind fun q6 =>
 ((some q6.1).bind AV.asSl).bind fun l7 =>
 (go (.fn F.kkc [l7.v]) q6.2).bind fun q8 =>
 (AV.asTup2 q8.1).bind fun p9 =>
 ((some p9.1).bind AV.asSl).bind fun l10 =>
 ((some p9.2).bind (AV.asInt .i64)).bind fun n11 =>
 some (.tup [l10.v,.int .i64 n11],q8.2)):=(kf _ h).trans (by kernel_rfl)
theorem k5l(a1:Sl)(h:AH):go (.fn F.kvj [a1.v,.func (.func F.kdu) [] []]) h =
 (go (.fn F.kh1 [a1.v,.func (.func F.kdu) [] []]) h).bind fun q2 =>
 ((some q2.1).bind (AV.asInt .i64)).bind fun n3 =>
 some (.bool (decide (n3≥0)),q2.2):=(kf _ h).trans (by kernel_rfl)
theorem kbar(a1:Sl)(h:AH):go (.fn F.kkc [a1.v]) h =
 (go (.fn F.kbq [a1.v]) h).bind fun q2 =>
 ((some q2.1).bind AV.asSl).bind fun l3 =>
 cond (decide ((l3.len:Int)>64)) (
 some (.tup [(⟨none,0,.is 0⟩:Sl).v,.int .i64 4],q2.2)) (
 some (.tup [l3.v,.int .i64 0],q2.2)):=(kf _ h).trans (by kernel_rfl)
theorem k87(a1 a2:Int)(h:AH):go (.fn F.kew [.int .u64 a1,.int .u64 a2]) h =
 some (.int .u64 (khw .u64 a1 a2),h):=(kf _ h).trans (by kernel_rfl)
theorem kbaq(l:Nat)(pe:Option Code)(a1:Sl)(a2:AV)(a3:Ref)(a4:Sl)(a5:AV)(a6:Int)(h:AH)(hb:h.blks[l]?=some (knn Fx.kn9 F.kd2 0 .ready pe [(0,a1.v),(1,a2),(2,.ptr (some a3)),(4,a4.v),(6,a5)])):go (.round l [.int .i64 a6]) h =
 (beginA l h).bind fun h7 =>
 ((h7.cell a3).bind AV.asSl).bind fun l8 =>
 newK h7 (.cells [.int .i64 a6] T.int) fun h9r h9 =>
 (kcn Pg T.int ((⟨some h9r,1,.is 1⟩:Sl).v) h9).bind fun p11 =>
 (kbb Pg l8 p11.1 p11.2 T.int 1 h9).bind fun q10 =>
 (AV.asSl q10.1).bind fun l12 =>
 (q10.2.puts a3 [l12.v]).bind fun h13 =>
 kgu l none h13:=(kf _ h).trans ((kbbr hb).trans (by kernel_rfl))
theorem k72(a1:Sl)(a2:AV)(a3:Ref)(a4:Sl)(a5:AV)(h:AH):go (.pt F.kd2 ((Option.map Item.code none).toList++Ta.krh) [(0,a1.v),(1,a2),(2,.ptr (some a3)),(4,a4.v),(6,a5)]) h =
 ((h.cell a3).bind AV.asSl).bind fun l6 =>
 some (l6.v,h):=(kf _ h).trans (by kernel_rfl)
theorem kt1(a1:Int)(a2 a3:Ref)(a4 a5:Sl)(a6 a7:Int)(h:AH):go (.pt F.kff Td.kj2 [(2,.int .i64 a1),(3,.ptr (some a2)),(6,.ptr (some a3)),(8,a4.v),(44,a5.v),(45,.int .i64 a6),(46,.int .i64 a7)]) h =
 cond (decide (a7<a6)) (
 (idx a5.ref a5.len a7 1).bind fun r8 =>
 ((h.cell r8).bind (AV.asInt .i64)).bind fun n9 =>
 cond (decide (n9≤a1)) (
 newK h (.cells [.int .i64 a7] T.int) fun h10r h10 =>
 (kcn Pg T.int ((⟨some h10r,1,.is 1⟩:Sl).v) h10).bind fun p12 =>
 (kbb Pg a4 p12.1 p12.2 T.int 1 h10).bind fun q11 =>
 (AV.asSl q11.1).bind fun l13 =>
 go (.pt F.kff Td.kj2 [(2,.int .i64 a1),(3,.ptr (some a2)),(6,.ptr (some a3)),(8,l13.v),(44,a5.v),(45,.int .i64 a6),(46,.int .i64 (IntKind.wrap .i64 (a7+1)))]) q11.2) (
 go (.pt F.kff Td.kj2 [(2,.int .i64 a1),(3,.ptr (some a2)),(6,.ptr (some a3)),(8,a4.v),(44,a5.v),(45,.int .i64 a6),(46,.int .i64 (IntKind.wrap .i64 (a7+1)))]) h)) (
 ((h.cell (a2.add 0)).bind AV.asSl).bind fun l14 =>
 (go (.fn F.kgk [.int .i64 (l14.len:Int),a4.v]) h).bind fun q15 =>
 (AV.asTup2 q15.1).bind fun p16 =>
 (AV.asAgg p16.1).bind fun cs17 =>
 cond (Nat.beq cs17.length 2) (
 ((cs17[0]?).bind (AV.asInt .i64)).bind fun n18 =>
 ((cs17[1]?).bind AV.asSl).bind fun l19 =>
 ((some p16.2).bind (AV.asInt .i64)).bind fun n20 =>
 (q15.2.puts a3 [.int .i64 n18,l19.v]).bind fun h21 =>
 ((h21.cell (a3.add 0)).bind (AV.asInt .i64)).bind fun n22 =>
 ((h21.cell (a3.add 1)).bind AV.asSl).bind fun l23 =>
 some (.tup [.agg [.int .i64 n22,l23.v],.int .i64 n20],h21)) none):=(kf _ h).trans (by kernel_rfl)
theorem kba6(a1:Int)(a2:Sl)(a3:Int)(a4:Sl)(h:AH):go (.fn F.kcl [.agg [.int .i64 a1,a2.v],.agg [.int .i64 a3,a4.v],.func (.func F.keo) [] []]) h =
 newK h (.cells [.int .i64 a1,a2.v] T.kx) fun h5r h5 =>
 newK h5 (.cells [.int .i64 a3,a4.v] T.kx) fun h6r h6 =>
 newK h6 (.cells [.int .i64 0,(⟨none,0,.is 0⟩:Sl).v] T.kx) fun h7r h7 =>
 ((h7.cell (h5r.add 0)).bind (AV.asInt .i64)).bind fun n8 =>
 ((h7.cell (h5r.add 1)).bind AV.asSl).bind fun l9 =>
 (go (.fn F.kgi [.agg [.int .i64 n8,l9.v]]) h7).bind fun q10 =>
 ((some q10.1).bind AV.asBool).bind fun b11 =>
 cond (!b11) (
 (q10.2.puts h7r [.int .i64 0,(⟨none,0,.is 0⟩:Sl).v]).bind fun h12 =>
 ((h12.cell (h7r.add 0)).bind (AV.asInt .i64)).bind fun n13 =>
 ((h12.cell (h7r.add 1)).bind AV.asSl).bind fun l14 =>
 some (.tup [.agg [.int .i64 n13,l14.v],.int .i64 1],h12)) (
 ((q10.2.cell (h6r.add 0)).bind (AV.asInt .i64)).bind fun n15 =>
 ((q10.2.cell (h6r.add 1)).bind AV.asSl).bind fun l16 =>
 (go (.fn F.kgi [.agg [.int .i64 n15,l16.v]]) q10.2).bind fun q17 =>
 ((some q17.1).bind AV.asBool).bind fun b18 =>
 cond (!b18) (
 (q17.2.puts h7r [.int .i64 0,(⟨none,0,.is 0⟩:Sl).v]).bind fun h19 =>
 ((h19.cell (h7r.add 0)).bind (AV.asInt .i64)).bind fun n20 =>
 ((h19.cell (h7r.add 1)).bind AV.asSl).bind fun l21 =>
 some (.tup [.agg [.int .i64 n20,l21.v],.int .i64 1],h19)) (
 ((q17.2.cell (h5r.add 0)).bind (AV.asInt .i64)).bind fun n22 =>
 ((q17.2.cell (h6r.add 0)).bind (AV.asInt .i64)).bind fun n23 =>
 cond (!decide (n22=n23)) (
 (q17.2.puts h7r [.int .i64 0,(⟨none,0,.is 0⟩:Sl).v]).bind fun h24 =>
 ((h24.cell (h7r.add 0)).bind (AV.asInt .i64)).bind fun n25 =>
 ((h24.cell (h7r.add 1)).bind AV.asSl).bind fun l26 =>
 some (.tup [.agg [.int .i64 n25,l26.v],.int .i64 1],h24)) (
 ((q17.2.cell (h5r.add 0)).bind (AV.asInt .i64)).bind fun n27 =>
 (go (.fn F.khx [.int .i64 n27]) q17.2).bind fun q28 =>
 (AV.asTup2 q28.1).bind fun p29 =>
 (AV.asAgg p29.1).bind fun cs30 =>
 cond (Nat.beq cs30.length 2) (
 ((cs30[0]?).bind (AV.asInt .i64)).bind fun n31 =>
 ((cs30[1]?).bind AV.asSl).bind fun l32 =>
 ((some p29.2).bind (AV.asInt .i64)).bind fun n33 =>
 newK q28.2 (.cells [.int .i64 0,(⟨none,0,.is 0⟩:Sl).v] T.kx) fun h34r h34 =>
 (h34.puts h34r [.int .i64 n31,l32.v]).bind fun h35 =>
 ((h35.cell (h34r.add 1)).bind AV.asSl).bind fun l36 =>
 go (.pt F.kcl Td.ke8 [(2,.func (.func F.keo) [] []),(3,.ptr (some h5r)),(4,.ptr (some h6r)),(6,.ptr (some h7r)),(8,.ptr (some h34r)),(9,.int .i64 n33),(35,.int .i64 (l36.len:Int)),(36,.int .i64 0)]) h35) none))):=(kf _ h).trans (by kernel_rfl)
theorem k8d(a1:Sl)(h:AH):go (.fn F.kie [a1.v,.func (.func F.kdp) [] []]) h =
 go (.pt F.kie Td.kma [(0,a1.v),(1,.func (.func F.kdp) [] []),(7,.int .i64 (a1.len:Int)),(8,.int .i64 0)]) h:=(kf _ h).trans (by kernel_rfl)
theorem k3l(a1 a2 a3:Int)(h:AH):go (.fn F.kbu [.int .u64 a1,.int .u64 a2,.int .u64 a3]) h =
 cond (decide (a3=0)) (
 (h.cell (.old ⟨Gl.math_bits_divideError,0,none⟩)).bind fun v4 =>
 none) (
 go (.pt F.kbu Td.kqs [(0,.int .u64 a1),(1,.int .u64 a2),(2,.int .u64 a3)]) h):=(kf _ h).trans (by kernel_rfl)
theorem kxa(a1:Int)(h:AH):go (.fn F.kl4 [.int .u64 a1]) h =
 cond (decide (a1≥4294967296)) (
 cond (decide ((ishr .u64 a1 32)≥65536)) (
 cond (decide ((ishr .u64 (ishr .u64 a1 32) 16)≥256)) (
 cond (decide (0≤(IntKind.wrap .u8 (ishr .u64 (ishr .u64 (ishr .u64 a1 32) 16) 8)))) (
 (lit1[Int.toNat (IntKind.wrap .u8 (ishr .u64 (ishr .u64 (ishr .u64 a1 32) 16) 8))]?).bind fun b2 =>
 some (.int .i64 (IntKind.wrap .i64 ((IntKind.wrap .i64 ((IntKind.wrap .i64 (32+16))+8))+(IntKind.wrap .i64 (b2.toNat:Int)))),h)) none) (
 cond (decide (0≤(IntKind.wrap .u8 (ishr .u64 (ishr .u64 a1 32) 16)))) (
 (lit1[Int.toNat (IntKind.wrap .u8 (ishr .u64 (ishr .u64 a1 32) 16))]?).bind fun b3 =>
 some (.int .i64 (IntKind.wrap .i64 ((IntKind.wrap .i64 (32+16))+(IntKind.wrap .i64 (b3.toNat:Int)))),h)) none)) (
 cond (decide ((ishr .u64 a1 32)≥256)) (
 cond (decide (0≤(IntKind.wrap .u8 (ishr .u64 (ishr .u64 a1 32) 8)))) (
 (lit1[Int.toNat (IntKind.wrap .u8 (ishr .u64 (ishr .u64 a1 32) 8))]?).bind fun b4 =>
 some (.int .i64 (IntKind.wrap .i64 ((IntKind.wrap .i64 (32+8))+(IntKind.wrap .i64 (b4.toNat:Int)))),h)) none) (
 cond (decide (0≤(IntKind.wrap .u8 (ishr .u64 a1 32)))) (
 (lit1[Int.toNat (IntKind.wrap .u8 (ishr .u64 a1 32))]?).bind fun b5 =>
 some (.int .i64 (IntKind.wrap .i64 (32+(IntKind.wrap .i64 (b5.toNat:Int)))),h)) none))) (
 cond (decide (a1≥65536)) (
 cond (decide ((ishr .u64 a1 16)≥256)) (
 cond (decide (0≤(IntKind.wrap .u8 (ishr .u64 (ishr .u64 a1 16) 8)))) (
 (lit1[Int.toNat (IntKind.wrap .u8 (ishr .u64 (ishr .u64 a1 16) 8))]?).bind fun b6 =>
 some (.int .i64 (IntKind.wrap .i64 ((IntKind.wrap .i64 ((IntKind.wrap .i64 (0+16))+8))+(IntKind.wrap .i64 (b6.toNat:Int)))),h)) none) (
 cond (decide (0≤(IntKind.wrap .u8 (ishr .u64 a1 16)))) (
 (lit1[Int.toNat (IntKind.wrap .u8 (ishr .u64 a1 16))]?).bind fun b7 =>
 some (.int .i64 (IntKind.wrap .i64 ((IntKind.wrap .i64 (0+16))+(IntKind.wrap .i64 (b7.toNat:Int)))),h)) none)) (
 cond (decide (a1≥256)) (
 cond (decide (0≤(IntKind.wrap .u8 (ishr .u64 a1 8)))) (
 (lit1[Int.toNat (IntKind.wrap .u8 (ishr .u64 a1 8))]?).bind fun b8 =>
 some (.int .i64 (IntKind.wrap .i64 ((IntKind.wrap .i64 (0+8))+(IntKind.wrap .i64 (b8.toNat:Int)))),h)) none) (
 cond (decide (0≤(IntKind.wrap .u8 a1))) (
 (lit1[Int.toNat (IntKind.wrap .u8 a1)]?).bind fun b9 =>
 some (.int .i64 (IntKind.wrap .i64 (0+(IntKind.wrap .i64 (b9.toNat:Int)))),h)) none))):=(kf _ h).trans (by kernel_rfl)
theorem k8j(a1:Int)(a2 a3:Sl)(a4 a5:Int)(h:AH):go (.pt F.keb Td.kj0 [(1,.int .u64 a1),(5,a2.v),(12,a3.v),(13,.int .i64 a4),(14,.int .i64 a5)]) h =
 cond (decide (a5<a4)) (
 (idx a3.ref a3.len a5 1).bind fun r6 =>
 ((h.cell r6).bind (AV.asInt .u64)).bind fun n7 =>
 (idx a2.ref a2.len a5 1).bind fun r8 =>
 ((h.cell r8).bind (AV.asInt .u64)).bind fun n9 =>
 cond (decide (a1<0)) none (
 (idx a2.ref a2.len a5 1).bind fun r10 =>
 (h.puts r10 [.int .u64 (ior .u64 n9 (ishl .u64 n7 a1))]).bind fun h11 =>
 cond (decide (a1>0)) (
 cond (decide ((IntKind.wrap .u64 (64-a1))<0)) none (
 (idx a2.ref a2.len (IntKind.wrap .i64 (a5+1)) 1).bind fun r12 =>
 (h11.puts r12 [.int .u64 (ishr .u64 n7 (IntKind.wrap .u64 (64-a1)))]).bind fun h13 =>
 go (.pt F.keb Td.kj0 [(1,.int .u64 a1),(5,a2.v),(12,a3.v),(13,.int .i64 a4),(14,.int .i64 (IntKind.wrap .i64 (a5+1)))]) h13)) (
 go (.pt F.keb Td.kj0 [(1,.int .u64 a1),(5,a2.v),(12,a3.v),(13,.int .i64 a4),(14,.int .i64 (IntKind.wrap .i64 (a5+1)))]) h11))) (
 some (a2.v,h)):=(kf _ h).trans (by kernel_rfl)
theorem k34(a1 a2 a3 a4 a5:Int)(h:AH):go (.fn F.kem [.int .u64 a1,.int .u64 a2,.int .u64 a3,.int .u64 a4,.int .u64 a5]) h =
 cond (decide (a1≥a4)) (
 some (.int .u64 18446744073709551615,h)) (
 (go (.fn F.kbu [.int .u64 a1,.int .u64 a2,.int .u64 a4]) h).bind fun q6 =>
 (AV.asTup2 q6.1).bind fun p7 =>
 ((some p7.1).bind (AV.asInt .u64)).bind fun n8 =>
 ((some p7.2).bind (AV.asInt .u64)).bind fun n9 =>
 go (.pt F.kem Td.kin [(2,.int .u64 a3),(3,.int .u64 a4),(4,.int .u64 a5),(11,.int .u64 n8),(12,.int .u64 n9)]) q6.2):=(kf _ h).trans (by kernel_rfl)
theorem k5i(a1:Int)(a2 a3:Sl)(a4:Int)(a5:Sl)(a6 a7:Int)(a8:Sl)(h:AH):go (.pt F.kb5 Td.kly [(6,.int .u64 a1),(7,a2.v),(8,a3.v),(9,.int .i64 a4),(10,a5.v),(11,.int .i64 a6),(12,.int .u64 a7),(13,a8.v)]) h =
 (go (.fn F.kea [.int .u64 a7]) h).bind fun q9 =>
 ((some q9.1).bind AV.asSl).bind fun l10 =>
 (go (.fn F.kco [a3.v,l10.v]) q9.2).bind fun q11 =>
 ((some q11.1).bind AV.asSl).bind fun l12 =>
 (go (.fn F.kf2 [a8.v]) q11.2).bind fun q13 =>
 ((some q13.1).bind AV.asSl).bind fun l14 =>
 (go (.fn F.kbq [l14.v]) q13.2).bind fun q15 =>
 ((some q15.1).bind AV.asSl).bind fun l16 =>
 (go (.fn F.kd7 [l16.v,l12.v]) q15.2).bind fun q17 =>
 ((some q17.1).bind (AV.asInt .i64)).bind fun n18 =>
 cond (decide (n18≥0)) (
 (go (.fn F.kc3 [a8.v,l12.v]) q17.2).bind fun q19 =>
 ((some q19.1).bind AV.asSl).bind fun l20 =>
 (copyH l20 a8 1 q19.2).bind fun h21 =>
 (idx a5.ref a5.len a6 1).bind fun r22 =>
 (h21.puts r22 [.int .u64 a7]).bind fun h23 =>
 go (.pt F.kb5 Td.km8 [(6,.int .u64 a1),(7,a2.v),(8,a3.v),(9,.int .i64 a4),(10,a5.v),(11,.int .i64 (IntKind.wrap .i64 (a6-1)))]) h23) (
 go (.pt F.kb5 Td.kly [(6,.int .u64 a1),(7,a2.v),(8,a3.v),(9,.int .i64 a4),(10,a5.v),(11,.int .i64 a6),(12,.int .u64 (IntKind.wrap .u64 (a7-1))),(13,a8.v)]) q17.2):=(kf _ h).trans (by kernel_rfl)
theorem kym(a1:Int)(a2 a3 a4:Sl)(a5 a6:Int)(h:AH):go (.pt F.kb5 Td.khy [(6,.int .u64 a1),(10,a2.v),(15,a3.v),(16,a4.v),(112,.int .i64 a5),(113,.int .i64 a6)]) h =
 cond (decide (a6<a5)) (
 (idx a3.ref a3.len a6 1).bind fun r7 =>
 ((h.cell r7).bind (AV.asInt .u64)).bind fun n8 =>
 cond (decide (a1<0)) none (
 (idx a4.ref a4.len a6 1).bind fun r9 =>
 (h.puts r9 [.int .u64 (ishr .u64 n8 a1)]).bind fun h10 =>
 cond (decide (a1>0)) (
 cond (decide ((IntKind.wrap .i64 (a6+1))<(a3.len:Int))) (
 (idx a4.ref a4.len a6 1).bind fun r11 =>
 ((h10.cell r11).bind (AV.asInt .u64)).bind fun n12 =>
 (idx a3.ref a3.len (IntKind.wrap .i64 (a6+1)) 1).bind fun r13 =>
 ((h10.cell r13).bind (AV.asInt .u64)).bind fun n14 =>
 cond (decide ((IntKind.wrap .u64 (64-a1))<0)) none (
 (idx a4.ref a4.len a6 1).bind fun r15 =>
 (h10.puts r15 [.int .u64 (ior .u64 n12 (ishl .u64 n14 (IntKind.wrap .u64 (64-a1))))]).bind fun h16 =>
 go (.pt F.kb5 Td.khy [(6,.int .u64 a1),(10,a2.v),(15,a3.v),(16,a4.v),(112,.int .i64 a5),(113,.int .i64 (IntKind.wrap .i64 (a6+1)))]) h16)) (
 go (.pt F.kb5 Td.khy [(6,.int .u64 a1),(10,a2.v),(15,a3.v),(16,a4.v),(112,.int .i64 a5),(113,.int .i64 (IntKind.wrap .i64 (a6+1)))]) h10)) (
 go (.pt F.kb5 Td.khy [(6,.int .u64 a1),(10,a2.v),(15,a3.v),(16,a4.v),(112,.int .i64 a5),(113,.int .i64 (IntKind.wrap .i64 (a6+1)))]) h10))) (
 (go (.fn F.kbq [a2.v]) h).bind fun q17 =>
 ((some q17.1).bind AV.asSl).bind fun l18 =>
 (go (.fn F.kbq [a4.v]) q17.2).bind fun q19 =>
 ((some q19.1).bind AV.asSl).bind fun l20 =>
 some (.tup [l18.v,l20.v],q19.2)):=(kf _ h).trans (by kernel_rfl)
theorem k5b(a1:Bool)(a2:Sl)(a3:Bool)(a4:Sl)(h:AH):go (.fn F.kgy [.agg [.bool a1,a2.v],.agg [.bool a3,a4.v]]) h =
 newK h (.cells [.bool a1,a2.v] T.ki) fun h5r h5 =>
 newK h5 (.cells [.bool a3,a4.v] T.ki) fun h6r h6 =>
 newK h6 (.cells [.bool false,(⟨none,0,.is 0⟩:Sl).v] T.ki) fun h7r h7 =>
 ((h7.cell (h5r.add 0)).bind AV.asBool).bind fun b8 =>
 ((h7.cell (h5r.add 1)).bind AV.asSl).bind fun l9 =>
 ((h7.cell (h6r.add 0)).bind AV.asBool).bind fun b10 =>
 ((h7.cell (h6r.add 1)).bind AV.asSl).bind fun l11 =>
 newK h7 (.cells [.bool b8,l9.v,.bool b10,l11.v] T.ki) fun h12r h12 =>
 (go (.fn F.kfr [(⟨some h12r,2,.is 2⟩:Sl).v]) h12).bind fun q13 =>
 ((some q13.1).bind AV.asBool).bind fun b14 =>
 cond (!b14) (
 (q13.2.puts h7r [.bool false,(⟨none,0,.is 0⟩:Sl).v]).bind fun h15 =>
 ((h15.cell (h7r.add 0)).bind AV.asBool).bind fun b16 =>
 ((h15.cell (h7r.add 1)).bind AV.asSl).bind fun l17 =>
 some (.tup [.agg [.bool b16,l17.v],.int .i64 1],h15)) (
 ((q13.2.cell (h5r.add 0)).bind AV.asBool).bind fun b18 =>
 ((q13.2.cell (h6r.add 0)).bind AV.asBool).bind fun b19 =>
 cond (b18==b19) (
 ((q13.2.cell (h5r.add 1)).bind AV.asSl).bind fun l20 =>
 ((q13.2.cell (h6r.add 1)).bind AV.asSl).bind fun l21 =>
 (go (.fn F.kk2 [l20.v,l21.v]) q13.2).bind fun q22 =>
 (AV.asTup2 q22.1).bind fun p23 =>
 ((some p23.1).bind AV.asSl).bind fun l24 =>
 ((some p23.2).bind (AV.asInt .i64)).bind fun n25 =>
 ((q22.2.cell (h5r.add 0)).bind AV.asBool).bind fun b26 =>
 (go (.fn F.kb2 [.bool b26,l24.v]) q22.2).bind fun q27 =>
 (AV.asAgg q27.1).bind fun cs28 =>
 cond (Nat.beq cs28.length 2) (
 ((cs28[0]?).bind AV.asBool).bind fun b29 =>
 ((cs28[1]?).bind AV.asSl).bind fun l30 =>
 (q27.2.puts h7r [.bool b29,l30.v]).bind fun h31 =>
 ((h31.cell (h7r.add 0)).bind AV.asBool).bind fun b32 =>
 ((h31.cell (h7r.add 1)).bind AV.asSl).bind fun l33 =>
 some (.tup [.agg [.bool b32,l33.v],.int .i64 n25],h31)) none) (
 ((q13.2.cell (h5r.add 1)).bind AV.asSl).bind fun l34 =>
 ((q13.2.cell (h6r.add 1)).bind AV.asSl).bind fun l35 =>
 (go (.fn F.khp [l34.v,l35.v]) q13.2).bind fun q36 =>
 ((some q36.1).bind (AV.asInt .i64)).bind fun n37 =>
 cond (decide (n37<0)) (
 ((q36.2.cell (h6r.add 0)).bind AV.asBool).bind fun b38 =>
 ((q36.2.cell (h6r.add 1)).bind AV.asSl).bind fun l39 =>
 ((q36.2.cell (h5r.add 0)).bind AV.asBool).bind fun b40 =>
 ((q36.2.cell (h5r.add 1)).bind AV.asSl).bind fun l41 =>
 (q36.2.puts h5r [.bool b38,l39.v]).bind fun h42 =>
 (h42.puts h6r [.bool b40,l41.v]).bind fun h43 =>
 ((h43.cell (h5r.add 1)).bind AV.asSl).bind fun l44 =>
 ((h43.cell (h6r.add 1)).bind AV.asSl).bind fun l45 =>
 (go (.fn F.kkf [l44.v,l45.v]) h43).bind fun q46 =>
 (AV.asTup2 q46.1).bind fun p47 =>
 ((some p47.1).bind AV.asSl).bind fun l48 =>
 ((some p47.2).bind (AV.asInt .i64)).bind fun n49 =>
 ((q46.2.cell (h5r.add 0)).bind AV.asBool).bind fun b50 =>
 (go (.fn F.kb2 [.bool b50,l48.v]) q46.2).bind fun q51 =>
 (AV.asAgg q51.1).bind fun cs52 =>
 cond (Nat.beq cs52.length 2) (
 ((cs52[0]?).bind AV.asBool).bind fun b53 =>
 ((cs52[1]?).bind AV.asSl).bind fun l54 =>
 (q51.2.puts h7r [.bool b53,l54.v]).bind fun h55 =>
 ((h55.cell (h7r.add 0)).bind AV.asBool).bind fun b56 =>
 ((h55.cell (h7r.add 1)).bind AV.asSl).bind fun l57 =>
 some (.tup [.agg [.bool b56,l57.v],.int .i64 n49],h55)) none) (
 ((q36.2.cell (h5r.add 1)).bind AV.asSl).bind fun l58 =>
 ((q36.2.cell (h6r.add 1)).bind AV.asSl).bind fun l59 =>
 (go (.fn F.kkf [l58.v,l59.v]) q36.2).bind fun q60 =>
 (AV.asTup2 q60.1).bind fun p61 =>
 ((some p61.1).bind AV.asSl).bind fun l62 =>
 ((some p61.2).bind (AV.asInt .i64)).bind fun n63 =>
 ((q60.2.cell (h5r.add 0)).bind AV.asBool).bind fun b64 =>
 (go (.fn F.kb2 [.bool b64,l62.v]) q60.2).bind fun q65 =>
 (AV.asAgg q65.1).bind fun cs66 =>
 cond (Nat.beq cs66.length 2) (
 ((cs66[0]?).bind AV.asBool).bind fun b67 =>
 ((cs66[1]?).bind AV.asSl).bind fun l68 =>
 (q65.2.puts h7r [.bool b67,l68.v]).bind fun h69 =>
 ((h69.cell (h7r.add 0)).bind AV.asBool).bind fun b70 =>
 ((h69.cell (h7r.add 1)).bind AV.asSl).bind fun l71 =>
 some (.tup [.agg [.bool b70,l71.v],.int .i64 n63],h69)) none))):=(kf _ h).trans (by kernel_rfl)
theorem kzc(a1:Bool)(a2:Sl)(a3:Bool)(a4:Sl)(h:AH):go (.fn F.khg [.agg [.bool a1,a2.v],.agg [.bool a3,a4.v]]) h =
 newK h (.cells [.bool a1,a2.v] T.ki) fun h5r h5 =>
 newK h5 (.cells [.bool a3,a4.v] T.ki) fun h6r h6 =>
 newK h6 (.cells [.bool false,(⟨none,0,.is 0⟩:Sl).v] T.ki) fun h7r h7 =>
 ((h7.cell (h5r.add 0)).bind AV.asBool).bind fun b8 =>
 ((h7.cell (h5r.add 1)).bind AV.asSl).bind fun l9 =>
 ((h7.cell (h6r.add 0)).bind AV.asBool).bind fun b10 =>
 ((h7.cell (h6r.add 1)).bind AV.asSl).bind fun l11 =>
 newK h7 (.cells [.bool b8,l9.v,.bool b10,l11.v] T.ki) fun h12r h12 =>
 (go (.fn F.kfr [(⟨some h12r,2,.is 2⟩:Sl).v]) h12).bind fun q13 =>
 ((some q13.1).bind AV.asBool).bind fun b14 =>
 cond (!b14) (
 (q13.2.puts h7r [.bool false,(⟨none,0,.is 0⟩:Sl).v]).bind fun h15 =>
 ((h15.cell (h7r.add 0)).bind AV.asBool).bind fun b16 =>
 ((h15.cell (h7r.add 1)).bind AV.asSl).bind fun l17 =>
 some (.tup [.agg [.bool b16,l17.v],.int .i64 1],h15)) (
 ((q13.2.cell (h5r.add 0)).bind AV.asBool).bind fun b18 =>
 ((q13.2.cell (h5r.add 1)).bind AV.asSl).bind fun l19 =>
 ((q13.2.cell (h6r.add 0)).bind AV.asBool).bind fun b20 =>
 ((q13.2.cell (h6r.add 1)).bind AV.asSl).bind fun l21 =>
 (go (.fn F.knz [.agg [.bool b20,l21.v]]) q13.2).bind fun q22 =>
 (AV.asAgg q22.1).bind fun cs23 =>
 cond (Nat.beq cs23.length 2) (
 ((cs23[0]?).bind AV.asBool).bind fun b24 =>
 ((cs23[1]?).bind AV.asSl).bind fun l25 =>
 whenK (SameAt q13.2 q22.2 h5r 2) (
 (go (.fn F.kgy [.agg [.bool b18,l19.v],.agg [.bool b24,l25.v]]) q22.2).bind fun q26 =>
 (AV.asTup2 q26.1).bind fun p27 =>
 (AV.asAgg p27.1).bind fun cs28 =>
 cond (Nat.beq cs28.length 2) (
 ((cs28[0]?).bind AV.asBool).bind fun b29 =>
 ((cs28[1]?).bind AV.asSl).bind fun l30 =>
 ((some p27.2).bind (AV.asInt .i64)).bind fun n31 =>
 (q26.2.puts h7r [.bool b29,l30.v]).bind fun h32 =>
 ((h32.cell (h7r.add 0)).bind AV.asBool).bind fun b33 =>
 ((h32.cell (h7r.add 1)).bind AV.asSl).bind fun l34 =>
 some (.tup [.agg [.bool b33,l34.v],.int .i64 n31],h32)) none)) none):=(kf _ h).trans (by kernel_rfl)
theorem k91(a1:Sl)(h:AH):go (.fn F.krz [a1.v,.func (.func F.kdt) [] []]) h =
 (go (.fn F.kg7 [a1.v,.func (.func F.kdt) [] []]) h).bind fun q2 =>
 ((some q2.1).bind (AV.asInt .i64)).bind fun n3 =>
 some (.bool (decide (n3≥0)),q2.2):=(kf _ h).trans (by kernel_rfl)
theorem k4a(a1 a2:Sl)(h:AH):go (.fn F.khp [a1.v,a2.v]) h =
 newK h (.cells [a1.v,a2.v] T.kcg) fun h3r h3 =>
 (go (.fn F.ke7 [(⟨some h3r,2,.is 2⟩:Sl).v]) h3).bind fun q4 =>
 ((some q4.1).bind AV.asBool).bind fun b5 =>
 cond (!b5) (
 some (.int .i64 0,q4.2)) (
 (go (.fn F.kd7 [a1.v,a2.v]) q4.2).bind fun q6 =>
 ((some q6.1).bind (AV.asInt .i64)).bind fun n7 =>
 some (.int .i64 n7,q6.2)):=(kf _ h).trans (by kernel_rfl)
theorem k6w(a1 a2:Sl)(h:AH):go (.fn F.kla [a1.v,a2.v]) h =
 newK h (.cells [.nilFunc] T.k2b) fun h3r h3 =>
 (h3.puts h3r [.func (.func F.kjc) [] [.ptr (some h3r)]]).bind fun h4 =>
 (h4.cell h3r).bind fun v5 =>
 yieldK v5 [a1.v,a2.v] (fun y7 =>
 (go (.round y7.1 y7.2) h4).bind fun q6 =>
 ((some q6.1).bind AV.asSl).bind fun l9 =>
 some (l9.v,q6.2)) (
 (callV Pg go v5 [a1.v,a2.v] h4).bind fun q8 =>
 ((some q8.1).bind AV.asSl).bind fun l10 =>
 some (l10.v,q8.2)):=(kf _ h).trans (by kernel_rfl)
theorem k0p(a1:Sl)(h:AH):go (.fn F.kh1 [a1.v,.func (.func F.kdu) [] []]) h =
 go (.pt F.kh1 Td.kl5 [(0,a1.v),(1,.func (.func F.kdu) [] []),(7,.int .i64 (a1.len:Int)),(8,.int .i64 0)]) h:=(kf _ h).trans (by kernel_rfl)
theorem k1i(a1:Int)(a2:Sl)(h:AH):go (.fn F.kgk [.int .i64 a1,a2.v]) h =
 newK h (.cells [.int .i64 a1] T.int) fun h3r h3 =>
 newK h3 (.cells [.int .i64 0,(⟨none,0,.is 0⟩:Sl).v] T.kx) fun h4r h4 =>
 ((h4.cell h3r).bind (AV.asInt .i64)).bind fun n5 =>
 (go (.fn F.khx [.int .i64 n5]) h4).bind fun q6 =>
 (AV.asTup2 q6.1).bind fun p7 =>
 (AV.asAgg p7.1).bind fun cs8 =>
 cond (Nat.beq cs8.length 2) (
 ((cs8[0]?).bind (AV.asInt .i64)).bind fun n9 =>
 ((cs8[1]?).bind AV.asSl).bind fun l10 =>
 ((some p7.2).bind (AV.asInt .i64)).bind fun n11 =>
 newK q6.2 (.cells [.int .i64 0,(⟨none,0,.is 0⟩:Sl).v] T.kx) fun h12r h12 =>
 (h12.puts h12r [.int .i64 n9,l10.v]).bind fun h13 =>
 cond (!decide (n11=0)) (
 (h13.puts h4r [.int .i64 0,(⟨none,0,.is 0⟩:Sl).v]).bind fun h14 =>
 ((h14.cell (h4r.add 0)).bind (AV.asInt .i64)).bind fun n15 =>
 ((h14.cell (h4r.add 1)).bind AV.asSl).bind fun l16 =>
 some (.tup [.agg [.int .i64 n15,l16.v],.int .i64 1],h14)) (
 (go (.fn F.kc6 [a2.v,.func (.func F.kdi) [] [.ptr (some h3r)]]) h13).bind fun q17 =>
 ((some q17.1).bind AV.asBool).bind fun b18 =>
 cond b18 (
 (q17.2.puts h4r [.int .i64 0,(⟨none,0,.is 0⟩:Sl).v]).bind fun h19 =>
 ((h19.cell (h4r.add 0)).bind (AV.asInt .i64)).bind fun n20 =>
 ((h19.cell (h4r.add 1)).bind AV.asSl).bind fun l21 =>
 some (.tup [.agg [.int .i64 n20,l21.v],.int .i64 1],h19)) (
 go (.pt F.kgk Td.kld [(4,.ptr (some h4r)),(6,.ptr (some h12r)),(23,a2.v),(24,.int .i64 (a2.len:Int)),(25,.int .i64 0)]) q17.2))) none:=(kf _ h).trans (by kernel_rfl)
theorem kvx(a1 a2 a3 a4:Ref)(a5 a6 a7:Int)(h:AH):go (.pt F.kcl Td.ke8 [(2,.func (.func F.keo) [] []),(3,.ptr (some a1)),(4,.ptr (some a2)),(6,.ptr (some a3)),(8,.ptr (some a4)),(9,.int .i64 a5),(35,.int .i64 a6),(36,.int .i64 a7)]) h =
 cond (decide (a7<a6)) (
 ((h.cell (a4.add 1)).bind AV.asSl).bind fun l8 =>
 ((h.cell (a1.add 1)).bind AV.asSl).bind fun l9 =>
 (idx l9.ref l9.len a7 1).bind fun r10 =>
 ((h.cell r10).bind (AV.asInt .u64)).bind fun n11 =>
 ((h.cell (a2.add 1)).bind AV.asSl).bind fun l12 =>
 (idx l12.ref l12.len a7 1).bind fun r13 =>
 ((h.cell r13).bind (AV.asInt .u64)).bind fun n14 =>
 (go (.fn F.keo [.int .u64 n11,.int .u64 n14]) h).bind fun q15 =>
 ((some q15.1).bind (AV.asInt .u64)).bind fun n16 =>
 whenK (SameAt h q15.2 (a4.add 1) 1) (
 (idx l8.ref l8.len a7 1).bind fun r17 =>
 (q15.2.puts r17 [.int .u64 n16]).bind fun h18 =>
 go (.pt F.kcl Td.ke8 [(2,.func (.func F.keo) [] []),(3,.ptr (some a1)),(4,.ptr (some a2)),(6,.ptr (some a3)),(8,.ptr (some a4)),(9,.int .i64 a5),(35,.int .i64 a6),(36,.int .i64 (IntKind.wrap .i64 (a7+1)))]) h18)) (
 ((h.cell (a4.add 0)).bind (AV.asInt .i64)).bind fun n19 =>
 ((h.cell (a4.add 1)).bind AV.asSl).bind fun l20 =>
 (h.puts a3 [.int .i64 n19,l20.v]).bind fun h21 =>
 ((h21.cell (a3.add 0)).bind (AV.asInt .i64)).bind fun n22 =>
 ((h21.cell (a3.add 1)).bind AV.asSl).bind fun l23 =>
 some (.tup [.agg [.int .i64 n22,l23.v],.int .i64 a5],h21)):=(kf _ h).trans (by kernel_rfl)
theorem ku9(a1:Sl)(a2 a3:Int)(h:AH):go (.pt F.kie Td.kma [(0,a1.v),(1,.func (.func F.kdp) [] []),(7,.int .i64 a2),(8,.int .i64 a3)]) h =
 cond (decide (a3<a2)) (
 (idx a1.ref a1.len a3 1).bind fun r4 =>
 ((h.cell r4).bind AV.asSl).bind fun l5 =>
 (go (.fn F.kdp [l5.v]) h).bind fun q6 =>
 ((some q6.1).bind AV.asBool).bind fun b7 =>
 cond b7 (
 some (.int .i64 a3,q6.2)) (
 go (.pt F.kie Td.kma [(0,a1.v),(1,.func (.func F.kdp) [] []),(7,.int .i64 a2),(8,.int .i64 (IntKind.wrap .i64 (a3+1)))]) q6.2)) (
 some (.int .i64 (-1),h)):=(kf _ h).trans (by kernel_rfl)
theorem kbba(a1 a2 a3:Int)(h:AH):go (.pt F.kbu Td.kqs [(0,.int .u64 a1),(1,.int .u64 a2),(2,.int .u64 a3)]) h =
 cond (decide (a3≤a1)) (
 (h.cell (.old ⟨Gl.math_bits_overflowError,0,none⟩)).bind fun v4 =>
 none) (
 cond (decide (a1=0)) (
 cond (decide (a3=0)) none (
 cond (decide (a3=0)) none (
 some (.tup [.int .u64 (IntKind.wrap .u64 (Int.tdiv a2 a3)),.int .u64 (Int.tmod a2 a3)],h)))) (
 (go (.fn F.kmo [.int .u64 a3]) h).bind fun q5 =>
 ((some q5.1).bind (AV.asInt .i64)).bind fun n6 =>
 cond (decide ((IntKind.wrap .u64 n6)<0)) none (
 cond (decide ((IntKind.wrap .u64 n6)<0)) none (
 cond (decide ((IntKind.wrap .u64 (64-(IntKind.wrap .u64 n6)))<0)) none (
 cond (decide ((IntKind.wrap .u64 n6)<0)) none (
 cond (decide ((ishr .u64 (ishl .u64 a3 (IntKind.wrap .u64 n6)) 32)=0)) none (
 go (.pt F.kbu Td.kj1 [(2,.int .u64 (ishl .u64 a3 (IntKind.wrap .u64 n6))),(8,.int .u64 (IntKind.wrap .u64 n6)),(9,.int .u64 (ishr .u64 (ishl .u64 a3 (IntKind.wrap .u64 n6)) 32)),(10,.int .u64 (iand .u64 (ishl .u64 a3 (IntKind.wrap .u64 n6)) 4294967295)),(11,.int .u64 (ior .u64 (ishl .u64 a1 (IntKind.wrap .u64 n6)) (ishr .u64 a2 (IntKind.wrap .u64 (64-(IntKind.wrap .u64 n6)))))),(13,.int .u64 (ishr .u64 (ishl .u64 a2 (IntKind.wrap .u64 n6)) 32)),(14,.int .u64 (iand .u64 (ishl .u64 a2 (IntKind.wrap .u64 n6)) 4294967295)),(15,.int .u64 (IntKind.wrap .u64 (Int.tdiv (ior .u64 (ishl .u64 a1 (IntKind.wrap .u64 n6)) (ishr .u64 a2 (IntKind.wrap .u64 (64-(IntKind.wrap .u64 n6))))) (ishr .u64 (ishl .u64 a3 (IntKind.wrap .u64 n6)) 32)))),(16,.int .u64 (IntKind.wrap .u64 ((ior .u64 (ishl .u64 a1 (IntKind.wrap .u64 n6)) (ishr .u64 a2 (IntKind.wrap .u64 (64-(IntKind.wrap .u64 n6)))))-(IntKind.wrap .u64 ((IntKind.wrap .u64 (Int.tdiv (ior .u64 (ishl .u64 a1 (IntKind.wrap .u64 n6)) (ishr .u64 a2 (IntKind.wrap .u64 (64-(IntKind.wrap .u64 n6))))) (ishr .u64 (ishl .u64 a3 (IntKind.wrap .u64 n6)) 32)))*(ishr .u64 (ishl .u64 a3 (IntKind.wrap .u64 n6)) 32))))))]) q5.2))))))):=(kf _ h).trans (by kernel_rfl)
theorem kyb(a1 a2 a3 a4 a5:Int)(h:AH):go (.pt F.kem Td.kin [(2,.int .u64 a1),(3,.int .u64 a2),(4,.int .u64 a3),(11,.int .u64 a4),(12,.int .u64 a5)]) h =
 (go (.fn F.kkq [.int .u64 a4,.int .u64 a3]) h).bind fun q6 =>
 (AV.asTup2 q6.1).bind fun p7 =>
 ((some p7.1).bind (AV.asInt .u64)).bind fun n8 =>
 ((some p7.2).bind (AV.asInt .u64)).bind fun n9 =>
 cond (decide (n8<a5)) (
 some (.int .u64 a4,q6.2)) (
 cond (decide (n8=a5)) (
 cond (decide (n9≤a1)) (
 some (.int .u64 a4,q6.2)) (
 cond (decide ((IntKind.wrap .u64 (a5+a2))<a5)) (
 some (.int .u64 (IntKind.wrap .u64 (a4-1)),q6.2)) (
 go (.pt F.kem Td.kin [(2,.int .u64 a1),(3,.int .u64 a2),(4,.int .u64 a3),(11,.int .u64 (IntKind.wrap .u64 (a4-1))),(12,.int .u64 (IntKind.wrap .u64 (a5+a2)))]) q6.2))) (
 cond (decide ((IntKind.wrap .u64 (a5+a2))<a5)) (
 some (.int .u64 (IntKind.wrap .u64 (a4-1)),q6.2)) (
 go (.pt F.kem Td.kin [(2,.int .u64 a1),(3,.int .u64 a2),(4,.int .u64 a3),(11,.int .u64 (IntKind.wrap .u64 (a4-1))),(12,.int .u64 (IntKind.wrap .u64 (a5+a2)))]) q6.2))):=(kf _ h).trans (by kernel_rfl)
theorem kzh(a1:Bool)(a2:Sl)(h:AH):go (.fn F.knz [.agg [.bool a1,a2.v]]) h =
 newK h (.cells [.bool a1,a2.v] T.ki) fun h3r h3 =>
 newK h3 (.cells [.bool false,(⟨none,0,.is 0⟩:Sl).v] T.ki) fun h4r h4 =>
 ((h4.cell (h3r.add 0)).bind AV.asBool).bind fun b5 =>
 ((h4.cell (h3r.add 1)).bind AV.asSl).bind fun l6 =>
 (go (.fn F.ke4 [.agg [.bool b5,l6.v]]) h4).bind fun q7 =>
 ((some q7.1).bind AV.asBool).bind fun b8 =>
 cond (!b8) (
 (q7.2.puts h4r [.bool false,(⟨none,0,.is 0⟩:Sl).v]).bind fun h9 =>
 ((h9.cell (h4r.add 0)).bind AV.asBool).bind fun b10 =>
 ((h9.cell (h4r.add 1)).bind AV.asSl).bind fun l11 =>
 some (.agg [.bool b10,l11.v],h9)) (
 ((q7.2.cell (h3r.add 0)).bind AV.asBool).bind fun b12 =>
 ((q7.2.cell (h3r.add 1)).bind AV.asSl).bind fun l13 =>
 (go (.fn F.kb2 [.bool (!b12),l13.v]) q7.2).bind fun q14 =>
 (AV.asAgg q14.1).bind fun cs15 =>
 cond (Nat.beq cs15.length 2) (
 ((cs15[0]?).bind AV.asBool).bind fun b16 =>
 ((cs15[1]?).bind AV.asSl).bind fun l17 =>
 (q14.2.puts h4r [.bool b16,l17.v]).bind fun h18 =>
 ((h18.cell (h4r.add 0)).bind AV.asBool).bind fun b19 =>
 ((h18.cell (h4r.add 1)).bind AV.asSl).bind fun l20 =>
 some (.agg [.bool b19,l20.v],h18)) none):=(kf _ h).trans (by kernel_rfl)
theorem k03(a1:Sl)(h:AH):go (.fn F.kg7 [a1.v,.func (.func F.kdt) [] []]) h =
 go (.pt F.kg7 Td.klc [(0,a1.v),(1,.func (.func F.kdt) [] []),(7,.int .i64 (a1.len:Int)),(8,.int .i64 0)]) h:=(kf _ h).trans (by kernel_rfl)
theorem kwq(a1:Sl)(a2 a3:Int)(h:AH):go (.pt F.kh1 Td.kl5 [(0,a1.v),(1,.func (.func F.kdu) [] []),(7,.int .i64 a2),(8,.int .i64 a3)]) h =
 cond (decide (a3<a2)) (
 (idx a1.ref a1.len a3 2).bind fun r4 =>
 ((h.cell (r4.add 0)).bind AV.asBool).bind fun b5 =>
 ((h.cell (r4.add 1)).bind AV.asSl).bind fun l6 =>
 (go (.fn F.kdu [.agg [.bool b5,l6.v]]) h).bind fun q7 =>
 ((some q7.1).bind AV.asBool).bind fun b8 =>
 cond b8 (
 some (.int .i64 a3,q7.2)) (
 go (.pt F.kh1 Td.kl5 [(0,a1.v),(1,.func (.func F.kdu) [] []),(7,.int .i64 a2),(8,.int .i64 (IntKind.wrap .i64 (a3+1)))]) q7.2)) (
 some (.int .i64 (-1),h)):=(kf _ h).trans (by kernel_rfl)
theorem k4j(a1:Sl)(a2:Option Ref)(h:AH):go (.fn F.kc6 [a1.v,.func (.func F.kdi) [] [.ptr a2]]) h =
 (go (.fn F.kbn [a1.v,.func (.func F.kdi) [] [.ptr a2]]) h).bind fun q3 =>
 ((some q3.1).bind (AV.asInt .i64)).bind fun n4 =>
 some (.bool (decide (n4≥0)),q3.2):=(kf _ h).trans (by kernel_rfl)
theorem kvm(a1 a2:Ref)(a3:Sl)(a4 a5:Int)(h:AH):go (.pt F.kgk Td.kld [(4,.ptr (some a1)),(6,.ptr (some a2)),(23,a3.v),(24,.int .i64 a4),(25,.int .i64 a5)]) h =
 cond (decide (a5<a4)) (
 (idx a3.ref a3.len a5 1).bind fun r6 =>
 ((h.cell r6).bind (AV.asInt .i64)).bind fun n7 =>
 ((h.cell (a2.add 1)).bind AV.asSl).bind fun l8 =>
 (idx l8.ref l8.len (IntKind.wrap .i64 (Int.tdiv n7 64)) 1).bind fun r9 =>
 ((h.cell r9).bind (AV.asInt .u64)).bind fun n10 =>
 cond (decide ((Int.tmod n7 64)<0)) none (
 (idx l8.ref l8.len (IntKind.wrap .i64 (Int.tdiv n7 64)) 1).bind fun r11 =>
 (h.puts r11 [.int .u64 (ior .u64 n10 (ishl .u64 1 (Int.tmod n7 64)))]).bind fun h12 =>
 go (.pt F.kgk Td.kld [(4,.ptr (some a1)),(6,.ptr (some a2)),(23,a3.v),(24,.int .i64 a4),(25,.int .i64 (IntKind.wrap .i64 (a5+1)))]) h12)) (
 ((h.cell (a2.add 0)).bind (AV.asInt .i64)).bind fun n13 =>
 ((h.cell (a2.add 1)).bind AV.asSl).bind fun l14 =>
 (h.puts a1 [.int .i64 n13,l14.v]).bind fun h15 =>
 ((h15.cell (a1.add 0)).bind (AV.asInt .i64)).bind fun n16 =>
 ((h15.cell (a1.add 1)).bind AV.asSl).bind fun l17 =>
 some (.tup [.agg [.int .i64 n16,l17.v],.int .i64 0],h15)):=(kf _ h).trans (by kernel_rfl)
theorem k02(a1 a2:Int)(h:AH):go (.fn F.keo [.int .u64 a1,.int .u64 a2]) h =
 some (.int .u64 (iand .u64 a1 a2),h):=(kf _ h).trans (by kernel_rfl)
theorem kxr(a1:Sl)(h:AH):go (.fn F.kdp [a1.v]) h =
 (go (.fn F.kd3 [a1.v]) h).bind fun q2 =>
 ((some q2.1).bind AV.asBool).bind fun b3 =>
 some (.bool (!b3),q2.2):=(kf _ h).trans (by kernel_rfl)
theorem kbbt(a1 a2 a3 a4 a5 a6 a7 a8 a9:Int)(h:AH):go (.pt F.kbu Td.kj1 [(2,.int .u64 a1),(8,.int .u64 a2),(9,.int .u64 a3),(10,.int .u64 a4),(11,.int .u64 a5),(13,.int .u64 a6),(14,.int .u64 a7),(15,.int .u64 a8),(16,.int .u64 a9)]) h =
 cond (decide (a8≥4294967296)) (
 cond (decide ((IntKind.wrap .u64 (a9+a3))≥4294967296)) (
 cond (decide (a3=0)) none (
 go (.pt F.kbu Td.kgf [(2,.int .u64 a1),(8,.int .u64 a2),(9,.int .u64 a3),(10,.int .u64 a4),(14,.int .u64 a7),(15,.int .u64 (IntKind.wrap .u64 (a8-1))),(16,.int .u64 (IntKind.wrap .u64 ((IntKind.wrap .u64 ((IntKind.wrap .u64 ((IntKind.wrap .u64 (a5*4294967296))+a6))-(IntKind.wrap .u64 ((IntKind.wrap .u64 (a8-1))*a1))))-(IntKind.wrap .u64 ((IntKind.wrap .u64 (Int.tdiv (IntKind.wrap .u64 ((IntKind.wrap .u64 ((IntKind.wrap .u64 (a5*4294967296))+a6))-(IntKind.wrap .u64 ((IntKind.wrap .u64 (a8-1))*a1)))) a3))*a3))))),(17,.int .u64 (IntKind.wrap .u64 ((IntKind.wrap .u64 ((IntKind.wrap .u64 (a5*4294967296))+a6))-(IntKind.wrap .u64 ((IntKind.wrap .u64 (a8-1))*a1))))),(18,.int .u64 (IntKind.wrap .u64 (Int.tdiv (IntKind.wrap .u64 ((IntKind.wrap .u64 ((IntKind.wrap .u64 (a5*4294967296))+a6))-(IntKind.wrap .u64 ((IntKind.wrap .u64 (a8-1))*a1)))) a3)))]) h)) (
 go (.pt F.kbu Td.kj1 [(2,.int .u64 a1),(8,.int .u64 a2),(9,.int .u64 a3),(10,.int .u64 a4),(11,.int .u64 a5),(13,.int .u64 a6),(14,.int .u64 a7),(15,.int .u64 (IntKind.wrap .u64 (a8-1))),(16,.int .u64 (IntKind.wrap .u64 (a9+a3)))]) h)) (
 cond (decide ((IntKind.wrap .u64 (a8*a4))>(IntKind.wrap .u64 ((IntKind.wrap .u64 (4294967296*a9))+a6)))) (
 cond (decide ((IntKind.wrap .u64 (a9+a3))≥4294967296)) (
 cond (decide (a3=0)) none (
 go (.pt F.kbu Td.kgf [(2,.int .u64 a1),(8,.int .u64 a2),(9,.int .u64 a3),(10,.int .u64 a4),(14,.int .u64 a7),(15,.int .u64 (IntKind.wrap .u64 (a8-1))),(16,.int .u64 (IntKind.wrap .u64 ((IntKind.wrap .u64 ((IntKind.wrap .u64 ((IntKind.wrap .u64 (a5*4294967296))+a6))-(IntKind.wrap .u64 ((IntKind.wrap .u64 (a8-1))*a1))))-(IntKind.wrap .u64 ((IntKind.wrap .u64 (Int.tdiv (IntKind.wrap .u64 ((IntKind.wrap .u64 ((IntKind.wrap .u64 (a5*4294967296))+a6))-(IntKind.wrap .u64 ((IntKind.wrap .u64 (a8-1))*a1)))) a3))*a3))))),(17,.int .u64 (IntKind.wrap .u64 ((IntKind.wrap .u64 ((IntKind.wrap .u64 (a5*4294967296))+a6))-(IntKind.wrap .u64 ((IntKind.wrap .u64 (a8-1))*a1))))),(18,.int .u64 (IntKind.wrap .u64 (Int.tdiv (IntKind.wrap .u64 ((IntKind.wrap .u64 ((IntKind.wrap .u64 (a5*4294967296))+a6))-(IntKind.wrap .u64 ((IntKind.wrap .u64 (a8-1))*a1)))) a3)))]) h)) (
 go (.pt F.kbu Td.kj1 [(2,.int .u64 a1),(8,.int .u64 a2),(9,.int .u64 a3),(10,.int .u64 a4),(11,.int .u64 a5),(13,.int .u64 a6),(14,.int .u64 a7),(15,.int .u64 (IntKind.wrap .u64 (a8-1))),(16,.int .u64 (IntKind.wrap .u64 (a9+a3)))]) h)) (
 cond (decide (a3=0)) none (
 go (.pt F.kbu Td.kgf [(2,.int .u64 a1),(8,.int .u64 a2),(9,.int .u64 a3),(10,.int .u64 a4),(14,.int .u64 a7),(15,.int .u64 a8),(16,.int .u64 (IntKind.wrap .u64 ((IntKind.wrap .u64 ((IntKind.wrap .u64 ((IntKind.wrap .u64 (a5*4294967296))+a6))-(IntKind.wrap .u64 (a8*a1))))-(IntKind.wrap .u64 ((IntKind.wrap .u64 (Int.tdiv (IntKind.wrap .u64 ((IntKind.wrap .u64 ((IntKind.wrap .u64 (a5*4294967296))+a6))-(IntKind.wrap .u64 (a8*a1)))) a3))*a3))))),(17,.int .u64 (IntKind.wrap .u64 ((IntKind.wrap .u64 ((IntKind.wrap .u64 (a5*4294967296))+a6))-(IntKind.wrap .u64 (a8*a1))))),(18,.int .u64 (IntKind.wrap .u64 (Int.tdiv (IntKind.wrap .u64 ((IntKind.wrap .u64 ((IntKind.wrap .u64 (a5*4294967296))+a6))-(IntKind.wrap .u64 (a8*a1)))) a3)))]) h))):=(kf _ h).trans (by kernel_rfl)
theorem kwf(a1:Sl)(a2 a3:Int)(h:AH):go (.pt F.kg7 Td.klc [(0,a1.v),(1,.func (.func F.kdt) [] []),(7,.int .i64 a2),(8,.int .i64 a3)]) h =
 cond (decide (a3<a2)) (
 (idx a1.ref a1.len a3 3).bind fun r4 =>
 ((h.cell (r4.add 0)).bind AV.asBool).bind fun b5 =>
 ((h.cell (r4.add 1)).bind AV.asSl).bind fun l6 =>
 ((h.cell (r4.add 2)).bind AV.asSl).bind fun l7 =>
 (go (.fn F.kdt [.agg [.bool b5,l6.v,l7.v]]) h).bind fun q8 =>
 ((some q8.1).bind AV.asBool).bind fun b9 =>
 cond b9 (
 some (.int .i64 a3,q8.2)) (
 go (.pt F.kg7 Td.klc [(0,a1.v),(1,.func (.func F.kdt) [] []),(7,.int .i64 a2),(8,.int .i64 (IntKind.wrap .i64 (a3+1)))]) q8.2)) (
 some (.int .i64 (-1),h)):=(kf _ h).trans (by kernel_rfl)
theorem k5x(a1:Bool)(a2:Sl)(h:AH):go (.fn F.kdu [.agg [.bool a1,a2.v]]) h =
 newK h (.cells [.bool a1,a2.v] T.ki) fun h3r h3 =>
 ((h3.cell (h3r.add 0)).bind AV.asBool).bind fun b4 =>
 ((h3.cell (h3r.add 1)).bind AV.asSl).bind fun l5 =>
 (go (.fn F.ke4 [.agg [.bool b4,l5.v]]) h3).bind fun q6 =>
 ((some q6.1).bind AV.asBool).bind fun b7 =>
 some (.bool (!b7),q6.2):=(kf _ h).trans (by kernel_rfl)
theorem kxu(a1:Sl)(a2:Option Ref)(h:AH):go (.fn F.kbn [a1.v,.func (.func F.kdi) [] [.ptr a2]]) h =
 go (.pt F.kbn Td.kcf [(0,a1.v),(1,.func (.func F.kdi) [] [.ptr a2]),(7,.int .i64 (a1.len:Int)),(8,.int .i64 0)]) h:=(kf _ h).trans (by kernel_rfl)
theorem kbag(a1 a2 a3 a4 a5 a6 a7 a8 a9:Int)(h:AH):go (.pt F.kbu Td.kgf [(2,.int .u64 a1),(8,.int .u64 a2),(9,.int .u64 a3),(10,.int .u64 a4),(14,.int .u64 a5),(15,.int .u64 a6),(16,.int .u64 a7),(17,.int .u64 a8),(18,.int .u64 a9)]) h =
 cond (decide (a9≥4294967296)) (
 cond (decide ((IntKind.wrap .u64 (a7+a3))≥4294967296)) (
 cond (decide (a2<0)) none (
 some (.tup [.int .u64 (IntKind.wrap .u64 ((IntKind.wrap .u64 (a6*4294967296))+(IntKind.wrap .u64 (a9-1)))),.int .u64 (ishr .u64 (IntKind.wrap .u64 ((IntKind.wrap .u64 ((IntKind.wrap .u64 (a8*4294967296))+a5))-(IntKind.wrap .u64 ((IntKind.wrap .u64 (a9-1))*a1)))) a2)],h))) (
 go (.pt F.kbu Td.kgf [(2,.int .u64 a1),(8,.int .u64 a2),(9,.int .u64 a3),(10,.int .u64 a4),(14,.int .u64 a5),(15,.int .u64 a6),(16,.int .u64 (IntKind.wrap .u64 (a7+a3))),(17,.int .u64 a8),(18,.int .u64 (IntKind.wrap .u64 (a9-1)))]) h)) (
 cond (decide ((IntKind.wrap .u64 (a9*a4))>(IntKind.wrap .u64 ((IntKind.wrap .u64 (4294967296*a7))+a5)))) (
 cond (decide ((IntKind.wrap .u64 (a7+a3))≥4294967296)) (
 cond (decide (a2<0)) none (
 some (.tup [.int .u64 (IntKind.wrap .u64 ((IntKind.wrap .u64 (a6*4294967296))+(IntKind.wrap .u64 (a9-1)))),.int .u64 (ishr .u64 (IntKind.wrap .u64 ((IntKind.wrap .u64 ((IntKind.wrap .u64 (a8*4294967296))+a5))-(IntKind.wrap .u64 ((IntKind.wrap .u64 (a9-1))*a1)))) a2)],h))) (
 go (.pt F.kbu Td.kgf [(2,.int .u64 a1),(8,.int .u64 a2),(9,.int .u64 a3),(10,.int .u64 a4),(14,.int .u64 a5),(15,.int .u64 a6),(16,.int .u64 (IntKind.wrap .u64 (a7+a3))),(17,.int .u64 a8),(18,.int .u64 (IntKind.wrap .u64 (a9-1)))]) h)) (
 cond (decide (a2<0)) none (
 some (.tup [.int .u64 (IntKind.wrap .u64 ((IntKind.wrap .u64 (a6*4294967296))+a9)),.int .u64 (ishr .u64 (IntKind.wrap .u64 ((IntKind.wrap .u64 ((IntKind.wrap .u64 (a8*4294967296))+a5))-(IntKind.wrap .u64 (a9*a1)))) a2)],h)))):=(kf _ h).trans (by kernel_rfl)
theorem k0w(a1:Bool)(a2 a3:Sl)(h:AH):go (.fn F.kdt [.agg [.bool a1,a2.v,a3.v]]) h =
 newK h (.cells [.bool a1,a2.v,a3.v] T.ky) fun h4r h4 =>
 ((h4.cell (h4r.add 0)).bind AV.asBool).bind fun b5 =>
 ((h4.cell (h4r.add 1)).bind AV.asSl).bind fun l6 =>
 ((h4.cell (h4r.add 2)).bind AV.asSl).bind fun l7 =>
 (go (.fn F.kot [.agg [.bool b5,l6.v,l7.v]]) h4).bind fun q8 =>
 ((some q8.1).bind AV.asBool).bind fun b9 =>
 some (.bool (!b9),q8.2):=(kf _ h).trans (by kernel_rfl)
theorem kq6(a1:Sl)(a2:Option Ref)(a3 a4:Int)(h:AH):go (.pt F.kbn Td.kcf [(0,a1.v),(1,.func (.func F.kdi) [] [.ptr a2]),(7,.int .i64 a3),(8,.int .i64 a4)]) h =
 cond (decide (a4<a3)) (
 (idx a1.ref a1.len a4 1).bind fun r5 =>
 ((h.cell r5).bind (AV.asInt .i64)).bind fun n6 =>
 (go (.fn F.kdi [.int .i64 n6,.ptr a2]) h).bind fun q7 =>
 ((some q7.1).bind AV.asBool).bind fun b8 =>
 cond b8 (
 some (.int .i64 a4,q7.2)) (
 go (.pt F.kbn Td.kcf [(0,a1.v),(1,.func (.func F.kdi) [] [.ptr a2]),(7,.int .i64 a3),(8,.int .i64 (IntKind.wrap .i64 (a4+1)))]) q7.2)) (
 some (.int .i64 (-1),h)):=(kf _ h).trans (by kernel_rfl)
theorem k5q(a1:Bool)(a2 a3:Sl)(h:AH):go (.fn F.kot [.agg [.bool a1,a2.v,a3.v]]) h =
 newK h (.cells [.bool a1,a2.v,a3.v] T.ky) fun h4r h4 =>
 ((h4.cell ((h4r.add 0).add 0)).bind AV.asBool).bind fun b5 =>
 ((h4.cell ((h4r.add 0).add 1)).bind AV.asSl).bind fun l6 =>
 (go (.fn F.ke4 [.agg [.bool b5,l6.v]]) h4).bind fun q7 =>
 ((some q7.1).bind AV.asBool).bind fun b8 =>
 cond (!b8) (
 some (.bool false,q7.2)) (
 ((q7.2.cell (h4r.add 2)).bind AV.asSl).bind fun l9 =>
 (go (.fn F.kd3 [l9.v]) q7.2).bind fun q10 =>
 ((some q10.1).bind AV.asBool).bind fun b11 =>
 cond (!b11) (
 some (.bool false,q10.2)) (
 ((q10.2.cell (h4r.add 2)).bind AV.asSl).bind fun l12 =>
 cond (decide ((l12.len:Int)=0)) (
 some (.bool false,q10.2)) (
 ((q10.2.cell (h4r.add 2)).bind AV.asSl).bind fun l13 =>
 cond (decide ((l13.len:Int)>16)) (
 some (.bool false,q10.2)) (
 ((q10.2.cell ((h4r.add 0).add 1)).bind AV.asSl).bind fun l14 =>
 cond (decide ((l14.len:Int)>16)) (
 some (.bool false,q10.2)) (
 ((q10.2.cell ((h4r.add 0).add 1)).bind AV.asSl).bind fun l15 =>
 ((q10.2.cell (h4r.add 2)).bind AV.asSl).bind fun l16 =>
 (go (.fn F.kec [l15.v,l16.v]) q10.2).bind fun q17 =>
 (AV.asTup2 q17.1).bind fun p18 =>
 ((some p18.1).bind AV.asSl).bind fun l19 =>
 ((some p18.2).bind (AV.asInt .i64)).bind fun n20 =>
 newK q17.2 (.cells [.int .u64 1] T.kj) fun h21r h21 =>
 (go (.fn F.khp [l19.v,(⟨some h21r,1,.is 1⟩:Sl).v]) h21).bind fun q22 =>
 ((some q22.1).bind (AV.asInt .i64)).bind fun n23 =>
 some (.bool (decide (n23=0)),q22.2)))))):=(kf _ h).trans (by kernel_rfl)
theorem k3b(a1:Int)(a2:Option Ref)(h:AH):go (.fn F.kdi [.int .i64 a1,.ptr a2]) h =
 cond (decide (a1<0)) (
 some (.bool true,h)) (
 a2.bind fun r3 =>
 ((h.cell r3).bind (AV.asInt .i64)).bind fun n4 =>
 some (.bool (decide (a1≥n4)),h)):=(kf _ h).trans (by kernel_rfl)
end Go.Ab
