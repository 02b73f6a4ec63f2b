/- Words and laws that the last text joins. -/
import Derived.Test.YtgldlogiggpbgaaGreatDoorPAbsDra
import Derived.Test.YtgldlogiggpbgaaGreatDoorProg
set_option linter.unusedVariables false
set_option linter.unusedSimpArgs false
set_option linter.unusedSectionVars false
set_option maxRecDepth 100000
namespace Go.Ab
open Go.Proofs
@[reducible] def kop:FuncId:=5
@[reducible] def kir:FuncId:=11
@[reducible] def ke3:FuncId:=16
@[reducible] def kki:FuncId:=18
@[reducible] def km8:FuncId:=20
@[reducible] def kdq:FuncId:=21
@[reducible] def kih:FuncId:=22
@[reducible] def kn6:FuncId:=23
@[reducible] def kqn:FuncId:=24
@[reducible] def kyl:FuncId:=30
@[reducible] def kpl:FuncId:=32
@[reducible] def kkk:FuncId:=33
@[reducible] def kj8:FuncId:=37
@[reducible] def kbx:FuncId:=38
@[reducible] def kf8:FuncId:=39
@[reducible] def kpx:FuncId:=40
@[reducible] def km9:FuncId:=41
@[reducible] def khg:FuncId:=42
@[reducible] def kp1:FuncId:=45
@[reducible] def kmt:FuncId:=46
@[reducible] def kpv:FuncId:=47
@[reducible] def kf5:FuncId:=49
@[reducible] def kn2:FuncId:=50
@[reducible] def kc4:FuncId:=51
@[reducible] def kcw:FuncId:=52
@[reducible] def kf:FuncId:=53
@[reducible] def kf4:FuncId:=54
@[reducible] def kib:FuncId:=56
@[reducible] def kll:FuncId:=57
@[reducible] def knp:FuncId:=61
@[reducible] def kkm:FuncId:=66
@[reducible] def kn7:FuncId:=67
@[reducible] def kp2:FuncId:=68
@[reducible] def kfh:FuncId:=72
@[reducible] def knk:FuncId:=73
@[reducible] def kbn:FuncId:=74
@[reducible] def kb3:FuncId:=75
@[reducible] def kc7:FuncId:=76
@[reducible] def klf:FuncId:=77
@[reducible] def knw:FuncId:=78
@[reducible] def kpa:FuncId:=79
@[reducible] def kmc:FuncId:=80
@[reducible] def kqf:FuncId:=81
@[reducible] def kgm:FuncId:=82
@[reducible] def kdg:FuncId:=83
@[reducible] def kde:FuncId:=84
@[reducible] def kqh:FuncId:=85
@[reducible] def koi:FuncId:=86
@[reducible] def kcs:FuncId:=87
@[reducible] def kb6:FuncId:=88
@[reducible] def kc2:FuncId:=94
@[reducible] def kb0:FuncId:=95
@[reducible] def kne:FuncId:=96
@[reducible] def kqm:FuncId:=97
@[reducible] def kev:FuncId:=98
@[reducible] def kk5:FuncId:=99
@[reducible] def kpk:FuncId:=100
@[reducible] def kct:FuncId:=101
@[reducible] def kgg:FuncId:=102
@[reducible] def khz:FuncId:=103
@[reducible] def khf:FuncId:=106
@[reducible] def kff:FuncId:=107
@[reducible] def kfa:FuncId:=108
@[reducible] def kgj:FuncId:=109
@[reducible] def kix:FuncId:=110
@[reducible] def klo:FuncId:=111
@[reducible] def kif:FuncId:=112
@[reducible] def km6:FuncId:=113
@[reducible] def kni:FuncId:=114
@[reducible] def kjc:FuncId:=125
@[reducible] def kqg:FuncId:=127
@[reducible] def kda:FuncId:=135
@[reducible] def khj:FuncId:=136
@[reducible] def kfn:FuncId:=137
@[reducible] def kcy:FuncId:=138
@[reducible] def kes:FuncId:=139
@[reducible] def kf2:FuncId:=140
@[reducible] def kdy:FuncId:=141
@[reducible] def kca:FuncId:=142
@[reducible] def ke2:FuncId:=144
@[reducible] def kkq:FuncId:=145
@[reducible] def kkg:FuncId:=146
@[reducible] def kx:FuncId:=148
@[reducible] def kmu:FuncId:=155
@[reducible] def khi:FuncId:=156
@[reducible] def knn:FuncId:=157
@[reducible] def klc:FuncId:=158
@[reducible] def kcr:FuncId:=159
@[reducible] def kgf:FuncId:=160
@[reducible] def kf1:FuncId:=161
@[reducible] def kd9:FuncId:=163
@[reducible] def kdm:FuncId:=164
@[reducible] def kbf:FuncId:=165
@[reducible] def kij:FuncId:=166
@[reducible] def kci:FuncId:=167
@[reducible] def khs:FuncId:=168
@[reducible] def khw:FuncId:=169
@[reducible] def kcu:FuncId:=170
@[reducible] def kcl:FuncId:=171
@[reducible] def kc3:FuncId:=172
@[reducible] def kg9:FuncId:=173
@[reducible] def kh2:FuncId:=174
@[reducible] def khc:FuncId:=180
@[reducible] def ket:FuncId:=182
@[reducible] def kbs:FuncId:=183
@[reducible] def kbc:FuncId:=189
@[reducible] def kjv:FuncId:=190
@[reducible] def kc5:FuncId:=191
@[reducible] def kjx:FuncId:=192
@[reducible] def kdi:FuncId:=193
@[reducible] def kig:FuncId:=194
@[reducible] def kp7:FuncId:=195
@[reducible] def kbq:FuncId:=196
@[reducible] def kov:FuncId:=197
@[reducible] def kgo:FuncId:=200
@[reducible] def kef:FuncId:=201
@[reducible] def kho:FuncId:=202
@[reducible] def kpg:FuncId:=203
@[reducible] def knh:FuncId:=204
@[reducible] def kfd:FuncId:=211
@[reducible] def kbp:FuncId:=212
@[reducible] def kk4:FuncId:=214
@[reducible] def kbi:FuncId:=220
@[reducible] def klt:FuncId:=221
@[reducible] def kea:FuncId:=222
@[reducible] def kez:FuncId:=223
@[reducible] def kfs:FuncId:=227
@[reducible] def kbm:FuncId:=228
@[reducible] def kd7:FuncId:=229
@[reducible] def kdx:FuncId:=231
@[reducible] def kbt:FuncId:=232
@[reducible] def kqi:FuncId:=233
@[reducible] def kqk:FuncId:=244
@[reducible] def ko6:FuncId:=245
@[reducible] def kee:FuncId:=251
@[reducible] def kcq:FuncId:=252
@[reducible] def kek:FuncId:=255
@[reducible] def ke8:FuncId:=261
@[reducible] def kdv:FuncId:=262
@[reducible] def T.func:TypeId:=1
@[reducible] def T.int:TypeId:=3
@[reducible] def T.bool:TypeId:=4
@[reducible] def kcp:TypeId:=5
@[reducible] def T.string:TypeId:=9
@[reducible] def T.any:TypeId:=20
@[reducible] def kco:TypeId:=23
@[reducible] def knl:TypeId:=24
@[reducible] def kbb:TypeId:=26
@[reducible] def kkt:TypeId:=27
@[reducible] def k60:TypeId:=33
@[reducible] def kcm:TypeId:=37
@[reducible] def ku:TypeId:=39
@[reducible] def kr:TypeId:=58
@[reducible] def kbh:TypeId:=73
@[reducible] def ke4:TypeId:=77
@[reducible] def ke:TypeId:=84
@[reducible] def kg5:TypeId:=90
@[reducible] def kw:TypeId:=93
@[reducible] def ktb:TypeId:=98
@[reducible] def kj3:TypeId:=113
@[reducible] def ktp:TypeId:=120
@[reducible] def kb7:TypeId:=131
@[reducible] def kcv:TypeId:=134
@[reducible] def krz:TypeId:=137
@[reducible] def krj:TypeId:=155
@[reducible] def ktw:TypeId:=165
@[reducible] def ky3:TypeId:=169
@[reducible] def kn3:TypeId:=173
@[reducible] def ksa:TypeId:=174
@[reducible] def kj1:TypeId:=187
@[reducible] def kvv:TypeId:=188
@[reducible] def kcj:TypeId:=190
@[reducible] def k3r:TypeId:=195
@[reducible] def kc6:TypeId:=197
@[reducible] def kbbg:TypeId:=236
@[reducible] def kbbn:TypeId:=289
@[reducible] noncomputable def Pg:Program:=Tryz.prog
@[reducible] def Gl.math_bits_divideError:Nat:=0
@[reducible] def Gl.math_bits_overflowError:Nat:=1
@[reducible] def Gl.math_bits_deBruijn64tab:Nat:=2
def keepTab:List (Nat×Nat×List Nat):=[(11,1000010,[1,2,4,0,3,5]),(11,2000010,[4]),(16,4,[0,1,5]),(21,9,[5,9,11,12]),(21,15,[9,13]),(30,4,[0,1,5]),(33,1000009,[0,2,3,1,4,5,6,7]),(38,6,[1,4,43,44,45]),(38,15,[1,84,85]),(40,1000011,[0,1,2,3,4,7,8,5,6,9,10,11]),(49,8,[8,9,37,38,39]),(50,1000001,[0,1,2,3,5,6,7,8,9,4,10,11,12,13]),(51,4,[1,27,28,29]),(52,5,[1,4]),(52,10,[1,4,5]),(53,6,[1]),(53,7,[1,4]),(53,8,[1,4,5]),(53,9,[1,4,5,6]),(53,11,[1]),(53,13,[1]),(53,16,[1,7]),(53,21,[1,8]),(53,26,[1,9]),(54,4,[0,1,5]),(82,1000006,[0,1,2,3,4,5,7,8,6,9,10,11,12,13,14]),(83,9,[2,55,56,57]),(83,2000007,[5]),(84,14,[0,3,6,10,11,87,88,89]),(84,1000003,[0,1,2,3,4,5,6,7,12,8,9,10,11,13,14]),(84,2000003,[12]),(94,4,[12,13,14]),(94,9,[4,12,13,14,29,30,31]),(98,0,[0]),(98,1000004,[0,1,2,3,4,5,6,7,8,9,10,11,12,13,14,15,16,17,18,19,20,22,23,21,24,25]),(102,4,[0,3]),(103,6,[3]),(107,4,[0,1]),(136,2,[0,1,7,8]),(139,5,[4,6,23,24,25]),(140,10,[0,4,14,15,17,60,61,62]),(142,14,[7,8,9,11,12,15,40,41,42]),(144,7,[2,3,6,8,44,45,46]),(148,2,[0,1,7,8]),(156,2,[0,1,7,8]),(160,3,[3,7,8,9]),(161,2,[0,1,5]),(163,6,[0,1,5]),(165,2,[0,3]),(166,1000006,[0,1,2,4,5,8,9,10,12,13,3,6,7,11,14,15,16,17]),(166,1000007,[0,1,2,4,5,9,10,12,13,3,6,7,8,11,14,15,16,17,18]),(167,3,[1,5,20,21,22]),(167,7,[1,5,6,7,8,20,21,22,27,28,29]),(170,6,[0,1,5,6,21,22]),(171,4,[0,1,5,6,13,14]),(172,2,[0,1,2,6,7]),(182,4,[0,1,6,7,8]),(183,6,[6,7,8,9,10,11]),(183,10,[6,7,8,9,10,11,12,13]),(183,18,[6,10,15,16,112,113]),(189,2,[0,1,7,8]),(193,5,[0,1,6,25,26]),(193,11,[6,8,9]),(200,5,[2,3,4,6,8,9,35,36]),(220,3,[0,1,2]),(220,17,[2,8,9,10,11,13,14,15,16]),(220,24,[2,8,9,10,14,15,16,17,18]),(222,3,[1,5,12,13,14]),(223,4,[2,3,4,11,12]),(228,1,[0,1,2,10,11,12]),(228,4,[0,1,2,4,10,11,12,18,19]),(232,1,[0,6,7,8]),(232,3,[0,3,4,6,7,8]),(251,1,[0,1,2]),(255,9,[0,5,23,24]),(261,2,[0,1,7,8])]
noncomputable def go:Rec:=run Pg (keepOf keepTab)
theorem kc(k:Key)(h:AH):go k h=stepA Pg (keepOf keepTab) go k h:=k89 _ k h
theorem kiw:Pg.underlying T.int=some (.int .i64):=Tryz.underlying3
theorem kht:Pg.cellsOf T.int=1:=by kernel_rfl
theorem koy:kb1 Pg T.int=some [.int .i64 0]:=by kernel_rfl
theorem kl0:Pg.bytesOf T.int=8:=by kernel_rfl
theorem kbat:Pg.underlying kcp=some (.int .u8):=Tryz.underlying5
theorem kru:Pg.cellsOf kcp=1:=by kernel_rfl
theorem k7c:kb1 Pg kcp=some [.int .u8 0]:=by kernel_rfl
theorem kbaa:Pg.bytesOf kcp=1:=by kernel_rfl
theorem ky6:Pg.underlying kco=some (.slice T.int):=Tryz.underlying23
theorem kou:Pg.cellsOf kco=1:=by kernel_rfl
theorem kyw:Pg.underlying knl=some (.slice kco):=Tryz.underlying24
theorem k43:Pg.cellsOf knl=1:=by kernel_rfl
theorem k9a:Pg.underlying kbb=some (.struct #[{name := "Ids",type:=kco,offset:=0,embedded:=false,tag := "",pkgPath := "",byteOffset:=0},{name := "Bins",type:=kco,offset:=1,embedded:=false,tag := "",pkgPath := "",byteOffset:=24},{name := "Cols",type:=knl,offset:=2,embedded:=false,tag := "",pkgPath := "",byteOffset:=48}]):=Tryz.underlying26
theorem krb:Pg.cellsOf kbb=3:=by kernel_rfl
theorem k5y:Pg.underlying kkt=some (.slice kcp):=Tryz.underlying27
theorem kx3:Pg.cellsOf kkt=1:=by kernel_rfl
theorem k0g:Pg.underlying kcm=some (.slice kr):=Tryz.underlying37
theorem k8f:Pg.cellsOf kcm=1:=by kernel_rfl
theorem kr0:Pg.underlying ku=some (.struct #[{name := "Kind",type:=T.int,offset:=0,embedded:=false,tag := "",pkgPath := "",byteOffset:=0},{name := "A",type:=T.int,offset:=1,embedded:=false,tag := "",pkgPath := "",byteOffset:=8},{name := "B",type:=T.int,offset:=2,embedded:=false,tag := "",pkgPath := "",byteOffset:=16},{name := "C",type:=T.int,offset:=3,embedded:=false,tag := "",pkgPath := "",byteOffset:=24},{name := "Ids",type:=kco,offset:=4,embedded:=false,tag := "",pkgPath := "",byteOffset:=32},{name := "Rows",type:=kco,offset:=5,embedded:=false,tag := "",pkgPath := "",byteOffset:=56},{name := "Nats",type:=kcm,offset:=6,embedded:=false,tag := "",pkgPath := "",byteOffset:=80}]):=Tryz.underlying39
theorem k6s:Pg.cellsOf ku=7:=by kernel_rfl
theorem ksi:Pg.underlying kr=some (.slice ke):=Tryz.underlying58
theorem kit:Pg.cellsOf kr=1:=by kernel_rfl
theorem kbdp:kb1 Pg kr=some [(⟨none,0,.is 0⟩:Sl).v]:=by kernel_rfl
theorem kyy:Pg.bytesOf kr=24:=by kernel_rfl
theorem k5t:Pg.cellsOf kbh=2:=by kernel_rfl
theorem k23:kb1 Pg kbh=some [.int .i64 0,.int .i64 0]:=by kernel_rfl
theorem k5p:Pg.bytesOf kbh=16:=by kernel_rfl
theorem krh:Pg.underlying ke4=some (.struct #[{name := "Table",type:=kbb,offset:=0,embedded:=false,tag := "",pkgPath := "",byteOffset:=0},{name := "Tape",type:=kkt,offset:=3,embedded:=false,tag := "",pkgPath := "",byteOffset:=72},{name := "Queries",type:=kbb,offset:=4,embedded:=false,tag := "",pkgPath := "",byteOffset:=96}]):=Tryz.underlying77
theorem k7o:Pg.cellsOf ke4=7:=by kernel_rfl
theorem k9k:Pg.underlying ke=some (.int .u64):=Tryz.underlying84
theorem ktu:Pg.cellsOf ke=1:=by kernel_rfl
theorem k7v:kb1 Pg ke=some [.int .u64 0]:=by kernel_rfl
theorem kd3:Pg.bytesOf ke=8:=by kernel_rfl
theorem kbcs:Pg.cellsOf kb7=7:=by kernel_rfl
theorem kyh:kb1 Pg kb7=some [.bool false,.int .i64 0,.int .i64 0,.int .i64 0,.int .i64 0,.int .i64 0,.int .i64 0]:=by kernel_rfl
theorem kbdy:Pg.bytesOf kb7=56:=by kernel_rfl
theorem k1j:Pg.cellsOf kcv=1:=by kernel_rfl
theorem k6f:kb1 Pg kcv=some [(⟨none,0,.is 0⟩:Sl).v]:=by kernel_rfl
theorem kbde:Pg.bytesOf kcv=24:=by kernel_rfl
theorem k4r:Pg.cellsOf kcj=4:=by kernel_rfl
theorem kyi:kb1 Pg kcj=some [.int .i64 0,.int .i64 0,.int .i64 0,.int .i64 0]:=by kernel_rfl
theorem k4j:Pg.bytesOf kcj=32:=by kernel_rfl
noncomputable def kjt:List Item:=todoAt Tryz.f16 4
noncomputable def kkf:List Item:=todoAt Tryz.f21 9
noncomputable def kmk:List Item:=todoAt Tryz.f21 15
noncomputable def keg:List Item:=todoAt Tryz.f38 6
noncomputable def kja:List Item:=todoAt Tryz.f38 15
noncomputable def kl6:List Item:=todoAt Tryz.f49 8
noncomputable def kk6:List Item:=todoAt Tryz.f51 4
noncomputable def kjn:List Item:=todoAt Tryz.f52 5
noncomputable def kl4:List Item:=todoAt Tryz.f52 10
noncomputable def kdf:List Item:=todoAt Tryz.f53 6
noncomputable def kkh:List Item:=todoAt Tryz.f53 7
noncomputable def kj5:List Item:=todoAt Tryz.f53 8
noncomputable def kjb:List Item:=todoAt Tryz.f53 9
noncomputable def kdl:List Item:=todoAt Tryz.f53 11
noncomputable def kol:List Item:=todoAt Tryz.f53 13
noncomputable def kcz:List Item:=todoAt Tryz.f53 16
noncomputable def kjd:List Item:=todoAt Tryz.f53 21
noncomputable def kkj:List Item:=todoAt Tryz.f53 26
noncomputable def kkc:List Item:=todoAt Tryz.f54 4
noncomputable def kj6:List Item:=todoAt Tryz.f83 9
noncomputable def kls:List Item:=todoAt Tryz.f84 14
noncomputable def kjp:List Item:=todoAt Tryz.f94 4
noncomputable def kmf:List Item:=todoAt Tryz.f94 9
noncomputable def kfz:List Item:=todoAt Tryz.f98 0
noncomputable def kkd:List Item:=todoAt Tryz.f102 4
noncomputable def kqe:List Item:=todoAt Tryz.f103 6
noncomputable def kjw:List Item:=todoAt Tryz.f107 4
noncomputable def kkb:List Item:=todoAt Tryz.f136 2
noncomputable def kj7:List Item:=todoAt Tryz.f139 5
noncomputable def kl9:List Item:=todoAt Tryz.f140 10
noncomputable def kk3:List Item:=todoAt Tryz.f142 14
noncomputable def ki2:List Item:=todoAt Tryz.f144 7
noncomputable def kbo:List Item:=todoAt Tryz.f148 2
noncomputable def klw:List Item:=todoAt Tryz.f156 2
noncomputable def kmo:List Item:=todoAt Tryz.f160 3
noncomputable def kj4:List Item:=todoAt Tryz.f161 2
noncomputable def klu:List Item:=todoAt Tryz.f163 6
noncomputable def kjl:List Item:=todoAt Tryz.f165 2
noncomputable def kju:List Item:=todoAt Tryz.f167 3
noncomputable def kks:List Item:=todoAt Tryz.f167 7
noncomputable def ke7:List Item:=todoAt Tryz.f170 6
noncomputable def kg6:List Item:=todoAt Tryz.f171 4
noncomputable def kge:List Item:=todoAt Tryz.f172 2
noncomputable def kk0:List Item:=todoAt Tryz.f182 4
noncomputable def kkw:List Item:=todoAt Tryz.f183 6
noncomputable def kma:List Item:=todoAt Tryz.f183 10
noncomputable def khl:List Item:=todoAt Tryz.f183 18
noncomputable def kb4:List Item:=todoAt Tryz.f189 2
noncomputable def kmr:List Item:=todoAt Tryz.f193 5
noncomputable def kl1:List Item:=todoAt Tryz.f193 11
noncomputable def kmq:List Item:=todoAt Tryz.f200 5
noncomputable def kmx:List Item:=todoAt Tryz.f220 3
noncomputable def kiz:List Item:=todoAt Tryz.f220 17
noncomputable def kga:List Item:=todoAt Tryz.f220 24
noncomputable def ki3:List Item:=todoAt Tryz.f222 3
noncomputable def kh1:List Item:=todoAt Tryz.f223 4
noncomputable def kii:List Item:=todoAt Tryz.f228 1
noncomputable def ki8:List Item:=todoAt Tryz.f228 4
noncomputable def kjq:List Item:=todoAt Tryz.f232 1
noncomputable def kkv:List Item:=todoAt Tryz.f232 3
noncomputable def kgs:List Item:=todoAt Tryz.f251 1
noncomputable def kle:List Item:=todoAt Tryz.f255 9
noncomputable def khn:List Item:=todoAt Tryz.f261 2
noncomputable def kn0:Func:=Tryz.f141
noncomputable def kvy:List Item:=kna Tryz.f141 0 (.tmp 9)
noncomputable def kwn:List Item:=(loopAt Tryz.f141 0).2.2.2
noncomputable def knm:Func:=Tryz.f142
noncomputable def kup:List Item:=kna Tryz.f142 0 (.tmp 36)
noncomputable def kti:List Item:=(loopAt Tryz.f142 0).2.2.2
noncomputable def kox:Func:=Tryz.f231
noncomputable def ktz:List Item:=kna Tryz.f231 0 (.tmp 6)
noncomputable def ku8:List Item:=(loopAt Tryz.f231 0).2.2.2
def lit1:ByteArray:=(⟨((List.append (List.append ([0,1,2,2,3,3,3,3,4,4,4,4,4,4,4,4,5,5,5,5,5,5,5,5,5,5,5,5,5,5,5,5,6,6,6,6,6,6,6,6,6,6,6,6,6,6,6,6,6,6,6,6,6,6,6,6,6,6,6,6,6,6,6,6]:List UInt8) ([7,7,7,7,7,7,7,7,7,7,7,7,7,7,7,7,7,7,7,7,7,7,7,7,7,7,7,7,7,7,7,7,7,7,7,7,7,7,7,7,7,7,7,7,7,7,7,7,7,7,7,7,7,7,7,7,7,7,7,7,7,7,7,7]:List UInt8)) (List.append ([8,8,8,8,8,8,8,8,8,8,8,8,8,8,8,8,8,8,8,8,8,8,8,8,8,8,8,8,8,8,8,8,8,8,8,8,8,8,8,8,8,8,8,8,8,8,8,8,8,8,8,8,8,8,8,8,8,8,8,8,8,8,8,8]:List UInt8) ([8,8,8,8,8,8,8,8,8,8,8,8,8,8,8,8,8,8,8,8,8,8,8,8,8,8,8,8,8,8,8,8,8,8,8,8,8,8,8,8,8,8,8,8,8,8,8,8,8,8,8,8,8,8,8,8,8,8,8,8,8,8,8,8]:List UInt8)))).toArray⟩:ByteArray)
theorem kwx(args:List AV)(h:AH):callF Pg go kbm args h=go (.fn kbm args) h:=by kernel_rfl
theorem kbaj(args:List AV)(h:AH):callF Pg go kbt args h=go (.fn kbt args) h:=by kernel_rfl
theorem k4b(args:List AV)(h:AH):callF Pg go kd7 args h=go (.fn kd7 args) h:=by kernel_rfl
theorem kzn(args:List AV)(h:AH):callF Pg go kfd args h=go (.fn kfd args) h:=by kernel_rfl
theorem k2i(a1 a2 a3 a4 a5 a6 a7:Sl)(a8 a9 a10 a11:Int)(a12 a13 a14:Sl)(h:AH):go (.fn kop [.agg [a1.v,a2.v,a3.v,a4.v,a5.v,a6.v,a7.v],.agg [.int .i64 a8,.int .i64 a9,.int .i64 a10,.int .i64 a11,a12.v,a13.v,a14.v]]) h =
 newK h (.cells [a1.v,a2.v,a3.v,a4.v,a5.v,a6.v,a7.v] ke4) fun h15r h15 =>
 newK h15 (.cells [.int .i64 a8,.int .i64 a9,.int .i64 a10,.int .i64 a11,a12.v,a13.v,a14.v] ku) fun h16r h16 =>
 (go (.fn km8 []) h16).bind fun q17 =>
 ((some q17.1).bind AV.asBool).bind fun b18 =>
 cond (!b18) (
 some (.bool b18,q17.2)) (
 ((q17.2.cell ((h15r.add 0).add 0)).bind AV.asSl).bind fun l19 =>
 cond (decide ((l19.len:Int)>60)) (
 some (.bool b18,q17.2)) (
 ((q17.2.cell (h15r.add 3)).bind AV.asSl).bind fun l20 =>
 cond (decide ((l20.len:Int)>2000)) (
 some (.bool b18,q17.2)) (
 ((q17.2.cell (h15r.add 0)).bind AV.asSl).bind fun l21 =>
 ((q17.2.cell (h15r.add 1)).bind AV.asSl).bind fun l22 =>
 ((q17.2.cell (h15r.add 2)).bind AV.asSl).bind fun l23 =>
 ((q17.2.cell (h15r.add 3)).bind AV.asSl).bind fun l24 =>
 ((q17.2.cell (h15r.add 4)).bind AV.asSl).bind fun l25 =>
 ((q17.2.cell (h15r.add 5)).bind AV.asSl).bind fun l26 =>
 ((q17.2.cell (h15r.add 6)).bind AV.asSl).bind fun l27 =>
 (go (.fn kdq [.int .i64 1,.int .i64 2,.agg [l21.v,l22.v,l23.v,l24.v,l25.v,l26.v,l27.v]]) q17.2).bind fun q28 =>
 ((some q28.1).bind AV.asPtr).bind fun p29 =>
 ((q28.2.cell ((h15r.add 4).add 0)).bind AV.asSl).bind fun l30 =>
 ((q28.2.cell ((h15r.add 4).add 1)).bind AV.asSl).bind fun l31 =>
 ((q28.2.cell ((h15r.add 4).add 2)).bind AV.asSl).bind fun l32 =>
 ((q28.2.cell (h16r.add 0)).bind (AV.asInt .i64)).bind fun n33 =>
 ((q28.2.cell (h16r.add 1)).bind (AV.asInt .i64)).bind fun n34 =>
 ((q28.2.cell (h16r.add 2)).bind (AV.asInt .i64)).bind fun n35 =>
 ((q28.2.cell (h16r.add 3)).bind (AV.asInt .i64)).bind fun n36 =>
 ((q28.2.cell (h16r.add 4)).bind AV.asSl).bind fun l37 =>
 ((q28.2.cell (h16r.add 5)).bind AV.asSl).bind fun l38 =>
 ((q28.2.cell (h16r.add 6)).bind AV.asSl).bind fun l39 =>
 (go (.fn kih [.ptr none,.agg [l30.v,l31.v,l32.v],.agg [.int .i64 n33,.int .i64 n34,.int .i64 n35,.int .i64 n36,l37.v,l38.v,l39.v]]) q28.2).bind fun q40 =>
 (AV.asTup2 q40.1).bind fun p41 =>
 (AV.asAgg p41.1).bind fun cs42 =>
 cond (Nat.beq cs42.length 7) (
 ((cs42[0]?).bind (AV.asInt .i64)).bind fun n43 =>
 ((cs42[1]?).bind (AV.asInt .i64)).bind fun n44 =>
 ((cs42[2]?).bind (AV.asInt .i64)).bind fun n45 =>
 ((cs42[3]?).bind (AV.asInt .i64)).bind fun n46 =>
 ((cs42[4]?).bind AV.asSl).bind fun l47 =>
 ((cs42[5]?).bind AV.asSl).bind fun l48 =>
 ((cs42[6]?).bind AV.asSl).bind fun l49 =>
 ((some p41.2).bind (AV.asInt .i64)).bind fun n50 =>
 newK q40.2 (.cells [.int .i64 0,.int .i64 0,.int .i64 0,.int .i64 0,(⟨none,0,.is 0⟩:Sl).v,(⟨none,0,.is 0⟩:Sl).v,(⟨none,0,.is 0⟩:Sl).v] ku) fun h51r h51 =>
 (h51.puts h51r [.int .i64 n43,.int .i64 n44,.int .i64 n45,.int .i64 n46,l47.v,l48.v,l49.v]).bind fun h52 =>
 cond p29.isNone (
 some (.bool (decide (n50=1)),h52)) (
 ((h52.cell (h16r.add 1)).bind (AV.asInt .i64)).bind fun n53 =>
 (go (.fn kki [.ptr p29,.int .i64 n53]) h52).bind fun q54 =>
 (AV.asTup2 q54.1).bind fun p55 =>
 (AV.asAgg p55.1).bind fun cs56 =>
 cond (Nat.beq cs56.length 2) (
 ((cs56[0]?).bind (AV.asInt .i64)).bind fun n57 =>
 ((cs56[1]?).bind (AV.asInt .i64)).bind fun n58 =>
 ((some p55.2).bind AV.asBool).bind fun b59 =>
 newK q54.2 (.cells [.int .i64 0,.int .i64 0] kbh) fun h60r h60 =>
 (h60.puts h60r [.int .i64 n57,.int .i64 n58]).bind fun h61 =>
 ((h61.cell ((h15r.add 4).add 0)).bind AV.asSl).bind fun l62 =>
 ((h61.cell ((h15r.add 4).add 1)).bind AV.asSl).bind fun l63 =>
 ((h61.cell ((h15r.add 4).add 2)).bind AV.asSl).bind fun l64 =>
 ((h61.cell (h16r.add 0)).bind (AV.asInt .i64)).bind fun n65 =>
 ((h61.cell (h16r.add 1)).bind (AV.asInt .i64)).bind fun n66 =>
 ((h61.cell (h16r.add 2)).bind (AV.asInt .i64)).bind fun n67 =>
 ((h61.cell (h16r.add 3)).bind (AV.asInt .i64)).bind fun n68 =>
 ((h61.cell (h16r.add 4)).bind AV.asSl).bind fun l69 =>
 ((h61.cell (h16r.add 5)).bind AV.asSl).bind fun l70 =>
 ((h61.cell (h16r.add 6)).bind AV.asSl).bind fun l71 =>
 (go (.fn kih [.ptr p29,.agg [l62.v,l63.v,l64.v],.agg [.int .i64 n65,.int .i64 n66,.int .i64 n67,.int .i64 n68,l69.v,l70.v,l71.v]]) h61).bind fun q72 =>
 (AV.asTup2 q72.1).bind fun p73 =>
 (AV.asAgg p73.1).bind fun cs74 =>
 cond (Nat.beq cs74.length 7) (
 ((cs74[0]?).bind (AV.asInt .i64)).bind fun n75 =>
 ((cs74[1]?).bind (AV.asInt .i64)).bind fun n76 =>
 ((cs74[2]?).bind (AV.asInt .i64)).bind fun n77 =>
 ((cs74[3]?).bind (AV.asInt .i64)).bind fun n78 =>
 ((cs74[4]?).bind AV.asSl).bind fun l79 =>
 ((cs74[5]?).bind AV.asSl).bind fun l80 =>
 ((cs74[6]?).bind AV.asSl).bind fun l81 =>
 ((some p73.2).bind (AV.asInt .i64)).bind fun n82 =>
 newK q72.2 (.cells [.int .i64 0,.int .i64 0,.int .i64 0,.int .i64 0,(⟨none,0,.is 0⟩:Sl).v,(⟨none,0,.is 0⟩:Sl).v,(⟨none,0,.is 0⟩:Sl).v] ku) fun h83r h83 =>
 (h83.puts h83r [.int .i64 n75,.int .i64 n76,.int .i64 n77,.int .i64 n78,l79.v,l80.v,l81.v]).bind fun h84 =>
 ((h84.cell (h60r.add 0)).bind (AV.asInt .i64)).bind fun n85 =>
 ((h84.cell (h60r.add 1)).bind (AV.asInt .i64)).bind fun n86 =>
 ((h84.cell ((h15r.add 4).add 0)).bind AV.asSl).bind fun l87 =>
 ((h84.cell ((h15r.add 4).add 1)).bind AV.asSl).bind fun l88 =>
 ((h84.cell ((h15r.add 4).add 2)).bind AV.asSl).bind fun l89 =>
 ((h84.cell (h16r.add 0)).bind (AV.asInt .i64)).bind fun n90 =>
 ((h84.cell (h16r.add 1)).bind (AV.asInt .i64)).bind fun n91 =>
 ((h84.cell (h16r.add 2)).bind (AV.asInt .i64)).bind fun n92 =>
 ((h84.cell (h16r.add 3)).bind (AV.asInt .i64)).bind fun n93 =>
 ((h84.cell (h16r.add 4)).bind AV.asSl).bind fun l94 =>
 ((h84.cell (h16r.add 5)).bind AV.asSl).bind fun l95 =>
 ((h84.cell (h16r.add 6)).bind AV.asSl).bind fun l96 =>
 (go (.fn kn6 [.agg [.int .i64 n85,.int .i64 n86],.bool b59,.agg [l87.v,l88.v,l89.v],.agg [.int .i64 n90,.int .i64 n91,.int .i64 n92,.int .i64 n93,l94.v,l95.v,l96.v]]) h84).bind fun q97 =>
 (AV.asTup2 q97.1).bind fun p98 =>
 (AV.asAgg p98.1).bind fun cs99 =>
 cond (Nat.beq cs99.length 7) (
 ((cs99[0]?).bind (AV.asInt .i64)).bind fun n100 =>
 ((cs99[1]?).bind (AV.asInt .i64)).bind fun n101 =>
 ((cs99[2]?).bind (AV.asInt .i64)).bind fun n102 =>
 ((cs99[3]?).bind (AV.asInt .i64)).bind fun n103 =>
 ((cs99[4]?).bind AV.asSl).bind fun l104 =>
 ((cs99[5]?).bind AV.asSl).bind fun l105 =>
 ((cs99[6]?).bind AV.asSl).bind fun l106 =>
 ((some p98.2).bind (AV.asInt .i64)).bind fun n107 =>
 newK q97.2 (.cells [.int .i64 0,.int .i64 0,.int .i64 0,.int .i64 0,(⟨none,0,.is 0⟩:Sl).v,(⟨none,0,.is 0⟩:Sl).v,(⟨none,0,.is 0⟩:Sl).v] ku) fun h108r h108 =>
 (h108.puts h108r [.int .i64 n100,.int .i64 n101,.int .i64 n102,.int .i64 n103,l104.v,l105.v,l106.v]).bind fun h109 =>
 ((h109.cell (h83r.add 0)).bind (AV.asInt .i64)).bind fun n110 =>
 ((h109.cell (h83r.add 1)).bind (AV.asInt .i64)).bind fun n111 =>
 ((h109.cell (h83r.add 2)).bind (AV.asInt .i64)).bind fun n112 =>
 ((h109.cell (h83r.add 3)).bind (AV.asInt .i64)).bind fun n113 =>
 ((h109.cell (h83r.add 4)).bind AV.asSl).bind fun l114 =>
 ((h109.cell (h83r.add 5)).bind AV.asSl).bind fun l115 =>
 ((h109.cell (h83r.add 6)).bind AV.asSl).bind fun l116 =>
 ((h109.cell (h108r.add 0)).bind (AV.asInt .i64)).bind fun n117 =>
 ((h109.cell (h108r.add 1)).bind (AV.asInt .i64)).bind fun n118 =>
 ((h109.cell (h108r.add 2)).bind (AV.asInt .i64)).bind fun n119 =>
 ((h109.cell (h108r.add 3)).bind (AV.asInt .i64)).bind fun n120 =>
 ((h109.cell (h108r.add 4)).bind AV.asSl).bind fun l121 =>
 ((h109.cell (h108r.add 5)).bind AV.asSl).bind fun l122 =>
 ((h109.cell (h108r.add 6)).bind AV.asSl).bind fun l123 =>
 (go (.fn kqn [.agg [.int .i64 n110,.int .i64 n111,.int .i64 n112,.int .i64 n113,l114.v,l115.v,l116.v],.agg [.int .i64 n117,.int .i64 n118,.int .i64 n119,.int .i64 n120,l121.v,l122.v,l123.v]]) h109).bind fun q124 =>
 ((some q124.1).bind AV.asBool).bind fun b125 =>
 cond (decide (n50=1)) (
 cond b125 (
 some (.bool (decide (n82=n107)),q124.2)) (
 some (.bool false,q124.2))) (
 some (.bool false,q124.2))) none) none) none)) none))):=(kc _ h).trans (by kernel_rfl)
theorem k1f(a1:Option Ref)(a2 a3 a4 a5:Int)(a6 a7 a8:Sl)(h:AH):go (.fn kgm [.ptr a1,.agg [.int .i64 a2,.int .i64 a3,.int .i64 a4,.int .i64 a5,a6.v,a7.v,a8.v]]) h =
 newK h (.cells [.int .i64 a2,.int .i64 a3,.int .i64 a4,.int .i64 a5,a6.v,a7.v,a8.v] ku) fun h9r h9 =>
 a1.bind fun r10 =>
 ((h9.cell ((r10.add 2).add 0)).bind AV.asSl).bind fun l11 =>
 ((h9.cell (h9r.add 1)).bind (AV.asInt .i64)).bind fun n12 =>
 cond (!decide (n12=(l11.len:Int))) (
 some (.tup [(⟨none,0,.is 0⟩:Sl).v,.int .i64 20],h9)) (
 ((h9.cell (h9r.add 2)).bind (AV.asInt .i64)).bind fun n13 =>
 cond (decide (n13<1)) (
 some (.tup [(⟨none,0,.is 0⟩:Sl).v,.int .i64 1],h9)) (
 ((h9.cell (h9r.add 2)).bind (AV.asInt .i64)).bind fun n14 =>
 cond (decide (n14>16)) (
 some (.tup [(⟨none,0,.is 0⟩:Sl).v,.int .i64 1],h9)) (
 ((h9.cell (h9r.add 6)).bind AV.asSl).bind fun l15 =>
 (idx l15.ref l15.len 0 1).bind fun r16 =>
 ((h9.cell r16).bind AV.asSl).bind fun l17 =>
 (go (.fn kif [l17.v]) h9).bind fun q18 =>
 ((some q18.1).bind AV.asBool).bind fun b19 =>
 cond (!b19) (
 some (.tup [(⟨none,0,.is 0⟩:Sl).v,.int .i64 1],q18.2)) (
 ((q18.2.cell (h9r.add 6)).bind AV.asSl).bind fun l20 =>
 (idx l20.ref l20.len 0 1).bind fun r21 =>
 ((q18.2.cell r21).bind AV.asSl).bind fun l22 =>
 ((q18.2.cell (h9r.add 2)).bind (AV.asInt .i64)).bind fun n23 =>
 (go (.fn kfn [l22.v]) q18.2).bind fun q24 =>
 ((some q24.1).bind AV.asSl).bind fun l25 =>
 whenK (SameAt q18.2 q24.2 (h9r.add 2) 1) (
 a1.bind fun r26 =>
 (q24.2.puts (r26.add 6) [l25.v]).bind fun h27 =>
 whenK (SameAt q24.2 h27 (h9r.add 2) 1) (
 a1.bind fun r28 =>
 (h27.puts (r28.add 7) [.int .i64 n23]).bind fun h29 =>
 a1.bind fun r30 =>
 ((h29.cell ((r30.add 2).add 2)).bind AV.asSl).bind fun l31 =>
 newK h29 (.cells [.int .i64 2,.int .i64 (l11.len:Int),.int .i64 (l31.len:Int),.int .i64 0,(⟨none,0,.is 0⟩:Sl).v,(⟨none,0,.is 0⟩:Sl).v,(⟨none,0,.is 0⟩:Sl).v] ku) fun h32r h32 =>
 some (.tup [(⟨some h32r,1,.is 1⟩:Sl).v,.int .i64 0],h32))))))):=(kc _ h).trans (by kernel_rfl)
theorem k5c(a1:Option Ref)(a2 a3 a4 a5:Int)(a6 a7 a8:Sl)(h:AH):go (.fn kdg [.ptr a1,.agg [.int .i64 a2,.int .i64 a3,.int .i64 a4,.int .i64 a5,a6.v,a7.v,a8.v]]) h =
 newK h (.cells [.ptr a1] k60) fun h9r h9 =>
 newK h9 (.cells [.int .i64 a2,.int .i64 a3,.int .i64 a4,.int .i64 a5,a6.v,a7.v,a8.v] ku) fun h10r h10 =>
 ((h10.cell (h10r.add 1)).bind (AV.asInt .i64)).bind fun n11 =>
 ((h10.cell h9r).bind AV.asPtr).bind fun p12 =>
 p12.bind fun r13 =>
 ((h10.cell (r13.add 8)).bind (AV.asInt .i64)).bind fun n14 =>
 cond (!decide (n11=(IntKind.wrap .i64 (n14+1)))) (
 some (.tup [(⟨none,0,.is 0⟩:Sl).v,.int .i64 18],h10)) (
 ((h10.cell (h10r.add 1)).bind (AV.asInt .i64)).bind fun n15 =>
 ((h10.cell h9r).bind AV.asPtr).bind fun p16 =>
 p16.bind fun r17 =>
 ((h10.cell (r17.add 7)).bind (AV.asInt .i64)).bind fun n18 =>
 cond (decide (n15≥n18)) (
 some (.tup [(⟨none,0,.is 0⟩:Sl).v,.int .i64 18],h10)) (
 ((h10.cell (h10r.add 6)).bind AV.asSl).bind fun l19 =>
 ((h10.cell h9r).bind AV.asPtr).bind fun p20 =>
 p20.bind fun r21 =>
 ((h10.cell ((r21.add 2).add 0)).bind AV.asSl).bind fun l22 =>
 cond (!decide ((l19.len:Int)=(l22.len:Int))) (
 some (.tup [(⟨none,0,.is 0⟩:Sl).v,.int .i64 1],h10)) (
 ((h10.cell (h10r.add 6)).bind AV.asSl).bind fun l23 =>
 (go (.fn kda [l23.v,.func (.func kcy) [] [.ptr (some h9r)]]) h10).bind fun q24 =>
 ((some q24.1).bind AV.asBool).bind fun b25 =>
 cond b25 (
 some (.tup [(⟨none,0,.is 0⟩:Sl).v,.int .i64 11],q24.2)) (
 newM q24.2 (.map [] 0) fun h26m h26 =>
 ((h26.cell h9r).bind AV.asPtr).bind fun p27 =>
 ((h26.cell h9r).bind AV.asPtr).bind fun p28 =>
 ((h26.cell h9r).bind AV.asPtr).bind fun p29 =>
 ((h26.cell (h10r.add 1)).bind (AV.asInt .i64)).bind fun n30 =>
 p27.bind fun r31 =>
 (h26.puts (r31.add 8) [.int .i64 n30]).bind fun h32 =>
 whenK (SameAt h26 h32 h9r 1) (
 whenK (SameAt h26 h32 h9r 1) (
 whenK (SameAt h26 h32 (q24.2.next) 0) (
 p28.bind fun r33 =>
 (h32.puts (r33.add 9) [(⟨none,0,.is 0⟩:Sl).v]).bind fun h34 =>
 whenK (SameAt h32 h34 h9r 1) (
 whenK (SameAt h32 h34 (q24.2.next) 0) (
 p29.bind fun r35 =>
 (h34.puts (r35.add 10) [.map (some h26m)]).bind fun h36 =>
 ((h36.cell (h10r.add 6)).bind AV.asSl).bind fun l37 =>
 go (.pt kdg kj6 [(2,.ptr (some h9r)),(55,l37.v),(56,.int .i64 (l37.len:Int)),(57,.int .i64 0)]) h36))))))))):=(kc _ h).trans (by kernel_rfl)
theorem kyj(a1:Option Ref)(a2 a3 a4 a5:Int)(a6 a7 a8:Sl)(h:AH):go (.fn kde [.ptr a1,.agg [.int .i64 a2,.int .i64 a3,.int .i64 a4,.int .i64 a5,a6.v,a7.v,a8.v]]) h =
 newK h (.cells [.int .i64 a2,.int .i64 a3,.int .i64 a4,.int .i64 a5,a6.v,a7.v,a8.v] ku) fun h9r h9 =>
 ((h9.cell (h9r.add 1)).bind (AV.asInt .i64)).bind fun n10 =>
 a1.bind fun r11 =>
 ((h9.cell (r11.add 8)).bind (AV.asInt .i64)).bind fun n12 =>
 cond (!decide (n10=n12)) (
 some (.tup [(⟨none,0,.is 0⟩:Sl).v,.int .i64 18],h9)) (
 newK h9 (.cells [.int .i64 0,(⟨none,0,.is 0⟩:Sl).v] kw) fun h13r h13 =>
 a1.bind fun r14 =>
 ((h13.cell ((r14.add 2).add 0)).bind AV.asSl).bind fun l15 =>
 ((h13.cell (h9r.add 5)).bind AV.asSl).bind fun l16 =>
 (go (.fn kes [.int .i64 (l15.len:Int),l16.v]) h13).bind fun q17 =>
 (AV.asTup2 q17.1).bind fun p18 =>
 (AV.asAgg p18.1).bind fun cs19 =>
 cond (Nat.beq cs19.length 2) (
 ((cs19[0]?).bind (AV.asInt .i64)).bind fun n20 =>
 ((cs19[1]?).bind AV.asSl).bind fun l21 =>
 ((some p18.2).bind (AV.asInt .i64)).bind fun n22 =>
 whenK (SameAt h13 q17.2 h13r 0) (
 (q17.2.puts h13r [.int .i64 n20,l21.v]).bind fun h23 =>
 cond (!decide (n22=0)) (
 some (.tup [(⟨none,0,.is 0⟩:Sl).v,.int .i64 n22],h23)) (
 a1.bind fun r24 =>
 ((h23.cell (r24.add 1)).bind AV.asPtr).bind fun p25 =>
 a1.bind fun r26 =>
 ((h23.cell (r26.add 5)).bind AV.asPtr).bind fun p27 =>
 ((h23.cell (h9r.add 1)).bind (AV.asInt .i64)).bind fun n28 =>
 ((h23.cell (h9r.add 2)).bind (AV.asInt .i64)).bind fun n29 =>
 a1.bind fun r30 =>
 ((h23.cell ((r30.add 2).add 0)).bind AV.asSl).bind fun l31 =>
 ((h23.cell ((r30.add 2).add 1)).bind AV.asSl).bind fun l32 =>
 ((h23.cell ((r30.add 2).add 2)).bind AV.asSl).bind fun l33 =>
 (go (.fn kdy [.agg [l31.v,l32.v,l33.v]]) h23).bind fun q34 =>
 ((some q34.1).bind AV.asSl).bind fun l35 =>
 whenK (SameAt h23 q34.2 (h9r.add 2) 1) (
 whenK (SameAt h23 q34.2 (h9r.add 1) 1) (
 whenK (SameAt h23 q34.2 (r26.add 5) 1) (
 whenK (SameAt h23 q34.2 (r24.add 1) 1) (
 (go (.fn kf2 [.ptr p25,.ptr p27,.int .i64 n28,.int .i64 n29,l35.v]) q34.2).bind fun q36 =>
 (AV.asTup3 q36.1).bind fun p37 =>
 ((some p37.1).bind AV.asSl).bind fun l38 =>
 ((some p37.2.1).bind AV.asSl).bind fun l39 =>
 ((some p37.2.2).bind (AV.asInt .i64)).bind fun n40 =>
 cond (!decide (n40=0)) (
 some (.tup [(⟨none,0,.is 0⟩:Sl).v,.int .i64 n40],q36.2)) (
 a1.bind fun r41 =>
 ((q36.2.cell (r41.add 6)).bind AV.asSl).bind fun l42 =>
 a1.bind fun r43 =>
 ((q36.2.cell ((r43.add 2).add 0)).bind AV.asSl).bind fun l44 =>
 ((q36.2.cell ((r43.add 2).add 1)).bind AV.asSl).bind fun l45 =>
 ((q36.2.cell ((r43.add 2).add 2)).bind AV.asSl).bind fun l46 =>
 ((q36.2.cell (h13r.add 0)).bind (AV.asInt .i64)).bind fun n47 =>
 ((q36.2.cell (h13r.add 1)).bind AV.asSl).bind fun l48 =>
 a1.bind fun r49 =>
 ((q36.2.cell (r49.add 9)).bind AV.asSl).bind fun l50 =>
 (go (.fn kca [l42.v,.agg [l44.v,l45.v,l46.v],.agg [.int .i64 n47,l48.v],l50.v]) q36.2).bind fun q51 =>
 (AV.asTup2 q51.1).bind fun p52 =>
 ((some p52.1).bind AV.asSl).bind fun l53 =>
 ((some p52.2).bind (AV.asInt .i64)).bind fun n54 =>
 cond (!decide (n54=0)) (
 some (.tup [(⟨none,0,.is 0⟩:Sl).v,.int .i64 n54],q51.2)) (
 ((q51.2.cell (h9r.add 1)).bind (AV.asInt .i64)).bind fun n55 =>
 ((q51.2.cell (h9r.add 2)).bind (AV.asInt .i64)).bind fun n56 =>
 newK q51.2 (.cells [.int .i64 0,.int .i64 0,.int .i64 0,.int .i64 0,(⟨none,0,.is 0⟩:Sl).v,(⟨none,0,.is 0⟩:Sl).v,(⟨none,0,.is 0⟩:Sl).v] ku) fun h57r h57 =>
 (h57.puts h57r [.int .i64 5,.int .i64 n55,.int .i64 n56,.int .i64 0,l39.v,(⟨none,0,.is 0⟩:Sl).v,(⟨none,0,.is 0⟩:Sl).v]).bind fun h58 =>
 go (.pt kde kls [(0,.ptr a1),(3,.ptr (some h9r)),(6,.ptr (some h13r)),(10,l53.v),(11,.ptr (some h57r)),(87,l38.v),(88,.int .i64 (l38.len:Int)),(89,.int .i64 0)]) h58))))))))) none):=(kc _ h).trans (by kernel_rfl)
theorem k2p(a1:Nat)(a2 a3:Ref)(h:AH):go (.fn kbm [.func (.yield a1) [] [],.ptr (some a2),.ptr (some a3)]) h =
 ((h.cell (a2.add 1)).bind AV.asSl).bind fun l4 =>
 go (.pt kbm kii [(0,.func (.yield a1) [] []),(1,.ptr (some a2)),(2,.ptr (some a3)),(10,l4.v),(11,.int .i64 (l4.len:Int)),(12,.int .i64 0)]) h:=(kc _ h).trans (by kernel_rfl)
theorem kbay(a1:Nat)(a2:Ref)(h:AH):go (.fn kbt [.func (.yield a1) [] [],.ptr (some a2)]) h =
 ((h.cell (a2.add 1)).bind AV.asSl).bind fun l3 =>
 go (.pt kbt kjq [(0,.func (.yield a1) [] []),(6,l3.v),(7,.int .i64 (l3.len:Int)),(8,.int .i64 0)]) h:=(kc _ h).trans (by kernel_rfl)
theorem kbd2(a1 a2:Sl)(a3:Ref)(h:AH):go (.fn kd7 [a1.v,a2.v,.ptr (some a3)]) h =
 (go (.fn kib [a1.v,a2.v]) h).bind fun q4 =>
 (AV.asTup2 q4.1).bind fun p5 =>
 ((some p5.1).bind AV.asSl).bind fun l6 =>
 ((some p5.2).bind (AV.asInt .i64)).bind fun n7 =>
 ((q4.2.cell a3).bind AV.asSl).bind fun l8 =>
 (go (.fn kjc [l6.v,l8.v]) q4.2).bind fun q9 =>
 (AV.asTup3 q9.1).bind fun p10 =>
 ((some p10.1).bind AV.asSl).bind fun l11 =>
 ((some p10.2.1).bind AV.asSl).bind fun l12 =>
 ((some p10.2.2).bind (AV.asInt .i64)).bind fun n13 =>
 some (l12.v,q9.2):=(kc _ h).trans (by kernel_rfl)
theorem kbbh(a1 a2:Sl)(a3:Ref)(h:AH):go (.fn kij [a1.v,a2.v,.ptr (some a3)]) h =
 cond (decide ((a1.len:Int)<24)) (
 (go (.fn kci [a1.v,a2.v]) h).bind fun q4 =>
 ((some q4.1).bind AV.asSl).bind fun l5 =>
 some (l5.v,q4.2)) (
 cond (decide ((a2.len:Int)<24)) (
 (go (.fn kci [a1.v,a2.v]) h).bind fun q6 =>
 ((some q6.1).bind AV.asSl).bind fun l7 =>
 some (l7.v,q6.2)) (
 newK h (.cells [.int .i64 0] T.int) fun h8r h8 =>
 (h8.puts h8r [.int .i64 (IntKind.wrap .i64 (Int.tdiv (IntKind.wrap .i64 ((imax (a1.len:Int) (a2.len:Int))+1)) 2))]).bind fun h9 =>
 (h9.cell a3).bind fun v10 =>
 (h9.cell a3).bind fun v11 =>
 (go (.fn khs [a1.v,.ptr (some h8r)]) h9).bind fun q12 =>
 ((some q12.1).bind AV.asSl).bind fun l13 =>
 whenK (SameAt h9 q12.2 a3 1) (
 whenK (SameAt h9 q12.2 a3 1) (
 (go (.fn khs [a2.v,.ptr (some h8r)]) q12.2).bind fun q14 =>
 ((some q14.1).bind AV.asSl).bind fun l15 =>
 whenK (SameAt q12.2 q14.2 a3 1) (
 whenK (SameAt q12.2 q14.2 a3 1) (
 (callV Pg go v10 [l13.v,l15.v] q14.2).bind fun q16 =>
 ((some q16.1).bind AV.asSl).bind fun l17 =>
 whenK (SameAt q14.2 q16.2 a3 1) (
 (go (.fn khw [a1.v,.ptr (some h8r)]) q16.2).bind fun q18 =>
 ((some q18.1).bind AV.asSl).bind fun l19 =>
 whenK (SameAt q16.2 q18.2 a3 1) (
 (go (.fn khw [a2.v,.ptr (some h8r)]) q18.2).bind fun q20 =>
 ((some q20.1).bind AV.asSl).bind fun l21 =>
 whenK (SameAt q18.2 q20.2 a3 1) (
 (callV Pg go v11 [l19.v,l21.v] q20.2).bind fun q22 =>
 ((some q22.1).bind AV.asSl).bind fun l23 =>
 (q22.2.cell a3).bind fun v24 =>
 (go (.fn khs [a1.v,.ptr (some h8r)]) q22.2).bind fun q25 =>
 ((some q25.1).bind AV.asSl).bind fun l26 =>
 whenK (SameAt q22.2 q25.2 a3 1) (
 (go (.fn khw [a1.v,.ptr (some h8r)]) q25.2).bind fun q27 =>
 ((some q27.1).bind AV.asSl).bind fun l28 =>
 whenK (SameAt q25.2 q27.2 a3 1) (
 (go (.fn kcu [l26.v,l28.v]) q27.2).bind fun q29 =>
 ((some q29.1).bind AV.asSl).bind fun l30 =>
 whenK (SameAt q27.2 q29.2 a3 1) (
 (go (.fn kbf [l30.v]) q29.2).bind fun q31 =>
 ((some q31.1).bind AV.asSl).bind fun l32 =>
 whenK (SameAt q29.2 q31.2 a3 1) (
 (go (.fn khs [a2.v,.ptr (some h8r)]) q31.2).bind fun q33 =>
 ((some q33.1).bind AV.asSl).bind fun l34 =>
 whenK (SameAt q31.2 q33.2 a3 1) (
 (go (.fn khw [a2.v,.ptr (some h8r)]) q33.2).bind fun q35 =>
 ((some q35.1).bind AV.asSl).bind fun l36 =>
 whenK (SameAt q33.2 q35.2 a3 1) (
 (go (.fn kcu [l34.v,l36.v]) q35.2).bind fun q37 =>
 ((some q37.1).bind AV.asSl).bind fun l38 =>
 whenK (SameAt q35.2 q37.2 a3 1) (
 (go (.fn kbf [l38.v]) q37.2).bind fun q39 =>
 ((some q39.1).bind AV.asSl).bind fun l40 =>
 whenK (SameAt q37.2 q39.2 a3 1) (
 (callV Pg go v24 [l32.v,l40.v] q39.2).bind fun q41 =>
 ((some q41.1).bind AV.asSl).bind fun l42 =>
 (go (.fn kcl [l42.v,l17.v]) q41.2).bind fun q43 =>
 ((some q43.1).bind AV.asSl).bind fun l44 =>
 (go (.fn kbf [l44.v]) q43.2).bind fun q45 =>
 ((some q45.1).bind AV.asSl).bind fun l46 =>
 (go (.fn kcl [l46.v,l23.v]) q45.2).bind fun q47 =>
 ((some q47.1).bind AV.asSl).bind fun l48 =>
 (go (.fn kbf [l48.v]) q47.2).bind fun q49 =>
 ((some q49.1).bind AV.asSl).bind fun l50 =>
 (kbd (IntKind.wrap .i64 ((IntKind.wrap .i64 ((a1.len:Int)+(a2.len:Int)))+1)) (IntKind.wrap .i64 ((IntKind.wrap .i64 ((a1.len:Int)+(a2.len:Int)))+1)) ke (Pg.bytesOf ke) [.int .u64 0] q49.2).bind fun q51 =>
 (copyH l17 q51.1 1 q51.2).bind fun h52 =>
 ((h52.cell h8r).bind (AV.asInt .i64)).bind fun n53 =>
 (go (.fn kc3 [q51.1.v,l50.v,.int .i64 n53]) h52).bind fun q54 =>
 (AV.asTup0 q54.1).bind fun _ =>
 ((q54.2.cell h8r).bind (AV.asInt .i64)).bind fun n55 =>
 (go (.fn kc3 [q51.1.v,l23.v,.int .i64 (IntKind.wrap .i64 (2*n55))]) q54.2).bind fun q56 =>
 (AV.asTup0 q56.1).bind fun _ =>
 (go (.fn kbf [q51.1.v]) q56.2).bind fun q57 =>
 ((some q57.1).bind AV.asSl).bind fun l58 =>
 some (l58.v,q57.2)))))))))))))))))):=(kc _ h).trans (by kernel_rfl)
theorem kbbi(a1 a2 a3:Int)(h:AH):go (.fn kfd [.int .i64 a1,.int .i64 a2,.int .i64 a3]) h =
 cond (decide (a1≥a2)) (
 some (.bool (decide (a1≤a3)),h)) (
 some (.bool false,h)):=(kc _ h).trans (by kernel_rfl)
theorem kbao  (h:AH):go (.fn km8 []) h =
 newK h (.cells [.bool true,.int .i64 3,.int .i64 0,.int .i64 0,.int .i64 0,.int .i64 0,.int .i64 0] kb7) fun h1r h1 =>
 newK h1 (.cells [(⟨some h1r,1,.is 1⟩:Sl).v] kcv) fun h2r h2 =>
 newK h2 (.cells [.int .i64 5,.int .i64 6] T.int) fun h3r h3 =>
 (go (.fn kf5 [.agg [(⟨some h2r,1,.is 1⟩:Sl).v],.int .i64 1,.agg [(⟨some h3r,2,.is 2⟩:Sl).v,(⟨none,0,.is 0⟩:Sl).v,(⟨none,0,.is 0⟩:Sl).v]]) h3).bind fun q4 =>
 (AV.asTup2 q4.1).bind fun p5 =>
 ((some p5.1).bind AV.asPtr).bind fun p6 =>
 ((some p5.2).bind (AV.asInt .i64)).bind fun n7 =>
 cond (!decide (n7=0)) (
 some (.bool false,q4.2)) (
 cond p6.isNone (
 some (.bool false,q4.2)) (
 (go (.fn kn2 [.ptr p6]) q4.2).bind fun q8 =>
 (AV.asTup2 q8.1).bind fun p9 =>
 ((some p9.1).bind AV.asSl).bind fun l10 =>
 ((some p9.2).bind AV.asBool).bind fun b11 =>
 cond b11 (
 cond (decide ((l10.len:Int)=2)) (
 (idx l10.ref l10.len 0 1).bind fun r12 =>
 ((q8.2.cell r12).bind (AV.asInt .i64)).bind fun n13 =>
 cond (decide (n13=3)) (
 (idx l10.ref l10.len 1 1).bind fun r14 =>
 ((q8.2.cell r14).bind (AV.asInt .i64)).bind fun n15 =>
 some (.bool (decide (n15=3)),q8.2)) (
 some (.bool false,q8.2))) (
 some (.bool false,q8.2))) (
 some (.bool false,q8.2)))):=(kc _ h).trans (by kernel_rfl)
theorem k8d(a1 a2:Int)(a3 a4 a5 a6 a7 a8 a9:Sl)(h:AH):go (.fn kdq [.int .i64 a1,.int .i64 a2,.agg [a3.v,a4.v,a5.v,a6.v,a7.v,a8.v,a9.v]]) h =
 newK h (.cells [a3.v,a4.v,a5.v,a6.v,a7.v,a8.v,a9.v] ke4) fun h10r h10 =>
 ((h10.cell (h10r.add 3)).bind AV.asSl).bind fun l11 =>
 (go (.fn kpl [l11.v]) h10).bind fun q12 =>
 (AV.asTup2 q12.1).bind fun p13 =>
 ((some p13.1).bind AV.asPtr).bind fun p14 =>
 ((some p13.2).bind (AV.asInt .i64)).bind fun n15 =>
 cond (!decide (n15=0)) (
 some (.ptr none,q12.2)) (
 cond p14.isNone (
 some (.ptr none,q12.2)) (
 ((q12.2.cell ((h10r.add 0).add 0)).bind AV.asSl).bind fun l16 =>
 ((q12.2.cell ((h10r.add 0).add 1)).bind AV.asSl).bind fun l17 =>
 ((q12.2.cell ((h10r.add 0).add 2)).bind AV.asSl).bind fun l18 =>
 (go (.fn kkk [.int .i64 a1,.int .i64 a2,.int .i64 1000,.agg [l16.v,l17.v,l18.v],.ptr p14]) q12.2).bind fun q19 =>
 (AV.asTup2 q19.1).bind fun p20 =>
 ((some p20.1).bind AV.asPtr).bind fun p21 =>
 ((some p20.2).bind (AV.asInt .i64)).bind fun n22 =>
 cond (!decide (n22=0)) (
 some (.ptr none,q19.2)) (
 cond p21.isNone (
 some (.ptr none,q19.2)) (
 go (.pt kdq kkf [(5,.ptr (some h10r)),(9,.ptr p21),(11,(⟨none,0,.is 0⟩:Sl).v),(12,.int .i64 0)]) q19.2)))):=(kc _ h).trans (by kernel_rfl)
theorem kwh(a1:Option Ref)(a2 a3 a4:Sl)(a5 a6 a7 a8:Int)(a9 a10 a11:Sl)(h:AH):go (.fn kih [.ptr a1,.agg [a2.v,a3.v,a4.v],.agg [.int .i64 a5,.int .i64 a6,.int .i64 a7,.int .i64 a8,a9.v,a10.v,a11.v]]) h =
 newK h (.cells [a2.v,a3.v,a4.v] kbb) fun h12r h12 =>
 newK h12 (.cells [.int .i64 a5,.int .i64 a6,.int .i64 a7,.int .i64 a8,a9.v,a10.v,a11.v] ku) fun h13r h13 =>
 newK h13 (.cells [.int .i64 0,.int .i64 0,.int .i64 0,.int .i64 0,(⟨none,0,.is 0⟩:Sl).v,(⟨none,0,.is 0⟩:Sl).v,(⟨none,0,.is 0⟩:Sl).v] ku) fun h14r h14 =>
 cond a1.isNone (
 (h14.puts h14r [.int .i64 0,.int .i64 0,.int .i64 0,.int .i64 0,(⟨none,0,.is 0⟩:Sl).v,(⟨none,0,.is 0⟩:Sl).v,(⟨none,0,.is 0⟩:Sl).v]).bind fun h15 =>
 ((h15.cell (h14r.add 0)).bind (AV.asInt .i64)).bind fun n16 =>
 ((h15.cell (h14r.add 1)).bind (AV.asInt .i64)).bind fun n17 =>
 ((h15.cell (h14r.add 2)).bind (AV.asInt .i64)).bind fun n18 =>
 ((h15.cell (h14r.add 3)).bind (AV.asInt .i64)).bind fun n19 =>
 ((h15.cell (h14r.add 4)).bind AV.asSl).bind fun l20 =>
 ((h15.cell (h14r.add 5)).bind AV.asSl).bind fun l21 =>
 ((h15.cell (h14r.add 6)).bind AV.asSl).bind fun l22 =>
 some (.tup [.agg [.int .i64 n16,.int .i64 n17,.int .i64 n18,.int .i64 n19,l20.v,l21.v,l22.v],.int .i64 1],h15)) (
 ((h14.cell (h12r.add 0)).bind AV.asSl).bind fun l23 =>
 ((h14.cell (h12r.add 1)).bind AV.asSl).bind fun l24 =>
 ((h14.cell (h12r.add 2)).bind AV.asSl).bind fun l25 =>
 (go (.fn kc4 [.agg [l23.v,l24.v,l25.v]]) h14).bind fun q26 =>
 ((some q26.1).bind AV.asBool).bind fun b27 =>
 cond (!b27) (
 (q26.2.puts h14r [.int .i64 0,.int .i64 0,.int .i64 0,.int .i64 0,(⟨none,0,.is 0⟩:Sl).v,(⟨none,0,.is 0⟩:Sl).v,(⟨none,0,.is 0⟩:Sl).v]).bind fun h28 =>
 ((h28.cell (h14r.add 0)).bind (AV.asInt .i64)).bind fun n29 =>
 ((h28.cell (h14r.add 1)).bind (AV.asInt .i64)).bind fun n30 =>
 ((h28.cell (h14r.add 2)).bind (AV.asInt .i64)).bind fun n31 =>
 ((h28.cell (h14r.add 3)).bind (AV.asInt .i64)).bind fun n32 =>
 ((h28.cell (h14r.add 4)).bind AV.asSl).bind fun l33 =>
 ((h28.cell (h14r.add 5)).bind AV.asSl).bind fun l34 =>
 ((h28.cell (h14r.add 6)).bind AV.asSl).bind fun l35 =>
 some (.tup [.agg [.int .i64 n29,.int .i64 n30,.int .i64 n31,.int .i64 n32,l33.v,l34.v,l35.v],.int .i64 20],h28)) (
 ((q26.2.cell (h13r.add 0)).bind (AV.asInt .i64)).bind fun n36 =>
 ((q26.2.cell (h13r.add 1)).bind (AV.asInt .i64)).bind fun n37 =>
 ((q26.2.cell (h13r.add 2)).bind (AV.asInt .i64)).bind fun n38 =>
 ((q26.2.cell (h13r.add 3)).bind (AV.asInt .i64)).bind fun n39 =>
 ((q26.2.cell (h13r.add 4)).bind AV.asSl).bind fun l40 =>
 ((q26.2.cell (h13r.add 5)).bind AV.asSl).bind fun l41 =>
 ((q26.2.cell (h13r.add 6)).bind AV.asSl).bind fun l42 =>
 (go (.fn kbx [.agg [.int .i64 n36,.int .i64 n37,.int .i64 n38,.int .i64 n39,l40.v,l41.v,l42.v]]) q26.2).bind fun q43 =>
 ((some q43.1).bind AV.asBool).bind fun b44 =>
 cond (!b44) (
 (q43.2.puts h14r [.int .i64 0,.int .i64 0,.int .i64 0,.int .i64 0,(⟨none,0,.is 0⟩:Sl).v,(⟨none,0,.is 0⟩:Sl).v,(⟨none,0,.is 0⟩:Sl).v]).bind fun h45 =>
 ((h45.cell (h14r.add 0)).bind (AV.asInt .i64)).bind fun n46 =>
 ((h45.cell (h14r.add 1)).bind (AV.asInt .i64)).bind fun n47 =>
 ((h45.cell (h14r.add 2)).bind (AV.asInt .i64)).bind fun n48 =>
 ((h45.cell (h14r.add 3)).bind (AV.asInt .i64)).bind fun n49 =>
 ((h45.cell (h14r.add 4)).bind AV.asSl).bind fun l50 =>
 ((h45.cell (h14r.add 5)).bind AV.asSl).bind fun l51 =>
 ((h45.cell (h14r.add 6)).bind AV.asSl).bind fun l52 =>
 some (.tup [.agg [.int .i64 n46,.int .i64 n47,.int .i64 n48,.int .i64 n49,l50.v,l51.v,l52.v],.int .i64 16],h45)) (
 ((q43.2.cell (h13r.add 0)).bind (AV.asInt .i64)).bind fun n53 =>
 cond (!decide (n53=8)) (
 (q43.2.puts h14r [.int .i64 0,.int .i64 0,.int .i64 0,.int .i64 0,(⟨none,0,.is 0⟩:Sl).v,(⟨none,0,.is 0⟩:Sl).v,(⟨none,0,.is 0⟩:Sl).v]).bind fun h54 =>
 ((h54.cell (h14r.add 0)).bind (AV.asInt .i64)).bind fun n55 =>
 ((h54.cell (h14r.add 1)).bind (AV.asInt .i64)).bind fun n56 =>
 ((h54.cell (h14r.add 2)).bind (AV.asInt .i64)).bind fun n57 =>
 ((h54.cell (h14r.add 3)).bind (AV.asInt .i64)).bind fun n58 =>
 ((h54.cell (h14r.add 4)).bind AV.asSl).bind fun l59 =>
 ((h54.cell (h14r.add 5)).bind AV.asSl).bind fun l60 =>
 ((h54.cell (h14r.add 6)).bind AV.asSl).bind fun l61 =>
 some (.tup [.agg [.int .i64 n55,.int .i64 n56,.int .i64 n57,.int .i64 n58,l59.v,l60.v,l61.v],.int .i64 16],h54)) (
 ((q43.2.cell (h13r.add 1)).bind (AV.asInt .i64)).bind fun n62 =>
 (go (.fn kki [.ptr a1,.int .i64 n62]) q43.2).bind fun q63 =>
 (AV.asTup2 q63.1).bind fun p64 =>
 (AV.asAgg p64.1).bind fun cs65 =>
 cond (Nat.beq cs65.length 2) (
 ((cs65[0]?).bind (AV.asInt .i64)).bind fun n66 =>
 ((cs65[1]?).bind (AV.asInt .i64)).bind fun n67 =>
 ((some p64.2).bind AV.asBool).bind fun b68 =>
 newK q63.2 (.cells [.int .i64 0,.int .i64 0] kbh) fun h69r h69 =>
 (h69.puts h69r [.int .i64 n66,.int .i64 n67]).bind fun h70 =>
 cond (!b68) (
 (h70.puts h14r [.int .i64 0,.int .i64 0,.int .i64 0,.int .i64 0,(⟨none,0,.is 0⟩:Sl).v,(⟨none,0,.is 0⟩:Sl).v,(⟨none,0,.is 0⟩:Sl).v]).bind fun h71 =>
 ((h71.cell (h14r.add 0)).bind (AV.asInt .i64)).bind fun n72 =>
 ((h71.cell (h14r.add 1)).bind (AV.asInt .i64)).bind fun n73 =>
 ((h71.cell (h14r.add 2)).bind (AV.asInt .i64)).bind fun n74 =>
 ((h71.cell (h14r.add 3)).bind (AV.asInt .i64)).bind fun n75 =>
 ((h71.cell (h14r.add 4)).bind AV.asSl).bind fun l76 =>
 ((h71.cell (h14r.add 5)).bind AV.asSl).bind fun l77 =>
 ((h71.cell (h14r.add 6)).bind AV.asSl).bind fun l78 =>
 some (.tup [.agg [.int .i64 n72,.int .i64 n73,.int .i64 n74,.int .i64 n75,l76.v,l77.v,l78.v],.int .i64 21],h71)) (
 ((h70.cell (h13r.add 2)).bind (AV.asInt .i64)).bind fun n79 =>
 ((h70.cell (h12r.add 0)).bind AV.asSl).bind fun l80 =>
 cond (decide (n79≥(l80.len:Int))) (
 (h70.puts h14r [.int .i64 0,.int .i64 0,.int .i64 0,.int .i64 0,(⟨none,0,.is 0⟩:Sl).v,(⟨none,0,.is 0⟩:Sl).v,(⟨none,0,.is 0⟩:Sl).v]).bind fun h81 =>
 ((h81.cell (h14r.add 0)).bind (AV.asInt .i64)).bind fun n82 =>
 ((h81.cell (h14r.add 1)).bind (AV.asInt .i64)).bind fun n83 =>
 ((h81.cell (h14r.add 2)).bind (AV.asInt .i64)).bind fun n84 =>
 ((h81.cell (h14r.add 3)).bind (AV.asInt .i64)).bind fun n85 =>
 ((h81.cell (h14r.add 4)).bind AV.asSl).bind fun l86 =>
 ((h81.cell (h14r.add 5)).bind AV.asSl).bind fun l87 =>
 ((h81.cell (h14r.add 6)).bind AV.asSl).bind fun l88 =>
 some (.tup [.agg [.int .i64 n82,.int .i64 n83,.int .i64 n84,.int .i64 n85,l86.v,l87.v,l88.v],.int .i64 1],h81)) (
 ((h70.cell (h69r.add 0)).bind (AV.asInt .i64)).bind fun n89 =>
 ((h70.cell (h12r.add 2)).bind AV.asSl).bind fun l90 =>
 cond (decide (n89≥(l90.len:Int))) (
 (h70.puts h14r [.int .i64 0,.int .i64 0,.int .i64 0,.int .i64 0,(⟨none,0,.is 0⟩:Sl).v,(⟨none,0,.is 0⟩:Sl).v,(⟨none,0,.is 0⟩:Sl).v]).bind fun h91 =>
 ((h91.cell (h14r.add 0)).bind (AV.asInt .i64)).bind fun n92 =>
 ((h91.cell (h14r.add 1)).bind (AV.asInt .i64)).bind fun n93 =>
 ((h91.cell (h14r.add 2)).bind (AV.asInt .i64)).bind fun n94 =>
 ((h91.cell (h14r.add 3)).bind (AV.asInt .i64)).bind fun n95 =>
 ((h91.cell (h14r.add 4)).bind AV.asSl).bind fun l96 =>
 ((h91.cell (h14r.add 5)).bind AV.asSl).bind fun l97 =>
 ((h91.cell (h14r.add 6)).bind AV.asSl).bind fun l98 =>
 some (.tup [.agg [.int .i64 n92,.int .i64 n93,.int .i64 n94,.int .i64 n95,l96.v,l97.v,l98.v],.int .i64 1],h91)) (
 ((h70.cell (h13r.add 1)).bind (AV.asInt .i64)).bind fun n99 =>
 ((h70.cell (h13r.add 2)).bind (AV.asInt .i64)).bind fun n100 =>
 newK h70 (.cells [.int .i64 0,.int .i64 0,.int .i64 0,.int .i64 0,(⟨none,0,.is 0⟩:Sl).v,(⟨none,0,.is 0⟩:Sl).v,(⟨none,0,.is 0⟩:Sl).v] ku) fun h101r h101 =>
 (h101.puts h101r [.int .i64 9,.int .i64 n99,.int .i64 n100,.int .i64 0,(⟨none,0,.is 0⟩:Sl).v,(⟨none,0,.is 0⟩:Sl).v,(⟨none,0,.is 0⟩:Sl).v]).bind fun h102 =>
 ((h102.cell (h12r.add 2)).bind AV.asSl).bind fun l103 =>
 ((h102.cell (h69r.add 0)).bind (AV.asInt .i64)).bind fun n104 =>
 (idx l103.ref l103.len n104 1).bind fun r105 =>
 ((h102.cell r105).bind AV.asSl).bind fun l106 =>
 ((h102.cell (h13r.add 2)).bind (AV.asInt .i64)).bind fun n107 =>
 (idx l106.ref l106.len n107 1).bind fun r108 =>
 ((h102.cell r108).bind (AV.asInt .i64)).bind fun n109 =>
 ((h102.cell (h69r.add 1)).bind (AV.asInt .i64)).bind fun n110 =>
 cond (decide (n109≤n110)) (
 (h102.puts (h101r.add 3) [.int .i64 1]).bind fun h111 =>
 ((h111.cell (h101r.add 0)).bind (AV.asInt .i64)).bind fun n112 =>
 ((h111.cell (h101r.add 1)).bind (AV.asInt .i64)).bind fun n113 =>
 ((h111.cell (h101r.add 2)).bind (AV.asInt .i64)).bind fun n114 =>
 ((h111.cell (h101r.add 3)).bind (AV.asInt .i64)).bind fun n115 =>
 ((h111.cell (h101r.add 4)).bind AV.asSl).bind fun l116 =>
 ((h111.cell (h101r.add 5)).bind AV.asSl).bind fun l117 =>
 ((h111.cell (h101r.add 6)).bind AV.asSl).bind fun l118 =>
 (h111.puts h14r [.int .i64 n112,.int .i64 n113,.int .i64 n114,.int .i64 n115,l116.v,l117.v,l118.v]).bind fun h119 =>
 ((h119.cell (h14r.add 0)).bind (AV.asInt .i64)).bind fun n120 =>
 ((h119.cell (h14r.add 1)).bind (AV.asInt .i64)).bind fun n121 =>
 ((h119.cell (h14r.add 2)).bind (AV.asInt .i64)).bind fun n122 =>
 ((h119.cell (h14r.add 3)).bind (AV.asInt .i64)).bind fun n123 =>
 ((h119.cell (h14r.add 4)).bind AV.asSl).bind fun l124 =>
 ((h119.cell (h14r.add 5)).bind AV.asSl).bind fun l125 =>
 ((h119.cell (h14r.add 6)).bind AV.asSl).bind fun l126 =>
 some (.tup [.agg [.int .i64 n120,.int .i64 n121,.int .i64 n122,.int .i64 n123,l124.v,l125.v,l126.v],.int .i64 0],h119)) (
 ((h102.cell (h101r.add 0)).bind (AV.asInt .i64)).bind fun n127 =>
 ((h102.cell (h101r.add 1)).bind (AV.asInt .i64)).bind fun n128 =>
 ((h102.cell (h101r.add 2)).bind (AV.asInt .i64)).bind fun n129 =>
 ((h102.cell (h101r.add 3)).bind (AV.asInt .i64)).bind fun n130 =>
 ((h102.cell (h101r.add 4)).bind AV.asSl).bind fun l131 =>
 ((h102.cell (h101r.add 5)).bind AV.asSl).bind fun l132 =>
 ((h102.cell (h101r.add 6)).bind AV.asSl).bind fun l133 =>
 (h102.puts h14r [.int .i64 n127,.int .i64 n128,.int .i64 n129,.int .i64 n130,l131.v,l132.v,l133.v]).bind fun h134 =>
 ((h134.cell (h14r.add 0)).bind (AV.asInt .i64)).bind fun n135 =>
 ((h134.cell (h14r.add 1)).bind (AV.asInt .i64)).bind fun n136 =>
 ((h134.cell (h14r.add 2)).bind (AV.asInt .i64)).bind fun n137 =>
 ((h134.cell (h14r.add 3)).bind (AV.asInt .i64)).bind fun n138 =>
 ((h134.cell (h14r.add 4)).bind AV.asSl).bind fun l139 =>
 ((h134.cell (h14r.add 5)).bind AV.asSl).bind fun l140 =>
 ((h134.cell (h14r.add 6)).bind AV.asSl).bind fun l141 =>
 some (.tup [.agg [.int .i64 n135,.int .i64 n136,.int .i64 n137,.int .i64 n138,l139.v,l140.v,l141.v],.int .i64 0],h134)))))) none)))):=(kc _ h).trans (by kernel_rfl)
theorem k0e(a1:Option Ref)(a2:Int)(h:AH):go (.fn kki [.ptr a1,.int .i64 a2]) h =
 newK h (.cells [.int .i64 0,.int .i64 0] kbh) fun h3r h3 =>
 a1.bind fun r4 =>
 ((h3.cell (r4.add 1)).bind AV.asPtr).bind fun p5 =>
 (go (.fn kpv [.ptr p5,.int .i64 a2]) h3).bind fun q6 =>
 (AV.asTup4 q6.1).bind fun p7 =>
 ((some p7.1).bind (AV.asInt .i64)).bind fun n8 =>
 ((some p7.2.1).bind (AV.asInt .i64)).bind fun n9 =>
 (AV.asAgg p7.2.2.1).bind fun cs10 =>
 cond (Nat.beq cs10.length 2) (
 ((cs10[0]?).bind (AV.asInt .i64)).bind fun n11 =>
 ((cs10[1]?).bind (AV.asInt .i64)).bind fun n12 =>
 ((some p7.2.2.2).bind AV.asBool).bind fun b13 =>
 newK q6.2 (.cells [.int .i64 0,.int .i64 0] kbh) fun h14r h14 =>
 (h14.puts h14r [.int .i64 n11,.int .i64 n12]).bind fun h15 =>
 ((h15.cell (h14r.add 0)).bind (AV.asInt .i64)).bind fun n16 =>
 ((h15.cell (h14r.add 1)).bind (AV.asInt .i64)).bind fun n17 =>
 (h15.puts h3r [.int .i64 n16,.int .i64 n17]).bind fun h18 =>
 ((h18.cell (h3r.add 0)).bind (AV.asInt .i64)).bind fun n19 =>
 ((h18.cell (h3r.add 1)).bind (AV.asInt .i64)).bind fun n20 =>
 some (.tup [.agg [.int .i64 n19,.int .i64 n20],.bool b13],h18)) none:=(kc _ h).trans (by kernel_rfl)
theorem k9c(a1 a2:Int)(a3:Bool)(a4 a5 a6:Sl)(a7 a8 a9 a10:Int)(a11 a12 a13:Sl)(h:AH):go (.fn kn6 [.agg [.int .i64 a1,.int .i64 a2],.bool a3,.agg [a4.v,a5.v,a6.v],.agg [.int .i64 a7,.int .i64 a8,.int .i64 a9,.int .i64 a10,a11.v,a12.v,a13.v]]) h =
 newK h (.cells [.int .i64 a1,.int .i64 a2] kbh) fun h14r h14 =>
 newK h14 (.cells [a4.v,a5.v,a6.v] kbb) fun h15r h15 =>
 newK h15 (.cells [.int .i64 a7,.int .i64 a8,.int .i64 a9,.int .i64 a10,a11.v,a12.v,a13.v] ku) fun h16r h16 =>
 newK h16 (.cells [.int .i64 0,.int .i64 0,.int .i64 0,.int .i64 0,(⟨none,0,.is 0⟩:Sl).v,(⟨none,0,.is 0⟩:Sl).v,(⟨none,0,.is 0⟩:Sl).v] ku) fun h17r h17 =>
 ((h17.cell (h15r.add 0)).bind AV.asSl).bind fun l18 =>
 ((h17.cell (h15r.add 1)).bind AV.asSl).bind fun l19 =>
 ((h17.cell (h15r.add 2)).bind AV.asSl).bind fun l20 =>
 (go (.fn kcw [.agg [l18.v,l19.v,l20.v]]) h17).bind fun q21 =>
 ((some q21.1).bind AV.asBool).bind fun b22 =>
 cond (!b22) (
 (q21.2.puts h17r [.int .i64 0,.int .i64 0,.int .i64 0,.int .i64 0,(⟨none,0,.is 0⟩:Sl).v,(⟨none,0,.is 0⟩:Sl).v,(⟨none,0,.is 0⟩:Sl).v]).bind fun h23 =>
 ((h23.cell (h17r.add 0)).bind (AV.asInt .i64)).bind fun n24 =>
 ((h23.cell (h17r.add 1)).bind (AV.asInt .i64)).bind fun n25 =>
 ((h23.cell (h17r.add 2)).bind (AV.asInt .i64)).bind fun n26 =>
 ((h23.cell (h17r.add 3)).bind (AV.asInt .i64)).bind fun n27 =>
 ((h23.cell (h17r.add 4)).bind AV.asSl).bind fun l28 =>
 ((h23.cell (h17r.add 5)).bind AV.asSl).bind fun l29 =>
 ((h23.cell (h17r.add 6)).bind AV.asSl).bind fun l30 =>
 some (.tup [.agg [.int .i64 n24,.int .i64 n25,.int .i64 n26,.int .i64 n27,l28.v,l29.v,l30.v],.int .i64 20],h23)) (
 ((q21.2.cell (h16r.add 0)).bind (AV.asInt .i64)).bind fun n31 =>
 ((q21.2.cell (h16r.add 1)).bind (AV.asInt .i64)).bind fun n32 =>
 ((q21.2.cell (h16r.add 2)).bind (AV.asInt .i64)).bind fun n33 =>
 ((q21.2.cell (h16r.add 3)).bind (AV.asInt .i64)).bind fun n34 =>
 ((q21.2.cell (h16r.add 4)).bind AV.asSl).bind fun l35 =>
 ((q21.2.cell (h16r.add 5)).bind AV.asSl).bind fun l36 =>
 ((q21.2.cell (h16r.add 6)).bind AV.asSl).bind fun l37 =>
 (go (.fn kf [.agg [.int .i64 n31,.int .i64 n32,.int .i64 n33,.int .i64 n34,l35.v,l36.v,l37.v]]) q21.2).bind fun q38 =>
 ((some q38.1).bind AV.asBool).bind fun b39 =>
 cond (!b39) (
 (q38.2.puts h17r [.int .i64 0,.int .i64 0,.int .i64 0,.int .i64 0,(⟨none,0,.is 0⟩:Sl).v,(⟨none,0,.is 0⟩:Sl).v,(⟨none,0,.is 0⟩:Sl).v]).bind fun h40 =>
 ((h40.cell (h17r.add 0)).bind (AV.asInt .i64)).bind fun n41 =>
 ((h40.cell (h17r.add 1)).bind (AV.asInt .i64)).bind fun n42 =>
 ((h40.cell (h17r.add 2)).bind (AV.asInt .i64)).bind fun n43 =>
 ((h40.cell (h17r.add 3)).bind (AV.asInt .i64)).bind fun n44 =>
 ((h40.cell (h17r.add 4)).bind AV.asSl).bind fun l45 =>
 ((h40.cell (h17r.add 5)).bind AV.asSl).bind fun l46 =>
 ((h40.cell (h17r.add 6)).bind AV.asSl).bind fun l47 =>
 some (.tup [.agg [.int .i64 n41,.int .i64 n42,.int .i64 n43,.int .i64 n44,l45.v,l46.v,l47.v],.int .i64 16],h40)) (
 ((q38.2.cell (h16r.add 0)).bind (AV.asInt .i64)).bind fun n48 =>
 cond (!decide (n48=8)) (
 (q38.2.puts h17r [.int .i64 0,.int .i64 0,.int .i64 0,.int .i64 0,(⟨none,0,.is 0⟩:Sl).v,(⟨none,0,.is 0⟩:Sl).v,(⟨none,0,.is 0⟩:Sl).v]).bind fun h49 =>
 ((h49.cell (h17r.add 0)).bind (AV.asInt .i64)).bind fun n50 =>
 ((h49.cell (h17r.add 1)).bind (AV.asInt .i64)).bind fun n51 =>
 ((h49.cell (h17r.add 2)).bind (AV.asInt .i64)).bind fun n52 =>
 ((h49.cell (h17r.add 3)).bind (AV.asInt .i64)).bind fun n53 =>
 ((h49.cell (h17r.add 4)).bind AV.asSl).bind fun l54 =>
 ((h49.cell (h17r.add 5)).bind AV.asSl).bind fun l55 =>
 ((h49.cell (h17r.add 6)).bind AV.asSl).bind fun l56 =>
 some (.tup [.agg [.int .i64 n50,.int .i64 n51,.int .i64 n52,.int .i64 n53,l54.v,l55.v,l56.v],.int .i64 16],h49)) (
 cond (!a3) (
 (q38.2.puts h17r [.int .i64 0,.int .i64 0,.int .i64 0,.int .i64 0,(⟨none,0,.is 0⟩:Sl).v,(⟨none,0,.is 0⟩:Sl).v,(⟨none,0,.is 0⟩:Sl).v]).bind fun h57 =>
 ((h57.cell (h17r.add 0)).bind (AV.asInt .i64)).bind fun n58 =>
 ((h57.cell (h17r.add 1)).bind (AV.asInt .i64)).bind fun n59 =>
 ((h57.cell (h17r.add 2)).bind (AV.asInt .i64)).bind fun n60 =>
 ((h57.cell (h17r.add 3)).bind (AV.asInt .i64)).bind fun n61 =>
 ((h57.cell (h17r.add 4)).bind AV.asSl).bind fun l62 =>
 ((h57.cell (h17r.add 5)).bind AV.asSl).bind fun l63 =>
 ((h57.cell (h17r.add 6)).bind AV.asSl).bind fun l64 =>
 some (.tup [.agg [.int .i64 n58,.int .i64 n59,.int .i64 n60,.int .i64 n61,l62.v,l63.v,l64.v],.int .i64 21],h57)) (
 ((q38.2.cell (h16r.add 2)).bind (AV.asInt .i64)).bind fun n65 =>
 ((q38.2.cell (h15r.add 0)).bind AV.asSl).bind fun l66 =>
 cond (decide (n65≥(l66.len:Int))) (
 (q38.2.puts h17r [.int .i64 0,.int .i64 0,.int .i64 0,.int .i64 0,(⟨none,0,.is 0⟩:Sl).v,(⟨none,0,.is 0⟩:Sl).v,(⟨none,0,.is 0⟩:Sl).v]).bind fun h67 =>
 ((h67.cell (h17r.add 0)).bind (AV.asInt .i64)).bind fun n68 =>
 ((h67.cell (h17r.add 1)).bind (AV.asInt .i64)).bind fun n69 =>
 ((h67.cell (h17r.add 2)).bind (AV.asInt .i64)).bind fun n70 =>
 ((h67.cell (h17r.add 3)).bind (AV.asInt .i64)).bind fun n71 =>
 ((h67.cell (h17r.add 4)).bind AV.asSl).bind fun l72 =>
 ((h67.cell (h17r.add 5)).bind AV.asSl).bind fun l73 =>
 ((h67.cell (h17r.add 6)).bind AV.asSl).bind fun l74 =>
 some (.tup [.agg [.int .i64 n68,.int .i64 n69,.int .i64 n70,.int .i64 n71,l72.v,l73.v,l74.v],.int .i64 1],h67)) (
 ((q38.2.cell (h14r.add 0)).bind (AV.asInt .i64)).bind fun n75 =>
 ((q38.2.cell (h15r.add 2)).bind AV.asSl).bind fun l76 =>
 cond (decide (n75≥(l76.len:Int))) (
 (q38.2.puts h17r [.int .i64 0,.int .i64 0,.int .i64 0,.int .i64 0,(⟨none,0,.is 0⟩:Sl).v,(⟨none,0,.is 0⟩:Sl).v,(⟨none,0,.is 0⟩:Sl).v]).bind fun h77 =>
 ((h77.cell (h17r.add 0)).bind (AV.asInt .i64)).bind fun n78 =>
 ((h77.cell (h17r.add 1)).bind (AV.asInt .i64)).bind fun n79 =>
 ((h77.cell (h17r.add 2)).bind (AV.asInt .i64)).bind fun n80 =>
 ((h77.cell (h17r.add 3)).bind (AV.asInt .i64)).bind fun n81 =>
 ((h77.cell (h17r.add 4)).bind AV.asSl).bind fun l82 =>
 ((h77.cell (h17r.add 5)).bind AV.asSl).bind fun l83 =>
 ((h77.cell (h17r.add 6)).bind AV.asSl).bind fun l84 =>
 some (.tup [.agg [.int .i64 n78,.int .i64 n79,.int .i64 n80,.int .i64 n81,l82.v,l83.v,l84.v],.int .i64 1],h77)) (
 ((q38.2.cell (h16r.add 1)).bind (AV.asInt .i64)).bind fun n85 =>
 ((q38.2.cell (h16r.add 2)).bind (AV.asInt .i64)).bind fun n86 =>
 newK q38.2 (.cells [.int .i64 0,.int .i64 0,.int .i64 0,.int .i64 0,(⟨none,0,.is 0⟩:Sl).v,(⟨none,0,.is 0⟩:Sl).v,(⟨none,0,.is 0⟩:Sl).v] ku) fun h87r h87 =>
 (h87.puts h87r [.int .i64 9,.int .i64 n85,.int .i64 n86,.int .i64 0,(⟨none,0,.is 0⟩:Sl).v,(⟨none,0,.is 0⟩:Sl).v,(⟨none,0,.is 0⟩:Sl).v]).bind fun h88 =>
 ((h88.cell (h15r.add 2)).bind AV.asSl).bind fun l89 =>
 ((h88.cell (h14r.add 0)).bind (AV.asInt .i64)).bind fun n90 =>
 (idx l89.ref l89.len n90 1).bind fun r91 =>
 ((h88.cell r91).bind AV.asSl).bind fun l92 =>
 ((h88.cell (h16r.add 2)).bind (AV.asInt .i64)).bind fun n93 =>
 (idx l92.ref l92.len n93 1).bind fun r94 =>
 ((h88.cell r94).bind (AV.asInt .i64)).bind fun n95 =>
 ((h88.cell (h14r.add 1)).bind (AV.asInt .i64)).bind fun n96 =>
 cond (decide (n95≤n96)) (
 (h88.puts (h87r.add 3) [.int .i64 1]).bind fun h97 =>
 ((h97.cell (h87r.add 0)).bind (AV.asInt .i64)).bind fun n98 =>
 ((h97.cell (h87r.add 1)).bind (AV.asInt .i64)).bind fun n99 =>
 ((h97.cell (h87r.add 2)).bind (AV.asInt .i64)).bind fun n100 =>
 ((h97.cell (h87r.add 3)).bind (AV.asInt .i64)).bind fun n101 =>
 ((h97.cell (h87r.add 4)).bind AV.asSl).bind fun l102 =>
 ((h97.cell (h87r.add 5)).bind AV.asSl).bind fun l103 =>
 ((h97.cell (h87r.add 6)).bind AV.asSl).bind fun l104 =>
 (h97.puts h17r [.int .i64 n98,.int .i64 n99,.int .i64 n100,.int .i64 n101,l102.v,l103.v,l104.v]).bind fun h105 =>
 ((h105.cell (h17r.add 0)).bind (AV.asInt .i64)).bind fun n106 =>
 ((h105.cell (h17r.add 1)).bind (AV.asInt .i64)).bind fun n107 =>
 ((h105.cell (h17r.add 2)).bind (AV.asInt .i64)).bind fun n108 =>
 ((h105.cell (h17r.add 3)).bind (AV.asInt .i64)).bind fun n109 =>
 ((h105.cell (h17r.add 4)).bind AV.asSl).bind fun l110 =>
 ((h105.cell (h17r.add 5)).bind AV.asSl).bind fun l111 =>
 ((h105.cell (h17r.add 6)).bind AV.asSl).bind fun l112 =>
 some (.tup [.agg [.int .i64 n106,.int .i64 n107,.int .i64 n108,.int .i64 n109,l110.v,l111.v,l112.v],.int .i64 0],h105)) (
 ((h88.cell (h87r.add 0)).bind (AV.asInt .i64)).bind fun n113 =>
 ((h88.cell (h87r.add 1)).bind (AV.asInt .i64)).bind fun n114 =>
 ((h88.cell (h87r.add 2)).bind (AV.asInt .i64)).bind fun n115 =>
 ((h88.cell (h87r.add 3)).bind (AV.asInt .i64)).bind fun n116 =>
 ((h88.cell (h87r.add 4)).bind AV.asSl).bind fun l117 =>
 ((h88.cell (h87r.add 5)).bind AV.asSl).bind fun l118 =>
 ((h88.cell (h87r.add 6)).bind AV.asSl).bind fun l119 =>
 (h88.puts h17r [.int .i64 n113,.int .i64 n114,.int .i64 n115,.int .i64 n116,l117.v,l118.v,l119.v]).bind fun h120 =>
 ((h120.cell (h17r.add 0)).bind (AV.asInt .i64)).bind fun n121 =>
 ((h120.cell (h17r.add 1)).bind (AV.asInt .i64)).bind fun n122 =>
 ((h120.cell (h17r.add 2)).bind (AV.asInt .i64)).bind fun n123 =>
 ((h120.cell (h17r.add 3)).bind (AV.asInt .i64)).bind fun n124 =>
 ((h120.cell (h17r.add 4)).bind AV.asSl).bind fun l125 =>
 ((h120.cell (h17r.add 5)).bind AV.asSl).bind fun l126 =>
 ((h120.cell (h17r.add 6)).bind AV.asSl).bind fun l127 =>
 some (.tup [.agg [.int .i64 n121,.int .i64 n122,.int .i64 n123,.int .i64 n124,l125.v,l126.v,l127.v],.int .i64 0],h120)))))))):=(kc _ h).trans (by kernel_rfl)
theorem k9e(a1 a2 a3 a4:Int)(a5 a6 a7:Sl)(a8 a9 a10 a11:Int)(a12 a13 a14:Sl)(h:AH):go (.fn kqn [.agg [.int .i64 a1,.int .i64 a2,.int .i64 a3,.int .i64 a4,a5.v,a6.v,a7.v],.agg [.int .i64 a8,.int .i64 a9,.int .i64 a10,.int .i64 a11,a12.v,a13.v,a14.v]]) h =
 newK h (.cells [.int .i64 a1,.int .i64 a2,.int .i64 a3,.int .i64 a4,a5.v,a6.v,a7.v] ku) fun h15r h15 =>
 newK h15 (.cells [.int .i64 a8,.int .i64 a9,.int .i64 a10,.int .i64 a11,a12.v,a13.v,a14.v] ku) fun h16r h16 =>
 ((h16.cell (h15r.add 4)).bind AV.asSl).bind fun l17 =>
 ((h16.cell (h16r.add 4)).bind AV.asSl).bind fun l18 =>
 (go (.fn ke3 [l17.v,l18.v]) h16).bind fun q19 =>
 ((some q19.1).bind AV.asBool).bind fun b20 =>
 ((q19.2.cell (h15r.add 5)).bind AV.asSl).bind fun l21 =>
 ((q19.2.cell (h16r.add 5)).bind AV.asSl).bind fun l22 =>
 (go (.fn ke3 [l21.v,l22.v]) q19.2).bind fun q23 =>
 ((some q23.1).bind AV.asBool).bind fun b24 =>
 ((q23.2.cell (h15r.add 6)).bind AV.asSl).bind fun l25 =>
 ((q23.2.cell (h16r.add 6)).bind AV.asSl).bind fun l26 =>
 (go (.fn kf4 [l25.v,l26.v]) q23.2).bind fun q27 =>
 ((some q27.1).bind AV.asBool).bind fun b28 =>
 ((q27.2.cell (h15r.add 0)).bind (AV.asInt .i64)).bind fun n29 =>
 ((q27.2.cell (h16r.add 0)).bind (AV.asInt .i64)).bind fun n30 =>
 cond (decide (n29=n30)) (
 ((q27.2.cell (h15r.add 1)).bind (AV.asInt .i64)).bind fun n31 =>
 ((q27.2.cell (h16r.add 1)).bind (AV.asInt .i64)).bind fun n32 =>
 cond (decide (n31=n32)) (
 ((q27.2.cell (h15r.add 2)).bind (AV.asInt .i64)).bind fun n33 =>
 ((q27.2.cell (h16r.add 2)).bind (AV.asInt .i64)).bind fun n34 =>
 cond (decide (n33=n34)) (
 ((q27.2.cell (h15r.add 3)).bind (AV.asInt .i64)).bind fun n35 =>
 ((q27.2.cell (h16r.add 3)).bind (AV.asInt .i64)).bind fun n36 =>
 cond (decide (n35=n36)) (
 cond b20 (
 cond b24 (
 some (.bool b28,q27.2)) (
 some (.bool false,q27.2))) (
 some (.bool false,q27.2))) (
 some (.bool false,q27.2))) (
 some (.bool false,q27.2))) (
 some (.bool false,q27.2))) (
 some (.bool false,q27.2)):=(kc _ h).trans (by kernel_rfl)
theorem ky2(a1:Sl)(h:AH):go (.fn kif [a1.v]) h =
 (go (.fn kg9 [a1.v]) h).bind fun q2 =>
 ((some q2.1).bind (AV.asInt .i64)).bind fun n3 =>
 (go (.fn kc7 [a1.v]) q2.2).bind fun q4 =>
 ((some q4.1).bind AV.asBool).bind fun b5 =>
 cond b5 (
 (go (.fn kh2 [a1.v,.int .i64 0]) q4.2).bind fun q6 =>
 ((some q6.1).bind AV.asBool).bind fun b7 =>
 cond b7 (
 cond (decide (n3≥15)) (
 some (.bool (decide (n3≤80)),q6.2)) (
 some (.bool false,q6.2))) (
 some (.bool false,q6.2))) (
 some (.bool false,q4.2)):=(kc _ h).trans (by kernel_rfl)
theorem k4p(a1:Sl)(h:AH):go (.fn kfn [a1.v]) h =
 cond a1.ref.isNone (
 some ((⟨none,0,.is 0⟩:Sl).v,h)) (
 newK h (.cells [] ke) fun h2r h2 =>
 (kbe Pg ke a1.v h2).bind fun p4 =>
 (kz Pg (⟨some h2r,0,.is 0⟩:Sl) p4.1 p4.2 ke 1 h2).bind fun q3 =>
 (AV.asSl q3.1).bind fun l5 =>
 some (l5.v,q3.2)):=(kc _ h).trans (by kernel_rfl)
theorem kbaz(a1:Sl)(a2:Option Ref)(h:AH):go (.fn kda [a1.v,.func (.func kcy) [] [.ptr a2]]) h =
 (go (.fn kbc [a1.v,.func (.func kcy) [] [.ptr a2]]) h).bind fun q3 =>
 ((some q3.1).bind (AV.asInt .i64)).bind fun n4 =>
 some (.bool (decide (n4≥0)),q3.2):=(kc _ h).trans (by kernel_rfl)
theorem ksl(a1:Ref)(a2:Sl)(a3 a4:Int)(h:AH):go (.pt kdg kj6 [(2,.ptr (some a1)),(55,a2.v),(56,.int .i64 a3),(57,.int .i64 a4)]) h =
 cond (decide (a4<a3)) (
 (idx a2.ref a2.len a4 1).bind fun r5 =>
 ((h.cell r5).bind AV.asSl).bind fun l6 =>
 ((h.cell a1).bind AV.asPtr).bind fun p7 =>
 ((h.cell a1).bind AV.asPtr).bind fun p8 =>
 p8.bind fun r9 =>
 ((h.cell (r9.add 9)).bind AV.asSl).bind fun l10 =>
 (go (.fn kfn [l6.v]) h).bind fun q11 =>
 ((some q11.1).bind AV.asSl).bind fun l12 =>
 whenK (SameAt h q11.2 (r9.add 9) 1) (
 whenK (SameAt h q11.2 a1 1) (
 whenK (SameAt h q11.2 a1 1) (
 newK q11.2 (.cells [l12.v] kr) fun h13r h13 =>
 whenK (SameAt q11.2 h13 (r9.add 9) 1) (
 whenK (SameAt q11.2 h13 a1 1) (
 whenK (SameAt q11.2 h13 a1 1) (
 (kbe Pg kr ((⟨some h13r,1,.is 1⟩:Sl).v) h13).bind fun p15 =>
 (kz Pg l10 p15.1 p15.2 kr 1 h13).bind fun q14 =>
 (AV.asSl q14.1).bind fun l16 =>
 whenK (SameAt h13 q14.2 a1 1) (
 p7.bind fun r17 =>
 (q14.2.puts (r17.add 9) [l16.v]).bind fun h18 =>
 go (.pt kdg kj6 [(2,.ptr (some a1)),(55,a2.v),(56,.int .i64 a3),(57,.int .i64 (IntKind.wrap .i64 (a4+1)))]) h18)))))))) (
 some (.tup [(⟨none,0,.is 0⟩:Sl).v,.int .i64 0],h)):=(kc _ h).trans (by kernel_rfl)
theorem kum(a1:Int)(a2:Sl)(h:AH):go (.fn kes [.int .i64 a1,a2.v]) h =
 newK h (.cells [.int .i64 a1] T.int) fun h3r h3 =>
 newK h3 (.cells [.int .i64 0,(⟨none,0,.is 0⟩:Sl).v] kw) fun h4r h4 =>
 ((h4.cell h3r).bind (AV.asInt .i64)).bind fun n5 =>
 (go (.fn kjv [.int .i64 n5]) h4).bind fun q6 =>
 (AV.asTup2 q6.1).bind fun p7 =>
 (AV.asAgg p7.1).bind fun cs8 =>
 cond (Nat.beq cs8.length 2) (
 ((cs8[0]?).bind (AV.asInt .i64)).bind fun n9 =>
 ((cs8[1]?).bind AV.asSl).bind fun l10 =>
 ((some p7.2).bind (AV.asInt .i64)).bind fun n11 =>
 newK q6.2 (.cells [.int .i64 0,(⟨none,0,.is 0⟩:Sl).v] kw) fun h12r h12 =>
 (h12.puts h12r [.int .i64 n9,l10.v]).bind fun h13 =>
 cond (!decide (n11=0)) (
 (h13.puts h4r [.int .i64 0,(⟨none,0,.is 0⟩:Sl).v]).bind fun h14 =>
 ((h14.cell (h4r.add 0)).bind (AV.asInt .i64)).bind fun n15 =>
 ((h14.cell (h4r.add 1)).bind AV.asSl).bind fun l16 =>
 some (.tup [.agg [.int .i64 n15,l16.v],.int .i64 1],h14)) (
 (go (.fn kb6 [a2.v,.func (.func kc5) [] [.ptr (some h3r)]]) h13).bind fun q17 =>
 ((some q17.1).bind AV.asBool).bind fun b18 =>
 cond b18 (
 (q17.2.puts h4r [.int .i64 0,(⟨none,0,.is 0⟩:Sl).v]).bind fun h19 =>
 ((h19.cell (h4r.add 0)).bind (AV.asInt .i64)).bind fun n20 =>
 ((h19.cell (h4r.add 1)).bind AV.asSl).bind fun l21 =>
 some (.tup [.agg [.int .i64 n20,l21.v],.int .i64 1],h19)) (
 go (.pt kes kj7 [(4,.ptr (some h4r)),(6,.ptr (some h12r)),(23,a2.v),(24,.int .i64 (a2.len:Int)),(25,.int .i64 0)]) q17.2))) none:=(kc _ h).trans (by kernel_rfl)
theorem kbcp(a1 a2 a3:Sl)(h:AH):go (.fn kdy [.agg [a1.v,a2.v,a3.v]]) h =
 newK h (.cells [a1.v,a2.v,a3.v] kbb) fun h4r h4 =>
 newK h4 (.cells [(⟨none,0,.is 0⟩:Sl).v] kg5) fun h5r h5 =>
 ((h5.cell (h4r.add 0)).bind AV.asSl).bind fun l6 =>
 ((h5.cell (h4r.add 1)).bind AV.asSl).bind fun l7 =>
 ((h5.cell (h4r.add 2)).bind AV.asSl).bind fun l8 =>
 (go (.fn kc4 [.agg [l6.v,l7.v,l8.v]]) h5).bind fun q9 =>
 ((some q9.1).bind AV.asBool).bind fun b10 =>
 cond b10 (
 ((q9.2.cell (h4r.add 0)).bind AV.asSl).bind fun l11 =>
 ((q9.2.cell (h4r.add 1)).bind AV.asSl).bind fun l12 =>
 ((q9.2.cell (h4r.add 2)).bind AV.asSl).bind fun l13 =>
 (go (.fn kig [.agg [l11.v,l12.v,l13.v],.agg [.int .i64 0,(⟨none,0,.is 0⟩:Sl).v]]) q9.2).bind fun q14 =>
 go (.pt kdy kvy [(0,.agg [a1.v,a2.v,a3.v]),(1,.ptr (some h4r)),(2,(⟨none,0,.is 0⟩:Sl).v),(3,.ptr (some h5r)),(5,.agg [l6.v,l7.v,l8.v]),(6,.bool true),(7,.agg [l11.v,l12.v,l13.v]),(8,.agg [.int .i64 0,(⟨none,0,.is 0⟩:Sl).v]),(9,q14.1)]) q14.2) (
 ((q9.2.cell h5r).bind AV.asSl).bind fun l15 =>
 some (l15.v,q9.2)):=(kc _ h).trans (by kernel_rfl)
theorem k48(a1 a2:Option Ref)(a3 a4:Int)(a5:Sl)(h:AH):go (.fn kf2 [.ptr a1,.ptr a2,.int .i64 a3,.int .i64 a4,a5.v]) h =
 newK h (.cells [.int .i64 0,.int .i64 0] kvv) fun h6r h6 =>
 (h6.puts h6r [.int .i64 a3,.int .i64 a4]).bind fun h7 =>
 (go (.fn kjx [.int .i64 a3]) h7).bind fun q8 =>
 ((some q8.1).bind AV.asBool).bind fun b9 =>
 cond b9 (
 some (.tup [(⟨none,0,.is 0⟩:Sl).v,(⟨none,0,.is 0⟩:Sl).v,.int .i64 1],q8.2)) (
 (go (.fn kjx [.int .i64 a4]) q8.2).bind fun q10 =>
 ((some q10.1).bind AV.asBool).bind fun b11 =>
 cond b11 (
 some (.tup [(⟨none,0,.is 0⟩:Sl).v,(⟨none,0,.is 0⟩:Sl).v,.int .i64 1],q10.2)) (
 a1.bind fun r12 =>
 ((q10.2.cell (r12.add 1)).bind AV.asMap).bind fun m13 =>
 ((q10.2.cell (h6r.add 0)).bind (AV.asInt .i64)).bind fun n14 =>
 ((q10.2.cell (h6r.add 1)).bind (AV.asInt .i64)).bind fun n15 =>
 (khk q10.2 m13 .i64 n14 n15).bind fun q16 =>
 ((some (q16.getD (.bool false))).bind AV.asBool).bind fun b17 =>
 cond b17 (
 some (.tup [(⟨none,0,.is 0⟩:Sl).v,(⟨none,0,.is 0⟩:Sl).v,.int .i64 1],q10.2)) (
 a1.bind fun r18 =>
 ((q10.2.cell (r18.add 0)).bind AV.asSl).bind fun l19 =>
 cond (decide ((IntKind.wrap .i64 ((l19.len:Int)+(a5.len:Int)))>1048576)) (
 some (.tup [(⟨none,0,.is 0⟩:Sl).v,(⟨none,0,.is 0⟩:Sl).v,.int .i64 1],q10.2)) (
 (go (.fn kdi [.ptr a2,.int .i64 (a5.len:Int)]) q10.2).bind fun q20 =>
 (AV.asTup2 q20.1).bind fun p21 =>
 ((some p21.1).bind AV.asSl).bind fun l22 =>
 ((some p21.2).bind (AV.asInt .i64)).bind fun n23 =>
 cond (!decide (n23=0)) (
 some (.tup [(⟨none,0,.is 0⟩:Sl).v,(⟨none,0,.is 0⟩:Sl).v,.int .i64 n23],q20.2)) (
 go (.pt kf2 kl9 [(0,.ptr a1),(4,a5.v),(14,.ptr (some h6r)),(15,l22.v),(17,(⟨none,0,.is 0⟩:Sl).v),(60,l22.v),(61,.int .i64 (l22.len:Int)),(62,.int .i64 0)]) q20.2))))):=(kc _ h).trans (by kernel_rfl)
theorem k8t(a1 a2 a3 a4:Sl)(a5:Int)(a6 a7:Sl)(h:AH):go (.fn kca [a1.v,.agg [a2.v,a3.v,a4.v],.agg [.int .i64 a5,a6.v],a7.v]) h =
 newK h (.cells [a1.v] kr) fun h8r h8 =>
 newK h8 (.cells [a2.v,a3.v,a4.v] kbb) fun h9r h9 =>
 newK h9 (.cells [.int .i64 a5,a6.v] kw) fun h10r h10 =>
 newK h10 (.cells [a7.v] kcm) fun h11r h11 =>
 ((h11.cell h8r).bind AV.asSl).bind fun l12 =>
 (go (.fn kif [l12.v]) h11).bind fun q13 =>
 ((some q13.1).bind AV.asBool).bind fun b14 =>
 cond (!b14) (
 some (.tup [(⟨none,0,.is 0⟩:Sl).v,.int .i64 1],q13.2)) (
 ((q13.2.cell (h9r.add 0)).bind AV.asSl).bind fun l15 =>
 ((q13.2.cell (h9r.add 1)).bind AV.asSl).bind fun l16 =>
 ((q13.2.cell (h9r.add 2)).bind AV.asSl).bind fun l17 =>
 ((q13.2.cell (h10r.add 0)).bind (AV.asInt .i64)).bind fun n18 =>
 ((q13.2.cell (h10r.add 1)).bind AV.asSl).bind fun l19 =>
 ((q13.2.cell h11r).bind AV.asSl).bind fun l20 =>
 (go (.fn kp7 [.agg [l15.v,l16.v,l17.v],.agg [.int .i64 n18,l19.v],.int .i64 (l20.len:Int)]) q13.2).bind fun q21 =>
 ((some q21.1).bind (AV.asInt .i64)).bind fun n22 =>
 cond (!decide (n22=0)) (
 some (.tup [(⟨none,0,.is 0⟩:Sl).v,.int .i64 n22],q21.2)) (
 ((q21.2.cell h11r).bind AV.asSl).bind fun l23 =>
 (go (.fn kda [l23.v,.func (.func kbq) [] [.ptr (some h8r)]]) q21.2).bind fun q24 =>
 ((some q24.1).bind AV.asBool).bind fun b25 =>
 cond b25 (
 some (.tup [(⟨none,0,.is 0⟩:Sl).v,.int .i64 11],q24.2)) (
 ((q24.2.cell h8r).bind AV.asSl).bind fun l26 =>
 (go (.fn kov [l26.v]) q24.2).bind fun q27 =>
 newK q27.2 (.cells [.nilFunc] ktb) fun h28r h28 =>
 cond (AV.one q27.1) (
 (h28.puts h28r [q27.1]).bind fun h29 =>
 newK h29 (.cells [(⟨none,0,.is 0⟩:Sl).v] kcm) fun h30r h30 =>
 ((h30.cell (h9r.add 0)).bind AV.asSl).bind fun l31 =>
 ((h30.cell (h9r.add 1)).bind AV.asSl).bind fun l32 =>
 ((h30.cell (h9r.add 2)).bind AV.asSl).bind fun l33 =>
 ((h30.cell (h10r.add 0)).bind (AV.asInt .i64)).bind fun n34 =>
 ((h30.cell (h10r.add 1)).bind AV.asSl).bind fun l35 =>
 (go (.fn kig [.agg [l31.v,l32.v,l33.v],.agg [.int .i64 n34,l35.v]]) h30).bind fun q36 =>
 go (.pt kca kup [(0,a1.v),(1,.agg [a2.v,a3.v,a4.v]),(2,.agg [.int .i64 a5,a6.v]),(3,a7.v),(4,.ptr (some h8r)),(5,.ptr (some h9r)),(6,.ptr (some h10r)),(7,.ptr (some h11r)),(8,(⟨none,0,.is 0⟩:Sl).v),(9,.int .i64 0),(10,.int .i64 n22),(11,.ptr (some h28r)),(12,.ptr (some h30r)),(18,l12.v),(19,.bool b14),(20,.bool false),(21,.agg [l15.v,l16.v,l17.v]),(22,.agg [.int .i64 n18,l19.v]),(23,l20.v),(24,.int .i64 (l20.len:Int)),(25,.int .i64 n22),(26,.int .i64 n22),(27,.bool false),(29,l23.v),(30,.func (.func kbq) [] [.ptr (some h8r)]),(31,.bool false),(32,l26.v),(33,q27.1),(34,.agg [l31.v,l32.v,l33.v]),(35,.agg [.int .i64 n34,l35.v]),(36,q36.1)]) q36.2) none))):=(kc _ h).trans (by kernel_rfl)
theorem krf(a1:Option Ref)(a2 a3:Ref)(a4:Sl)(a5:Ref)(a6:Sl)(a7 a8:Int)(h:AH):go (.pt kde kls [(0,.ptr a1),(3,.ptr (some a2)),(6,.ptr (some a3)),(10,a4.v),(11,.ptr (some a5)),(87,a6.v),(88,.int .i64 a7),(89,.int .i64 a8)]) h =
 cond (decide (a8<a7)) (
 (idx a6.ref a6.len a8 1).bind fun r9 =>
 ((h.cell r9).bind (AV.asInt .i64)).bind fun n10 =>
 ((h.cell (a5.add 6)).bind AV.asSl).bind fun l11 =>
 (idx a4.ref a4.len n10 1).bind fun r12 =>
 ((h.cell r12).bind AV.asSl).bind fun l13 =>
 newK h (.cells [l13.v] kr) fun h14r h14 =>
 whenK (SameAt h h14 (a5.add 6) 1) (
 (kbe Pg kr ((⟨some h14r,1,.is 1⟩:Sl).v) h14).bind fun p16 =>
 (kz Pg l11 p16.1 p16.2 kr 1 h14).bind fun q15 =>
 (AV.asSl q15.1).bind fun l17 =>
 (q15.2.puts (a5.add 6) [l17.v]).bind fun h18 =>
 go (.pt kde kls [(0,.ptr a1),(3,.ptr (some a2)),(6,.ptr (some a3)),(10,a4.v),(11,.ptr (some a5)),(87,a6.v),(88,.int .i64 a7),(89,.int .i64 (IntKind.wrap .i64 (a8+1)))]) h18)) (
 a1.bind fun r19 =>
 ((h.cell (r19.add 10)).bind AV.asMap).bind fun m20 =>
 ((h.cell (a2.add 2)).bind (AV.asInt .i64)).bind fun n21 =>
 ((h.cell (a3.add 0)).bind (AV.asInt .i64)).bind fun n22 =>
 ((h.cell (a3.add 1)).bind AV.asSl).bind fun l23 =>
 newK h (.cells [.int .i64 n22,l23.v,.bool false] kbbg) fun h24r h24 =>
 whenK (SameAt h h24 (a2.add 2) 1) (
 whenK (SameAt h h24 (r19.add 10) 1) (
 m20.bind fun m26 =>
 (mapPut h24 m26 .i64 n21 (.ptr (some h24r))).bind fun h25 =>
 ((h25.cell (a5.add 0)).bind (AV.asInt .i64)).bind fun n27 =>
 ((h25.cell (a5.add 1)).bind (AV.asInt .i64)).bind fun n28 =>
 ((h25.cell (a5.add 2)).bind (AV.asInt .i64)).bind fun n29 =>
 ((h25.cell (a5.add 3)).bind (AV.asInt .i64)).bind fun n30 =>
 ((h25.cell (a5.add 4)).bind AV.asSl).bind fun l31 =>
 ((h25.cell (a5.add 5)).bind AV.asSl).bind fun l32 =>
 ((h25.cell (a5.add 6)).bind AV.asSl).bind fun l33 =>
 newK h25 (.cells [.int .i64 n27,.int .i64 n28,.int .i64 n29,.int .i64 n30,l31.v,l32.v,l33.v] ku) fun h34r h34 =>
 some (.tup [(⟨some h34r,1,.is 1⟩:Sl).v,.int .i64 0],h34)))):=(kc _ h).trans (by kernel_rfl)
theorem ksu(a1:Nat)(a2 a3:Ref)(a4:Sl)(a5 a6:Int)(h:AH):go (.pt kbm kii [(0,.func (.yield a1) [] []),(1,.ptr (some a2)),(2,.ptr (some a3)),(10,a4.v),(11,.int .i64 a5),(12,.int .i64 a6)]) h =
 cond (decide (a6<a5)) (
 (idx a4.ref a4.len a6 1).bind fun r7 =>
 ((h.cell r7).bind (AV.asInt .i64)).bind fun n8 =>
 go (.pt kbm ki8 [(0,.func (.yield a1) [] []),(1,.ptr (some a2)),(2,.ptr (some a3)),(4,.int .i64 a6),(10,a4.v),(11,.int .i64 a5),(12,.int .i64 a6),(18,.int .i64 (IntKind.wrap .i64 (n8-1))),(19,.int .i64 0)]) h) (
 some (.tup [],h)):=(kc _ h).trans (by kernel_rfl)
theorem kse(a1:Nat)(a2:Sl)(a3 a4:Int)(h:AH):go (.pt kbt kjq [(0,.func (.yield a1) [] []),(6,a2.v),(7,.int .i64 a3),(8,.int .i64 a4)]) h =
 cond (decide (a4<a3)) (
 (idx a2.ref a2.len a4 1).bind fun r5 =>
 ((h.cell r5).bind (AV.asInt .u64)).bind fun n6 =>
 go (.pt kbt kkv [(0,.func (.yield a1) [] []),(3,.int .i64 a4),(4,.int .u64 n6),(6,a2.v),(7,.int .i64 a3),(8,.int .i64 a4)]) h) (
 some (.tup [],h)):=(kc _ h).trans (by kernel_rfl)
theorem kbbt(a1 a2:Sl)(h:AH):go (.fn kib [a1.v,a2.v]) h =
 newK h (.cells [a1.v,a2.v] kr) fun h3r h3 =>
 (go (.fn kgj [(⟨some h3r,2,.is 2⟩:Sl).v]) h3).bind fun q4 =>
 ((some q4.1).bind AV.asBool).bind fun b5 =>
 cond (!b5) (
 some (.tup [(⟨none,0,.is 0⟩:Sl).v,.int .i64 1],q4.2)) (
 (go (.fn klo [a1.v,a2.v]) q4.2).bind fun q6 =>
 ((some q6.1).bind AV.asSl).bind fun l7 =>
 (go (.fn kix [l7.v]) q6.2).bind fun q8 =>
 (AV.asTup2 q8.1).bind fun p9 =>
 ((some p9.1).bind AV.asSl).bind fun l10 =>
 ((some p9.2).bind (AV.asInt .i64)).bind fun n11 =>
 some (.tup [l10.v,.int .i64 n11],q8.2)):=(kc _ h).trans (by kernel_rfl)
theorem k00(a1 a2:Sl)(h:AH):go (.fn kjc [a1.v,a2.v]) h =
 newK h (.cells [a1.v,a2.v] kr) fun h3r h3 =>
 (go (.fn kgj [(⟨some h3r,2,.is 2⟩:Sl).v]) h3).bind fun q4 =>
 ((some q4.1).bind AV.asBool).bind fun b5 =>
 cond (!b5) (
 some (.tup [(⟨none,0,.is 0⟩:Sl).v,(⟨none,0,.is 0⟩:Sl).v,.int .i64 1],q4.2)) (
 cond (decide ((a2.len:Int)=0)) (
 some (.tup [(⟨none,0,.is 0⟩:Sl).v,(⟨none,0,.is 0⟩:Sl).v,.int .i64 3],q4.2)) (
 (go (.fn kd9 [a1.v,a2.v]) q4.2).bind fun q6 =>
 ((some q6.1).bind (AV.asInt .i64)).bind fun n7 =>
 cond (decide (n7<0)) (
 (go (.fn kfn [a1.v]) q6.2).bind fun q8 =>
 ((some q8.1).bind AV.asSl).bind fun l9 =>
 some (.tup [(⟨none,0,.is 0⟩:Sl).v,l9.v,.int .i64 0],q8.2)) (
 cond (decide ((a2.len:Int)=1)) (
 (idx a2.ref a2.len 0 1).bind fun r10 =>
 ((q6.2.cell r10).bind (AV.asInt .u64)).bind fun n11 =>
 (go (.fn ket [a1.v,.int .u64 n11]) q6.2).bind fun q12 =>
 (AV.asTup2 q12.1).bind fun p13 =>
 ((some p13.1).bind AV.asSl).bind fun l14 =>
 ((some p13.2).bind (AV.asInt .u64)).bind fun n15 =>
 (go (.fn khc [.int .u64 n15]) q12.2).bind fun q16 =>
 ((some q16.1).bind AV.asSl).bind fun l17 =>
 some (.tup [l14.v,l17.v,.int .i64 0],q16.2)) (
 (go (.fn kbs [a1.v,a2.v]) q6.2).bind fun q18 =>
 (AV.asTup2 q18.1).bind fun p19 =>
 ((some p19.1).bind AV.asSl).bind fun l20 =>
 ((some p19.2).bind AV.asSl).bind fun l21 =>
 some (.tup [l20.v,l21.v,.int .i64 0],q18.2))))):=(kc _ h).trans (by kernel_rfl)
theorem k5h(a1 a2:Sl)(h:AH):go (.fn kci [a1.v,a2.v]) h =
 (kbd (IntKind.wrap .i64 ((a1.len:Int)+(a2.len:Int))) (IntKind.wrap .i64 ((a1.len:Int)+(a2.len:Int))) ke (Pg.bytesOf ke) [.int .u64 0] h).bind fun q3 =>
 go (.pt kci kju [(1,a2.v),(5,q3.1.v),(20,a1.v),(21,.int .i64 (a1.len:Int)),(22,.int .i64 0)]) q3.2:=(kc _ h).trans (by kernel_rfl)
theorem kye(a1:Sl)(a2:Ref)(h:AH):go (.fn khs [a1.v,.ptr (some a2)]) h =
 ((h.cell a2).bind (AV.asInt .i64)).bind fun n3 =>
 (cutSl a1 0 (imin n3 (a1.len:Int)) 1).bind fun l4 =>
 (go (.fn kbf [l4.v]) h).bind fun q5 =>
 ((some q5.1).bind AV.asSl).bind fun l6 =>
 some (l6.v,q5.2):=(kc _ h).trans (by kernel_rfl)
theorem k75(a1:Sl)(a2:Ref)(h:AH):go (.fn khw [a1.v,.ptr (some a2)]) h =
 ((h.cell a2).bind (AV.asInt .i64)).bind fun n3 =>
 (cutSl a1 (imin n3 (a1.len:Int)) (a1.len:Int) 1).bind fun l4 =>
 some (l4.v,h):=(kc _ h).trans (by kernel_rfl)
theorem kbc8(a1 a2:Sl)(h:AH):go (.fn kcu [a1.v,a2.v]) h =
 cond (decide ((a1.len:Int)<(a2.len:Int))) (
 (kbd (IntKind.wrap .i64 ((a2.len:Int)+1)) (IntKind.wrap .i64 ((a2.len:Int)+1)) ke (Pg.bytesOf ke) [.int .u64 0] h).bind fun q3 =>
 go (.pt kcu ke7 [(0,a2.v),(1,a1.v),(5,q3.1.v),(6,.int .u64 0),(21,.int .i64 (a2.len:Int)),(22,.int .i64 0)]) q3.2) (
 (kbd (IntKind.wrap .i64 ((a1.len:Int)+1)) (IntKind.wrap .i64 ((a1.len:Int)+1)) ke (Pg.bytesOf ke) [.int .u64 0] h).bind fun q4 =>
 go (.pt kcu ke7 [(0,a1.v),(1,a2.v),(5,q4.1.v),(6,.int .u64 0),(21,.int .i64 (a1.len:Int)),(22,.int .i64 0)]) q4.2):=(kc _ h).trans (by kernel_rfl)
theorem kpb(a1:Sl)(h:AH):go (.fn kbf [a1.v]) h =
 go (.pt kbf kjl [(0,a1.v),(3,.int .i64 (a1.len:Int))]) h:=(kc _ h).trans (by kernel_rfl)
theorem k7x(a1 a2:Sl)(h:AH):go (.fn kcl [a1.v,a2.v]) h =
 (kbd (a1.len:Int) (a1.len:Int) ke (Pg.bytesOf ke) [.int .u64 0] h).bind fun q3 =>
 go (.pt kcl kg6 [(0,a1.v),(1,a2.v),(5,q3.1.v),(6,.int .u64 0),(13,.int .i64 (a1.len:Int)),(14,.int .i64 0)]) q3.2:=(kc _ h).trans (by kernel_rfl)
theorem kbd0(a1 a2:Sl)(a3:Int)(h:AH):go (.fn kc3 [a1.v,a2.v,.int .i64 a3]) h =
 go (.pt kc3 kge [(0,a1.v),(1,a2.v),(2,.int .i64 a3),(6,.int .u64 0),(7,.int .i64 a3)]) h:=(kc _ h).trans (by kernel_rfl)
theorem k1i(a1:Sl)(a2:Int)(a3 a4 a5:Sl)(h:AH):go (.fn kf5 [.agg [a1.v],.int .i64 a2,.agg [a3.v,a4.v,a5.v]]) h =
 newK h (.cells [a1.v] krz) fun h6r h6 =>
 newK h6 (.cells [.int .i64 a2] T.int) fun h7r h7 =>
 newK h7 (.cells [a3.v,a4.v,a5.v] kbb) fun h8r h8 =>
 ((h8.cell (h6r.add 0)).bind AV.asSl).bind fun l9 =>
 (go (.fn kc2 [.agg [l9.v]]) h8).bind fun q10 =>
 ((some q10.1).bind AV.asBool).bind fun b11 =>
 cond (!b11) (
 some (.tup [.ptr none,.int .i64 1],q10.2)) (
 ((q10.2.cell h7r).bind (AV.asInt .i64)).bind fun n12 =>
 cond (decide (n12<1)) (
 some (.tup [.ptr none,.int .i64 1],q10.2)) (
 ((q10.2.cell h7r).bind (AV.asInt .i64)).bind fun n13 =>
 cond (decide (n13>16)) (
 some (.tup [.ptr none,.int .i64 1],q10.2)) (
 ((q10.2.cell (h8r.add 0)).bind AV.asSl).bind fun l14 =>
 ((q10.2.cell (h8r.add 1)).bind AV.asSl).bind fun l15 =>
 ((q10.2.cell (h8r.add 2)).bind AV.asSl).bind fun l16 =>
 (go (.fn kc4 [.agg [l14.v,l15.v,l16.v]]) q10.2).bind fun q17 =>
 ((some q17.1).bind AV.asBool).bind fun b18 =>
 cond (!b18) (
 some (.tup [.ptr none,.int .i64 20],q17.2)) (
 ((q17.2.cell (h8r.add 0)).bind AV.asSl).bind fun l19 =>
 ((q17.2.cell (h8r.add 1)).bind AV.asSl).bind fun l20 =>
 ((q17.2.cell (h8r.add 2)).bind AV.asSl).bind fun l21 =>
 ((q17.2.cell (h8r.add 0)).bind AV.asSl).bind fun l22 =>
 (kbd (l22.len:Int) (l22.len:Int) T.int (Pg.bytesOf T.int) [.int .i64 0] q17.2).bind fun q23 =>
 whenK (SameAt q17.2 q23.2 h8r 3) (
 newK q23.2 (.cells [(⟨none,0,.is 0⟩:Sl).v,l19.v,l20.v,l21.v,.int .i64 0,.int .i64 0,.int .i64 0,q23.1.v] kc6) fun h24r h24 =>
 ((h24.cell (h6r.add 0)).bind AV.asSl).bind fun l25 =>
 go (.pt kf5 kl6 [(8,.func (.func kb0) [] [.ptr (some h7r),.ptr (some h8r)]),(9,.ptr (some h24r)),(37,l25.v),(38,.int .i64 (l25.len:Int)),(39,.int .i64 0)]) h24))))):=(kc _ h).trans (by kernel_rfl)
theorem kzw(a1:Option Ref)(h:AH):go (.fn kn2 [.ptr a1]) h =
 a1.bind fun r2 =>
 ((h.cell (r2.add 7)).bind AV.asSl).bind fun l3 =>
 a1.bind fun r4 =>
 ((h.cell ((r4.add 4).add 0)).bind (AV.asInt .i64)).bind fun n5 =>
 ((h.cell ((r4.add 4).add 1)).bind (AV.asInt .i64)).bind fun n6 =>
 ((h.cell ((r4.add 4).add 2)).bind (AV.asInt .i64)).bind fun n7 =>
 (go (.fn kmt [l3.v]) h).bind fun q8 =>
 ((some q8.1).bind AV.asSl).bind fun l9 =>
 whenK (SameAt h q8.2 (r4.add 4) 3) (
 (go (.fn kk5 [.ptr a1]) q8.2).bind fun q10 =>
 (AV.asAgg q10.1).bind fun cs11 =>
 cond (Nat.beq cs11.length 3) (
 ((cs11[0]?).bind (AV.asInt .i64)).bind fun n12 =>
 ((cs11[1]?).bind (AV.asInt .i64)).bind fun n13 =>
 ((cs11[2]?).bind (AV.asInt .i64)).bind fun n14 =>
 whenK (SameAt q8.2 q10.2 (r4.add 4) 3) (
 some (.tup [l9.v,.bool ((decide (n5=n12))&&((decide (n6=n13))&&((decide (n7=n14))&&true)))],q10.2))) none):=(kc _ h).trans (by kernel_rfl)
theorem k92(a1:Sl)(h:AH):go (.fn kpl [a1.v]) h =
 cond (decide ((a1.len:Int)>65536)) (
 some (.tup [.ptr none,.int .i64 1],h)) (
 (go (.fn kkm [a1.v]) h).bind fun q2 =>
 ((some q2.1).bind AV.asSl).bind fun l3 =>
 newK q2.2 (.cells [l3.v] krj) fun h4r h4 =>
 some (.tup [.ptr (some h4r),.int .i64 0],h4)):=(kc _ h).trans (by kernel_rfl)
theorem kbdw(a1 a2 a3:Int)(a4 a5 a6:Sl)(a7:Option Ref)(h:AH):go (.fn kkk [.int .i64 a1,.int .i64 a2,.int .i64 a3,.agg [a4.v,a5.v,a6.v],.ptr a7]) h =
 newK h (.cells [a4.v,a5.v,a6.v] kbb) fun h8r h8 =>
 (go (.fn kn7 [.int .i64 a1,.int .i64 a2,.int .i64 a3]) h8).bind fun q9 =>
 (AV.asTup2 q9.1).bind fun p10 =>
 ((some p10.1).bind AV.asPtr).bind fun p11 =>
 ((some p10.2).bind (AV.asInt .i64)).bind fun n12 =>
 cond (!decide (n12=0)) (
 some (.tup [.ptr none,.int .i64 n12],q9.2)) (
 cond (decide (a1=0)) (
 some (.tup [.ptr none,.int .i64 1],q9.2)) (
 cond a7.isNone (
 some (.tup [.ptr none,.int .i64 1],q9.2)) (
 ((q9.2.cell (h8r.add 0)).bind AV.asSl).bind fun l13 =>
 ((q9.2.cell (h8r.add 1)).bind AV.asSl).bind fun l14 =>
 ((q9.2.cell (h8r.add 2)).bind AV.asSl).bind fun l15 =>
 (go (.fn kc4 [.agg [l13.v,l14.v,l15.v]]) q9.2).bind fun q16 =>
 ((some q16.1).bind AV.asBool).bind fun b17 =>
 cond (!b17) (
 some (.tup [.ptr none,.int .i64 20],q16.2)) (
 newK q16.2 (.cells [.int .i64 1] T.int) fun h18r h18 =>
 (go (.fn khg [.ptr p11,.int .i64 0,(⟨some h18r,1,.is 1⟩:Sl).v]) h18).bind fun q19 =>
 ((some q19.1).bind (AV.asInt .i64)).bind fun n20 =>
 ((q19.2.cell (h8r.add 0)).bind AV.asSl).bind fun l21 =>
 ((q19.2.cell (h8r.add 1)).bind AV.asSl).bind fun l22 =>
 ((q19.2.cell (h8r.add 2)).bind AV.asSl).bind fun l23 =>
 (go (.fn kp2 []) q19.2).bind fun q24 =>
 ((some q24.1).bind AV.asPtr).bind fun p25 =>
 whenK (SameAt q19.2 q24.2 h8r 3) (
 newK q24.2 (.cells [.ptr p11,.ptr p25,l21.v,l22.v,l23.v,.ptr a7,(⟨none,0,.is 0⟩:Sl).v,.int .i64 0,.int .i64 (-1),(⟨none,0,.is 0⟩:Sl).v,.map none,.int .i64 0,(⟨none,0,.is 0⟩:Sl).v] kj3) fun h26r h26 =>
 some (.tup [.ptr (some h26r),.int .i64 0],h26)))))):=(kc _ h).trans (by kernel_rfl)
theorem ksf(a1:Ref)(a2:Option Ref)(a3:Sl)(a4:Int)(h:AH):go (.pt kdq kkf [(5,.ptr (some a1)),(9,.ptr a2),(11,a3.v),(12,.int .i64 a4)]) h =
 ((h.cell ((a1.add 0).add 0)).bind AV.asSl).bind fun l5 =>
 cond (decide (a4<(l5.len:Int))) (
 newK h (.cells [.int .u64 1] ke) fun h6r h6 =>
 newK h6 (.cells [(⟨some h6r,1,.is 1⟩:Sl).v] kr) fun h7r h7 =>
 (kbe Pg kr ((⟨some h7r,1,.is 1⟩:Sl).v) h7).bind fun p9 =>
 (kz Pg a3 p9.1 p9.2 kr 1 h7).bind fun q8 =>
 (AV.asSl q8.1).bind fun l10 =>
 go (.pt kdq kkf [(5,.ptr (some a1)),(9,.ptr a2),(11,l10.v),(12,.int .i64 (IntKind.wrap .i64 (a4+1)))]) q8.2) (
 newK h (.cells [.int .u64 17947] ke) fun h11r h11 =>
 newK h11 (.cells [(⟨some h11r,1,.is 1⟩:Sl).v] kr) fun h12r h12 =>
 (go (.fn kir [.ptr a2,.agg [.int .i64 1,.int .i64 (a3.len:Int),.int .i64 1,.int .i64 0,(⟨none,0,.is 0⟩:Sl).v,(⟨none,0,.is 0⟩:Sl).v,(⟨some h12r,1,.is 1⟩:Sl).v]]) h12).bind fun q13 =>
 ((some q13.1).bind AV.asSl).bind fun l14 =>
 (go (.fn kir [.ptr a2,.agg [.int .i64 3,.int .i64 0,.int .i64 0,.int .i64 0,(⟨none,0,.is 0⟩:Sl).v,(⟨none,0,.is 0⟩:Sl).v,a3.v]]) q13.2).bind fun q15 =>
 ((some q15.1).bind AV.asSl).bind fun l16 =>
 go (.pt kdq kmk [(9,.ptr a2),(13,.int .i64 0)]) q15.2):=(kc _ h).trans (by kernel_rfl)
theorem kxi(a1 a2 a3:Sl)(h:AH):go (.fn kc4 [.agg [a1.v,a2.v,a3.v]]) h =
 newK h (.cells [a1.v,a2.v,a3.v] kbb) fun h4r h4 =>
 ((h4.cell (h4r.add 0)).bind AV.asSl).bind fun l5 =>
 (go (.fn kpk [l5.v]) h4).bind fun q6 =>
 ((some q6.1).bind AV.asBool).bind fun b7 =>
 cond (!b7) (
 some (.bool false,q6.2)) (
 ((q6.2.cell (h4r.add 2)).bind AV.asSl).bind fun l8 =>
 cond (decide ((l8.len:Int)>16)) (
 some (.bool false,q6.2)) (
 ((q6.2.cell (h4r.add 1)).bind AV.asSl).bind fun l9 =>
 ((q6.2.cell (h4r.add 2)).bind AV.asSl).bind fun l10 =>
 cond (!decide ((l9.len:Int)=(l10.len:Int))) (
 some (.bool false,q6.2)) (
 ((q6.2.cell (h4r.add 2)).bind AV.asSl).bind fun l11 =>
 go (.pt kc4 kk6 [(1,.ptr (some h4r)),(27,l11.v),(28,.int .i64 (l11.len:Int)),(29,.int .i64 0)]) q6.2))):=(kc _ h).trans (by kernel_rfl)
theorem kyf(a1 a2 a3 a4:Int)(a5 a6 a7:Sl)(h:AH):go (.fn kbx [.agg [.int .i64 a1,.int .i64 a2,.int .i64 a3,.int .i64 a4,a5.v,a6.v,a7.v]]) h =
 newK h (.cells [.int .i64 a1,.int .i64 a2,.int .i64 a3,.int .i64 a4,a5.v,a6.v,a7.v] ku) fun h8r h8 =>
 (go (.fn knk []) h8).bind fun q9 =>
 (AV.asAgg q9.1).bind fun cs10 =>
 cond (Nat.beq cs10.length 48) (
 ((cs10[0]?).bind (AV.asInt .i64)).bind fun n11 =>
 ((cs10[1]?).bind AV.asBool).bind fun b12 =>
 ((cs10[2]?).bind AV.asBool).bind fun b13 =>
 ((cs10[3]?).bind AV.asBool).bind fun b14 =>
 ((cs10[4]?).bind (AV.asInt .i64)).bind fun n15 =>
 ((cs10[5]?).bind AV.asBool).bind fun b16 =>
 ((cs10[6]?).bind AV.asBool).bind fun b17 =>
 ((cs10[7]?).bind AV.asBool).bind fun b18 =>
 ((cs10[8]?).bind (AV.asInt .i64)).bind fun n19 =>
 ((cs10[9]?).bind AV.asBool).bind fun b20 =>
 ((cs10[10]?).bind AV.asBool).bind fun b21 =>
 ((cs10[11]?).bind AV.asBool).bind fun b22 =>
 ((cs10[12]?).bind (AV.asInt .i64)).bind fun n23 =>
 ((cs10[13]?).bind AV.asBool).bind fun b24 =>
 ((cs10[14]?).bind AV.asBool).bind fun b25 =>
 ((cs10[15]?).bind AV.asBool).bind fun b26 =>
 ((cs10[16]?).bind (AV.asInt .i64)).bind fun n27 =>
 ((cs10[17]?).bind AV.asBool).bind fun b28 =>
 ((cs10[18]?).bind AV.asBool).bind fun b29 =>
 ((cs10[19]?).bind AV.asBool).bind fun b30 =>
 ((cs10[20]?).bind (AV.asInt .i64)).bind fun n31 =>
 ((cs10[21]?).bind AV.asBool).bind fun b32 =>
 ((cs10[22]?).bind AV.asBool).bind fun b33 =>
 ((cs10[23]?).bind AV.asBool).bind fun b34 =>
 ((cs10[24]?).bind (AV.asInt .i64)).bind fun n35 =>
 ((cs10[25]?).bind AV.asBool).bind fun b36 =>
 ((cs10[26]?).bind AV.asBool).bind fun b37 =>
 ((cs10[27]?).bind AV.asBool).bind fun b38 =>
 ((cs10[28]?).bind (AV.asInt .i64)).bind fun n39 =>
 ((cs10[29]?).bind AV.asBool).bind fun b40 =>
 ((cs10[30]?).bind AV.asBool).bind fun b41 =>
 ((cs10[31]?).bind AV.asBool).bind fun b42 =>
 ((cs10[32]?).bind (AV.asInt .i64)).bind fun n43 =>
 ((cs10[33]?).bind AV.asBool).bind fun b44 =>
 ((cs10[34]?).bind AV.asBool).bind fun b45 =>
 ((cs10[35]?).bind AV.asBool).bind fun b46 =>
 ((cs10[36]?).bind (AV.asInt .i64)).bind fun n47 =>
 ((cs10[37]?).bind AV.asBool).bind fun b48 =>
 ((cs10[38]?).bind AV.asBool).bind fun b49 =>
 ((cs10[39]?).bind AV.asBool).bind fun b50 =>
 ((cs10[40]?).bind (AV.asInt .i64)).bind fun n51 =>
 ((cs10[41]?).bind AV.asBool).bind fun b52 =>
 ((cs10[42]?).bind AV.asBool).bind fun b53 =>
 ((cs10[43]?).bind AV.asBool).bind fun b54 =>
 ((cs10[44]?).bind (AV.asInt .i64)).bind fun n55 =>
 ((cs10[45]?).bind AV.asBool).bind fun b56 =>
 ((cs10[46]?).bind AV.asBool).bind fun b57 =>
 ((cs10[47]?).bind AV.asBool).bind fun b58 =>
 newK q9.2 (.cells [.int .i64 0,.bool false,.bool false,.bool false,.int .i64 0,.bool false,.bool false,.bool false,.int .i64 0,.bool false,.bool false,.bool false,.int .i64 0,.bool false,.bool false,.bool false,.int .i64 0,.bool false,.bool false,.bool false,.int .i64 0,.bool false,.bool false,.bool false,.int .i64 0,.bool false,.bool false,.bool false,.int .i64 0,.bool false,.bool false,.bool false,.int .i64 0,.bool false,.bool false,.bool false,.int .i64 0,.bool false,.bool false,.bool false,.int .i64 0,.bool false,.bool false,.bool false,.int .i64 0,.bool false,.bool false,.bool false] ksa) fun h59r h59 =>
 (h59.puts h59r [.int .i64 n11,.bool b12,.bool b13,.bool b14,.int .i64 n15,.bool b16,.bool b17,.bool b18,.int .i64 n19,.bool b20,.bool b21,.bool b22,.int .i64 n23,.bool b24,.bool b25,.bool b26,.int .i64 n27,.bool b28,.bool b29,.bool b30,.int .i64 n31,.bool b32,.bool b33,.bool b34,.int .i64 n35,.bool b36,.bool b37,.bool b38,.int .i64 n39,.bool b40,.bool b41,.bool b42,.int .i64 n43,.bool b44,.bool b45,.bool b46,.int .i64 n47,.bool b48,.bool b49,.bool b50,.int .i64 n51,.bool b52,.bool b53,.bool b54,.int .i64 n55,.bool b56,.bool b57,.bool b58]).bind fun h60 =>
 ((h60.cell (h8r.add 0)).bind (AV.asInt .i64)).bind fun n61 =>
 cond (decide (n61<1)) (
 some (.bool false,h60)) (
 ((h60.cell (h8r.add 0)).bind (AV.asInt .i64)).bind fun n62 =>
 cond (decide (n62≥12)) (
 some (.bool false,h60)) (
 ((h60.cell (h8r.add 1)).bind (AV.asInt .i64)).bind fun n63 =>
 (go (.fn kbn [.int .i64 n63]) h60).bind fun q64 =>
 ((some q64.1).bind AV.asBool).bind fun b65 =>
 cond b65 (
 some (.bool false,q64.2)) (
 ((q64.2.cell (h8r.add 2)).bind (AV.asInt .i64)).bind fun n66 =>
 (go (.fn kbn [.int .i64 n66]) q64.2).bind fun q67 =>
 ((some q67.1).bind AV.asBool).bind fun b68 =>
 cond b68 (
 some (.bool false,q67.2)) (
 ((q67.2.cell (h8r.add 3)).bind (AV.asInt .i64)).bind fun n69 =>
 (go (.fn kbn [.int .i64 n69]) q67.2).bind fun q70 =>
 ((some q70.1).bind AV.asBool).bind fun b71 =>
 cond b71 (
 some (.bool false,q70.2)) (
 ((q70.2.cell (h8r.add 0)).bind (AV.asInt .i64)).bind fun n72 =>
 (idx (some h59r) 12 n72 4).bind fun r73 =>
 ((q70.2.cell (r73.add 0)).bind (AV.asInt .i64)).bind fun n74 =>
 ((q70.2.cell (r73.add 1)).bind AV.asBool).bind fun b75 =>
 ((q70.2.cell (r73.add 2)).bind AV.asBool).bind fun b76 =>
 ((q70.2.cell (r73.add 3)).bind AV.asBool).bind fun b77 =>
 newK q70.2 (.cells [.int .i64 0,.bool false,.bool false,.bool false] kn3) fun h78r h78 =>
 (h78.puts h78r [.int .i64 n74,.bool b75,.bool b76,.bool b77]).bind fun h79 =>
 ((h79.cell (h8r.add 1)).bind (AV.asInt .i64)).bind fun n80 =>
 ((h79.cell (h8r.add 2)).bind (AV.asInt .i64)).bind fun n81 =>
 ((h79.cell (h8r.add 3)).bind (AV.asInt .i64)).bind fun n82 =>
 newK h79 (.cells [.int .i64 n80,.int .i64 n81,.int .i64 n82] T.int) fun h83r h83 =>
 go (.pt kbx keg [(1,.ptr (some h8r)),(4,.ptr (some h78r)),(43,(⟨some h83r,3,.is 3⟩:Sl).v),(44,.int .i64 3),(45,.int .i64 0)]) h83)))))) none:=(kc _ h).trans (by kernel_rfl)
theorem k53(a1:Option Ref)(a2:Int)(h:AH):go (.fn kpv [.ptr a1,.int .i64 a2]) h =
 newK h (.cells [.int .i64 0,.int .i64 0] kbh) fun h3r h3 =>
 cond (decide (a2<0)) (
 (h3.puts h3r [.int .i64 0,.int .i64 0]).bind fun h4 =>
 ((h4.cell (h3r.add 0)).bind (AV.asInt .i64)).bind fun n5 =>
 ((h4.cell (h3r.add 1)).bind (AV.asInt .i64)).bind fun n6 =>
 some (.tup [.int .i64 0,.int .i64 0,.agg [.int .i64 n5,.int .i64 n6],.bool false],h4)) (
 a1.bind fun r7 =>
 ((h3.cell (r7.add 0)).bind AV.asSl).bind fun l8 =>
 cond (decide (a2≥(l8.len:Int))) (
 (h3.puts h3r [.int .i64 0,.int .i64 0]).bind fun h9 =>
 ((h9.cell (h3r.add 0)).bind (AV.asInt .i64)).bind fun n10 =>
 ((h9.cell (h3r.add 1)).bind (AV.asInt .i64)).bind fun n11 =>
 some (.tup [.int .i64 0,.int .i64 0,.agg [.int .i64 n10,.int .i64 n11],.bool false],h9)) (
 a1.bind fun r12 =>
 ((h3.cell (r12.add 0)).bind AV.asSl).bind fun l13 =>
 (idx l13.ref l13.len a2 4).bind fun r14 =>
 ((h3.cell (r14.add 0)).bind (AV.asInt .i64)).bind fun n15 =>
 ((h3.cell (r14.add 1)).bind (AV.asInt .i64)).bind fun n16 =>
 ((h3.cell (r14.add 2)).bind (AV.asInt .i64)).bind fun n17 =>
 ((h3.cell (r14.add 3)).bind (AV.asInt .i64)).bind fun n18 =>
 newK h3 (.cells [.int .i64 0,.int .i64 0,.int .i64 0,.int .i64 0] kcj) fun h19r h19 =>
 (h19.puts h19r [.int .i64 n15,.int .i64 n16,.int .i64 n17,.int .i64 n18]).bind fun h20 =>
 (idx (some (h19r.add 2)) 2 0 1).bind fun r21 =>
 ((h20.cell r21).bind (AV.asInt .i64)).bind fun n22 =>
 (idx (some (h19r.add 2)) 2 1 1).bind fun r23 =>
 ((h20.cell r23).bind (AV.asInt .i64)).bind fun n24 =>
 ((h20.cell ((h19r.add 0).add 0)).bind (AV.asInt .i64)).bind fun n25 =>
 ((h20.cell ((h19r.add 0).add 1)).bind (AV.asInt .i64)).bind fun n26 =>
 (h20.puts h3r [.int .i64 n25,.int .i64 n26]).bind fun h27 =>
 ((h27.cell (h3r.add 0)).bind (AV.asInt .i64)).bind fun n28 =>
 ((h27.cell (h3r.add 1)).bind (AV.asInt .i64)).bind fun n29 =>
 some (.tup [.int .i64 n22,.int .i64 n24,.agg [.int .i64 n28,.int .i64 n29],.bool true],h27))):=(kc _ h).trans (by kernel_rfl)
theorem kbb4(a1 a2 a3:Sl)(h:AH):go (.fn kcw [.agg [a1.v,a2.v,a3.v]]) h =
 newK h (.cells [a1.v,a2.v,a3.v] kbb) fun h4r h4 =>
 ((h4.cell (h4r.add 0)).bind AV.asSl).bind fun l5 =>
 (go (.fn kgg [l5.v]) h4).bind fun q6 =>
 ((some q6.1).bind AV.asBool).bind fun b7 =>
 cond (!b7) (
 some (.bool false,q6.2)) (
 ((q6.2.cell (h4r.add 2)).bind AV.asSl).bind fun l8 =>
 cond (decide ((l8.len:Int)>16)) (
 some (.bool false,q6.2)) (
 ((q6.2.cell (h4r.add 1)).bind AV.asSl).bind fun l9 =>
 ((q6.2.cell (h4r.add 2)).bind AV.asSl).bind fun l10 =>
 cond (!decide ((l9.len:Int)=(l10.len:Int))) (
 some (.bool false,q6.2)) (
 go (.pt kcw kjn [(1,.ptr (some h4r)),(4,.int .i64 0)]) q6.2))):=(kc _ h).trans (by kernel_rfl)
theorem k1v(a1 a2 a3 a4:Int)(a5 a6 a7:Sl)(h:AH):go (.fn kf [.agg [.int .i64 a1,.int .i64 a2,.int .i64 a3,.int .i64 a4,a5.v,a6.v,a7.v]]) h =
 newK h (.cells [.int .i64 a1,.int .i64 a2,.int .i64 a3,.int .i64 a4,a5.v,a6.v,a7.v] ku) fun h8r h8 =>
 ((h8.cell (h8r.add 0)).bind (AV.asInt .i64)).bind fun n9 =>
 cond (decide (n9<1)) (
 some (.bool false,h8)) (
 ((h8.cell (h8r.add 0)).bind (AV.asInt .i64)).bind fun n10 =>
 cond (decide (n10>11)) (
 some (.bool false,h8)) (
 ((h8.cell (h8r.add 1)).bind (AV.asInt .i64)).bind fun n11 =>
 cond (decide (n11<0)) (
 some (.bool false,h8)) (
 ((h8.cell (h8r.add 1)).bind (AV.asInt .i64)).bind fun n12 =>
 cond (decide (n12>1073741824)) (
 some (.bool false,h8)) (
 ((h8.cell (h8r.add 2)).bind (AV.asInt .i64)).bind fun n13 =>
 cond (decide (n13<0)) (
 some (.bool false,h8)) (
 ((h8.cell (h8r.add 2)).bind (AV.asInt .i64)).bind fun n14 =>
 cond (decide (n14>1073741824)) (
 some (.bool false,h8)) (
 ((h8.cell (h8r.add 3)).bind (AV.asInt .i64)).bind fun n15 =>
 cond (decide (n15<0)) (
 some (.bool false,h8)) (
 ((h8.cell (h8r.add 3)).bind (AV.asInt .i64)).bind fun n16 =>
 cond (decide (n16>1073741824)) (
 some (.bool false,h8)) (
 ((h8.cell (h8r.add 0)).bind (AV.asInt .i64)).bind fun n17 =>
 (go (.fn khz [.int .i64 n17]) h8).bind fun q18 =>
 ((some q18.1).bind (AV.asInt .i64)).bind fun n19 =>
 cond (decide (n19<2)) (
 ((q18.2.cell (h8r.add 2)).bind (AV.asInt .i64)).bind fun n20 =>
 cond (!decide (n20=0)) (
 some (.bool false,q18.2)) (
 cond (decide (n19<3)) (
 ((q18.2.cell (h8r.add 3)).bind (AV.asInt .i64)).bind fun n21 =>
 cond (!decide (n21=0)) (
 some (.bool false,q18.2)) (
 ((q18.2.cell (h8r.add 0)).bind (AV.asInt .i64)).bind fun n22 =>
 cond (decide (n22=9)) (
 ((q18.2.cell (h8r.add 3)).bind (AV.asInt .i64)).bind fun n23 =>
 cond (decide (n23>1)) (
 some (.bool false,q18.2)) (
 go (.pt kf kdf [(1,.ptr (some h8r))]) q18.2)) (
 go (.pt kf kdf [(1,.ptr (some h8r))]) q18.2))) (
 ((q18.2.cell (h8r.add 0)).bind (AV.asInt .i64)).bind fun n24 =>
 cond (decide (n24=9)) (
 ((q18.2.cell (h8r.add 3)).bind (AV.asInt .i64)).bind fun n25 =>
 cond (decide (n25>1)) (
 some (.bool false,q18.2)) (
 go (.pt kf kdf [(1,.ptr (some h8r))]) q18.2)) (
 go (.pt kf kdf [(1,.ptr (some h8r))]) q18.2)))) (
 cond (decide (n19<3)) (
 ((q18.2.cell (h8r.add 3)).bind (AV.asInt .i64)).bind fun n26 =>
 cond (!decide (n26=0)) (
 some (.bool false,q18.2)) (
 ((q18.2.cell (h8r.add 0)).bind (AV.asInt .i64)).bind fun n27 =>
 cond (decide (n27=9)) (
 ((q18.2.cell (h8r.add 3)).bind (AV.asInt .i64)).bind fun n28 =>
 cond (decide (n28>1)) (
 some (.bool false,q18.2)) (
 go (.pt kf kdf [(1,.ptr (some h8r))]) q18.2)) (
 go (.pt kf kdf [(1,.ptr (some h8r))]) q18.2))) (
 ((q18.2.cell (h8r.add 0)).bind (AV.asInt .i64)).bind fun n29 =>
 cond (decide (n29=9)) (
 ((q18.2.cell (h8r.add 3)).bind (AV.asInt .i64)).bind fun n30 =>
 cond (decide (n30>1)) (
 some (.bool false,q18.2)) (
 go (.pt kf kdf [(1,.ptr (some h8r))]) q18.2)) (
 go (.pt kf kdf [(1,.ptr (some h8r))]) q18.2))))))))))):=(kc _ h).trans (by kernel_rfl)
theorem kxl(a1 a2:Sl)(h:AH):go (.fn ke3 [a1.v,a2.v]) h =
 cond (!decide ((a1.len:Int)=(a2.len:Int))) (
 some (.bool false,h)) (
 go (.pt ke3 kjt [(0,a1.v),(1,a2.v),(5,.int .i64 0)]) h):=(kc _ h).trans (by kernel_rfl)
theorem kzx(a1 a2:Sl)(h:AH):go (.fn kf4 [a1.v,a2.v]) h =
 cond (!decide ((a1.len:Int)=(a2.len:Int))) (
 some (.bool false,h)) (
 go (.pt kf4 kkc [(0,a1.v),(1,a2.v),(5,.int .i64 0)]) h):=(kc _ h).trans (by kernel_rfl)
theorem k74(a1:Sl)(h:AH):go (.fn kg9 [a1.v]) h =
 (go (.fn kc7 [a1.v]) h).bind fun q2 =>
 ((some q2.1).bind AV.asBool).bind fun b3 =>
 cond (!b3) (
 some (.int .i64 0,q2.2)) (
 cond (decide ((a1.len:Int)=0)) (
 some (.int .i64 0,q2.2)) (
 (idx a1.ref a1.len (IntKind.wrap .i64 ((a1.len:Int)-1)) 1).bind fun r4 =>
 ((q2.2.cell r4).bind (AV.asInt .u64)).bind fun n5 =>
 (go (.fn khf [.int .u64 n5]) q2.2).bind fun q6 =>
 ((some q6.1).bind (AV.asInt .i64)).bind fun n7 =>
 some (.int .i64 (IntKind.wrap .i64 ((IntKind.wrap .i64 (64*(IntKind.wrap .i64 ((a1.len:Int)-1))))+n7)),q6.2))):=(kc _ h).trans (by kernel_rfl)
theorem k0a(a1:Sl)(h:AH):go (.fn kc7 [a1.v]) h =
 cond (decide ((a1.len:Int)≤64)) (
 cond (decide ((a1.len:Int)=0)) (
 some (.bool true,h)) (
 (idx a1.ref a1.len (IntKind.wrap .i64 ((a1.len:Int)-1)) 1).bind fun r2 =>
 ((h.cell r2).bind (AV.asInt .u64)).bind fun n3 =>
 some (.bool (!decide (n3=0)),h))) (
 some (.bool false,h)):=(kc _ h).trans (by kernel_rfl)
theorem k50(a1:Sl)(a2:Int)(h:AH):go (.fn kh2 [a1.v,.int .i64 a2]) h =
 (go (.fn kc7 [a1.v]) h).bind fun q3 =>
 ((some q3.1).bind AV.asBool).bind fun b4 =>
 cond b4 (
 cond (decide (a2≥0)) (
 cond (decide ((IntKind.wrap .i64 (Int.tdiv a2 64))<(a1.len:Int))) (
 (idx a1.ref a1.len (IntKind.wrap .i64 (Int.tdiv a2 64)) 1).bind fun r5 =>
 ((q3.2.cell r5).bind (AV.asInt .u64)).bind fun n6 =>
 cond (decide ((Int.tmod a2 64)<0)) none (
 some (.bool (decide ((iand .u64 (ishr .u64 n6 (Int.tmod a2 64)) 1)=1)),q3.2))) (
 some (.bool false,q3.2))) (
 some (.bool false,q3.2))) (
 some (.bool false,q3.2)):=(kc _ h).trans (by kernel_rfl)
theorem k2u(a1:Sl)(a2:Option Ref)(h:AH):go (.fn kbc [a1.v,.func (.func kcy) [] [.ptr a2]]) h =
 go (.pt kbc kb4 [(0,a1.v),(1,.func (.func kcy) [] [.ptr a2]),(7,.int .i64 (a1.len:Int)),(8,.int .i64 0)]) h:=(kc _ h).trans (by kernel_rfl)
theorem k6k(a1:Int)(h:AH):go (.fn kjv [.int .i64 a1]) h =
 newK h (.cells [.int .i64 0,(⟨none,0,.is 0⟩:Sl).v] kw) fun h2r h2 =>
 cond (decide (a1<0)) (
 (h2.puts h2r [.int .i64 0,(⟨none,0,.is 0⟩:Sl).v]).bind fun h3 =>
 ((h3.cell (h2r.add 0)).bind (AV.asInt .i64)).bind fun n4 =>
 ((h3.cell (h2r.add 1)).bind AV.asSl).bind fun l5 =>
 some (.tup [.agg [.int .i64 n4,l5.v],.int .i64 1],h3)) (
 cond (decide (a1>65536)) (
 (h2.puts h2r [.int .i64 0,(⟨none,0,.is 0⟩:Sl).v]).bind fun h6 =>
 ((h6.cell (h2r.add 0)).bind (AV.asInt .i64)).bind fun n7 =>
 ((h6.cell (h2r.add 1)).bind AV.asSl).bind fun l8 =>
 some (.tup [.agg [.int .i64 n7,l8.v],.int .i64 1],h6)) (
 (kbd (IntKind.wrap .i64 (Int.tdiv (IntKind.wrap .i64 ((IntKind.wrap .i64 (a1+64))-1)) 64)) (IntKind.wrap .i64 (Int.tdiv (IntKind.wrap .i64 ((IntKind.wrap .i64 (a1+64))-1)) 64)) ke (Pg.bytesOf ke) [.int .u64 0] h2).bind fun q9 =>
 (q9.2.puts h2r [.int .i64 a1,q9.1.v]).bind fun h10 =>
 ((h10.cell (h2r.add 0)).bind (AV.asInt .i64)).bind fun n11 =>
 ((h10.cell (h2r.add 1)).bind AV.asSl).bind fun l12 =>
 some (.tup [.agg [.int .i64 n11,l12.v],.int .i64 0],h10))):=(kc _ h).trans (by kernel_rfl)
theorem k1c(a1:Sl)(a2:Option Ref)(h:AH):go (.fn kb6 [a1.v,.func (.func kc5) [] [.ptr a2]]) h =
 (go (.fn kx [a1.v,.func (.func kc5) [] [.ptr a2]]) h).bind fun q3 =>
 ((some q3.1).bind (AV.asInt .i64)).bind fun n4 =>
 some (.bool (decide (n4≥0)),q3.2):=(kc _ h).trans (by kernel_rfl)
theorem ktk(a1 a2:Ref)(a3:Sl)(a4 a5:Int)(h:AH):go (.pt kes kj7 [(4,.ptr (some a1)),(6,.ptr (some a2)),(23,a3.v),(24,.int .i64 a4),(25,.int .i64 a5)]) h =
 cond (decide (a5<a4)) (
 (idx a3.ref a3.len a5 1).bind fun r6 =>
 ((h.cell r6).bind (AV.asInt .i64)).bind fun n7 =>
 ((h.cell (a2.add 1)).bind AV.asSl).bind fun l8 =>
 (idx l8.ref l8.len (IntKind.wrap .i64 (Int.tdiv n7 64)) 1).bind fun r9 =>
 ((h.cell r9).bind (AV.asInt .u64)).bind fun n10 =>
 cond (decide ((Int.tmod n7 64)<0)) none (
 (idx l8.ref l8.len (IntKind.wrap .i64 (Int.tdiv n7 64)) 1).bind fun r11 =>
 (h.puts r11 [.int .u64 (ior .u64 n10 (ishl .u64 1 (Int.tmod n7 64)))]).bind fun h12 =>
 go (.pt kes kj7 [(4,.ptr (some a1)),(6,.ptr (some a2)),(23,a3.v),(24,.int .i64 a4),(25,.int .i64 (IntKind.wrap .i64 (a5+1)))]) h12)) (
 ((h.cell (a2.add 0)).bind (AV.asInt .i64)).bind fun n13 =>
 ((h.cell (a2.add 1)).bind AV.asSl).bind fun l14 =>
 (h.puts a1 [.int .i64 n13,l14.v]).bind fun h15 =>
 ((h15.cell (a1.add 0)).bind (AV.asInt .i64)).bind fun n16 =>
 ((h15.cell (a1.add 1)).bind AV.asSl).bind fun l17 =>
 some (.tup [.agg [.int .i64 n16,l17.v],.int .i64 0],h15)):=(kc _ h).trans (by kernel_rfl)
theorem kvs(a1 a2 a3:Sl)(a4:Int)(a5:Sl)(h:AH):go (.fn kig [.agg [a1.v,a2.v,a3.v],.agg [.int .i64 a4,a5.v]]) h =
 newK h (.cells [a1.v,a2.v,a3.v] kbb) fun h6r h6 =>
 newK h6 (.cells [.int .i64 a4,a5.v] kw) fun h7r h7 =>
 some (.func (.func kbm) [] [.ptr (some h6r),.ptr (some h7r)],h7):=(kc _ h).trans (by kernel_rfl)
theorem k1q(a1 a2 a3:Sl)(a4:Ref)(a5:Sl)(a6:Ref)(a7 a8 a9:Sl)(a10:Bool)(a11 a12 a13:Sl)(a14:Int)(a15:Sl)(a16:AV)(h:AH):go (.pt kdy kvy [(0,.agg [a1.v,a2.v,a3.v]),(1,.ptr (some a4)),(2,a5.v),(3,.ptr (some a6)),(5,.agg [a7.v,a8.v,a9.v]),(6,.bool a10),(7,.agg [a11.v,a12.v,a13.v]),(8,.agg [.int .i64 a14,a15.v]),(9,a16)]) h =
 funcK a16 fun g21 f22 c23 =>
 newM h (kd5 kn0 kdy 0 .ready none [(0,.agg [a1.v,a2.v,a3.v]),(1,.ptr (some a4)),(2,a5.v),(3,.ptr (some a6)),(5,.agg [a7.v,a8.v,a9.v]),(6,.bool a10),(7,.agg [a11.v,a12.v,a13.v]),(8,.agg [.int .i64 a14,a15.v]),(9,a16)]) fun m17 h18 =>
 (callF Pg go g21 (f22++[.func (.yield m17) [] []]++c23) h18).bind fun q19 =>
 (ke5 m17 q19.2).bind fun p20 =>
 go (.pt kdy ((p20.1.map Item.code).toList++kwn) [(0,.agg [a1.v,a2.v,a3.v]),(1,.ptr (some a4)),(2,a5.v),(3,.ptr (some a6)),(5,.agg [a7.v,a8.v,a9.v]),(6,.bool a10),(7,.agg [a11.v,a12.v,a13.v]),(8,.agg [.int .i64 a14,a15.v]),(9,a16)]) p20.2:=(kc _ h).trans (by kernel_rfl)
theorem k94(a1:Int)(h:AH):go (.fn kjx [.int .i64 a1]) h =
 cond (decide (a1<0)) (
 some (.bool true,h)) (
 some (.bool (decide (a1>1073741824)),h)):=(kc _ h).trans (by kernel_rfl)
theorem kbc4(a1:Option Ref)(a2:Int)(h:AH):go (.fn kdi [.ptr a1,.int .i64 a2]) h =
 cond a1.isNone (
 some (.tup [(⟨none,0,.is 0⟩:Sl).v,.int .i64 1],h)) (
 cond (decide (a2<0)) (
 some (.tup [(⟨none,0,.is 0⟩:Sl).v,.int .i64 1],h)) (
 cond (decide (a2>16384)) (
 some (.tup [(⟨none,0,.is 0⟩:Sl).v,.int .i64 1],h)) (
 (kbd a2 a2 T.int (Pg.bytesOf T.int) [.int .i64 0] h).bind fun q3 =>
 go (.pt kdi kmr [(0,.ptr a1),(1,.int .i64 a2),(6,q3.1.v),(25,.int .i64 (q3.1.len:Int)),(26,.int .i64 0)]) q3.2))):=(kc _ h).trans (by kernel_rfl)
theorem kvf(a1:Option Ref)(a2:Sl)(a3:Ref)(a4 a5 a6:Sl)(a7 a8:Int)(h:AH):go (.pt kf2 kl9 [(0,.ptr a1),(4,a2.v),(14,.ptr (some a3)),(15,a4.v),(17,a5.v),(60,a6.v),(61,.int .i64 a7),(62,.int .i64 a8)]) h =
 cond (decide (a8<a7)) (
 (idx a6.ref a6.len a8 1).bind fun r9 =>
 ((h.cell r9).bind (AV.asInt .i64)).bind fun n10 =>
 a1.bind fun r11 =>
 ((h.cell (r11.add 0)).bind AV.asSl).bind fun l12 =>
 newK h (.cells [.int .i64 (l12.len:Int)] T.int) fun h13r h13 =>
 (kbe Pg T.int ((⟨some h13r,1,.is 1⟩:Sl).v) h13).bind fun p15 =>
 (kz Pg a5 p15.1 p15.2 T.int 1 h13).bind fun q14 =>
 (AV.asSl q14.1).bind fun l16 =>
 a1.bind fun r17 =>
 ((q14.2.cell (r17.add 0)).bind AV.asSl).bind fun l18 =>
 (idx a2.ref a2.len n10 2).bind fun r19 =>
 ((q14.2.cell (r19.add 0)).bind (AV.asInt .i64)).bind fun n20 =>
 ((q14.2.cell (r19.add 1)).bind (AV.asInt .i64)).bind fun n21 =>
 ((q14.2.cell (a3.add 0)).bind (AV.asInt .i64)).bind fun n22 =>
 ((q14.2.cell (a3.add 1)).bind (AV.asInt .i64)).bind fun n23 =>
 newK q14.2 (.cells [.int .i64 n20,.int .i64 n21,.int .i64 n22,.int .i64 n23] kcj) fun h24r h24 =>
 whenK (SameAt q14.2 h24 (r17.add 0) 1) (
 (kbe Pg kcj ((⟨some h24r,1,.is 1⟩:Sl).v) h24).bind fun p26 =>
 (kz Pg l18 p26.1 p26.2 kcj 4 h24).bind fun q25 =>
 (AV.asSl q25.1).bind fun l27 =>
 a1.bind fun r28 =>
 (q25.2.puts (r28.add 0) [l27.v]).bind fun h29 =>
 go (.pt kf2 kl9 [(0,.ptr a1),(4,a2.v),(14,.ptr (some a3)),(15,a4.v),(17,l16.v),(60,a6.v),(61,.int .i64 a7),(62,.int .i64 (IntKind.wrap .i64 (a8+1)))]) h29)) (
 a1.bind fun r30 =>
 ((h.cell (r30.add 1)).bind AV.asMap).bind fun m31 =>
 ((h.cell (a3.add 0)).bind (AV.asInt .i64)).bind fun n32 =>
 ((h.cell (a3.add 1)).bind (AV.asInt .i64)).bind fun n33 =>
 m31.bind fun m35 =>
 (kio h m35 .i64 n32 n33 (.bool true)).bind fun h34 =>
 some (.tup [a4.v,a5.v,.int .i64 0],h34)):=(kc _ h).trans (by kernel_rfl)
theorem k2o(a1 a2 a3:Sl)(a4:Int)(a5:Sl)(a6:Int)(h:AH):go (.fn kp7 [.agg [a1.v,a2.v,a3.v],.agg [.int .i64 a4,a5.v],.int .i64 a6]) h =
 newK h (.cells [a1.v,a2.v,a3.v] kbb) fun h7r h7 =>
 newK h7 (.cells [.int .i64 a4,a5.v] kw) fun h8r h8 =>
 ((h8.cell (h7r.add 0)).bind AV.asSl).bind fun l9 =>
 ((h8.cell (h7r.add 1)).bind AV.asSl).bind fun l10 =>
 ((h8.cell (h7r.add 2)).bind AV.asSl).bind fun l11 =>
 (go (.fn kc4 [.agg [l9.v,l10.v,l11.v]]) h8).bind fun q12 =>
 ((some q12.1).bind AV.asBool).bind fun b13 =>
 cond (!b13) (
 some (.int .i64 20,q12.2)) (
 ((q12.2.cell (h8r.add 0)).bind (AV.asInt .i64)).bind fun n14 =>
 ((q12.2.cell (h8r.add 1)).bind AV.asSl).bind fun l15 =>
 (go (.fn kho [.agg [.int .i64 n14,l15.v]]) q12.2).bind fun q16 =>
 ((some q16.1).bind AV.asBool).bind fun b17 =>
 cond (!b17) (
 some (.int .i64 1,q16.2)) (
 ((q16.2.cell (h8r.add 0)).bind (AV.asInt .i64)).bind fun n18 =>
 ((q16.2.cell (h7r.add 0)).bind AV.asSl).bind fun l19 =>
 cond (!decide (n18=(l19.len:Int))) (
 some (.int .i64 1,q16.2)) (
 ((q16.2.cell (h7r.add 0)).bind AV.asSl).bind fun l20 =>
 cond (!decide (a6=(l20.len:Int))) (
 some (.int .i64 1,q16.2)) (
 some (.int .i64 0,q16.2))))):=(kc _ h).trans (by kernel_rfl)
theorem kbds(a1:Sl)(a2:Option Ref)(h:AH):go (.fn kda [a1.v,.func (.func kbq) [] [.ptr a2]]) h =
 (go (.fn kbc [a1.v,.func (.func kbq) [] [.ptr a2]]) h).bind fun q3 =>
 ((some q3.1).bind (AV.asInt .i64)).bind fun n4 =>
 some (.bool (decide (n4≥0)),q3.2):=(kc _ h).trans (by kernel_rfl)
theorem k80(a1:Sl)(h:AH):go (.fn kov [a1.v]) h =
 (go (.fn kib [a1.v,a1.v]) h).bind fun q2 =>
 (AV.asTup2 q2.1).bind fun p3 =>
 ((some p3.1).bind AV.asSl).bind fun l4 =>
 ((some p3.2).bind (AV.asInt .i64)).bind fun n5 =>
 newK q2.2 (.cells [(⟨none,0,.is 0⟩:Sl).v] kr) fun h6r h6 =>
 (h6.puts h6r [l4.v]).bind fun h7 =>
 some (.func (.func kd7) [] [.ptr (some h6r)],h7):=(kc _ h).trans (by kernel_rfl)
theorem k7i(a1 a2 a3 a4:Sl)(a5:Int)(a6 a7:Sl)(a8 a9 a10 a11:Ref)(a12:Sl)(a13 a14:Int)(a15 a16:Ref)(a17:Sl)(a18 a19:Bool)(a20 a21 a22:Sl)(a23:Int)(a24 a25:Sl)(a26 a27 a28:Int)(a29:Bool)(a30:Sl)(a31:Ref)(a32:Bool)(a33:Sl)(a34:AV)(a35 a36 a37:Sl)(a38:Int)(a39:Sl)(a40:AV)(h:AH):go (.pt kca kup [(0,a1.v),(1,.agg [a2.v,a3.v,a4.v]),(2,.agg [.int .i64 a5,a6.v]),(3,a7.v),(4,.ptr (some a8)),(5,.ptr (some a9)),(6,.ptr (some a10)),(7,.ptr (some a11)),(8,a12.v),(9,.int .i64 a13),(10,.int .i64 a14),(11,.ptr (some a15)),(12,.ptr (some a16)),(18,a17.v),(19,.bool a18),(20,.bool a19),(21,.agg [a20.v,a21.v,a22.v]),(22,.agg [.int .i64 a23,a24.v]),(23,a25.v),(24,.int .i64 a26),(25,.int .i64 a27),(26,.int .i64 a28),(27,.bool a29),(29,a30.v),(30,.func (.func kbq) [] [.ptr (some a31)]),(31,.bool a32),(32,a33.v),(33,a34),(34,.agg [a35.v,a36.v,a37.v]),(35,.agg [.int .i64 a38,a39.v]),(36,a40)]) h =
 funcK a40 fun g45 f46 c47 =>
 newM h (kd5 knm kca 0 .ready none [(0,a1.v),(1,.agg [a2.v,a3.v,a4.v]),(2,.agg [.int .i64 a5,a6.v]),(3,a7.v),(4,.ptr (some a8)),(5,.ptr (some a9)),(6,.ptr (some a10)),(7,.ptr (some a11)),(8,a12.v),(9,.int .i64 a13),(10,.int .i64 a14),(11,.ptr (some a15)),(12,.ptr (some a16)),(18,a17.v),(19,.bool a18),(20,.bool a19),(21,.agg [a20.v,a21.v,a22.v]),(22,.agg [.int .i64 a23,a24.v]),(23,a25.v),(24,.int .i64 a26),(25,.int .i64 a27),(26,.int .i64 a28),(27,.bool a29),(29,a30.v),(30,.func (.func kbq) [] [.ptr (some a31)]),(31,.bool a32),(32,a33.v),(33,a34),(34,.agg [a35.v,a36.v,a37.v]),(35,.agg [.int .i64 a38,a39.v]),(36,a40)]) fun m41 h42 =>
 (callF Pg go g45 (f46++[.func (.yield m41) [] []]++c47) h42).bind fun q43 =>
 (ke5 m41 q43.2).bind fun p44 =>
 go (.pt kca ((p44.1.map Item.code).toList++kti) [(0,a1.v),(1,.agg [a2.v,a3.v,a4.v]),(2,.agg [.int .i64 a5,a6.v]),(3,a7.v),(4,.ptr (some a8)),(5,.ptr (some a9)),(6,.ptr (some a10)),(7,.ptr (some a11)),(8,a12.v),(9,.int .i64 a13),(10,.int .i64 a14),(11,.ptr (some a15)),(12,.ptr (some a16)),(18,a17.v),(19,.bool a18),(20,.bool a19),(21,.agg [a20.v,a21.v,a22.v]),(22,.agg [.int .i64 a23,a24.v]),(23,a25.v),(24,.int .i64 a26),(25,.int .i64 a27),(26,.int .i64 a28),(27,.bool a29),(29,a30.v),(30,.func (.func kbq) [] [.ptr (some a31)]),(31,.bool a32),(32,a33.v),(33,a34),(34,.agg [a35.v,a36.v,a37.v]),(35,.agg [.int .i64 a38,a39.v]),(36,a40)]) p44.2:=(kc _ h).trans (by kernel_rfl)
theorem kqs(a1:Nat)(a2 a3:Ref)(a4:Int)(a5:Sl)(a6 a7 a8 a9:Int)(h:AH):go (.pt kbm ki8 [(0,.func (.yield a1) [] []),(1,.ptr (some a2)),(2,.ptr (some a3)),(4,.int .i64 a4),(10,a5.v),(11,.int .i64 a6),(12,.int .i64 a7),(18,.int .i64 a8),(19,.int .i64 a9)]) h =
 cond (decide (a9<a8)) (
 ((h.cell (a2.add 0)).bind AV.asSl).bind fun l10 =>
 ((h.cell (a2.add 1)).bind AV.asSl).bind fun l11 =>
 ((h.cell (a2.add 2)).bind AV.asSl).bind fun l12 =>
 (go (.fn ke2 [.agg [l10.v,l11.v,l12.v],.int .i64 a4,.int .i64 a9]) h).bind fun q13 =>
 (AV.asTup2 q13.1).bind fun p14 =>
 (AV.asAgg p14.1).bind fun cs15 =>
 cond (Nat.beq cs15.length 2) (
 ((cs15[0]?).bind (AV.asInt .i64)).bind fun n16 =>
 ((cs15[1]?).bind AV.asSl).bind fun l17 =>
 ((some p14.2).bind (AV.asInt .i64)).bind fun n18 =>
 newK q13.2 (.cells [.int .i64 0,(⟨none,0,.is 0⟩:Sl).v] kw) fun h19r h19 =>
 (h19.puts h19r [.int .i64 n16,l17.v]).bind fun h20 =>
 ((h20.cell (h19r.add 0)).bind (AV.asInt .i64)).bind fun n21 =>
 ((h20.cell (h19r.add 1)).bind AV.asSl).bind fun l22 =>
 ((h20.cell (a3.add 0)).bind (AV.asInt .i64)).bind fun n23 =>
 ((h20.cell (a3.add 1)).bind AV.asSl).bind fun l24 =>
 (go (.fn kkq [.agg [.int .i64 n21,l22.v],.agg [.int .i64 n23,l24.v]]) h20).bind fun q25 =>
 (AV.asTup2 q25.1).bind fun p26 =>
 (AV.asAgg p26.1).bind fun cs27 =>
 cond (Nat.beq cs27.length 2) (
 ((cs27[0]?).bind (AV.asInt .i64)).bind fun n28 =>
 ((cs27[1]?).bind AV.asSl).bind fun l29 =>
 ((some p26.2).bind (AV.asInt .i64)).bind fun n30 =>
 (q25.2.puts h19r [.int .i64 n28,l29.v]).bind fun h31 =>
 ((h31.cell (h19r.add 0)).bind (AV.asInt .i64)).bind fun n32 =>
 ((h31.cell (h19r.add 1)).bind AV.asSl).bind fun l33 =>
 (go (.fn kkg [.agg [.int .i64 n32,l33.v]]) h31).bind fun q34 =>
 ((some q34.1).bind AV.asSl).bind fun l35 =>
 (go (.round a1 [.agg [.int .i64 a4,.int .i64 a9],l35.v]) q34.2).bind fun q36 =>
 ((some q36.1).bind AV.asBool).bind fun b37 =>
 cond (!b37) (
 some (.tup [],q36.2)) (
 go (.pt kbm ki8 [(0,.func (.yield a1) [] []),(1,.ptr (some a2)),(2,.ptr (some a3)),(4,.int .i64 a4),(10,a5.v),(11,.int .i64 a6),(12,.int .i64 a7),(18,.int .i64 a8),(19,.int .i64 (IntKind.wrap .i64 (a9+1)))]) q36.2)) none) none) (
 go (.pt kbm kii [(0,.func (.yield a1) [] []),(1,.ptr (some a2)),(2,.ptr (some a3)),(10,a5.v),(11,.int .i64 a6),(12,.int .i64 (IntKind.wrap .i64 (a7+1)))]) h):=(kc _ h).trans (by kernel_rfl)
theorem kq6(a1:Nat)(a2 a3:Int)(a4:Sl)(a5 a6:Int)(h:AH):go (.pt kbt kkv [(0,.func (.yield a1) [] []),(3,.int .i64 a2),(4,.int .u64 a3),(6,a4.v),(7,.int .i64 a5),(8,.int .i64 a6)]) h =
 cond (!decide (a3=0)) (
 (go (.fn kqi [.int .u64 a3]) h).bind fun q7 =>
 ((some q7.1).bind (AV.asInt .i64)).bind fun n8 =>
 (go (.round a1 [.int .i64 (IntKind.wrap .i64 ((IntKind.wrap .i64 (64*a2))+n8))]) q7.2).bind fun q9 =>
 ((some q9.1).bind AV.asBool).bind fun b10 =>
 cond (!b10) (
 some (.tup [],q9.2)) (
 go (.pt kbt kkv [(0,.func (.yield a1) [] []),(3,.int .i64 a2),(4,.int .u64 (iand .u64 a3 (IntKind.wrap .u64 (a3-1)))),(6,a4.v),(7,.int .i64 a5),(8,.int .i64 a6)]) q9.2)) (
 go (.pt kbt kjq [(0,.func (.yield a1) [] []),(6,a4.v),(7,.int .i64 a5),(8,.int .i64 (IntKind.wrap .i64 (a6+1)))]) h):=(kc _ h).trans (by kernel_rfl)
theorem kxk(a1:Sl)(h:AH):go (.fn kgj [a1.v]) h =
 (go (.fn kda [a1.v,.func (.func kdm) [] []]) h).bind fun q2 =>
 ((some q2.1).bind AV.asBool).bind fun b3 =>
 some (.bool (!b3),q2.2):=(kc _ h).trans (by kernel_rfl)
theorem k6a(a1 a2:Sl)(h:AH):go (.fn klo [a1.v,a2.v]) h =
 newK h (.cells [.nilFunc] ktb) fun h3r h3 =>
 (h3.puts h3r [.func (.func kij) [] [.ptr (some h3r)]]).bind fun h4 =>
 (h4.cell h3r).bind fun v5 =>
 yieldK v5 [a1.v,a2.v] (fun y7 =>
 (go (.round y7.1 y7.2) h4).bind fun q6 =>
 ((some q6.1).bind AV.asSl).bind fun l9 =>
 some (l9.v,q6.2)) (
 (callV Pg go v5 [a1.v,a2.v] h4).bind fun q8 =>
 ((some q8.1).bind AV.asSl).bind fun l10 =>
 some (l10.v,q8.2)):=(kc _ h).trans (by kernel_rfl)
theorem k3f(a1:Sl)(h:AH):go (.fn kix [a1.v]) h =
 (go (.fn kbf [a1.v]) h).bind fun q2 =>
 ((some q2.1).bind AV.asSl).bind fun l3 =>
 cond (decide ((l3.len:Int)>64)) (
 some (.tup [(⟨none,0,.is 0⟩:Sl).v,.int .i64 4],q2.2)) (
 some (.tup [l3.v,.int .i64 0],q2.2)):=(kc _ h).trans (by kernel_rfl)
theorem kxq(a1 a2:Sl)(h:AH):go (.fn kd9 [a1.v,a2.v]) h =
 cond (!decide ((a1.len:Int)=(a2.len:Int))) (
 cond (decide ((a1.len:Int)<(a2.len:Int))) (
 some (.int .i64 (-1),h)) (
 some (.int .i64 1,h))) (
 go (.pt kd9 klu [(0,a1.v),(1,a2.v),(5,.int .i64 (IntKind.wrap .i64 ((a1.len:Int)-1)))]) h):=(kc _ h).trans (by kernel_rfl)
theorem kba2(a1:Sl)(a2:Int)(h:AH):go (.fn ket [a1.v,.int .u64 a2]) h =
 (kbd (a1.len:Int) (a1.len:Int) ke (Pg.bytesOf ke) [.int .u64 0] h).bind fun q3 =>
 go (.pt ket kk0 [(0,a1.v),(1,.int .u64 a2),(6,q3.1.v),(7,.int .u64 0),(8,.int .i64 (IntKind.wrap .i64 ((a1.len:Int)-1)))]) q3.2:=(kc _ h).trans (by kernel_rfl)
theorem k27(a1:Int)(h:AH):go (.fn khc [.int .u64 a1]) h =
 newK h (.cells [.int .u64 a1] ke) fun h2r h2 =>
 (go (.fn kbf [(⟨some h2r,1,.is 1⟩:Sl).v]) h2).bind fun q3 =>
 ((some q3.1).bind AV.asSl).bind fun l4 =>
 some (l4.v,q3.2):=(kc _ h).trans (by kernel_rfl)
theorem k2z(a1 a2:Sl)(h:AH):go (.fn kbs [a1.v,a2.v]) h =
 (idx a2.ref a2.len (IntKind.wrap .i64 ((a2.len:Int)-1)) 1).bind fun r3 =>
 ((h.cell r3).bind (AV.asInt .u64)).bind fun n4 =>
 (go (.fn klt [.int .u64 n4]) h).bind fun q5 =>
 ((some q5.1).bind (AV.asInt .i64)).bind fun n6 =>
 (go (.fn kea [a1.v,.int .u64 (IntKind.wrap .u64 n6)]) q5.2).bind fun q7 =>
 ((some q7.1).bind AV.asSl).bind fun l8 =>
 (go (.fn kea [a2.v,.int .u64 (IntKind.wrap .u64 n6)]) q7.2).bind fun q9 =>
 ((some q9.1).bind AV.asSl).bind fun l10 =>
 (go (.fn kbf [l10.v]) q9.2).bind fun q11 =>
 ((some q11.1).bind AV.asSl).bind fun l12 =>
 (kbd (IntKind.wrap .i64 ((l8.len:Int)-(l12.len:Int))) (IntKind.wrap .i64 ((l8.len:Int)-(l12.len:Int))) ke (Pg.bytesOf ke) [.int .u64 0] q11.2).bind fun q13 =>
 go (.pt kbs kkw [(6,.int .u64 (IntKind.wrap .u64 n6)),(7,l8.v),(8,l12.v),(9,.int .i64 (l12.len:Int)),(10,q13.1.v),(11,.int .i64 (IntKind.wrap .i64 ((q13.1.len:Int)-1)))]) q13.2:=(kc _ h).trans (by kernel_rfl)
theorem k4y(a1 a2 a3:Sl)(a4 a5:Int)(h:AH):go (.pt kci kju [(1,a1.v),(5,a2.v),(20,a3.v),(21,.int .i64 a4),(22,.int .i64 a5)]) h =
 cond (decide (a5<a4)) (
 (idx a3.ref a3.len a5 1).bind fun r6 =>
 ((h.cell r6).bind (AV.asInt .u64)).bind fun n7 =>
 go (.pt kci kks [(1,a1.v),(5,a2.v),(6,.int .i64 a5),(7,.int .u64 n7),(8,.int .u64 0),(20,a3.v),(21,.int .i64 a4),(22,.int .i64 a5),(27,a1.v),(28,.int .i64 (a1.len:Int)),(29,.int .i64 0)]) h) (
 (go (.fn kbf [a2.v]) h).bind fun q8 =>
 ((some q8.1).bind AV.asSl).bind fun l9 =>
 some (l9.v,q8.2)):=(kc _ h).trans (by kernel_rfl)
theorem ksv(a1 a2 a3:Sl)(a4 a5 a6:Int)(h:AH):go (.pt kcu ke7 [(0,a1.v),(1,a2.v),(5,a3.v),(6,.int .u64 a4),(21,.int .i64 a5),(22,.int .i64 a6)]) h =
 cond (decide (a6<a5)) (
 cond (decide (a6<(a2.len:Int))) (
 (idx a2.ref a2.len a6 1).bind fun r7 =>
 ((h.cell r7).bind (AV.asInt .u64)).bind fun n8 =>
 (idx a1.ref a1.len a6 1).bind fun r9 =>
 ((h.cell r9).bind (AV.asInt .u64)).bind fun n10 =>
 ((prim "math/bits.Add64" [.int .u64 n10,.int .u64 n8,.int .u64 a4]).map fun v=>(v,h)).bind fun q11 =>
 (AV.asTup2 q11.1).bind fun p12 =>
 ((some p12.1).bind (AV.asInt .u64)).bind fun n13 =>
 ((some p12.2).bind (AV.asInt .u64)).bind fun n14 =>
 (idx a3.ref a3.len a6 1).bind fun r15 =>
 (q11.2.puts r15 [.int .u64 n13]).bind fun h16 =>
 go (.pt kcu ke7 [(0,a1.v),(1,a2.v),(5,a3.v),(6,.int .u64 n14),(21,.int .i64 a5),(22,.int .i64 (IntKind.wrap .i64 (a6+1)))]) h16) (
 (idx a1.ref a1.len a6 1).bind fun r17 =>
 ((h.cell r17).bind (AV.asInt .u64)).bind fun n18 =>
 ((prim "math/bits.Add64" [.int .u64 n18,.int .u64 0,.int .u64 a4]).map fun v=>(v,h)).bind fun q19 =>
 (AV.asTup2 q19.1).bind fun p20 =>
 ((some p20.1).bind (AV.asInt .u64)).bind fun n21 =>
 ((some p20.2).bind (AV.asInt .u64)).bind fun n22 =>
 (idx a3.ref a3.len a6 1).bind fun r23 =>
 (q19.2.puts r23 [.int .u64 n21]).bind fun h24 =>
 go (.pt kcu ke7 [(0,a1.v),(1,a2.v),(5,a3.v),(6,.int .u64 n22),(21,.int .i64 a5),(22,.int .i64 (IntKind.wrap .i64 (a6+1)))]) h24)) (
 (idx a3.ref a3.len (a1.len:Int) 1).bind fun r25 =>
 (h.puts r25 [.int .u64 a4]).bind fun h26 =>
 some (a3.v,h26)):=(kc _ h).trans (by kernel_rfl)
theorem klp(a1:Sl)(a2:Int)(h:AH):go (.pt kbf kjl [(0,a1.v),(3,.int .i64 a2)]) h =
 cond (decide (a2>0)) (
 (idx a1.ref a1.len (IntKind.wrap .i64 (a2-1)) 1).bind fun r3 =>
 ((h.cell r3).bind (AV.asInt .u64)).bind fun n4 =>
 cond (decide (n4=0)) (
 go (.pt kbf kjl [(0,a1.v),(3,.int .i64 (IntKind.wrap .i64 (a2-1)))]) h) (
 (cutSl a1 0 a2 1).bind fun l5 =>
 some (l5.v,h))) (
 (cutSl a1 0 a2 1).bind fun l6 =>
 some (l6.v,h)):=(kc _ h).trans (by kernel_rfl)
theorem kul(a1 a2 a3:Sl)(a4 a5 a6:Int)(h:AH):go (.pt kcl kg6 [(0,a1.v),(1,a2.v),(5,a3.v),(6,.int .u64 a4),(13,.int .i64 a5),(14,.int .i64 a6)]) h =
 cond (decide (a6<a5)) (
 cond (decide (a6<(a2.len:Int))) (
 (idx a2.ref a2.len a6 1).bind fun r7 =>
 ((h.cell r7).bind (AV.asInt .u64)).bind fun n8 =>
 (idx a1.ref a1.len a6 1).bind fun r9 =>
 ((h.cell r9).bind (AV.asInt .u64)).bind fun n10 =>
 ((prim "math/bits.Sub64" [.int .u64 n10,.int .u64 n8,.int .u64 a4]).map fun v=>(v,h)).bind fun q11 =>
 (AV.asTup2 q11.1).bind fun p12 =>
 ((some p12.1).bind (AV.asInt .u64)).bind fun n13 =>
 ((some p12.2).bind (AV.asInt .u64)).bind fun n14 =>
 (idx a3.ref a3.len a6 1).bind fun r15 =>
 (q11.2.puts r15 [.int .u64 n13]).bind fun h16 =>
 go (.pt kcl kg6 [(0,a1.v),(1,a2.v),(5,a3.v),(6,.int .u64 n14),(13,.int .i64 a5),(14,.int .i64 (IntKind.wrap .i64 (a6+1)))]) h16) (
 (idx a1.ref a1.len a6 1).bind fun r17 =>
 ((h.cell r17).bind (AV.asInt .u64)).bind fun n18 =>
 ((prim "math/bits.Sub64" [.int .u64 n18,.int .u64 0,.int .u64 a4]).map fun v=>(v,h)).bind fun q19 =>
 (AV.asTup2 q19.1).bind fun p20 =>
 ((some p20.1).bind (AV.asInt .u64)).bind fun n21 =>
 ((some p20.2).bind (AV.asInt .u64)).bind fun n22 =>
 (idx a3.ref a3.len a6 1).bind fun r23 =>
 (q19.2.puts r23 [.int .u64 n21]).bind fun h24 =>
 go (.pt kcl kg6 [(0,a1.v),(1,a2.v),(5,a3.v),(6,.int .u64 n22),(13,.int .i64 a5),(14,.int .i64 (IntKind.wrap .i64 (a6+1)))]) h24)) (
 some (a3.v,h)):=(kc _ h).trans (by kernel_rfl)
theorem k26(a1 a2:Sl)(a3 a4 a5:Int)(h:AH):go (.pt kc3 kge [(0,a1.v),(1,a2.v),(2,.int .i64 a3),(6,.int .u64 a4),(7,.int .i64 a5)]) h =
 cond (decide (a5<(a1.len:Int))) (
 cond (decide ((IntKind.wrap .i64 (a5-a3))<(a2.len:Int))) (
 cond (decide ((IntKind.wrap .i64 (a5-a3))<(a2.len:Int))) (
 (idx a2.ref a2.len (IntKind.wrap .i64 (a5-a3)) 1).bind fun r6 =>
 ((h.cell r6).bind (AV.asInt .u64)).bind fun n7 =>
 (idx a1.ref a1.len a5 1).bind fun r8 =>
 ((h.cell r8).bind (AV.asInt .u64)).bind fun n9 =>
 ((prim "math/bits.Add64" [.int .u64 n9,.int .u64 n7,.int .u64 a4]).map fun v=>(v,h)).bind fun q10 =>
 (AV.asTup2 q10.1).bind fun p11 =>
 ((some p11.1).bind (AV.asInt .u64)).bind fun n12 =>
 ((some p11.2).bind (AV.asInt .u64)).bind fun n13 =>
 (idx a1.ref a1.len a5 1).bind fun r14 =>
 (q10.2.puts r14 [.int .u64 n12]).bind fun h15 =>
 go (.pt kc3 kge [(0,a1.v),(1,a2.v),(2,.int .i64 a3),(6,.int .u64 n13),(7,.int .i64 (IntKind.wrap .i64 (a5+1)))]) h15) (
 (idx a1.ref a1.len a5 1).bind fun r16 =>
 ((h.cell r16).bind (AV.asInt .u64)).bind fun n17 =>
 ((prim "math/bits.Add64" [.int .u64 n17,.int .u64 0,.int .u64 a4]).map fun v=>(v,h)).bind fun q18 =>
 (AV.asTup2 q18.1).bind fun p19 =>
 ((some p19.1).bind (AV.asInt .u64)).bind fun n20 =>
 ((some p19.2).bind (AV.asInt .u64)).bind fun n21 =>
 (idx a1.ref a1.len a5 1).bind fun r22 =>
 (q18.2.puts r22 [.int .u64 n20]).bind fun h23 =>
 go (.pt kc3 kge [(0,a1.v),(1,a2.v),(2,.int .i64 a3),(6,.int .u64 n21),(7,.int .i64 (IntKind.wrap .i64 (a5+1)))]) h23)) (
 cond (decide (a4>0)) (
 cond (decide ((IntKind.wrap .i64 (a5-a3))<(a2.len:Int))) (
 (idx a2.ref a2.len (IntKind.wrap .i64 (a5-a3)) 1).bind fun r24 =>
 ((h.cell r24).bind (AV.asInt .u64)).bind fun n25 =>
 (idx a1.ref a1.len a5 1).bind fun r26 =>
 ((h.cell r26).bind (AV.asInt .u64)).bind fun n27 =>
 ((prim "math/bits.Add64" [.int .u64 n27,.int .u64 n25,.int .u64 a4]).map fun v=>(v,h)).bind fun q28 =>
 (AV.asTup2 q28.1).bind fun p29 =>
 ((some p29.1).bind (AV.asInt .u64)).bind fun n30 =>
 ((some p29.2).bind (AV.asInt .u64)).bind fun n31 =>
 (idx a1.ref a1.len a5 1).bind fun r32 =>
 (q28.2.puts r32 [.int .u64 n30]).bind fun h33 =>
 go (.pt kc3 kge [(0,a1.v),(1,a2.v),(2,.int .i64 a3),(6,.int .u64 n31),(7,.int .i64 (IntKind.wrap .i64 (a5+1)))]) h33) (
 (idx a1.ref a1.len a5 1).bind fun r34 =>
 ((h.cell r34).bind (AV.asInt .u64)).bind fun n35 =>
 ((prim "math/bits.Add64" [.int .u64 n35,.int .u64 0,.int .u64 a4]).map fun v=>(v,h)).bind fun q36 =>
 (AV.asTup2 q36.1).bind fun p37 =>
 ((some p37.1).bind (AV.asInt .u64)).bind fun n38 =>
 ((some p37.2).bind (AV.asInt .u64)).bind fun n39 =>
 (idx a1.ref a1.len a5 1).bind fun r40 =>
 (q36.2.puts r40 [.int .u64 n38]).bind fun h41 =>
 go (.pt kc3 kge [(0,a1.v),(1,a2.v),(2,.int .i64 a3),(6,.int .u64 n39),(7,.int .i64 (IntKind.wrap .i64 (a5+1)))]) h41)) (
 some (.tup [],h)))) (
 some (.tup [],h)):=(kc _ h).trans (by kernel_rfl)
theorem k7w(a1:Sl)(h:AH):go (.fn kc2 [.agg [a1.v]]) h =
 newK h (.cells [a1.v] krz) fun h2r h2 =>
 ((h2.cell (h2r.add 0)).bind AV.asSl).bind fun l3 =>
 cond (decide ((l3.len:Int)>16)) (
 some (.bool false,h2)) (
 ((h2.cell (h2r.add 0)).bind AV.asSl).bind fun l4 =>
 go (.pt kc2 kjp [(12,l4.v),(13,.int .i64 (l4.len:Int)),(14,.int .i64 0)]) h2):=(kc _ h).trans (by kernel_rfl)
theorem ksj(a1 a2 a3:Ref)(a4:Sl)(a5 a6:Int)(h:AH):go (.pt kf5 kl6 [(8,.func (.func kb0) [] [.ptr (some a1),.ptr (some a2)]),(9,.ptr (some a3)),(37,a4.v),(38,.int .i64 a5),(39,.int .i64 a6)]) h =
 cond (decide (a6<a5)) (
 (idx a4.ref a4.len a6 1).bind fun r7 =>
 ((h.cell (r7.add 0)).bind AV.asSl).bind fun l8 =>
 newK h (.cells [(⟨none,0,.is 0⟩:Sl).v] kcv) fun h9r h9 =>
 (h9.puts h9r [l8.v]).bind fun h10 =>
 ((h10.cell (h9r.add 0)).bind AV.asSl).bind fun l11 =>
 (go (.fn kne [l11.v,.func (.func kb0) [] [.ptr (some a1),.ptr (some a2)]]) h10).bind fun q12 =>
 ((some q12.1).bind AV.asBool).bind fun b13 =>
 cond b13 (
 some (.tup [.ptr none,.int .i64 1],q12.2)) (
 ((q12.2.cell (a3.add 0)).bind AV.asSl).bind fun l14 =>
 ((q12.2.cell (h9r.add 0)).bind AV.asSl).bind fun l15 =>
 (go (.fn kqm [l15.v]) q12.2).bind fun q16 =>
 ((some q16.1).bind AV.asSl).bind fun l17 =>
 whenK (SameAt q12.2 q16.2 (a3.add 0) 1) (
 newK q16.2 (.cells [l17.v] kcv) fun h18r h18 =>
 whenK (SameAt q16.2 h18 (a3.add 0) 1) (
 (kbe Pg kcv ((⟨some h18r,1,.is 1⟩:Sl).v) h18).bind fun p20 =>
 (kz Pg l14 p20.1 p20.2 kcv 1 h18).bind fun q19 =>
 (AV.asSl q19.1).bind fun l21 =>
 (q19.2.puts (a3.add 0) [l21.v]).bind fun h22 =>
 go (.pt kf5 kl6 [(8,.func (.func kb0) [] [.ptr (some a1),.ptr (some a2)]),(9,.ptr (some a3)),(37,a4.v),(38,.int .i64 a5),(39,.int .i64 (IntKind.wrap .i64 (a6+1)))]) h22)))) (
 (go (.fn kev [.ptr (some a3)]) h).bind fun q23 =>
 (AV.asTup0 q23.1).bind fun _ =>
 some (.tup [.ptr (some a3),.int .i64 0],q23.2)):=(kc _ h).trans (by kernel_rfl)
theorem k61(a1:Sl)(h:AH):go (.fn kmt [a1.v]) h =
 cond a1.ref.isNone (
 some ((⟨none,0,.is 0⟩:Sl).v,h)) (
 newK h (.cells [] T.int) fun h2r h2 =>
 (kbe Pg T.int a1.v h2).bind fun p4 =>
 (kz Pg (⟨some h2r,0,.is 0⟩:Sl) p4.1 p4.2 T.int 1 h2).bind fun q3 =>
 (AV.asSl q3.1).bind fun l5 =>
 some (l5.v,q3.2)):=(kc _ h).trans (by kernel_rfl)
theorem k5x(a1:Option Ref)(h:AH):go (.fn kk5 [.ptr a1]) h =
 newK h (.cells [.int .i64 0,.int .i64 0,.int .i64 0] k3r) fun h2r h2 =>
 a1.bind fun r3 =>
 ((h2.cell (r3.add 7)).bind AV.asSl).bind fun l4 =>
 (h2.puts h2r [.int .i64 (l4.len:Int),.int .i64 0,.int .i64 0]).bind fun h5 =>
 ((h5.cell (h2r.add 0)).bind (AV.asInt .i64)).bind fun n6 =>
 ((h5.cell (h2r.add 1)).bind (AV.asInt .i64)).bind fun n7 =>
 ((h5.cell (h2r.add 2)).bind (AV.asInt .i64)).bind fun n8 =>
 some (.agg [.int .i64 n6,.int .i64 n7,.int .i64 n8],h5):=(kc _ h).trans (by kernel_rfl)
theorem kyt(a1:Sl)(h:AH):go (.fn kkm [a1.v]) h =
 cond a1.ref.isNone (
 some ((⟨none,0,.is 0⟩:Sl).v,h)) (
 newK h (.cells [] kcp) fun h2r h2 =>
 (kbe Pg kcp a1.v h2).bind fun p4 =>
 (kz Pg (⟨some h2r,0,.is 0⟩:Sl) p4.1 p4.2 kcp 1 h2).bind fun q3 =>
 (AV.asSl q3.1).bind fun l5 =>
 some (l5.v,q3.2)):=(kc _ h).trans (by kernel_rfl)
theorem k6l(a1 a2 a3:Int)(h:AH):go (.fn kn7 [.int .i64 a1,.int .i64 a2,.int .i64 a3]) h =
 cond (decide (a2<2)) (
 some (.tup [.ptr none,.int .i64 1],h)) (
 cond (decide (a2>16)) (
 some (.tup [.ptr none,.int .i64 1],h)) (
 cond (decide (a1<0)) (
 some (.tup [.ptr none,.int .i64 1],h)) (
 cond (decide (a1≥a2)) (
 some (.tup [.ptr none,.int .i64 1],h)) (
 cond (decide (a3<1)) (
 some (.tup [.ptr none,.int .i64 1],h)) (
 cond (decide (a3>1073741824)) (
 some (.tup [.ptr none,.int .i64 1],h)) (
 newM h (.map [] 0) fun h4m h4 =>
 newK h4 (.cells [.int .i64 a1,.int .i64 a2,.int .i64 a3,.int .i64 0,.int .i64 0,.int .i64 0,.map (some h4m)] ktw) fun h5r h5 =>
 some (.tup [.ptr (some h5r),.int .i64 0],h5))))))):=(kc _ h).trans (by kernel_rfl)
theorem k4g(a1:Option Ref)(a2:Int)(a3:Sl)(h:AH):go (.fn khg [.ptr a1,.int .i64 a2,a3.v]) h =
 a1.bind fun r4 =>
 ((h.cell (r4.add 6)).bind AV.asMap).bind fun m5 =>
 (mapGet h m5 .i64 a2).bind fun q6 =>
 (AV.asAgg (q6.getD (.agg [.int .i64 0,(⟨none,0,.is 0⟩:Sl).v]))).bind fun cs7 =>
 cond (Nat.beq cs7.length 2) (
 ((cs7[0]?).bind (AV.asInt .i64)).bind fun n8 =>
 ((cs7[1]?).bind AV.asSl).bind fun l9 =>
 newK h (.cells [.int .i64 0,(⟨none,0,.is 0⟩:Sl).v] ky3) fun h10r h10 =>
 (h10.puts h10r [.int .i64 n8,l9.v]).bind fun h11 =>
 a1.bind fun r12 =>
 ((h11.cell (r12.add 4)).bind (AV.asInt .i64)).bind fun n13 =>
 cond (!decide (n13=0)) (
 some (.int .i64 17,h11)) (
 (go (.fn kmc [.ptr a1,.int .i64 a2]) h11).bind fun q14 =>
 ((some q14.1).bind AV.asBool).bind fun b15 =>
 cond (!b15) (
 some (.int .i64 1,q14.2)) (
 cond (decide ((a3.len:Int)=0)) (
 some (.int .i64 1,q14.2)) (
 (go (.fn kb6 [a3.v,.func (.func kcs) [] []]) q14.2).bind fun q16 =>
 ((some q16.1).bind AV.asBool).bind fun b17 =>
 cond b17 (
 some (.int .i64 1,q16.2)) (
 cond q6.isSome (
 some (.int .i64 18,q16.2)) (
 a1.bind fun r18 =>
 ((q16.2.cell (r18.add 6)).bind AV.asMap).bind fun m19 =>
 a1.bind fun r20 =>
 ((q16.2.cell (r20.add 3)).bind (AV.asInt .i64)).bind fun n21 =>
 (go (.fn kmt [a3.v]) q16.2).bind fun q22 =>
 ((some q22.1).bind AV.asSl).bind fun l23 =>
 whenK (SameAt q16.2 q22.2 (r20.add 3) 1) (
 whenK (SameAt q16.2 q22.2 (r18.add 6) 1) (
 m19.bind fun m25 =>
 (mapPut q22.2 m25 .i64 a2 (.agg [.int .i64 n21,l23.v])).bind fun h24 =>
 some (.int .i64 0,h24))))))))) none:=(kc _ h).trans (by kernel_rfl)
theorem k2x  (h:AH):go (.fn kp2 []) h =
 newM h (.map [] 0) fun h1m h1 =>
 newK h1 (.cells [(⟨none,0,.is 0⟩:Sl).v,.map (some h1m)] kj1) fun h2r h2 =>
 some (.ptr (some h2r),h2):=(kc _ h).trans (by kernel_rfl)
theorem k2a(a1:Option Ref)(a2 a3 a4 a5:Int)(a6 a7 a8:Sl)(h:AH):go (.fn kir [.ptr a1,.agg [.int .i64 a2,.int .i64 a3,.int .i64 a4,.int .i64 a5,a6.v,a7.v,a8.v]]) h =
 newK h (.cells [.int .i64 a2,.int .i64 a3,.int .i64 a4,.int .i64 a5,a6.v,a7.v,a8.v] ku) fun h9r h9 =>
 (go (.fn kj8 [.ptr a1]) h9).bind fun q10 =>
 ((some q10.1).bind AV.asBool).bind fun b11 =>
 cond (!b11) (
 some ((⟨none,0,.is 0⟩:Sl).v,q10.2)) (
 ((q10.2.cell (h9r.add 0)).bind (AV.asInt .i64)).bind fun n12 =>
 ((q10.2.cell (h9r.add 1)).bind (AV.asInt .i64)).bind fun n13 =>
 ((q10.2.cell (h9r.add 2)).bind (AV.asInt .i64)).bind fun n14 =>
 ((q10.2.cell (h9r.add 3)).bind (AV.asInt .i64)).bind fun n15 =>
 ((q10.2.cell (h9r.add 4)).bind AV.asSl).bind fun l16 =>
 ((q10.2.cell (h9r.add 5)).bind AV.asSl).bind fun l17 =>
 ((q10.2.cell (h9r.add 6)).bind AV.asSl).bind fun l18 =>
 (go (.fn kbx [.agg [.int .i64 n12,.int .i64 n13,.int .i64 n14,.int .i64 n15,l16.v,l17.v,l18.v]]) q10.2).bind fun q19 =>
 ((some q19.1).bind AV.asBool).bind fun b20 =>
 cond (!b20) (
 (go (.fn kf8 [.ptr a1,.int .i64 16]) q19.2).bind fun q21 =>
 ((some q21.1).bind AV.asSl).bind fun l22 =>
 some (l22.v,q21.2)) (
 a1.bind fun r23 =>
 ((q19.2.cell (r23.add 0)).bind AV.asPtr).bind fun p24 =>
 ((q19.2.cell (h9r.add 0)).bind (AV.asInt .i64)).bind fun n25 =>
 ((q19.2.cell (h9r.add 1)).bind (AV.asInt .i64)).bind fun n26 =>
 ((q19.2.cell (h9r.add 2)).bind (AV.asInt .i64)).bind fun n27 =>
 ((q19.2.cell (h9r.add 3)).bind (AV.asInt .i64)).bind fun n28 =>
 ((q19.2.cell (h9r.add 4)).bind AV.asSl).bind fun l29 =>
 ((q19.2.cell (h9r.add 5)).bind AV.asSl).bind fun l30 =>
 ((q19.2.cell (h9r.add 6)).bind AV.asSl).bind fun l31 =>
 (go (.fn kpx [.ptr p24,.int .i64 0,.agg [.int .i64 n25,.int .i64 n26,.int .i64 n27,.int .i64 n28,l29.v,l30.v,l31.v]]) q19.2).bind fun q32 =>
 ((some q32.1).bind (AV.asInt .i64)).bind fun n33 =>
 cond (!decide (n33=0)) (
 (go (.fn kf8 [.ptr a1,.int .i64 n33]) q32.2).bind fun q34 =>
 ((some q34.1).bind AV.asSl).bind fun l35 =>
 some (l35.v,q34.2)) (
 (go (.fn kj8 [.ptr a1]) q32.2).bind fun q36 =>
 ((some q36.1).bind AV.asBool).bind fun b37 =>
 cond (!b37) (
 some ((⟨none,0,.is 0⟩:Sl).v,q36.2)) (
 newK q36.2 (.cells [.nilFunc,(⟨none,0,.is 0⟩:Sl).v] ktp) fun h38r h38 =>
 ((h38.cell (h9r.add 0)).bind (AV.asInt .i64)).bind fun n39 =>
 (go (.fn km9 []) h38).bind fun q40 =>
 ((some q40.1).bind AV.asMap).bind fun m41 =>
 whenK (SameAt h38 q40.2 (h9r.add 0) 1) (
 whenK (SameAt h38 q40.2 h38r 0) (
 (mapGet q40.2 m41 .i64 n39).bind fun q42 =>
 (AV.asAgg (q42.getD (.agg [.nilFunc,(⟨none,0,.is 0⟩:Sl).v]))).bind fun cs43 =>
 cond (Nat.beq cs43.length 2) (
 (cs43[0]?).bind fun v44 =>
 ((cs43[1]?).bind AV.asSl).bind fun l45 =>
 whenK (SameAt q40.2 q40.2 h38r 0) (
 (q40.2.puts h38r [v44,l45.v]).bind fun h46 =>
 (h46.cell (h38r.add 0)).bind fun v47 =>
 ((h46.cell (h9r.add 0)).bind (AV.asInt .i64)).bind fun n48 =>
 ((h46.cell (h9r.add 1)).bind (AV.asInt .i64)).bind fun n49 =>
 ((h46.cell (h9r.add 2)).bind (AV.asInt .i64)).bind fun n50 =>
 ((h46.cell (h9r.add 3)).bind (AV.asInt .i64)).bind fun n51 =>
 ((h46.cell (h9r.add 4)).bind AV.asSl).bind fun l52 =>
 ((h46.cell (h9r.add 5)).bind AV.asSl).bind fun l53 =>
 ((h46.cell (h9r.add 6)).bind AV.asSl).bind fun l54 =>
 yieldK v47 [.ptr a1,.agg [.int .i64 n48,.int .i64 n49,.int .i64 n50,.int .i64 n51,l52.v,l53.v,l54.v]] (fun y56 =>
 (go (.round y56.1 y56.2) h46).bind fun q55 =>
 (AV.asTup2 q55.1).bind fun p58 =>
 ((some p58.1).bind AV.asSl).bind fun l59 =>
 ((some p58.2).bind (AV.asInt .i64)).bind fun n60 =>
 cond (!decide (n60=0)) (
 (go (.fn kf8 [.ptr a1,.int .i64 n60]) q55.2).bind fun q61 =>
 ((some q61.1).bind AV.asSl).bind fun l62 =>
 some (l62.v,q61.2)) (
 ((q55.2.cell (h38r.add 1)).bind AV.asSl).bind fun l63 =>
 cond (!l63.ref.isNone) (
 a1.bind fun r64 =>
 ((q55.2.cell (r64.add 0)).bind AV.asPtr).bind fun p65 =>
 ((q55.2.cell (h38r.add 1)).bind AV.asSl).bind fun l66 =>
 (go (.fn khg [.ptr p65,.int .i64 0,l66.v]) q55.2).bind fun q67 =>
 ((some q67.1).bind (AV.asInt .i64)).bind fun n68 =>
 some (l59.v,q67.2)) (
 some (l59.v,q55.2)))) (
 (callV Pg go v47 [.ptr a1,.agg [.int .i64 n48,.int .i64 n49,.int .i64 n50,.int .i64 n51,l52.v,l53.v,l54.v]] h46).bind fun q57 =>
 (AV.asTup2 q57.1).bind fun p69 =>
 ((some p69.1).bind AV.asSl).bind fun l70 =>
 ((some p69.2).bind (AV.asInt .i64)).bind fun n71 =>
 cond (!decide (n71=0)) (
 (go (.fn kf8 [.ptr a1,.int .i64 n71]) q57.2).bind fun q72 =>
 ((some q72.1).bind AV.asSl).bind fun l73 =>
 some (l73.v,q72.2)) (
 ((q57.2.cell (h38r.add 1)).bind AV.asSl).bind fun l74 =>
 cond (!l74.ref.isNone) (
 a1.bind fun r75 =>
 ((q57.2.cell (r75.add 0)).bind AV.asPtr).bind fun p76 =>
 ((q57.2.cell (h38r.add 1)).bind AV.asSl).bind fun l77 =>
 (go (.fn khg [.ptr p76,.int .i64 0,l77.v]) q57.2).bind fun q78 =>
 ((some q78.1).bind (AV.asInt .i64)).bind fun n79 =>
 some (l70.v,q78.2)) (
 some (l70.v,q57.2)))))) none)))))):=(kc _ h).trans (by kernel_rfl)
end Go.Ab
