/- The walks: what functions do is what their models say. -/
import Derived.Test.YtmknfofhhnfkcaaGreatDoorMoH1
import Derived.Test.YtmknfofhhnfkcaaGreatDoorProg
import Derived.KernelRfl
import Derived.Shelf.Strings.OnBuilder
import Derived.Shelf.Strings.CaseAny
set_option linter.all false
namespace Go.Proofs.YtmknfofhhnfkcaaGreatDoor
open Go.AM
theorem wf:WF Tryz.prog:=by
 have h:Tryz.prog.funcs.toList.all (fun fn=>!(fn.name == "runtime.NumGoroutine"))=true:=by kernel_rfl
 refine ⟨?_,by kernel_rfl⟩
 intro k fn hk _
 have:=List.all_eq_true.1 h fn (by rw [←Array.getElem?_toList] at hk;exact List.mem_of_getElem? hk)
 simpa using this
def shT:Nat→Sh
 | 2=>.int .i64
 | 3=>.int .i64
 | 4=>.bool
 | 5=>.int .u8
 | 6=>.int .u8
 | 7=>.cons (.int .i64) (.cons (.int .i64) (.cons (.bool) (.int .u8)))
 | 8=>.cons (.int .i64) (.cons (.int .i64) (.cons (.bool) (.int .u8)))
 | 9=>.str
 | 10=>.str
 | 11=>.str
 | 12=>.int .u64
 | 13=>.cons (.str) (.int .u64)
 | 14=>.cons (.str) (.int .u64)
 | 21=>.int .i32
 | 22=>.sl (.bool)
 | 24=>.sl (.str)
 | 26=>.sl (.int .u8)
 | 27=>.int .i64
 | 37=>.sl (.cons (.int .i64) (.cons (.int .i64) (.cons (.sl (.int .i64)) (.int .i64))))
 | 39=>.sl (.int .i64)
 | 45=>.sl (.sl (.int .i64))
 | 46=>.cons (.int .i64) (.cons (.int .i64) (.cons (.sl (.int .i64)) (.int .i64)))
 | 47=>.cons (.int .i64) (.cons (.int .i64) (.cons (.sl (.int .i64)) (.int .i64)))
 | 54=>.sl (.cons (.sl (.int .i64)) (.sl (.int .i64)))
 | 65=>.int .i8
 | 66=>.int .i64
 | 72=>.int .i64
 | 73=>.cons (.int .i64) (.cons (.int .i64) (.int .i64))
 | 74=>.cons (.int .i64) (.cons (.int .i64) (.int .i64))
 | 92=>.cons (.str) (.str)
 | 93=>.sl (.cons (.str) (.str))
 | 95=>.cons (.sl (.int .u8)) (.int .i64)
 | 96=>.cons (.sl (.int .u8)) (.int .i64)
 | 97=>.cons (.sl (.int .u8)) (.int .i64)
 | 98=>.cons (.sl (.int .u8)) (.int .i64)
 | 108=>.int .i64
 | 109=>.int .i64
 | 120=>.cons (.sl (.int .i64)) (.sl (.int .i64))
 | 121=>.cons (.sl (.int .i64)) (.sl (.int .i64))
 | 130=>.int .u64
 | 135=>.cpx .f64
 | 136=>.cons (.int .i64) (.cpx .f64)
 | 137=>.cons (.int .i64) (.cpx .f64)
 | 138=>.cons (.int .i64) (.cons (.cpx .f64) (.bool))
 | 139=>.cons (.int .i64) (.cons (.cpx .f64) (.bool))
 | 142=>.sl (.cpx .f64)
 | 165=>.int .i64
 | 184=>.sl (.cons (.int .i64) (.int .i64))
 | 185=>.cons (.int .i64) (.int .i64)
 | 188=>.sl (.cons (.int .i64) (.cpx .f64))
 | 204=>.sl (.cons (.int .i64) (.cons (.int .i64) (.sl (.int .i64))))
 | 206=>.cons (.int .i64) (.cons (.int .i64) (.sl (.int .i64)))
 | 207=>.cons (.int .i64) (.cons (.int .i64) (.sl (.int .i64)))
 | 208=>.flt .f64
 | 222=>.cons (.int .i64) (.cons (.int .i64) (.cons (.int .i64) (.int .i64)))
 | 223=>.cons (.int .i64) (.cons (.int .i64) (.cons (.int .i64) (.int .i64)))
 | 224=>.sl (.cons (.int .i64) (.cons (.int .i64) (.cons (.int .i64) (.int .i64))))
 | 225=>.cons (.sl (.cons (.int .i64) (.cons (.int .i64) (.cons (.int .i64) (.int .i64))))) (.sl (.cons (.sl (.int .i64)) (.sl (.int .i64))))
 | 226=>.cons (.sl (.cons (.int .i64) (.cons (.int .i64) (.cons (.int .i64) (.int .i64))))) (.sl (.cons (.sl (.int .i64)) (.sl (.int .i64))))
 | 231=>.sl (.cons (.int .i64) (.cons (.int .i64) (.cons (.int .i64) (.cons (.int .i64) (.cons (.int .i64) (.cons (.int .i64) (.cons (.int .i64) (.int .i64))))))))
 | 233=>.cons (.int .i64) (.cons (.int .i64) (.cons (.int .i64) (.cons (.int .i64) (.cons (.int .i64) (.int .i64)))))
 | 234=>.cons (.int .i64) (.cons (.int .i64) (.cons (.int .i64) (.cons (.int .i64) (.cons (.int .i64) (.cons (.int .i64) (.cons (.int .i64) (.int .i64)))))))
 | 235=>.cons (.int .i64) (.cons (.int .i64) (.cons (.int .i64) (.cons (.int .i64) (.cons (.int .i64) (.cons (.int .i64) (.cons (.int .i64) (.int .i64)))))))
 | 245=>.sl (.cons (.int .u32) (.cons (.int .u32) (.cons (.int .i32) (.cons (.int .i32) (.int .i32)))))
 | 250=>.cons (.int .u8) (.int .u8)
 | 251=>.cons (.int .u8) (.int .u8)
 | 252=>.cons (.int .u8) (.cons (.int .u8) (.cons (.int .u8) (.cons (.int .u8) (.cons (.int .u8) (.cons (.int .u8) (.cons (.int .u8) (.cons (.int .u8) (.cons (.int .u8) (.cons (.int .u8) (.cons (.int .u8) (.cons (.int .u8) (.cons (.int .u8) (.cons (.int .u8) (.cons (.int .u8) (.cons (.int .u8) (.cons (.int .u8) (.cons (.int .u8) (.cons (.int .u8) (.cons (.int .u8) (.cons (.int .u8) (.cons (.int .u8) (.cons (.int .u8) (.cons (.int .u8) (.cons (.int .u8) (.cons (.int .u8) (.cons (.int .u8) (.cons (.int .u8) (.cons (.int .u8) (.cons (.int .u8) (.cons (.int .u8) (.int .u8)))))))))))))))))))))))))))))))
 | 253=>.int .u32
 | 257=>.cons (.int .i64) (.cons (.int .i64) (.cons (.int .i64) (.cons (.int .i64) (.cons (.int .i64) (.cons (.int .i64) (.cons (.int .i64) (.cons (.int .i64) (.cons (.int .i64) (.cons (.int .i64) (.cons (.int .i64) (.cons (.int .i64) (.cons (.int .i64) (.cons (.int .i64) (.cons (.int .i64) (.cons (.int .i64) (.cons (.int .i64) (.cons (.int .i64) (.cons (.int .i64) (.cons (.int .i64) (.cons (.int .i64) (.cons (.int .i64) (.cons (.int .i64) (.cons (.int .i64) (.cons (.int .i64) (.cons (.int .i64) (.cons (.int .i64) (.cons (.int .i64) (.cons (.int .i64) (.cons (.int .i64) (.cons (.int .i64) (.cons (.int .i64) (.cons (.int .i64) (.cons (.int .i64) (.cons (.int .i64) (.cons (.int .i64) (.cons (.int .i64) (.cons (.int .i64) (.cons (.int .i64) (.cons (.int .i64) (.cons (.int .i64) (.cons (.int .i64) (.cons (.int .i64) (.cons (.int .i64) (.cons (.int .i64) (.cons (.int .i64) (.cons (.int .i64) (.cons (.int .i64) (.cons (.int .i64) (.cons (.int .i64) (.cons (.int .i64) (.cons (.int .i64) (.cons (.int .i64) (.cons (.int .i64) (.cons (.int .i64) (.cons (.int .i64) (.cons (.int .i64) (.cons (.int .i64) (.cons (.int .i64) (.cons (.int .i64) (.cons (.int .i64) (.cons (.int .i64) (.cons (.int .i64) (.cons (.int .i64) (.cons (.int .i64) (.cons (.int .i64) (.cons (.int .i64) (.cons (.int .i64) (.cons (.int .i64) (.cons (.int .i64) (.cons (.int .i64) (.cons (.int .i64) (.cons (.int .i64) (.int .i64)))))))))))))))))))))))))))))))))))))))))))))))))))))))))))))))))))))))))
 | 259=>.cons (.int .i64) (.cons (.int .i64) (.cons (.int .i64) (.cons (.int .i64) (.cons (.int .i64) (.cons (.int .i64) (.cons (.int .i64) (.cons (.int .i64) (.int .i64))))))))
 | 261=>.cons (.int .i32) (.cons (.int .i32) (.int .i32))
 | 262=>.cons (.int .i32) (.cons (.int .i32) (.int .i32))
 | 263=>.cons (.int .u32) (.cons (.int .u32) (.cons (.int .i32) (.cons (.int .i32) (.int .i32))))
 | 264=>.cons (.int .u32) (.cons (.int .u32) (.cons (.int .i32) (.cons (.int .i32) (.int .i32))))
 | 271=>.int .u8
 | 272=>.int .u8
 | 274=>.int .i32
 | 275=>.int .i32
 | _=>.unit
def canT:TypeId→List (Nat×Nat×TypeId×Sh)
 | 22=>[(0,1,4,.bool)]
 | 24=>[(0,1,9,.str)]
 | 26=>[(0,1,5,.int .u8)]
 | 37=>[(0,1,47,.cons (.int .i64) (.cons (.int .i64) (.cons (.sl (.int .i64)) (.int .i64))))]
 | 39=>[(0,1,3,.int .i64)]
 | 45=>[(0,1,39,.sl (.int .i64))]
 | 46=>[(2,1,3,.int .i64)]
 | 47=>[(2,0,3,.int .i64)]
 | 54=>[(0,1,121,.cons (.sl (.int .i64)) (.sl (.int .i64)))]
 | 93=>[(0,1,92,.cons (.str) (.str))]
 | 95=>[(0,1,5,.int .u8)]
 | 96=>[(0,1,5,.int .u8)]
 | 97=>[(0,1,5,.int .u8)]
 | 98=>[(0,1,5,.int .u8)]
 | 120=>[(0,1,3,.int .i64),(1,1,3,.int .i64)]
 | 121=>[(0,0,3,.int .i64),(1,0,3,.int .i64)]
 | 131=>[(5,1,5,.int .u8)]
 | 132=>[(5,1,5,.int .u8)]
 | 142=>[(0,1,135,.cpx .f64)]
 | 148=>[(2,1,5,.int .u8)]
 | 149=>[(2,1,5,.int .u8)]
 | 151=>[(1,1,5,.int .u8)]
 | 152=>[(1,1,5,.int .u8)]
 | 178=>[(2,1,3,.int .i64)]
 | 179=>[(2,0,3,.int .i64)]
 | 184=>[(0,1,185,.cons (.int .i64) (.int .i64))]
 | 188=>[(0,1,137,.cons (.int .i64) (.cpx .f64))]
 | 204=>[(0,1,207,.cons (.int .i64) (.cons (.int .i64) (.sl (.int .i64))))]
 | 206=>[(2,1,3,.int .i64)]
 | 207=>[(2,1,3,.int .i64)]
 | 215=>[(1,1,3,.int .i64)]
 | 216=>[(1,1,3,.int .i64)]
 | 224=>[(0,1,223,.cons (.int .i64) (.cons (.int .i64) (.cons (.int .i64) (.int .i64))))]
 | 225=>[(0,1,223,.cons (.int .i64) (.cons (.int .i64) (.cons (.int .i64) (.int .i64)))),(1,1,121,.cons (.sl (.int .i64)) (.sl (.int .i64)))]
 | 226=>[(0,2,223,.cons (.int .i64) (.cons (.int .i64) (.cons (.int .i64) (.int .i64)))),(1,1,121,.cons (.sl (.int .i64)) (.sl (.int .i64)))]
 | 231=>[(0,1,235,.cons (.int .i64) (.cons (.int .i64) (.cons (.int .i64) (.cons (.int .i64) (.cons (.int .i64) (.cons (.int .i64) (.cons (.int .i64) (.int .i64))))))))]
 | 245=>[(0,1,264,.cons (.int .u32) (.cons (.int .u32) (.cons (.int .i32) (.cons (.int .i32) (.int .i32)))))]
 | _=>[]
def altsDec:List PT:=[.tup [.ifc 168 (.ptr 1 0),.ifc 216 (.agg [.elemv [.sl .view false (.cons (.int .i64) (.cons (.int .i64) (.cons (.int .i64) (.int .i64)))),.sl .view false (.cons (.sl (.int .i64)) (.sl (.int .i64)))] 0,.sl (.own 3) false (.int .i64),.lf (.int .i64),.lf (.int .i64)]),.ifc 173 (.agg [.ptr 0 0])],
 .tup [.ifc 94 (.ptr 0 0),.ifc 98 (.agg [.sl (.own 5) false (.int .u8),.lf (.int .i64)])],
 .tup [.ifc 99 (.ptr 2 0),.ifc 216 (.agg [.elemv [.sl .view false (.cons (.int .i64) (.cons (.int .i64) (.cons (.int .i64) (.int .i64)))),.sl .view false (.cons (.sl (.int .i64)) (.sl (.int .i64)))] 0,.sl (.own 3) false (.int .i64),.lf (.int .i64),.lf (.int .i64)]),.ifc 173 (.agg [.ptr 0 0]),.ifc 167 (.agg [.ifc 168 (.ptr 1 0),.lf (.int .i64)])]]
def altsEnc:List PT:=[.tup [.ifc 112 (.ptr 1 0),.ifc 216 (.agg [.elemv [.sl .view false (.cons (.int .i64) (.cons (.int .i64) (.cons (.int .i64) (.int .i64)))),.sl .view false (.cons (.sl (.int .i64)) (.sl (.int .i64)))] 0,.sl (.own 3) false (.int .i64),.lf (.int .i64),.lf (.int .i64)]),.ifc 179 (.agg [.ptr 0 0,.elemv [.lf (.int .i64),.lf (.int .i64),.elemv [.sl .view false (.cons (.int .i64) (.cons (.int .i64) (.cons (.int .i64) (.int .i64)))),.sl .view false (.cons (.sl (.int .i64)) (.sl (.int .i64)))] 0,.elemv [.sl .view false (.cons (.int .i64) (.cons (.int .i64) (.cons (.int .i64) (.int .i64)))),.sl .view false (.cons (.sl (.int .i64)) (.sl (.int .i64)))] 0] 0,.sl .view false (.int .i64)])],
 .tup [.ifc 107 (.ptr 0 0),.ifc 109 (.agg [.lf (.int .i64)])],
 .tup [.ifc 110 (.ptr 2 0),.ifc 216 (.agg [.elemv [.sl .view false (.cons (.int .i64) (.cons (.int .i64) (.cons (.int .i64) (.int .i64)))),.sl .view false (.cons (.sl (.int .i64)) (.sl (.int .i64)))] 0,.sl (.own 3) false (.int .i64),.lf (.int .i64),.lf (.int .i64)]),.ifc 179 (.agg [.ptr 0 0,.elemv [.lf (.int .i64),.lf (.int .i64),.elemv [.sl .view false (.cons (.int .i64) (.cons (.int .i64) (.cons (.int .i64) (.int .i64)))),.sl .view false (.cons (.sl (.int .i64)) (.sl (.int .i64)))] 0,.elemv [.sl .view false (.cons (.int .i64) (.cons (.int .i64) (.cons (.int .i64) (.int .i64)))),.sl .view false (.cons (.sl (.int .i64)) (.sl (.int .i64)))] 0] 0,.sl .view false (.int .i64)]),.ifc 177 (.agg [.ptr 1 0,.lf (.int .i64),.lf (.int .i64),.lf (.int .i64)])]]
end Go.Proofs.YtmknfofhhnfkcaaGreatDoor
namespace Go.Proofs.YtmknfofhhnfkcaaGreatDoor
open Go.AM
open Go.AM.M
set_option maxRecDepth 100000
noncomputable def kf52 (fu:Nat):KF:=⟨⟨[],[]⟩,[⟨(.sl (.excl 9) false .str),[]⟩],true,codec_Names fu⟩
theorem knows52 (fu:Nat):Known Tryz.prog 52 (kf52 fu):=mkK wf shT canT fu { h:=[(0,kp []),(1,kp [0])],tt:=[(0,9,.str),(1,9,.str)] } [] []
 (k0) (o0) Tryz.func52 (by kernel_rfl) (fun _=>by kernel_rfl)
end Go.Proofs.YtmknfofhhnfkcaaGreatDoor
namespace Go.Proofs
open Go.Shelf
def Tryz.lays159_ren:Go.Shelf.Ren:=⟨fun | 159=>53 | 165=>85 | 166=>86 | 167=>87 | 169=>88 | 230=>89 | 204=>90 | 240=>121 | 241=>122 | 197=>123 | 118=>124 | 168=>125 | 270=>126 | 262=>127 | 276=>146 | 277=>147 | 260=>148 | 242=>149 | 313=>150 | 278=>159 | 274=>160 | 275=>161 | n=>n,fun | 9=>9 | 4=>4 | 3=>3 | 5=>5 | 72=>152 | 0=>0 | 76=>156 | 75=>155 | 107=>161 | 70=>150 | 20=>20 | 37=>26 | 127=>209 | 21=>21 | 105=>210 | 164=>239 | 162=>245 | 203=>243 | 119=>249 | 46=>130 | 139=>252 | 138=>251 | 51=>253 | 160=>254 | 208=>264 | 206=>262 | 80=>159 | n=>n,fun | 13=>0 | 3=>2 | 4=>3 | n=>n⟩
theorem Tryz.lays159:Go.Proofs.Lays.n159 Tryz.prog Tryz.lays159_ren:={
 mixed:=by kernel_rfl
 f118:=Tryz.func124.trans (congrArg some (by kernel_rfl))
 f159:=Tryz.func53.trans (congrArg some (by kernel_rfl))
 f165:=Tryz.func85.trans (congrArg some (by kernel_rfl))
 f166:=Tryz.func86.trans (congrArg some (by kernel_rfl))
 f167:=Tryz.func87.trans (congrArg some (by kernel_rfl))
 f168:=Tryz.func125.trans (congrArg some (by kernel_rfl))
 f169:=Tryz.func88.trans (congrArg some (by kernel_rfl))
 f197:=Tryz.func123.trans (congrArg some (by kernel_rfl))
 f204:=Tryz.func90.trans (congrArg some (by kernel_rfl))
 f230:=Tryz.func89.trans (congrArg some (by kernel_rfl))
 f240:=Tryz.func121.trans (congrArg some (by kernel_rfl))
 f241:=Tryz.func122.trans (congrArg some (by kernel_rfl))
 f242:=Tryz.func149.trans (congrArg some (by kernel_rfl))
 f260:=Tryz.func148.trans (congrArg some (by kernel_rfl))
 f262:=Tryz.func127.trans (congrArg some (by kernel_rfl))
 f270:=Tryz.func126.trans (congrArg some (by kernel_rfl))
 f274:=Tryz.func160.trans (congrArg some (by kernel_rfl))
 f275:=Tryz.func161.trans (congrArg some (by kernel_rfl))
 f276:=Tryz.func146.trans (congrArg some (by kernel_rfl))
 f277:=Tryz.func147.trans (congrArg some (by kernel_rfl))
 f278:=Tryz.func159.trans (congrArg some (by kernel_rfl))
 f313:=Tryz.func150.trans (congrArg some (by kernel_rfl))
 t0:=Tryz.underlying0
 a0:=Tryz.isAgg0
 z0:=Tryz.sizeOf0
 v0:=Tryz.zeroValue0
 t3:=Tryz.underlying3
 a3:=Tryz.isAgg3
 z3:=Tryz.sizeOf3
 v3:=Tryz.zeroValue3
 t4:=Tryz.underlying4
 a4:=Tryz.isAgg4
 z4:=Tryz.sizeOf4
 v4:=Tryz.zeroValue4
 t5:=Tryz.underlying5
 a5:=Tryz.isAgg5
 z5:=Tryz.sizeOf5
 v5:=Tryz.zeroValue5
 t9:=Tryz.underlying9
 a9:=Tryz.isAgg9
 z9:=Tryz.sizeOf9
 v9:=Tryz.zeroValue9
 t20:=Tryz.underlying20
 a20:=Tryz.isAgg20
 z20:=Tryz.sizeOf20
 v20:=Tryz.zeroValue20
 t21:=Tryz.underlying21
 a21:=Tryz.isAgg21
 z21:=Tryz.sizeOf21
 v21:=Tryz.zeroValue21
 t37:=Tryz.underlying26
 a37:=Tryz.isAgg26
 z37:=Tryz.sizeOf26
 v37:=Tryz.zeroValue26
 t46:=Tryz.underlying130
 a46:=Tryz.isAgg130
 z46:=Tryz.sizeOf130
 v46:=Tryz.zeroValue130
 t51:=Tryz.underlying253
 a51:=Tryz.isAgg253
 z51:=Tryz.sizeOf253
 v51:=Tryz.zeroValue253
 t70:=Tryz.underlying150
 a70:=Tryz.isAgg150
 z70:=Tryz.sizeOf150
 v70:=Tryz.zeroValue150
 t72:=Tryz.underlying152
 a72:=Tryz.isAgg152
 z72:=Tryz.sizeOf152
 v72:=Tryz.zeroValue152
 t75:=Tryz.underlying155
 a75:=Tryz.isAgg155
 z75:=Tryz.sizeOf155
 v75:=Tryz.zeroValue155
 t76:=Tryz.underlying156
 a76:=Tryz.isAgg156
 z76:=Tryz.sizeOf156
 v76:=Tryz.zeroValue156
 t105:=Tryz.underlying210
 a105:=Tryz.isAgg210
 z105:=Tryz.sizeOf210
 v105:=Tryz.zeroValue210
 t107:=Tryz.underlying161
 a107:=Tryz.isAgg161
 z107:=Tryz.sizeOf161
 v107:=Tryz.zeroValue161
 t119:=Tryz.underlying249
 a119:=Tryz.isAgg249
 z119:=Tryz.sizeOf249
 t127:=Tryz.underlying209
 a127:=Tryz.isAgg209
 z127:=Tryz.sizeOf209
 v127:=Tryz.zeroValue209
 t138:=Tryz.underlying251
 a138:=Tryz.isAgg251
 z138:=Tryz.sizeOf251
 v138:=Tryz.zeroValue251
 t139:=Tryz.underlying252
 a139:=Tryz.isAgg252
 z139:=Tryz.sizeOf252
 v139:=Tryz.zeroValue252
 t160:=Tryz.underlying254
 a160:=Tryz.isAgg254
 z160:=Tryz.sizeOf254
 v160:=Tryz.zeroValue254
 t162:=Tryz.underlying245
 a162:=Tryz.isAgg245
 z162:=Tryz.sizeOf245
 v162:=Tryz.zeroValue245
 t164:=Tryz.underlying239
 a164:=Tryz.isAgg239
 z164:=Tryz.sizeOf239
 v164:=Tryz.zeroValue239
 t203:=Tryz.underlying243
 a203:=Tryz.isAgg243
 z203:=Tryz.sizeOf243
 v203:=Tryz.zeroValue243
 t206:=Tryz.underlying262
 a206:=Tryz.isAgg262
 z206:=Tryz.sizeOf262
 v206:=Tryz.zeroValue262
 t208:=Tryz.underlying264
 a208:=Tryz.isAgg264
 z208:=Tryz.sizeOf264
 v208:=Tryz.zeroValue264
 g3:=by kernel_rfl
 g4:=by kernel_rfl
 g13:=by kernel_rfl }
theorem Tryz.Builder_Extra_159:Builder.Extra Tryz.prog Tryz.lays159_ren:={
 sizeBuilder:=by kernel_rfl
 liesBuilder:=by kernel_rfl
 t5:=Tryz.underlying5
 a5:=Tryz.isAgg5
 z5:=Tryz.sizeOf5
 v5:=Tryz.zeroValue5
 infoByte:=by kernel_rfl
 cellsByte:=by kernel_rfl
 sizeByte:=by kernel_rfl
 neB5:=by decide }
open Go.RowKit in
theorem Tryz.strings_ToLower_ascii (s:ByteArray) (w:World) (hs:s.size≤140737488355328) (hascii:∀(j:Nat) (b:UInt8),s.data.toList[j]? = some b→b.toNat<128) :
  Calls Tryz.prog 53 #[.string s] w fun e w'=>e=.returned (.string ⟨(Lib.toLowerA s.data.toList).toArray⟩)∧Below w.heap.size w w':=Any.strings_ToLower_ascii Tryz.lays159 Tryz.Builder_Extra_159 s w hs hascii
end Go.Proofs
namespace Go.Proofs.YtmknfofhhnfkcaaGreatDoor
open Go.AM
open Go.AM.M
theorem lowB_eq:lowB=Go.Lib.lowerB:=by
 funext b
 unfold lowB Go.Lib.lowerB Go.Lib.isUpperB
 by_cases h1:65≤b <;> by_cases h2:b≤90 <;> simp [h1,h2]
noncomputable def kf53 (fu:Nat):KF:={ inp:=⟨[.lf .str],[]⟩,outs:=[⟨.lf .str,[]⟩],pure:=true,model:=strings_ToLower fu }
theorem knows53 (fu:Nat):Known Tryz.prog 53 (kf53 fu):=Known.strings ⟨Tryz.f53,Tryz.func53,by kernel_rfl⟩ fun s t h w=>by
 have h:(bif ascS s then some (lowS s) else none)=some t:=h
 cases hc:ascS s with
 | false=>rw [hc] at h;cases h
 | true=>
  rw [hc] at h
  injection h with h
  subst h
  unfold ascS at hc
  simp only [Bool.and_eq_true,decide_eq_true_eq,List.all_eq_true] at hc
  refine (Tryz.strings_ToLower_ascii s w hc.1 fun j b hb=>hc.2 b (List.mem_of_getElem? hb)).mono ?_
  rintro e w' ⟨rfl,hb⟩
  refine ⟨?_,hb⟩
  unfold lowS Go.Lib.toLowerA
  rw [lowB_eq]
end Go.Proofs.YtmknfofhhnfkcaaGreatDoor
namespace Go.Proofs.YtmknfofhhnfkcaaGreatDoor
open Go.AM
open Go.AM.M
set_option maxRecDepth 100000
noncomputable def kf91 (fu:Nat):KF:=⟨⟨[zv (.str),zs],[]⟩,[⟨zi,[]⟩],true,slices_Index_string fu⟩
theorem knows91 (fu:Nat):Known Tryz.prog 91 (kf91 fu):=mkK wf shT canT fu { h:=[(0,kp [0,1]),(1,kp [0,1,7,8]),(2,kp [0,1,7,8,9]),(3,kp [0,1,5,7,8]),(4,kp [0,1,5,7,8,16]),(5,kp [4]),(6,kp [0,1,7,8]),(7,kp [4])],tt:=[(0,9,.str),(6,9,.str),(12,9,.str)] } [] []
 (k0) (o0) Tryz.func91 (by kernel_rfl) (fun _=>by kernel_rfl)
noncomputable def kf54 (fu:Nat):KF:=⟨⟨[zv (.str),zs],[]⟩,[⟨zo,[]⟩],true,slices_Contains_string fu⟩
theorem knows54 (fu:Nat):Known Tryz.prog 54 (kf54 fu):=mkK wf shT canT fu { h:=[(0,kp [0,1]),(1,kp [4])],tt:=[(0,9,.str),(5,9,.str)] } [(91,kf91 fu)] []
 (k1 (knows91 fu) <| k0) (o0) Tryz.func54 (by kernel_rfl) (fun _=>by kernel_rfl)
noncomputable def kf55 (fu:Nat):KF:=⟨⟨[zs],[]⟩,[⟨zs,[]⟩],true,codec_alias fu⟩
theorem knows55 (fu:Nat):Known Tryz.prog 55 (kf55 fu):=mkK wf shT canT fu { h:=[(0,kp [0]),(1,kp [2])] } [] []
 (k0) (o0) Tryz.func55 (by kernel_rfl) (fun _=>by kernel_rfl)
noncomputable def kf18 (fu:Nat):KF:=⟨⟨[zs],[]⟩,[⟨(.tup [zs,zi]),[]⟩],true,codec_Name fu⟩
theorem knows18 (fu:Nat):Known Tryz.prog 18 (kf18 fu):=mkK wf shT canT fu { h:=[(0,kp [0]),(1,kp [4]),(2,kp [4,10]),(3,kp [2,3]),(4,kp [5]),(5,kp [5,15]),(6,kp [2,3]),(7,kp [2,3])],tt:=[(8,9,.str)] } [(52,kf52 fu),(53,kf53 fu),(54,kf54 fu),(55,kf55 fu)] []
 (k1 (knows52 fu) <| k1 (knows53 fu) <| k1 (knows54 fu) <| k1 (knows55 fu) <| k0) (o0) Tryz.func18 (by kernel_rfl) (fun _=>by kernel_rfl)
noncomputable def kf139 (fu:Nat):KF:=⟨⟨[],[]⟩,[⟨(.agg [zi,zi,zi,zi,zi,zi,zi,zi,zi,zi,zi,zi,zi,zi,zi,zi,zi,zi,zi,zi,zi,zi,zi,zi,zi,zi,zi,zi,zi,zi,zi,zi,zi,zi,zi,zi,zi,zi,zi,zi,zi,zi,zi,zi,zi,zi,zi,zi,zi,zi,zi,zi,zi,zi,zi,zi,zi,zi,zi,zi,zi,zi,zi,zi,zi,zi,zi,zi,zi,zi,zi,zi,zi,zi,zi,zi,zi,zi,zi,zi,zi,zi,zi,zi,zi,zi,zi,zi,zi,zi,zi,zi,zi,zi,zi,zi,zi,zi,zi,zi,zi,zi,zi,zi,zi,zi,zi,zi,zi,zi,zi,zi,zi,zi,zi,zi,zi,zi,zi,zi,zi,zi,zi,zi,zi,zi,zi,zi]),[]⟩],true,viscii_high fu⟩
theorem knows139 (fu:Nat):Known Tryz.prog 139 (kf139 fu):=mkK wf shT canT fu { h:=[(0,kp [0]),(1,kp [0])] } [] []
 (k0) (o0) Tryz.func139 (by kernel_rfl) (fun _=>by kernel_rfl)
noncomputable def kf101 (fu:Nat):KF:=⟨⟨[zb],[]⟩,[⟨zi,[]⟩],true,viscii_Decode fu⟩
theorem knows101 (fu:Nat):Known Tryz.prog 101 (kf101 fu):=mkK wf shT canT fu { h:=[(0,kp [0]),(1,kp [0,3]),(2,kp [0,3,4]),(3,kp [2]),(4,kp [0,3,6]),(5,kp [2]),(6,kp [0,3,8]),(7,kp [2]),(8,kp [0,3,10]),(9,kp [2]),(10,kp [0,3,12]),(11,kp [2]),(12,kp [0,14]),(13,kp [2]),(14,kp [0,17]),(15,kp [2]),(16,kp [2])] } [(139,kf139 fu)] []
 (k1 (knows139 fu) <| k0) (o0) Tryz.func101 (by kernel_rfl) (fun _=>by kernel_rfl)
noncomputable def kf66 (fu:Nat):KF:=⟨⟨[],[]⟩,[⟨zx 121 zR,[]⟩],true,viscii_Rules fu⟩
theorem knows66 (fu:Nat):Known Tryz.prog 66 (kf66 fu):=mkK wf shT canT fu { h:=[(0,kp []),(1,kp [1]),(2,kp [1,3]),(3,kp [1,3,4]),(4,kp [1,2,3]),(5,kp [1,3]),(6,kp [1,3]),(7,kp [0])],tt:=[(0,121,zR),(1,121,zR),(6,121,zR),(8,3,zI),(12,3,zI),(14,121,zR),(15,121,zR),(17,121,zR)],lp:=[(3,[1,6])] } [(101,kf101 fu)] []
 (k1 (knows101 fu) <| k0) (o0) Tryz.func66 (by kernel_rfl) (fun _=>by kernel_rfl)
noncomputable def kf102 (fu:Nat):KF:=⟨⟨[.sl .view false (.cons zI zI)],[]⟩,[⟨zx 121 zR,[]⟩],true,rule_Singles fu⟩
theorem knows102 (fu:Nat):Known Tryz.prog 102 (kf102 fu):=mkK wf shT canT fu { h:=[(0,kp [0]),(1,kp [0,3]),(2,kp [0,3,6,7,8]),(3,kp [0,3,6,7,8,9]),(4,kp [0,3,5,6,7,8]),(5,kp [0,3,6,7,8]),(6,kp [0,3,6,7,8]),(7,kp [2])],tt:=[(0,185,.cons (.int .i64) (.int .i64)),(2,121,zR),(3,121,zR),(6,185,.cons (.int .i64) (.int .i64)),(12,121,zR),(15,3,zI),(18,3,zI),(20,121,zR),(21,121,zR),(23,121,zR)],lp:=[(3,[3,12])] } [] []
 (k0) (o0) Tryz.func102 (by kernel_rfl) (fun _=>by kernel_rfl)
noncomputable def kf103 (fu:Nat):KF:=⟨⟨[],[]⟩,[⟨(.sl (.excl 185) false (.cons zI zI)),[]⟩],true,tcvn_rows fu⟩
theorem knows103 (fu:Nat):Known Tryz.prog 103 (kf103 fu):=mkK wf shT canT fu { h:=[(0,kp []),(1,kp [0])],tt:=[(0,185,.cons (.int .i64) (.int .i64)),(75,185,.cons (.int .i64) (.int .i64))] } [] []
 (k0) (o0) Tryz.func103 (by kernel_rfl) (fun _=>by kernel_rfl)
noncomputable def kf67 (fu:Nat):KF:=⟨⟨[],[]⟩,[⟨zx 121 zR,[]⟩],true,tcvn_Rules fu⟩
theorem knows67 (fu:Nat):Known Tryz.prog 67 (kf67 fu):=mkK wf shT canT fu { h:=[(0,kp []),(1,kp [1]),(2,kp [1,3]),(3,kp [1,3,4]),(4,kp [1,2,3]),(5,kp [1,3]),(6,kp [1,3]),(7,kp [0])],tt:=[(0,121,zR),(1,185,.cons (.int .i64) (.int .i64)),(6,185,.cons (.int .i64) (.int .i64)),(10,185,.cons (.int .i64) (.int .i64)),(11,185,.cons (.int .i64) (.int .i64)),(13,185,.cons (.int .i64) (.int .i64)),(14,185,.cons (.int .i64) (.int .i64)),(15,185,.cons (.int .i64) (.int .i64)),(16,121,zR)],lp:=[(3,[1,6])] } [(102,kf102 fu),(103,kf103 fu)] []
 (k1 (knows102 fu) <| k1 (knows103 fu) <| k0) (o0) Tryz.func67 (by kernel_rfl) (fun _=>by kernel_rfl)
noncomputable def kf140 (fu:Nat):KF:=⟨⟨[],[]⟩,[⟨(.sl (.excl 235) false (.cons zI (.cons zI (.cons zI (.cons zI zN))))),[]⟩],true,viet_rows fu⟩
theorem knows140 (fu:Nat):Known Tryz.prog 140 (kf140 fu):=mkK wf shT canT fu { h:=[(0,kp []),(1,kp [0])],tt:=[(0,235,.cons (.int .i64) (.cons (.int .i64) (.cons (.int .i64) (.cons (.int .i64) (.cons (.int .i64) (.cons (.int .i64) (.cons (.int .i64) (.int .i64)))))))),(29,235,.cons (.int .i64) (.cons (.int .i64) (.cons (.int .i64) (.cons (.int .i64) (.cons (.int .i64) (.cons (.int .i64) (.cons (.int .i64) (.int .i64))))))))] } [] []
 (k0) (o0) Tryz.func140 (by kernel_rfl) (fun _=>by kernel_rfl)
noncomputable def kf141 (fu:Nat):KF:=⟨⟨[zi],[]⟩,[⟨zi,[]⟩],true,viet_Upper fu⟩
theorem knows141 (fu:Nat):Known Tryz.prog 141 (kf141 fu):=mkK wf shT canT fu { h:=[(0,kp [0]),(1,kp [0,3]),(2,kp [2]),(3,kp [2])] } [] []
 (k0) (o0) Tryz.func141 (by kernel_rfl) (fun _=>by kernel_rfl)
noncomputable def kf104 (fu:Nat):KF:=⟨⟨[],[]⟩,[⟨(.tup [(.sl .view false (.cons zI (.cpx .f64))),zv zI]),[]⟩],true,viet_All fu⟩
theorem knows104 (fu:Nat):Known Tryz.prog 104 (kf104 fu):=mkK wf shT canT fu { h:=[(0,kp []),(1,kp [2]),(2,kp [2,3]),(3,kp [2,3,11,12,13]),(4,kp [2,3,11,12,13,14]),(5,kp [2,3,5,11,12,13]),(6,kp [2,3,5,11,12,13,17,18,19]),(7,kp [2,3,5,11,12,13,17,18,19,20]),(8,kp [2,3,5,7,11,12,13,17,18,19]),(9,kp [2,3,5,7,11,12,13,17,18,19,24,25]),(10,kp [2,3,5,7,11,12,13,17,18,19,24,25,26]),(11,kp [2,3,5,7,8,9,11,12,13,17,18,19,24,25]),(12,kp [2,3,5,7,8,9,11,12,13,17,18,19,24,25,30]),(13,kp [2,3,5,7,8,9,10,11,12,13,17,18,19,24,25]),(14,kp [2,3,5,7,8,9,10,11,12,13,17,18,19,24,25,33]),(15,kp [2,3,5,7,8,9,10,11,12,13,17,18,19,24,25]),(16,kp [2,3,5,7,9,11,12,13,17,18,19,24,25]),(17,kp [2,3,5,7,11,12,13,17,18,19,24,25]),(18,kp [2,3,5,7,11,12,13,17,18,19,24,25]),(19,kp [2,3,5,11,12,13,17,18,19]),(20,kp [2,3,11,12,13]),(21,kp [0,1])],tt:=[(0,137,.cons (.int .i64) (.cpx .f64)),(1,3,zI),(2,137,.cons (.int .i64) (.cpx .f64)),(3,3,zI),(11,4,.bool),(17,235,.cons (.int .i64) (.cons (.int .i64) (.cons (.int .i64) (.cons (.int .i64) (.cons (.int .i64) (.cons (.int .i64) (.cons (.int .i64) (.int .i64)))))))),(38,137,.cons (.int .i64) (.cpx .f64)),(47,137,.cons (.int .i64) (.cpx .f64)),(48,137,.cons (.int .i64) (.cpx .f64)),(49,3,zI),(51,3,zI),(52,3,zI),(56,137,.cons (.int .i64) (.cpx .f64)),(57,3,zI)],lp:=[(4,[2,3,38,49]),(7,[2,3,38,49]),(10,[2,3,38,49])] } [(140,kf140 fu),(141,kf141 fu)] []
 (k1 (knows140 fu) <| k1 (knows141 fu) <| k0) (o0) Tryz.func104 (by kernel_rfl) (fun _=>by kernel_rfl)
noncomputable def kf118 (fu:Nat):KF:=⟨⟨[.agg [zi,.lf (.cpx .f64)]],[]⟩,[⟨(.tup [zi,zo]),[]⟩],true,viet_Join fu⟩
theorem knows118 (fu:Nat):Known Tryz.prog 118 (kf118 fu):=mkK wf shT canT fu { h:=[(0,kp [1]),(1,kp [1,4,5]),(2,kp [1,4,5,12,13,14]),(3,kp [1,4,5,12,13,14,15]),(4,kp [1,4,5,6,7,12,13,14]),(5,kp [1,4,5,6,12,13,14,21]),(6,kp [2,3]),(7,kp [1,4,5,12,13,14]),(8,kp [2,3])],tt:=[(4,137,.cons (.int .i64) (.cpx .f64)),(5,3,zI),(10,137,.cons (.int .i64) (.cpx .f64)),(11,3,zI),(12,137,.cons (.int .i64) (.cpx .f64)),(22,3,zI)] } [(104,kf104 fu)] []
 (k1 (knows104 fu) <| k0) (o0) Tryz.func118 (by kernel_rfl) (fun _=>by kernel_rfl)
noncomputable def kf142 (fu:Nat):KF:=⟨⟨[zi],[]⟩,[⟨zi,[]⟩],true,vni_alone fu⟩
theorem knows142 (fu:Nat):Known Tryz.prog 142 (kf142 fu):=mkK wf shT canT fu { h:=[(0,kp [0]),(1,kp [3]),(2,kp [3,4]),(3,kp [2]),(4,kp [3,6]),(5,kp [2]),(6,kp [3,8]),(7,kp [2]),(8,kp [3,10]),(9,kp [2]),(10,kp [3,12]),(11,kp [2]),(12,kp [3,14]),(13,kp [2]),(14,kp [16]),(15,kp [2]),(16,kp [2])] } [] []
 (k0) (o0) Tryz.func142 (by kernel_rfl) (fun _=>by kernel_rfl)
noncomputable def kf143 (fu:Nat):KF:=⟨⟨[zi],[]⟩,[⟨(.agg [zi,zi,zi,zi,zi,zi]),[]⟩],true,vni_signs fu⟩
theorem knows143 (fu:Nat):Known Tryz.prog 143 (kf143 fu):=mkK wf shT canT fu { h:=[(0,kp [0,2]),(1,kp [2,3]),(2,kp [2,3,4]),(3,kp [2]),(4,kp [2,7]),(5,kp [2]),(6,kp [2])] } [] []
 (k0) (o0) Tryz.func143 (by kernel_rfl) (fun _=>by kernel_rfl)
noncomputable def kf105 (fu:Nat):KF:=⟨⟨[.agg [zi,.lf (.cpx .f64)]],[]⟩,[⟨zx 3 zI,[]⟩],true,vni_Small fu⟩
theorem knows105 (fu:Nat):Known Tryz.prog 105 (kf105 fu):=mkK wf shT canT fu { h:=[(0,kp [1]),(1,kp [1,3,4]),(2,kp [1,3,16]),(3,kp [2]),(4,kp [1,5]),(5,kp [1,5,20]),(6,kp [2]),(7,kp [6,7,8]),(8,kp [6,7,8,34]),(9,kp [6,7,8]),(10,kp [6,9]),(11,kp [6,9,44]),(12,kp [2]),(13,kp [2])],tt:=[(2,3,zI),(22,3,zI),(47,3,zI),(49,3,zI)] } [(118,kf118 fu),(142,kf142 fu),(143,kf143 fu)] []
 (k1 (knows118 fu) <| k1 (knows142 fu) <| k1 (knows143 fu) <| k0) (o0) Tryz.func105 (by kernel_rfl) (fun _=>by kernel_rfl)
noncomputable def kf68 (fu:Nat):KF:=⟨⟨[],[]⟩,[⟨zx 121 zR,[]⟩],true,vni_Rules fu⟩
theorem knows68 (fu:Nat):Known Tryz.prog 68 (kf68 fu):=mkK wf shT canT fu { h:=[(0,kp []),(1,kp [1]),(2,kp [1,2,3]),(3,kp [1,2,3,4]),(4,kp [1,2,3,4,5]),(5,kp [1,2,3,4,5,21,22,23]),(6,kp [1,2,3,4,5,21,22,23,24]),(7,kp [1,2,3,4,5,6,7,21,22,23]),(8,kp [1,2,3,4,5,6,7,8,21,22,23]),(9,kp [1,2,3,4,5,6,7,8,21,22,23,31]),(10,kp [1,2,3,4,5,6,7,8,21,22,23]),(11,kp [1,2,3,4,5,6,7,8,9,21,22,23]),(12,kp [1,2,3,4,5,6,8,9,21,22,23,39,40,41]),(13,kp [1,2,3,4,5,6,8,9,21,22,23,39,40,41,42]),(14,kp [1,2,3,4,5,6,8,9,11,21,22,23,39,40,41]),(15,kp [1,2,3,4,5,6,8,9,11,21,22,23,39,40,41,45]),(16,kp [1,2,3,4,5,6,8,9,11,21,22,23,39,40,41]),(17,kp [1,2,3,4,5,6,8,9,21,22,23,39,40,41]),(18,kp [1,2,3,4,5,6,8,9,21,22,23,39,40,41]),(19,kp [1,2,3,4,5,6,9,21,22,23]),(20,kp [1,2,3,4,5,21,22,23]),(21,kp [1,2,3,4,5,21,22,23]),(22,kp [1,5,69]),(23,kp [1,5,69,70]),(24,kp [1,5,12,69]),(25,kp [1,5,12,69,75]),(26,kp [1,5,69]),(27,kp [1,5,69]),(28,kp [0])],tt:=[(0,121,zR),(1,121,zR),(2,137,.cons (.int .i64) (.cpx .f64)),(3,3,zI),(9,3,zI),(15,137,.cons (.int .i64) (.cpx .f64)),(16,3,zI),(17,137,.cons (.int .i64) (.cpx .f64)),(21,137,.cons (.int .i64) (.cpx .f64)),(32,137,.cons (.int .i64) (.cpx .f64)),(39,3,zI),(48,3,zI),(50,3,zI),(51,3,zI),(54,3,zI),(58,121,zR),(59,3,zI),(60,3,zI),(64,3,zI),(66,121,zR),(67,121,zR),(76,121,zR),(78,3,zI),(80,3,zI),(82,121,zR),(83,121,zR),(85,121,zR)],lp:=[(6,[1,58]),(13,[1,9,48,58]),(23,[1,76])] } [(104,kf104 fu),(105,kf105 fu)] []
 (k1 (knows104 fu) <| k1 (knows105 fu) <| k0) (o0) Tryz.func68 (by kernel_rfl) (fun _=>by kernel_rfl)
noncomputable def kf106 (fu:Nat):KF:=⟨⟨[zv zI,zv zI],[]⟩,[⟨(.agg [zv zI,zv zI]),[]⟩],true,tamil_one fu⟩
theorem knows106 (fu:Nat):Known Tryz.prog 106 (kf106 fu):=mkK wf shT canT fu { h:=[(0,kp [0,1,4]),(1,kp [4])],tt:=[(0,3,zI),(1,3,zI),(5,3,zI),(6,3,zI)] } [] []
 (k0) (o0) Tryz.func106 (by kernel_rfl) (fun _=>by kernel_rfl)
noncomputable def kf107 (fu:Nat):KF:=⟨⟨[],[]⟩,[⟨zx 3 zI,[]⟩],true,tamil_vowels fu⟩
theorem knows107 (fu:Nat):Known Tryz.prog 107 (kf107 fu):=mkK wf shT canT fu { h:=[(0,kp []),(1,kp [0])],tt:=[(0,3,zI),(1,3,zI)] } [] []
 (k0) (o0) Tryz.func107 (by kernel_rfl) (fun _=>by kernel_rfl)
noncomputable def kf108 (fu:Nat):KF:=⟨⟨[],[]⟩,[⟨zx 3 zI,[]⟩],true,tamil_consonants fu⟩
theorem knows108 (fu:Nat):Known Tryz.prog 108 (kf108 fu):=mkK wf shT canT fu { h:=[(0,kp []),(1,kp [0])],tt:=[(0,3,zI),(1,3,zI)] } [] []
 (k0) (o0) Tryz.func108 (by kernel_rfl) (fun _=>by kernel_rfl)
noncomputable def kf69 (fu:Nat):KF:=⟨⟨[],[]⟩,[⟨zx 121 zR,[]⟩],true,tamil_Rules fu⟩
theorem knows69 (fu:Nat):Known Tryz.prog 69 (kf69 fu):=mkK wf shT canT fu { h:=[(0,kp []),(1,kp [1]),(2,kp [1,10]),(3,kp [1,10,11]),(4,kp [1,2,10]),(5,kp [1,10]),(6,kp [1,10]),(7,kp [1,22,23,24]),(8,kp [1,22,23,24,25]),(9,kp [1,3,4,22,23,24]),(10,kp [1,22,23,24]),(11,kp [1,22,23,24]),(12,kp [1,49,50,51]),(13,kp [1,49,50,51,52]),(14,kp [1,6,49,50,51]),(15,kp [1,49,50,51]),(16,kp [1,49,50,51]),(17,kp [1,66,67,68]),(18,kp [1,66,67,68,69]),(19,kp [1,7,8,66,67,68]),(20,kp [1,7,8,9,66,67,68]),(21,kp [1,66,67,68]),(22,kp [1,66,67,68]),(23,kp [0])],tt:=[(0,121,zR),(1,121,zR),(13,121,zR),(15,3,zI),(17,3,zI),(19,121,zR),(20,121,zR),(22,3,zI),(29,121,zR),(32,3,zI),(34,3,zI),(36,121,zR),(37,121,zR),(49,185,.cons (.int .i64) (.int .i64)),(55,121,zR),(58,3,zI),(61,3,zI),(63,121,zR),(64,121,zR),(66,3,zI),(75,121,zR),(77,3,zI),(79,3,zI),(83,3,zI),(85,3,zI),(88,3,zI),(90,3,zI),(93,3,zI),(95,3,zI),(98,3,zI),(100,3,zI),(103,3,zI),(105,3,zI),(108,3,zI),(110,3,zI),(113,3,zI),(115,3,zI),(117,121,zR),(118,121,zR),(120,121,zR)],lp:=[(3,[1,13]),(8,[1,29]),(13,[1,55]),(18,[1,75])] } [(106,kf106 fu),(107,kf107 fu),(108,kf108 fu)] []
 (k1 (knows106 fu) <| k1 (knows107 fu) <| k1 (knows108 fu) <| k0) (o0) Tryz.func69 (by kernel_rfl) (fun _=>by kernel_rfl)
noncomputable def kf70 (fu:Nat):KF:=⟨⟨[zb],[]⟩,[⟨(.tup [zi,zo]),[]⟩],true,thai_Decode fu⟩
theorem knows70 (fu:Nat):Known Tryz.prog 70 (kf70 fu):=mkK wf shT canT fu { h:=[(0,kp [0]),(1,kp [0,4]),(2,kp [2,3]),(3,kp [0,9]),(4,kp [0,9]),(5,kp [2,3]),(6,kp [2,3])] } [] []
 (k0) (o0) Tryz.func70 (by kernel_rfl) (fun _=>by kernel_rfl)
noncomputable def kf64 (fu:Nat):KF:=⟨⟨[zs],[]⟩,[⟨(.sl (.excl 0) true .bool),[]⟩,⟨zx 121 zR,[]⟩],true,codec_rules fu⟩
theorem knows64 (fu:Nat):Known Tryz.prog 64 (kf64 fu):=mkK wf shT canT fu { h:=[(0,kp [0]),(1,kp [0,3]),(2,kp [3,8]),(3,kp [3,8,9]),(4,kp [2]),(5,kp [3,8,12]),(6,kp [2]),(7,kp [3,8,15]),(8,kp [2]),(9,kp [3,8,18]),(10,kp [2]),(11,kp [3,8,21]),(12,kp [3,23]),(13,kp [3,23,24]),(14,kp [3,4,23]),(15,kp [3,4,5,6,23]),(16,kp [3,4,5,23,32]),(17,kp [3,23]),(18,kp [3,23]),(19,kp [3,42]),(20,kp [3,44]),(21,kp [3,44,45]),(22,kp [3,7,44]),(23,kp [3,44]),(24,kp [3,44]),(25,kp [2])],tt:=[(11,121,zR),(14,121,zR),(17,121,zR),(20,121,zR),(33,121,zR),(35,3,zI),(37,3,zI),(39,121,zR),(40,121,zR),(47,121,zR),(49,3,zI),(51,3,zI),(53,121,zR),(54,121,zR),(56,121,zR)],lp:=[(13,[3,33]),(21,[3,47])],nz:=[(13,[(2,121,zR),(3,121,zR)]),(21,[(2,121,zR),(3,121,zR)])] } [(66,kf66 fu),(67,kf67 fu),(68,kf68 fu),(69,kf69 fu),(70,kf70 fu)] []
 (k1 (knows66 fu) <| k1 (knows67 fu) <| k1 (knows68 fu) <| k1 (knows69 fu) <| k1 (knows70 fu) <| k0) (o0) Tryz.func64 (by kernel_rfl) (fun _=>by kernel_rfl)
noncomputable def kf111 (fu:Nat):KF:=⟨⟨[zv zI,zv zI],[]⟩,[⟨zo,[]⟩],true,slices_Equal_int fu⟩
theorem knows111 (fu:Nat):Known Tryz.prog 111 (kf111 fu):=mkK wf shT canT fu { h:=[(0,kp [0,1]),(1,kp [0,1,10]),(2,kp [4]),(3,kp [0,1,12,13]),(4,kp [0,1,12,13,14]),(5,kp [0,1,5,12,13]),(6,kp [0,1,12,13,24]),(7,kp [4]),(8,kp [0,1,12,13]),(9,kp [4])],tt:=[(0,3,zI),(1,3,zI),(6,3,zI),(8,3,zI),(11,3,zI),(16,3,zI),(20,3,zI)] } [] []
 (k0) (o0) Tryz.func111 (by kernel_rfl) (fun _=>by kernel_rfl)
noncomputable def kf110 (fu:Nat):KF:=⟨⟨[.agg [zv zI,zv zI],.elemv [zv zI] 0],[]⟩,[⟨zo,[]⟩],true,rule_Find_1 fu⟩
theorem knows110 (fu:Nat):Known Tryz.prog 110 (kf110 fu):=mkK wf shT canT fu { h:=[(0,kp [1,2]),(1,kp [3])],tt:=[(5,3,zI),(6,3,zI)] } [(111,kf111 fu)] []
 (k1 (knows111 fu) <| k0) (o0) Tryz.func110 (by kernel_rfl) (fun _=>by kernel_rfl)
noncomputable def kf109find (fu:Nat):KF:=⟨⟨[zv zR,.fn 110 [] [.elemv [zv zI] 0]],[]⟩,[⟨zi,[]⟩],true,slices_IndexFunc_api_Rule_find fu⟩
theorem knows109find (fu:Nat):Known Tryz.prog 109 (kf109find fu):=mkK wf shT canT fu { h:=[(0,kp [0,1]),(1,kp [0,1,7,8]),(2,kp [0,1,7,8,9]),(3,kp [0,1,5,7,8]),(4,kp [0,1,5,7,8,16]),(5,kp [4]),(6,kp [0,1,7,8]),(7,kp [4])],tt:=[(0,121,zR),(6,121,zR),(12,121,zR)] } [(110,kf110 fu)] []
 (k1 (knows110 fu) <| k0) (o0) Tryz.func109 (by kernel_rfl) (fun _=>by kernel_rfl)
noncomputable def kf156 (fu:Nat):KF:=⟨⟨[.agg [zv zI,zv zI],.elemv [zi] 0],[]⟩,[⟨zo,[]⟩],true,table_used_1 fu⟩
theorem knows156 (fu:Nat):Known Tryz.prog 156 (kf156 fu):=mkK wf shT canT fu { h:=[(0,kp [1,2]),(1,kp [3])],tt:=[(5,3,zI),(7,3,zI)] } [] []
 (k0) (o0) Tryz.func156 (by kernel_rfl) (fun _=>by kernel_rfl)
noncomputable def kf109used (fu:Nat):KF:=⟨⟨[zv zR,.fn 156 [] [.elemv [zi] 0]],[]⟩,[⟨zi,[]⟩],true,slices_IndexFunc_api_Rule_used fu⟩
theorem knows109used (fu:Nat):Known Tryz.prog 109 (kf109used fu):=mkK wf shT canT fu { h:=[(0,kp [0,1]),(1,kp [0,1,7,8]),(2,kp [0,1,7,8,9]),(3,kp [0,1,5,7,8]),(4,kp [0,1,5,7,8,16]),(5,kp [4]),(6,kp [0,1,7,8]),(7,kp [4])],tt:=[(0,121,zR),(6,121,zR),(12,121,zR)] } [(156,kf156 fu)] []
 (k1 (knows156 fu) <| k0) (o0) Tryz.func109 (by kernel_rfl) (fun _=>by kernel_rfl)
noncomputable def kf155used (fu:Nat):KF:=⟨⟨[zv zR,.fn 156 [] [.elemv [zi] 0]],[]⟩,[⟨zo,[]⟩],true,slices_ContainsFunc_api_Rule_used fu⟩
theorem knows155used (fu:Nat):Known Tryz.prog 155 (kf155used fu):=mkK wf shT canT fu { h:=[(0,kp [0,1]),(1,kp [4])],tt:=[(0,121,zR),(5,121,zR)] } [(109,kf109find fu),(109,kf109used fu)] []
 (k1 (knows109find fu) <| k1 (knows109used fu) <| k0) (o0) Tryz.func155 (by kernel_rfl) (fun _=>by kernel_rfl)
noncomputable def kf138 (fu:Nat):KF:=⟨⟨[zv zR,zi],[]⟩,[⟨zo,[]⟩],true,table_used fu⟩
theorem knows138 (fu:Nat):Known Tryz.prog 138 (kf138 fu):=mkK wf shT canT fu { h:=[(0,kpf [0,3]),(1,kp [4])],tt:=[(0,121,zR),(5,121,zR)] } [(155,kf155used fu),(156,kf156 fu)] []
 (k1 (knows155used fu) <| k1 (knows156 fu) <| k0) (o0) Tryz.func138 (by kernel_rfl) (fun _=>by kernel_rfl)
noncomputable def kf71 (fu:Nat):KF:=⟨⟨[zv zR,zv zI],[]⟩,[⟨zi,[]⟩],true,rule_Find fu⟩
theorem knows71 (fu:Nat):Known Tryz.prog 71 (kf71 fu):=mkK wf shT canT fu { h:=[(0,kpf [0,3]),(1,kp [4])],tt:=[(0,121,zR),(1,3,zI),(5,121,zR)] } [(109,kf109find fu),(109,kf109used fu),(110,kf110 fu)] []
 (k1 (knows109find fu) <| k1 (knows109used fu) <| k1 (knows110 fu) <| k0) (o0) Tryz.func71 (by kernel_rfl) (fun _=>by kernel_rfl)
noncomputable def kf100 (fu:Nat):KF:=⟨⟨[zv zR],[]⟩,[⟨zo,[]⟩],true,table_closed fu⟩
theorem knows100 (fu:Nat):Known Tryz.prog 100 (kf100 fu):=mkK wf shT canT fu { h:=[(0,kp [0]),(1,kp [0,6,7,8]),(2,kp [0,6,7,8,9]),(3,kp [0,4,6,7,8]),(4,kp [0,4,5,6,7,8]),(5,kp [0,4,5,6,7,8,17]),(6,kp [0,4,5,6,7,8]),(7,kp [0,4,5,6,7,8,38]),(8,kp [2]),(9,kp [0,6,7,8]),(10,kp [2])],tt:=[(0,121,zR),(6,121,zR),(13,3,zI),(20,121,zR),(22,3,zI),(24,3,zI),(31,121,zR),(33,3,zI)] } [(71,kf71 fu),(138,kf138 fu)] []
 (k1 (knows71 fu) <| k1 (knows138 fu) <| k0) (o0) Tryz.func100 (by kernel_rfl) (fun _=>by kernel_rfl)
noncomputable def kf32 (fu:Nat):KF:=⟨⟨[zv zR],[]⟩,[⟨zi,[]⟩],true,rule_Longest fu⟩
theorem knows32 (fu:Nat):Known Tryz.prog 32 (kf32 fu):=mkK wf shT canT fu { h:=[(0,kp [0]),(1,kp [0,3]),(2,kp [0,3,6,7,8]),(3,kp [0,3,6,7,8,9]),(4,kp [0,3,5,6,7,8]),(5,kp [0,3,6,7,8]),(6,kp [0,3,6,7,8]),(7,kp [2])],tt:=[(0,121,zR),(6,121,zR),(14,3,zI)] } [] []
 (k0) (o0) Tryz.func32 (by kernel_rfl) (fun _=>by kernel_rfl)
noncomputable def kf72 (fu:Nat):KF:=⟨⟨[zv zI],[]⟩,[⟨zx 3 zI,[]⟩],true,slices_Clone_int fu⟩
theorem knows72 (fu:Nat):Known Tryz.prog 72 (kf72 fu):=mkK wf shT canT fu { h:=[(0,kp [0]),(1,kp [0,4]),(2,kp [2]),(3,kp [2])],tt:=[(0,3,zI),(2,3,zI),(3,3,zI),(5,3,zI),(6,3,zI),(7,3,zI)] } [] []
 (k0) (o0) Tryz.func72 (by kernel_rfl) (fun _=>by kernel_rfl)
noncomputable def kf33 (fu:Nat):KF:=⟨⟨[zv zR],[]⟩,[⟨zw 121 zR,[]⟩],true,rule_Turn fu⟩
theorem knows33 (fu:Nat):Known Tryz.prog 33 (kf33 fu):=mkK wf shT canT fu { h:=[(0,kp [0]),(1,kp [0,3]),(2,kp [0,3,6,7,8]),(3,kp [0,3,6,7,8,9]),(4,kp [0,3,5,6,7,8]),(5,kp [0,3,5,6,7,8,16]),(6,kp [0,3,6,7,8]),(7,kp [0,3,6,7,8]),(8,kp [2])],tt:=[(0,121,zR),(2,121,zR),(3,121,zR),(6,121,zR),(12,121,zR),(14,3,zI),(17,121,zR),(19,3,zI),(20,3,zI),(22,3,zI),(23,3,zI),(25,121,zR),(26,121,zR),(28,121,zR)] } [(71,kf71 fu),(72,kf72 fu)] []
 (k1 (knows71 fu) <| k1 (knows72 fu) <| k0) (o0) Tryz.func33 (by kernel_rfl) (fun _=>by kernel_rfl)
noncomputable def kf164 (fu:Nat):KF:=⟨⟨[zi],[]⟩,[⟨zo,[]⟩],true,rule_side_1 fu⟩
theorem knows164 (fu:Nat):Known Tryz.prog 164 (kf164 fu):=mkK wf shT canT fu { h:=[(0,kp [0]),(1,kp [2])] } [] []
 (k0) (o0) Tryz.func164 (by kernel_rfl) (fun _=>by kernel_rfl)
noncomputable def kf165side (fu:Nat):KF:=⟨⟨[zv zI,.fn 164 [] []],[]⟩,[⟨zi,[]⟩],true,slices_IndexFunc_int_side fu⟩
theorem knows165side (fu:Nat):Known Tryz.prog 165 (kf165side fu):=mkK wf shT canT fu { h:=[(0,kp [0,1]),(1,kp [0,1,7,8]),(2,kp [0,1,7,8,9]),(3,kp [0,1,5,7,8]),(4,kp [0,1,5,7,8,16]),(5,kp [4]),(6,kp [0,1,7,8]),(7,kp [4])],tt:=[(0,3,zI),(6,3,zI),(12,3,zI)] } [(164,kf164 fu)] []
 (k1 (knows164 fu) <| k0) (o0) Tryz.func165 (by kernel_rfl) (fun _=>by kernel_rfl)
noncomputable def kf163side (fu:Nat):KF:=⟨⟨[zv zI,.fn 164 [] []],[]⟩,[⟨zo,[]⟩],true,slices_ContainsFunc_int_side fu⟩
theorem knows163side (fu:Nat):Known Tryz.prog 163 (kf163side fu):=mkK wf shT canT fu { h:=[(0,kp [0,1]),(1,kp [4])],tt:=[(0,3,zI),(5,3,zI)] } [(165,kf165side fu)] []
 (k1 (knows165side fu) <| k0) (o0) Tryz.func163 (by kernel_rfl) (fun _=>by kernel_rfl)
noncomputable def kf154 (fu:Nat):KF:=⟨⟨[zv zI],[]⟩,[⟨zo,[]⟩],true,rule_side fu⟩
theorem knows154 (fu:Nat):Known Tryz.prog 154 (kf154 fu):=mkK wf shT canT fu { h:=[(0,kp [0]),(1,kp [2])],tt:=[(0,3,zI),(3,3,zI),(7,3,zI),(12,3,zI)] } [(163,kf163side fu),(164,kf164 fu)] []
 (k1 (knows163side fu) <| k1 (knows164 fu) <| k0) (o0) Tryz.func154 (by kernel_rfl) (fun _=>by kernel_rfl)
noncomputable def kf136 (fu:Nat):KF:=⟨⟨[zv zR],[]⟩,[⟨(.tup [zi,zi]),[]⟩],true,rule_Check fu⟩
theorem knows136 (fu:Nat):Known Tryz.prog 136 (kf136 fu):=mkK wf shT canT fu { h:=[(0,kp [0]),(1,kp [0,6,7,8]),(2,kp [0,6,7,8,9]),(3,kp [0,4,5,6,7,8]),(4,kp [0,4,5,6,7,8,13]),(5,kp [2,3]),(6,kp [0,4,5,6,7,8,17]),(7,kp [2,3]),(8,kp [0,4,6,7,8,29]),(9,kp [2,3]),(10,kp [0,6,7,8]),(11,kp [2,3])],tt:=[(0,121,zR),(6,121,zR),(19,3,zI),(24,3,zI),(30,121,zR),(32,121,zR),(34,3,zI)] } [(71,kf71 fu),(154,kf154 fu)] []
 (k1 (knows71 fu) <| k1 (knows154 fu) <| k0) (o0) Tryz.func136 (by kernel_rfl) (fun _=>by kernel_rfl)
noncomputable def kf137 (fu:Nat):KF:=⟨⟨[zE,zi,zi],[]⟩,[⟨(.tup [zi,zo]),[]⟩],true,trie_Trie_Step fu⟩
theorem knows137 (fu:Nat):Known Tryz.prog 137 (kf137 fu):=mkK wf shT canT fu { h:=[(0,kp [0,1,2]),(1,kp [0,1,2,19]),(2,kp [6,7]),(3,kp [0,2,8]),(4,kp [0,2,8,29]),(5,kp [0,2,8]),(6,kp [0,2,8,47]),(7,kp [6,7]),(8,kp [6,7])],tt:=[(16,223,zN),(23,223,zN),(33,223,zN),(41,223,zN)] } [] []
 (k0) (o0) Tryz.func137 (by kernel_rfl) (fun _=>by kernel_rfl)
noncomputable def kf137box (fu:Nat):KF:=⟨⟨[.ptr 0 0,zi,zi],[(226,[zx 223 zN,zw 121 zR])]⟩,[⟨(.tup [zi,zo]),[(226,[zx 223 zN,zw 121 zR])]⟩],false,trie_Trie_Step_box fu⟩
theorem knows137box (fu:Nat):Known Tryz.prog 137 (kf137box fu):=mkK wf shT canT fu { h:=[(0,kp [0,1,2]),(1,kp [0,1,2,19]),(2,kp [6,7]),(3,kp [0,2,8]),(4,kp [0,2,8,29]),(5,kp [0,2,8]),(6,kp [0,2,8,47]),(7,kp [6,7]),(8,kp [6,7])],tt:=[(16,223,zN),(23,223,zN),(33,223,zN),(41,223,zN)] } [] []
 (k0) (o0) Tryz.func137 (by kernel_rfl) (fun _=>by kernel_rfl)
noncomputable def kf99 (fu:Nat):KF:=⟨⟨[zv zR],[]⟩,[⟨(.tup [.nilp,zi]),[]⟩,⟨(.tup [zE,zi]),[]⟩],true,trie_Of fu⟩
theorem knows99 (fu:Nat):Known Tryz.prog 99 (kf99 fu):=mkK wf shT canT fu { h:=[(0,kp [0]),(1,kp [0,5]),(2,kp [0,5,20]),(3,kp [2,3]),(4,kp [0,6]),(5,kp [0,6,26,27,28]),(6,kp [0,6,26,27,28,29]),(7,kp [0,6,7,8,26,27,28]),(8,kp [0,6,7,8,9,26,27,28]),(9,kp [0,6,7,8,9,26,27,28]),(10,kp [0,6,7,9,26,27,28,47,48,49]),(11,kp [0,6,7,9,26,27,28,47,48,49,50]),(12,kp [0,6,7,9,11,26,27,28,47,48,49]),(13,kp [0,6,7,9,11,12,13,26,27,28,47,48,49]),(14,kp [0,6,7,9,11,12,26,27,28,47,48,49,61]),(15,kp [0,6,7,9,11,12,26,27,28,47,48,49]),(16,kp [0,6,7,9,12,26,27,28,47,48,49]),(17,kp [0,6,7,12,26,27,28,47,48,49]),(18,kp [0,6,7,9,26,27,28,47,48,49]),(19,kp [0,6,7,9,26,27,28,47,48,49]),(20,kp [0,6,26,27,28]),(21,kp [0,6,26,27,28]),(22,kpf [2,3])],tt:=[(0,121,zR),(15,121,zR),(23,223,zN),(26,121,zR),(37,121,zR),(39,3,zI),(40,3,zI),(42,121,zR),(43,121,zR),(47,3,zI),(65,223,zN),(71,223,zN),(76,223,zN),(82,223,zN),(83,223,zN),(89,223,zN),(99,223,zN)],lp:=[(6,[89,99]),(11,[89,99])] } [(136,kf136 fu),(137,kf137 fu),(137,kf137box fu)] []
 (k1 (knows136 fu) <| k1 (knows137 fu) <| k1 (knows137box fu) <| k0) (o0) Tryz.func99 (by kernel_rfl) (fun _=>by kernel_rfl)
noncomputable def kf65 (fu:Nat):KF:=⟨⟨[zv zR],[]⟩,[⟨.tup [.nilp,zi],[]⟩,⟨.tup [zA,zi],[]⟩],true,table_Of fu⟩
theorem knows65 (fu:Nat):Known Tryz.prog 65 (kf65 fu):=mkK wf shT canT fu { h:=[(0,kp [0]),(1,kp [0,4,5]),(2,kp [0,4,5,14]),(3,kp [2,3]),(4,kp [0,4,18]),(5,kp [2,3]),(6,kp [0,4,6]),(7,kp [6,7]),(8,kp [5,7]),(9,kpf [2,3])],tt:=[(0,121,zR),(6,121,zR),(9,121,zR),(16,121,zR),(19,121,zR),(20,121,zR),(21,121,zR),(23,121,zR),(30,121,zR)] } [(32,kf32 fu),(33,kf33 fu),(99,kf99 fu),(100,kf100 fu)] []
 (k1 (knows32 fu) <| k1 (knows33 fu) <| k1 (knows99 fu) <| k1 (knows100 fu) <| k0) (o0) Tryz.func65 (by kernel_rfl) (fun _=>by kernel_rfl)
noncomputable def kf29 (fu:Nat):KF:=⟨⟨[zs],[]⟩,[⟨.nilp,[]⟩,⟨(.elemv [zi,zi,zE,zE] 0),[]⟩],true,codec_Table fu⟩
theorem knows29 (fu:Nat):Known Tryz.prog 29 (kf29 fu):=mkK wf shT canT fu { h:=[(0,kp [0]),(1,kp [0,7]),(2,kp [2]),(3,kp [3]),(4,kp [2])],tt:=[(6,121,zR),(10,121,zR)] } [(64,kf64 fu),(65,kf65 fu)] []
 (k1 (knows64 fu) <| k1 (knows65 fu) <| k0) (o0) Tryz.func29 (by kernel_rfl) (fun _=>by kernel_rfl)
noncomputable def kf93 (fu:Nat):KF:=⟨⟨[zE],[]⟩,[⟨(.ptr 0 0),[(216,[zE,zw 3 zI,zi,zi])]⟩],false,match_Of fu⟩
theorem knows93 (fu:Nat):Known Tryz.prog 93 (kf93 fu):=mkK wf shT canT fu { h:=[(0,kp [0]),(1,kp [2])] } [] []
 (k0) (o0) Tryz.func93 (by kernel_rfl) (fun _=>by kernel_rfl)
noncomputable def kf94 (fu:Nat):KF:=⟨⟨[zA],[]⟩,[⟨zE,[]⟩],true,table_Table_Read fu⟩
theorem knows94 (fu:Nat):Known Tryz.prog 94 (kf94 fu):=mkK wf shT canT fu { h:=[(0,kp [0]),(1,kp [2])] } [] []
 (k0) (o0) Tryz.func94 (by kernel_rfl) (fun _=>by kernel_rfl)
noncomputable def kf57 (fu:Nat):KF:=⟨⟨[zA],[]⟩,[⟨(.ifc 168 (.ptr 1 0)),[(216,[zE,zw 3 zI,zi,zi]),(173,[(.ptr 0 0)])]⟩],false,machine_Decode fu⟩
theorem knows57 (fu:Nat):Known Tryz.prog 57 (kf57 fu):=mkK wf shT canT fu { h:=[(0,kp [0]),(1,kp [2])] } [(93,kf93 fu),(94,kf94 fu)] []
 (k1 (knows93 fu) <| k1 (knows94 fu) <| k0) (o0) Tryz.func57 (by kernel_rfl) (fun _=>by kernel_rfl)
noncomputable def kf162 (fu:Nat):KF:=⟨⟨[],[]⟩,[⟨(.agg [zi,zi,zi,zi,zi,zi,zi,zi,zi,zi,zi,zi,zi,zi,zi,zi,zi,zi,zi,zi,zi,zi,zi,zi,zi,zi,zi,zi,zi,zi,zi,zi,zi,zi,zi,zi,zi,zi,zi,zi,zi,zi,zi,zi,zi,zi,zi,zi,zi,zi,zi,zi,zi,zi,zi,zi,zi,zi,zi,zi,zi,zi,zi,zi,zi,zi,zi,zi,zi,zi,zi,zi,zi,zi]),[]⟩],true,indic_places fu⟩
theorem knows162 (fu:Nat):Known Tryz.prog 162 (kf162 fu):=mkK wf shT canT fu { h:=[(0,kp [0]),(1,kp [0])] } [] []
 (k0) (o0) Tryz.func162 (by kernel_rfl) (fun _=>by kernel_rfl)
noncomputable def kf151 (fu:Nat):KF:=⟨⟨[zb],[]⟩,[⟨(.tup [zi,zo]),[]⟩],true,indic_Place fu⟩
theorem knows151 (fu:Nat):Known Tryz.prog 151 (kf151 fu):=mkK wf shT canT fu { h:=[(0,kp [0]),(1,kp [0,5]),(2,kp [4]),(3,kp [2,3]),(4,kp [0,20]),(5,kp [2,3]),(6,kp [2,3])] } [(162,kf162 fu)] []
 (k1 (knows162 fu) <| k0) (o0) Tryz.func151 (by kernel_rfl) (fun _=>by kernel_rfl)
noncomputable def kf152 (fu:Nat):KF:=⟨⟨[],[]⟩,[⟨(.sl (.excl 185) false (.cons zI zI)),[]⟩],true,indic_Nukta fu⟩
theorem knows152 (fu:Nat):Known Tryz.prog 152 (kf152 fu):=mkK wf shT canT fu { h:=[(0,kp []),(1,kp [0])],tt:=[(0,185,.cons (.int .i64) (.int .i64)),(15,185,.cons (.int .i64) (.int .i64))] } [] []
 (k0) (o0) Tryz.func152 (by kernel_rfl) (fun _=>by kernel_rfl)
noncomputable def kf153 (fu:Nat):KF:=⟨⟨[zi],[]⟩,[⟨zi,[]⟩],true,indic_code fu⟩
theorem knows153 (fu:Nat):Known Tryz.prog 153 (kf153 fu):=mkK wf shT canT fu { h:=[(0,kp [0]),(1,kp [2])] } [] []
 (k0) (o0) Tryz.func153 (by kernel_rfl) (fun _=>by kernel_rfl)
noncomputable def kf128 (fu:Nat):KF:=⟨⟨[],[]⟩,[⟨zx 121 zR,[]⟩],true,indic_Rules fu⟩
theorem knows128 (fu:Nat):Known Tryz.prog 128 (kf128 fu):=mkK wf shT canT fu { h:=[(0,kp []),(1,kp [1]),(2,kp [1,9]),(3,kp [1,9,10]),(4,kp [1,2,9]),(5,kp [1,9]),(6,kp [1,9]),(7,kp [1,3]),(8,kp [1,3,23]),(9,kp [1,3]),(10,kp [1,3,4,5]),(11,kp [1,3,4,32]),(12,kp [1,3]),(13,kp [1,41,42,43]),(14,kp [1,41,42,43,44]),(15,kp [1,7,41,42,43]),(16,kp [1,41,42,43]),(17,kp [1,41,42,43]),(18,kp [1,58]),(19,kp [1,58,59]),(20,kp [1,8,58]),(21,kp [1,58]),(22,kp [1,58]),(23,kp [0])],tt:=[(0,121,zR),(1,121,zR),(12,121,zR),(14,3,zI),(17,3,zI),(19,121,zR),(20,121,zR),(33,121,zR),(35,3,zI),(37,3,zI),(39,121,zR),(40,121,zR),(41,185,.cons (.int .i64) (.int .i64)),(47,121,zR),(50,3,zI),(53,3,zI),(55,121,zR),(56,121,zR),(61,121,zR),(64,3,zI),(67,3,zI),(69,121,zR),(70,121,zR),(72,121,zR),(73,3,zI),(74,3,zI),(76,3,zI),(77,3,zI),(79,3,zI),(80,3,zI),(82,3,zI),(83,3,zI),(85,3,zI),(86,3,zI),(88,3,zI),(89,3,zI),(91,3,zI),(92,3,zI),(94,121,zR),(95,121,zR)],lp:=[(3,[1,12]),(8,[1,33]),(14,[1,47]),(19,[1,61])] } [(151,kf151 fu),(152,kf152 fu),(153,kf153 fu)] []
 (k1 (knows151 fu) <| k1 (knows152 fu) <| k1 (knows153 fu) <| k0) (o0) Tryz.func128 (by kernel_rfl) (fun _=>by kernel_rfl)
noncomputable def kf92 (fu:Nat):KF:=⟨⟨[],[]⟩,[⟨zA,[]⟩],true,iscii_all fu⟩
theorem knows92 (fu:Nat):Known Tryz.prog 92 (kf92 fu):=mkK wf shT canT fu { h:=[(0,kp []),(1,kp [1]),(2,kp [0])],tt:=[(4,121,zR)] } [(65,kf65 fu),(128,kf128 fu)] []
 (k1 (knows65 fu) <| k1 (knows128 fu) <| k0) (o0) Tryz.func92 (by kernel_rfl) (fun _=>by kernel_rfl)
noncomputable def kf56 (fu:Nat):KF:=⟨⟨[],[]⟩,[⟨(.ptr 2 0),[(216,[zE,zw 3 zI,zi,zi]),(173,[(.ptr 0 0)]),(167,[(.ifc 168 (.ptr 1 0)),zi])]⟩],false,iscii_Decode fu⟩
theorem knows56 (fu:Nat):Known Tryz.prog 56 (kf56 fu):=mkK wf shT canT fu { h:=[(0,kp []),(1,kp [0])] } [(57,kf57 fu),(92,kf92 fu)] []
 (k1 (knows57 fu) <| k1 (knows92 fu) <| k0) (o0) Tryz.func56 (by kernel_rfl) (fun _=>by kernel_rfl)
noncomputable def kf21 (fu:Nat):KF:=⟨⟨[zs],[]⟩,[⟨.tup [.nili,zi],[]⟩,⟨.tup [.oref 0,zi],[(0,[.fam altsDec])]⟩],false,codec_Decode fu⟩
theorem knows21 (fu:Nat):Known Tryz.prog 21 (kf21 fu):=mkK wf shT canT fu { h:=[(0,kp [0]),(1,kp [4,5]),(2,kp [4,5,11]),(3,kp [2,3]),(4,kp [4,15]),(5,kp [2,3]),(6,kp [4,21]),(7,kp [2,3]),(8,kp [2,3])] } [(18,kf18 fu),(29,kf29 fu),(56,kf56 fu),(57,kf57 fu)] []
 (k1 (knows18 fu) <| k1 (knows29 fu) <| k1 (knows56 fu) <| k1 (knows57 fu) <| k0) (o0) Tryz.func21 (by kernel_rfl) (fun _=>by kernel_rfl)
noncomputable def kf98 (fu:Nat):KF:=⟨⟨[zA],[]⟩,[⟨zE,[]⟩],true,table_Table_Write fu⟩
theorem knows98 (fu:Nat):Known Tryz.prog 98 (kf98 fu):=mkK wf shT canT fu { h:=[(0,kp [0]),(1,kp [2])] } [] []
 (k0) (o0) Tryz.func98 (by kernel_rfl) (fun _=>by kernel_rfl)
noncomputable def kf63 (fu:Nat):KF:=⟨⟨[zA],[]⟩,[⟨(.ptr 1 0),[(216,[zE,zw 3 zI,zi,zi]),(179,[(.ptr 0 0),(.elemv [zi,zi,zE,zE] 0),zv zI])]⟩],false,machine_Encode fu⟩
theorem knows63 (fu:Nat):Known Tryz.prog 63 (kf63 fu):=mkK wf shT canT fu { h:=[(0,kp [0]),(1,kp [2])] } [(93,kf93 fu),(98,kf98 fu)] []
 (k1 (knows93 fu) <| k1 (knows98 fu) <| k0) (o0) Tryz.func63 (by kernel_rfl) (fun _=>by kernel_rfl)
noncomputable def kf62 (fu:Nat):KF:=⟨⟨[],[]⟩,[⟨(.ptr 2 0),[(216,[zE,zw 3 zI,zi,zi]),(179,[(.ptr 0 0),(.elemv [zi,zi,zE,zE] 0),zv zI]),(177,[(.ptr 1 0),zi,zi,zi])]⟩],false,iscii_Encode fu⟩
theorem knows62 (fu:Nat):Known Tryz.prog 62 (kf62 fu):=mkK wf shT canT fu { h:=[(0,kp []),(1,kp [0])] } [(63,kf63 fu),(92,kf92 fu)] []
 (k1 (knows63 fu) <| k1 (knows92 fu) <| k0) (o0) Tryz.func62 (by kernel_rfl) (fun _=>by kernel_rfl)
noncomputable def kf26 (fu:Nat):KF:=⟨⟨[zs],[]⟩,[⟨.tup [.nili,zi],[]⟩,⟨.tup [.oref 0,zi],[(0,[.fam altsEnc])]⟩],false,codec_Encode fu⟩
theorem knows26 (fu:Nat):Known Tryz.prog 26 (kf26 fu):=mkK wf shT canT fu { h:=[(0,kp [0]),(1,kp [4,5]),(2,kp [4,5,11]),(3,kp [2,3]),(4,kp [4,15]),(5,kp [2,3]),(6,kp [4,21]),(7,kp [2,3]),(8,kp [2,3])] } [(18,kf18 fu),(29,kf29 fu),(62,kf62 fu),(63,kf63 fu)] []
 (k1 (knows18 fu) <| k1 (knows29 fu) <| k1 (knows62 fu) <| k1 (knows63 fu) <| k0) (o0) Tryz.func26 (by kernel_rfl) (fun _=>by kernel_rfl)
noncomputable def kf76new (fu:Nat):KF:=⟨⟨[.ptr 0 0],[(132,[zs,zs,zi,.nili,.nili,zw 5 zB,zi,zi,zi,zo,zo])]⟩,[⟨.tup [],[(132,[zs,zs,zi,.oref 1,.oref 2,zw 5 zB,zi,zi,zi,zo,zo]),(0,[.fam altsDec]),(0,[.fam altsEnc])]⟩],false,stream_Stream_Reset_new fu⟩
theorem knows76new (fu:Nat):Known Tryz.prog 76 (kf76new fu):=mkK wf shT canT fu { h:=[(0,kp [0]),(1,kp [0]),(2,kp [])] } [(21,kf21 fu),(26,kf26 fu)] []
 (k1 (knows21 fu) <| k1 (knows26 fu) <| k0) (o0) Tryz.func76 (by kernel_rfl) (fun _=>by kernel_rfl)
noncomputable def kf40 (fu:Nat):KF:=⟨⟨[zs,zs,zi],[]⟩,[⟨.tup [.nilp,zi],[]⟩,⟨.tup [.ptr 0 0,zi],[(132,[zs,zs,zi,.oref 1,.oref 2,zw 5 zB,zi,zi,zi,zo,zo]),(0,[.fam altsDec]),(0,[.fam altsEnc])]⟩],false,stream_Open fu⟩
theorem knows40 (fu:Nat):Known Tryz.prog 40 (kf40 fu):=mkK wf shT canT fu { h:=[(0,kp [0,1,2]),(1,kp [1,2,8,9]),(2,kp [1,2,8,9,18]),(3,kp [6,7]),(4,kp [2,8,9,10]),(5,kp [2,8,9,10,25]),(6,kp [6,7]),(7,kp [2,8,10,29]),(8,kp [6,7]),(9,kp [11]),(10,kp [11]),(11,kp [6,7])] } [(18,kf18 fu),(76,kf76new fu)] []
 (k1 (knows18 fu) <| k1 (knows76new fu) <| k0) (o0) Tryz.func40 (by kernel_rfl) (fun _=>by kernel_rfl)
noncomputable def kf157 (fu:Nat):KF:=⟨⟨[zE,zi],[]⟩,[⟨zi,[]⟩],true,trie_Trie_Rule fu⟩
theorem knows157 (fu:Nat):Known Tryz.prog 157 (kf157 fu):=mkK wf shT canT fu { h:=[(0,kp [0,1]),(1,kp [0,1,15]),(2,kp [4]),(3,kp [4])],tt:=[(12,223,zN),(19,223,zN)] } [] []
 (k0) (o0) Tryz.func157 (by kernel_rfl) (fun _=>by kernel_rfl)
noncomputable def kf158 (fu:Nat):KF:=⟨⟨[zE,zi],[]⟩,[⟨zo,[]⟩],true,trie_Trie_Leaf fu⟩
theorem knows158 (fu:Nat):Known Tryz.prog 158 (kf158 fu):=mkK wf shT canT fu { h:=[(0,kp [0,1]),(1,kp [4])],tt:=[(12,223,zN),(20,223,zN)] } [] []
 (k0) (o0) Tryz.func158 (by kernel_rfl) (fun _=>by kernel_rfl)
noncomputable def kf144 (fu:Nat):KF:=⟨⟨[zE,zv zI],[]⟩,[⟨(.tup [zi,zi,zo]),[]⟩],true,trie_Trie_Longest fu⟩
theorem knows144 (fu:Nat):Known Tryz.prog 144 (kf144 fu):=mkK wf shT canT fu { h:=[(0,kp [0,1]),(1,kp [0,1,7,8,9]),(2,kp [0,1,7,8,9,15,16,17]),(3,kp [0,1,7,8,9,15,16,17,18]),(4,kp [0,1,7,8,9,10,11,15,16,17]),(5,kp [0,1,7,8,10,12,13,15,16,17]),(6,kp [0,1,7,8,10,12,15,16,17,30]),(7,kp [4,5,6]),(8,kp [0,1,7,8,9,10,15,16,17]),(9,kp [0,1,7,8,9,10,14,15,16,17]),(10,kp [0,1,7,8,9,10,14,15,16,17,38]),(11,kp [0,1,7,8,9,15,16,17]),(12,kp [0,1,7,8,9,15,16,17]),(13,kp [4,5,6])],tt:=[(1,3,zI),(15,3,zI)] } [(137,kf137 fu),(137,kf137box fu),(157,kf157 fu),(158,kf158 fu)] []
 (k1 (knows137 fu) <| k1 (knows137box fu) <| k1 (knows157 fu) <| k1 (knows158 fu) <| k0) (o0) Tryz.func144 (by kernel_rfl) (fun _=>by kernel_rfl)
noncomputable def kf212 (fu:Nat):KF:=⟨⟨[zA,zv zI,zv zI],[]⟩,[⟨zo,[]⟩],true,table_Table_Joins fu⟩
theorem knows212 (fu:Nat):Known Tryz.prog 212 (kf212 fu):=mkK wf shT canT fu { h:=[(0,kp [0,1,2]),(1,kp [0,1,2,12]),(2,kp [6]),(3,kp [1,8]),(4,kp [6])],tt:=[(1,3,zI),(2,3,zI),(10,3,zI),(18,3,zI),(19,3,zI),(20,3,zI),(21,3,zI),(27,3,zI)] } [(72,kf72 fu),(144,kf144 fu)] []
 (k1 (knows72 fu) <| k1 (knows144 fu) <| k0) (o0) Tryz.func212 (by kernel_rfl) (fun _=>by kernel_rfl)
noncomputable def kf210 (fu:Nat):KF:=⟨⟨[zA,zv zI,.agg [zi,zi,zv zI,zi]],[]⟩,[⟨(.agg [zi,zi,zv zI,zi]),[]⟩],true,table_Table_Join fu⟩
theorem knows210 (fu:Nat):Known Tryz.prog 210 (kf210 fu):=mkK wf shT canT fu { h:=[(0,kp [0,1,5,6]),(1,kp [5,6,16]),(2,kp [6]),(3,kp [6])],tt:=[(1,3,zI),(12,3,zI),(14,3,zI)] } [(212,kf212 fu)] []
 (k1 (knows212 fu) <| k0) (o0) Tryz.func210 (by kernel_rfl) (fun _=>by kernel_rfl)
noncomputable def kf206 (fu:Nat):KF:=⟨⟨[.ptr 0 0,zx 47 zT],[(179,[.ptr 1 0,zA,zv zI]),(216,[zE,zw 3 zI,zi,zi])]⟩,[⟨zx 47 zT,[(179,[(.ptr 1 0),(.elemv [zi,zi,zE,zE] 0),zv zI]),(216,[zE,zw 3 zI,zi,zi])]⟩],false,machine_Encoder_join fu⟩
theorem knows206 (fu:Nat):Known Tryz.prog 206 (kf206 fu):=mkK wf shT canT fu { h:=[(0,kp [0,1]),(1,kp [0,1,7,8,9]),(2,kp [0,1,7,8,9,10]),(3,kp [0,1,5,6,7,8,9]),(4,kp [0,1,5,6,7,8,9]),(5,kp [0,1,6,7,8,9,32]),(6,kp [0,1,7,8,9]),(7,kp [0,1,7,8,9]),(8,kp [4])],tt:=[(1,47,zT),(4,47,zT),(7,47,zT),(14,47,zT),(23,3,zI),(27,47,zT),(35,3,zI),(39,47,zT)],lp:=[(2,[1,4,7,14,27,39])] } [(210,kf210 fu)] []
 (k1 (knows210 fu) <| k0) (o0) Tryz.func206 (by kernel_rfl) (fun _=>by kernel_rfl)
noncomputable def kf145 (fu:Nat):KF:=⟨⟨[zE,zi],[]⟩,[⟨zx 3 zI,[]⟩],true,trie_Trie_Out fu⟩
theorem knows145 (fu:Nat):Known Tryz.prog 145 (kf145 fu):=mkK wf shT canT fu { h:=[(0,kp [0,1]),(1,kp [0,1,15]),(2,kp [4]),(3,kp [4])],tt:=[(4,3,zI),(12,121,zR),(19,121,zR),(23,3,zI),(24,3,zI)] } [] []
 (k0) (o0) Tryz.func145 (by kernel_rfl) (fun _=>by kernel_rfl)
noncomputable def kf211 (fu:Nat):KF:=⟨⟨[.ptr 0 0,zo],[(216,[zE,zw 3 zI,zi,zi])]⟩,[⟨zx 47 zT,[(216,[zE,zw 3 zI,zi,zi])]⟩],false,match_Match_take fu⟩
theorem knows211 (fu:Nat):Known Tryz.prog 211 (kf211 fu):=mkK wf shT canT fu { h:=[(0,kp [0,1]),(1,kp [0,1,5]),(2,kp [0,1,5,15]),(3,kp [0,1,5,6,7,8]),(4,kp [0,1,5,6,7,8]),(5,kp [0,1,5,6,7,45]),(6,kp [0,1,5,6,9]),(7,kp [0,1,5,6,9,54]),(8,kp [0,1,5,9]),(9,kp [0,1,5,9]),(10,kp [0,1,5,9]),(11,kp [0,1,5,9]),(12,kp [0,1,5]),(13,kp [4])],tt:=[(4,47,zT),(5,47,zT),(13,3,zI),(24,3,zI),(36,3,zI),(61,3,zI),(63,47,zT),(65,47,zT),(66,47,zT),(71,3,zI),(74,3,zI),(75,3,zI),(87,47,zT)],lp:=[(2,[5,63])] } [(144,kf144 fu),(145,kf145 fu)] []
 (k1 (knows144 fu) <| k1 (knows145 fu) <| k0) (o0) Tryz.func211 (by kernel_rfl) (fun _=>by kernel_rfl)
noncomputable def kf207 (fu:Nat):KF:=⟨⟨[.ptr 0 0],[(216,[zE,zw 3 zI,zi,zi])]⟩,[⟨zx 47 zT,[(216,[zE,zw 3 zI,zi,zi])]⟩],false,match_Match_End fu⟩
theorem knows207 (fu:Nat):Known Tryz.prog 207 (kf207 fu):=mkK wf shT canT fu { h:=[(0,kp [0]),(1,kp [2])],tt:=[(2,47,zT),(4,47,zT)] } [(211,kf211 fu)] []
 (k1 (knows211 fu) <| k0) (o0) Tryz.func207 (by kernel_rfl) (fun _=>by kernel_rfl)
noncomputable def kf200 (fu:Nat):KF:=⟨⟨[.ptr 0 0],[(179,[.ptr 1 0,zA,zv zI]),(216,[zE,zw 3 zI,zi,zi])]⟩,[⟨zx 47 zT,[(179,[(.ptr 1 0),(.elemv [zi,zi,zE,zE] 0),zv zI]),(216,[zE,zw 3 zI,zi,zi])]⟩],false,machine_Encoder_End fu⟩
theorem knows200 (fu:Nat):Known Tryz.prog 200 (kf200 fu):=mkK wf shT canT fu { h:=[(0,kp [0]),(1,kp [2])],tt:=[(2,47,zT),(8,47,zT),(9,47,zT)] } [(206,kf206 fu),(207,kf207 fu)] []
 (k1 (knows206 fu) <| k1 (knows207 fu) <| k0) (o0) Tryz.func200 (by kernel_rfl) (fun _=>by kernel_rfl)
noncomputable def kf209 (fu:Nat):KF:=⟨⟨[.ptr 0 0,zi],[(216,[zE,zw 3 zI,zi,zi])]⟩,[⟨zx 47 zT,[(216,[zE,zw 3 zI,zi,zi])]⟩],false,match_Match_Put fu⟩
theorem knows209 (fu:Nat):Known Tryz.prog 209 (kf209 fu):=mkK wf shT canT fu { h:=[(0,kp [0,1]),(1,kp [0]),(2,kp [4])],tt:=[(4,47,zT),(9,3,zI),(11,3,zI),(12,3,zI),(16,47,zT)] } [(211,kf211 fu)] []
 (k1 (knows211 fu) <| k0) (o0) Tryz.func209 (by kernel_rfl) (fun _=>by kernel_rfl)
noncomputable def kf205 (fu:Nat):KF:=⟨⟨[.ptr 0 0,zi],[(179,[.ptr 1 0,zA,zv zI]),(216,[zE,zw 3 zI,zi,zi])]⟩,[⟨zx 47 zT,[(179,[(.ptr 1 0),(.elemv [zi,zi,zE,zE] 0),zv zI]),(216,[zE,zw 3 zI,zi,zi])]⟩],false,machine_Encoder_Put fu⟩
theorem knows205 (fu:Nat):Known Tryz.prog 205 (kf205 fu):=mkK wf shT canT fu { h:=[(0,kp [0,1]),(1,kp [4])],tt:=[(4,47,zT),(11,47,zT),(12,47,zT)] } [(206,kf206 fu),(209,kf209 fu)] []
 (k1 (knows206 fu) <| k1 (knows209 fu) <| k0) (o0) Tryz.func205 (by kernel_rfl) (fun _=>by kernel_rfl)
noncomputable def kf113 (fu:Nat):KF:=⟨⟨[.ptr 0 0,zi,.agg [zi,zi,zv zI,zi]],[(132,[zs,zs,zi,.oref 1,.oref 2,zw 5 zB,zi,zi,zi,zo,zo]),(0,[.fam altsDec]),(0,[.fam altsEnc])]⟩,[⟨zo,[(132,[zs,zs,zi,(.oref 1),(.oref 2),zw 5 zB,zi,zi,zi,zo,zo]),(0,[(.fam [(.tup [(.ifc 168 (.ptr 1 0)),(.ifc 216 (.agg [zE,zw 3 zI,zi,zi])),(.ifc 173 (.agg [(.ptr 0 0)]))]),(.tup [(.ifc 94 (.ptr 0 0)),(.ifc 98 (.agg [zw 5 zB,zi]))]),(.tup [(.ifc 99 (.ptr 2 0)),(.ifc 216 (.agg [zE,zw 3 zI,zi,zi])),(.ifc 173 (.agg [(.ptr 0 0)])),(.ifc 167 (.agg [(.ifc 168 (.ptr 1 0)),zi]))])])]),(0,[(.fam [(.tup [(.ifc 112 (.ptr 1 0)),(.ifc 216 (.agg [zE,zw 3 zI,zi,zi])),(.ifc 179 (.agg [(.ptr 0 0),(.elemv [zi,zi,zE,zE] 0),zv zI]))]),(.tup [(.ifc 107 (.ptr 0 0)),(.ifc 109 (.agg [zi]))]),(.tup [(.ifc 110 (.ptr 2 0)),(.ifc 216 (.agg [zE,zw 3 zI,zi,zi])),(.ifc 179 (.agg [(.ptr 0 0),(.elemv [zi,zi,zE,zE] 0),zv zI])),(.ifc 177 (.agg [(.ptr 1 0),zi,zi,zi]))])])])]⟩],false,stream_Stream_wrong fu⟩
theorem knows113 (fu:Nat):Known Tryz.prog 113 (kf113 fu):=mkK wf shT canT fu { h:=[(0,kp [0,1,5]),(1,kp [0,1,5,11]),(2,kp []),(3,kp [6]),(4,kp [6])] } [] []
 (k0) (o0) Tryz.func113 (by kernel_rfl) (fun _=>by kernel_rfl)
noncomputable def kf78 (fu:Nat):KF:=⟨⟨[.ptr 0 0,zv zT],[(132,[zs,zs,zi,.oref 1,.oref 2,zw 5 zB,zi,zi,zi,zo,zo]),(0,[.fam altsDec]),(0,[.fam altsEnc])]⟩,[⟨(.tup []),[(132,[zs,zs,zi,(.oref 1),(.oref 2),zw 5 zB,zi,zi,zi,zo,zo]),(0,[(.fam [(.tup [(.ifc 168 (.ptr 1 0)),(.ifc 216 (.agg [zE,zw 3 zI,zi,zi])),(.ifc 173 (.agg [(.ptr 0 0)]))]),(.tup [(.ifc 94 (.ptr 0 0)),(.ifc 98 (.agg [zw 5 zB,zi]))]),(.tup [(.ifc 99 (.ptr 2 0)),(.ifc 216 (.agg [zE,zw 3 zI,zi,zi])),(.ifc 173 (.agg [(.ptr 0 0)])),(.ifc 167 (.agg [(.ifc 168 (.ptr 1 0)),zi]))])])]),(0,[(.fam [(.tup [(.ifc 112 (.ptr 1 0)),(.ifc 216 (.agg [zE,zw 3 zI,zi,zi])),(.ifc 179 (.agg [(.ptr 0 0),(.elemv [zi,zi,zE,zE] 0),zv zI]))]),(.tup [(.ifc 107 (.ptr 0 0)),(.ifc 109 (.agg [zi]))]),(.tup [(.ifc 110 (.ptr 2 0)),(.ifc 216 (.agg [zE,zw 3 zI,zi,zi])),(.ifc 179 (.agg [(.ptr 0 0),(.elemv [zi,zi,zE,zE] 0),zv zI])),(.ifc 177 (.agg [(.ptr 1 0),zi,zi,zi]))])])])]⟩],false,stream_Stream_written fu⟩
theorem knows78 (fu:Nat):Known Tryz.prog 78 (kf78 fu):=mkK wf shT canT fu { h:=[(0,kp [0,1,8,9,10]),(1,kp [0,1,8,9,10,11]),(2,kp [0,1,5,8,9,10]),(3,kp [0,1,5,8,9,10,14]),(4,kp [0,1,5,8,9,10,21]),(5,kp [0,1,8,9,10,26,27,28]),(6,kp [0,1,8,9,10,26,27,28,29]),(7,kp [0,1,7,8,9,10,26,27,28]),(8,kp [0,1,8,9,10,26,27,28]),(9,kp [0,1,8,9,10,26,27,28]),(10,kp [0,1,8,9,10,44]),(11,kp [0,1,8,9,10]),(12,kp [0,1,8,9,10])],tt:=[(1,47,zT),(8,47,zT),(26,3,zI),(36,5,zB),(39,5,zB),(40,5,zB),(60,5,zB),(61,5,zB),(62,5,zB)] } [(113,kf113 fu)] []
 (k1 (knows113 fu) <| k0) (o0) Tryz.func78 (by kernel_rfl) (fun _=>by kernel_rfl)
noncomputable def kf185 (fu:Nat):KF:=⟨⟨[.ptr 0 0,zi,zi,zi],[(98,[zw 5 zB,zi])]⟩,[⟨(.agg [zi,zi,zv zI,zi]),[(98,[zw 5 zB,zi])]⟩],false,carry_Reader_take fu⟩
theorem knows185 (fu:Nat):Known Tryz.prog 185 (kf185 fu):=mkK wf shT canT fu { h:=[(0,kp [0,1,2,3,8]),(1,kp [0,1,2,3,8,9]),(2,kp [0,1,2,8,9,18]),(3,kp [0,2,8,9]),(4,kp [0,2,8,9]),(5,kp [8,9]),(6,kp [8])],tt:=[(20,3,zI),(26,5,zB),(28,5,zB),(29,5,zB)] } [] []
 (k0) (o0) Tryz.func185 (by kernel_rfl) (fun _=>by kernel_rfl)
noncomputable def kf182 (fu:Nat):KF:=⟨⟨[.ptr 0 0],[(98,[zw 5 zB,zi])]⟩,[⟨zx 47 zT,[(98,[zw 5 zB,zi])]⟩],false,carry_Reader_End fu⟩
theorem knows182 (fu:Nat):Known Tryz.prog 182 (kf182 fu):=mkK wf shT canT fu { h:=[(0,kp [0]),(1,kp [0,8]),(2,kp [2]),(3,kp [2])],tt:=[(2,47,zT),(6,5,zB),(13,5,zB),(16,47,zT)] } [(185,kf185 fu)] []
 (k1 (knows185 fu) <| k0) (o0) Tryz.func182 (by kernel_rfl) (fun _=>by kernel_rfl)
noncomputable def kf193 (fu:Nat):KF:=⟨⟨[zi,zi],[]⟩,[⟨zi,[]⟩],true,indic_Scalar fu⟩
theorem knows193 (fu:Nat):Known Tryz.prog 193 (kf193 fu):=mkK wf shT canT fu { h:=[(0,kp [0,1]),(1,kp [4])] } [] []
 (k0) (o0) Tryz.func193 (by kernel_rfl) (fun _=>by kernel_rfl)
noncomputable def kf192 (fu:Nat):KF:=⟨⟨[.ptr 0 0,zx 47 zT],[(167,[.ifc 168 (.ptr 1 0),zi]),(173,[.ptr 2 0]),(216,[zE,zw 3 zI,zi,zi])]⟩,[⟨zx 47 zT,[(167,[(.ifc 168 (.ptr 1 0)),zi]),(173,[(.ptr 2 0)]),(216,[zE,zw 3 zI,zi,zi])]⟩],false,iscii_Decoder_mean fu⟩
theorem knows192 (fu:Nat):Known Tryz.prog 192 (kf192 fu):=mkK wf shT canT fu { h:=[(0,kp [0,1]),(1,kp [0,1,10,11,12]),(2,kp [0,1,10,11,12,13]),(3,kp [0,1,5,6,10,11,12]),(4,kp [0,1,5,6,7,10,11,12]),(5,kp [0,1,5,7,10,11,12,18,19,20]),(6,kp [0,1,5,7,10,11,12,18,19,20,21]),(7,kp [0,1,5,7,9,10,11,12,18,19,20]),(8,kp [0,1,5,7,10,11,12,18,19,20]),(9,kp [0,1,5,7,9,10,11,12,18,19,20,33]),(10,kp [0,1,5,7,10,11,12,18,19,20]),(11,kp [0,1,5,7,9,10,11,12,18,19,20,41]),(12,kp [0,1,5,7,10,11,12,18,19,20]),(13,kp [0,1,5,7,10,11,12,18,19,20]),(14,kp [0,1,10,11,12]),(15,kp [0,1,10,11,12]),(16,kp [4])],tt:=[(1,47,zT),(4,47,zT),(7,3,zI),(10,47,zT),(18,3,zI),(24,3,zI),(31,3,zI),(32,3,zI),(36,3,zI),(39,3,zI),(40,3,zI),(50,47,zT),(52,3,zI),(56,47,zT)],lp:=[(2,[1,4,10,50,56]),(6,[1,4,7,10,24,36,50,56])] } [(193,kf193 fu)] []
 (k1 (knows193 fu) <| k0) (o0) Tryz.func192 (by kernel_rfl) (fun _=>by kernel_rfl)
noncomputable def kf189 (fu:Nat):KF:=⟨⟨[.ptr 0 0],[(167,[.ifc 168 (.ptr 1 0),zi]),(173,[.ptr 2 0]),(216,[zE,zw 3 zI,zi,zi])]⟩,[⟨zx 47 zT,[(167,[(.ifc 168 (.ptr 1 0)),zi]),(173,[(.ptr 2 0)]),(216,[zE,zw 3 zI,zi,zi])]⟩],false,iscii_Decoder_End fu⟩
theorem knows189 (fu:Nat):Known Tryz.prog 189 (kf189 fu):=mkK wf shT canT fu { h:=[(0,kp [0]),(1,kp [2])],tt:=[(2,47,zT),(8,47,zT),(9,47,zT)] } [(192,kf192 fu),(200,kf200 fu),(207,kf207 fu)] []
 (k1 (knows192 fu) <| k1 (knows200 fu) <| k1 (knows207 fu) <| k0) (o0) Tryz.func189 (by kernel_rfl) (fun _=>by kernel_rfl)
noncomputable def kodecEnd (fu:Nat):KO:=⟨altsDec, "End",[],zx 47 zT,ko_decEnd fu⟩
theorem knowsodecEnd (fu:Nat):KnownO Tryz.prog (kodecEnd fu):=mkO wf shT canT fu [(207,kf207 fu),(182,kf182 fu),(189,kf189 fu)] (k1 (knows207 fu) <| k1 (knows182 fu) <| k1 (knows189 fu) <| k0) (fun _ _=>by kernel_rfl)
noncomputable def kf194 (fu:Nat):KF:=⟨⟨[.ptr 0 0],[(109,[zi])]⟩,[⟨zx 47 zT,[(109,[zi])]⟩],false,codec_scalars_End fu⟩
theorem knows194 (fu:Nat):Known Tryz.prog 194 (kf194 fu):=mkK wf shT canT fu { h:=[(0,kp []),(1,kp [2])],tt:=[(2,47,zT)] } [] []
 (k0) (o0) Tryz.func194 (by kernel_rfl) (fun _=>by kernel_rfl)
noncomputable def kf197 (fu:Nat):KF:=⟨⟨[.ptr 0 0],[(177,[.ptr 1 0,zi,zi,zi]),(179,[.ptr 2 0,zA,zv zI]),(216,[zE,zw 3 zI,zi,zi])]⟩,[⟨zx 47 zT,[(177,[(.ptr 1 0),zi,zi,zi]),(179,[(.ptr 2 0),(.elemv [zi,zi,zE,zE] 0),zv zI]),(216,[zE,zw 3 zI,zi,zi])]⟩],false,iscii_Encoder_End fu⟩
theorem knows197 (fu:Nat):Known Tryz.prog 197 (kf197 fu):=mkK wf shT canT fu { h:=[(0,kp [0]),(1,kp [2])],tt:=[(2,47,zT),(7,47,zT)] } [(200,kf200 fu)] []
 (k1 (knows200 fu) <| k0) (o0) Tryz.func197 (by kernel_rfl) (fun _=>by kernel_rfl)
noncomputable def koencEnd (fu:Nat):KO:=⟨altsEnc, "End",[],zx 47 zT,ko_encEnd fu⟩
theorem knowsoencEnd (fu:Nat):KnownO Tryz.prog (koencEnd fu):=mkO wf shT canT fu [(200,kf200 fu),(194,kf194 fu),(197,kf197 fu)] (k1 (knows200 fu) <| k1 (knows194 fu) <| k1 (knows197 fu) <| k0) (fun _ _=>by kernel_rfl)
noncomputable def kf114 (fu:Nat):KF:=⟨⟨[.ptr 0 0],[(132,[zs,zs,zi,.oref 1,.oref 2,zw 5 zB,zi,zi,zi,zo,zo]),(0,[.fam altsDec]),(0,[.fam altsEnc])]⟩,[⟨(.agg [zi,zi,zi]),[(132,[zs,zs,zi,(.oref 1),(.oref 2),zw 5 zB,zi,zi,zi,zo,zo]),(0,[(.fam [(.tup [(.ifc 168 (.ptr 1 0)),(.ifc 216 (.agg [zE,zw 3 zI,zi,zi])),(.ifc 173 (.agg [(.ptr 0 0)]))]),(.tup [(.ifc 94 (.ptr 0 0)),(.ifc 98 (.agg [zw 5 zB,zi]))]),(.tup [(.ifc 99 (.ptr 2 0)),(.ifc 216 (.agg [zE,zw 3 zI,zi,zi])),(.ifc 173 (.agg [(.ptr 0 0)])),(.ifc 167 (.agg [(.ifc 168 (.ptr 1 0)),zi]))])])]),(0,[(.fam [(.tup [(.ifc 112 (.ptr 1 0)),(.ifc 216 (.agg [zE,zw 3 zI,zi,zi])),(.ifc 179 (.agg [(.ptr 0 0),(.elemv [zi,zi,zE,zE] 0),zv zI]))]),(.tup [(.ifc 107 (.ptr 0 0)),(.ifc 109 (.agg [zi]))]),(.tup [(.ifc 110 (.ptr 2 0)),(.ifc 216 (.agg [zE,zw 3 zI,zi,zi])),(.ifc 179 (.agg [(.ptr 0 0),(.elemv [zi,zi,zE,zE] 0),zv zI])),(.ifc 177 (.agg [(.ptr 1 0),zi,zi,zi]))])])])]⟩],false,stream_Stream_last fu⟩
theorem knows114 (fu:Nat):Known Tryz.prog 114 (kf114 fu):=mkK wf shT canT fu { h:=[(0,kp [0,2]),(1,kp [0,2,3]),(2,kp [0,2,3]),(3,kp [0,2,3]),(4,kp [0,2,3,24]),(5,kp [2]),(6,kp [2])],tt:=[(17,47,zT)] } [(78,kf78 fu),(200,kf200 fu),(207,kf207 fu)] [kodecEnd fu,koencEnd fu]
 (k1 (knows78 fu) <| k1 (knows200 fu) <| k1 (knows207 fu) <| k0) (o1 (knowsodecEnd fu) <| o1 (knowsoencEnd fu) <| o0) Tryz.func114 (by kernel_rfl) (fun _=>by kernel_rfl)
noncomputable def kf188 (fu:Nat):KF:=⟨⟨[zb],[]⟩,[⟨(.tup [zi,zi,zb,zb]),[]⟩],true,utf_lead fu⟩
theorem knows188 (fu:Nat):Known Tryz.prog 188 (kf188 fu):=mkK wf shT canT fu { h:=[(0,kp [0]),(1,kp [0,4,5]),(2,kp [0,4,5,6]),(3,kp [2,3,4,5]),(4,kp [0,4,5,13]),(5,kp [2,3,4,5]),(6,kp [0,4,5,22]),(7,kp [2,3,4,5]),(8,kp [0,4,5,30]),(9,kp [2,3,4,5]),(10,kp [0,4,5,34]),(11,kp [2,3,4,5]),(12,kp [0,4,5,38]),(13,kp [2,3,4,5]),(14,kp [0,4,5,46]),(15,kp [2,3,4,5]),(16,kp [0,4,5,50]),(17,kp [2,3,4,5]),(18,kp [2,3,4,5])] } [] []
 (k0) (o0) Tryz.func188 (by kernel_rfl) (fun _=>by kernel_rfl)
noncomputable def kf187 (fu:Nat):KF:=⟨⟨[zv zB],[]⟩,[⟨(.tup [zi,zi,zi]),[]⟩],true,utf_One fu⟩
theorem knows187 (fu:Nat):Known Tryz.prog 187 (kf187 fu):=mkK wf shT canT fu { h:=[(0,kp [0]),(1,kp [0,5]),(2,kp [0,5]),(3,kp [0,5]),(4,kp [0,5,12]),(5,kp [0,5,6,7,8,9]),(6,kp [0,5,6,7,8,9,23]),(7,kp [0,5,6,7,8,9,26]),(8,kp [2,3,4]),(9,kp [0,5,6,7,8,9,32]),(10,kp [0,5,6,7,46]),(11,kp [0,5,6,7]),(12,kp [0,5,6,7,8,9]),(13,kp [0,5,6,7,8,9]),(14,kp [2,3,4]),(15,kp [2,3,4])],tt:=[(0,5,zB),(10,5,zB),(14,5,zB),(30,5,zB),(33,5,zB),(40,5,zB),(49,5,zB),(59,5,zB)] } [(188,kf188 fu)] []
 (k1 (knows188 fu) <| k0) (o0) Tryz.func187 (by kernel_rfl) (fun _=>by kernel_rfl)
noncomputable def kf186 (fu:Nat):KF:=⟨⟨[.ptr 0 0,zb],[(98,[zw 5 zB,zi])]⟩,[⟨zx 47 zT,[(98,[zw 5 zB,zi])]⟩],false,carry_Reader_Put fu⟩
theorem knows186 (fu:Nat):Known Tryz.prog 186 (kf186 fu):=mkK wf shT canT fu { h:=[(0,kp [0,1]),(1,kp [0]),(2,kp [0,5]),(3,kp [0,5,24]),(4,kp [0,5,6,7,8]),(5,kp [0,5,6,7,8,35]),(6,kp [0,5]),(7,kp [4])],tt:=[(4,47,zT),(5,47,zT),(13,5,zB),(15,5,zB),(16,5,zB),(22,5,zB),(29,5,zB),(36,47,zT),(42,47,zT),(43,47,zT),(44,47,zT)],lp:=[(3,[5,36])] } [(185,kf185 fu),(187,kf187 fu)] []
 (k1 (knows185 fu) <| k1 (knows187 fu) <| k0) (o0) Tryz.func186 (by kernel_rfl) (fun _=>by kernel_rfl)
noncomputable def kf184 (fu:Nat):KF:=⟨⟨[.ptr 0 0,zi],[(98,[zw 5 zB,zi])]⟩,[⟨zx 47 zT,[(98,[zw 5 zB,zi])]⟩],false,codec_bytes_Put fu⟩
theorem knows184 (fu:Nat):Known Tryz.prog 184 (kf184 fu):=mkK wf shT canT fu { h:=[(0,kp [0,1]),(1,kp [4])],tt:=[(4,47,zT),(10,47,zT)] } [(186,kf186 fu)] []
 (k1 (knows186 fu) <| k0) (o0) Tryz.func184 (by kernel_rfl) (fun _=>by kernel_rfl)
noncomputable def kf191 (fu:Nat):KF:=⟨⟨[.ptr 0 0,zi],[(167,[.ifc 168 (.ptr 1 0),zi]),(173,[.ptr 2 0]),(216,[zE,zw 3 zI,zi,zi])]⟩,[⟨zx 47 zT,[(167,[(.ifc 168 (.ptr 1 0)),zi]),(173,[(.ptr 2 0)]),(216,[zE,zw 3 zI,zi,zi])]⟩],false,iscii_Decoder_Put fu⟩
theorem knows191 (fu:Nat):Known Tryz.prog 191 (kf191 fu):=mkK wf shT canT fu { h:=[(0,kp [0,1]),(1,kp [4])],tt:=[(4,47,zT),(11,47,zT),(12,47,zT)] } [(192,kf192 fu),(205,kf205 fu),(209,kf209 fu)] []
 (k1 (knows192 fu) <| k1 (knows205 fu) <| k1 (knows209 fu) <| k0) (o0) Tryz.func191 (by kernel_rfl) (fun _=>by kernel_rfl)
noncomputable def kodecPut (fu:Nat):KO:=⟨altsDec, "Put",[zi],zx 47 zT,ko_decPut fu⟩
theorem knowsodecPut (fu:Nat):KnownO Tryz.prog (kodecPut fu):=mkO wf shT canT fu [(209,kf209 fu),(184,kf184 fu),(191,kf191 fu)] (k1 (knows209 fu) <| k1 (knows184 fu) <| k1 (knows191 fu) <| k0) (fun _ _=>by kernel_rfl)
noncomputable def kf36 (fu:Nat):KF:=⟨⟨[zi],[]⟩,[⟨zo,[]⟩],true,utf_Scalar fu⟩
theorem knows36 (fu:Nat):Known Tryz.prog 36 (kf36 fu):=mkK wf shT canT fu { h:=[(0,kp [0]),(1,kp [2])] } [] []
 (k0) (o0) Tryz.func36 (by kernel_rfl) (fun _=>by kernel_rfl)
noncomputable def kf75 (fu:Nat):KF:=⟨⟨[zi],[]⟩,[⟨zi,[]⟩],true,utf_Size fu⟩
theorem knows75 (fu:Nat):Known Tryz.prog 75 (kf75 fu):=mkK wf shT canT fu { h:=[(0,kp [0]),(1,kp [0,3]),(2,kp [2]),(3,kp [0,7]),(4,kp [2]),(5,kp [0,10]),(6,kp [2]),(7,kp [13]),(8,kp [2]),(9,kp [2])] } [(36,kf36 fu)] []
 (k1 (knows36 fu) <| k0) (o0) Tryz.func75 (by kernel_rfl) (fun _=>by kernel_rfl)
noncomputable def kf37oknil (fu:Nat):KF:=⟨⟨[.sl (.excl 0) true .bool,zi],[]⟩,[⟨zx 5 zB,[]⟩],true,utf_Put_oknil fu⟩
theorem knows37oknil (fu:Nat):Known Tryz.prog 37 (kf37oknil fu):=mkK wf shT canT fu { h:=[(0,kp [0,1]),(1,kp [0,1,6]),(2,kp [0,1,6,7]),(3,kp [4]),(4,kp [0,1,6,14]),(5,kp [4]),(6,kp [0,1,6,27]),(7,kp [4]),(8,kp [0,1,45]),(9,kp [4]),(10,kp [4])],tt:=[(0,5,zB),(4,5,zB),(9,5,zB),(12,5,zB),(13,5,zB),(16,5,zB),(25,5,zB),(26,5,zB),(29,5,zB),(43,5,zB),(44,5,zB),(47,5,zB),(66,5,zB),(67,5,zB),(68,5,zB),(69,5,zB)] } [(75,kf75 fu)] []
 (k1 (knows75 fu) <| k0) (o0) Tryz.func37 (by kernel_rfl) (fun _=>by kernel_rfl)
noncomputable def kf37nil (fu:Nat):KF:=⟨⟨[.sl (.excl 0) true .bool,zi],[]⟩,[⟨zx 5 zB,[]⟩],true,utf_Put_nil fu⟩
theorem knows37nil (fu:Nat):Known Tryz.prog 37 (kf37nil fu):=mkK wf shT canT fu { h:=[(0,kp [0,1]),(1,kp [0,1,6]),(2,kp [0,1,6,7]),(3,kp [4]),(4,kp [0,1,6,14]),(5,kp [4]),(6,kp [0,1,6,27]),(7,kp [4]),(8,kp [0,1,45]),(9,kp [4]),(10,kp [4])],tt:=[(0,5,zB),(4,5,zB),(9,5,zB),(12,5,zB),(13,5,zB),(16,5,zB),(25,5,zB),(26,5,zB),(29,5,zB),(43,5,zB),(44,5,zB),(47,5,zB),(66,5,zB),(67,5,zB),(68,5,zB),(69,5,zB)] } [(37,kf37oknil fu),(75,kf75 fu)] []
 (k1 (knows37oknil fu) <| k1 (knows75 fu) <| k0) (o0) Tryz.func37 (by kernel_rfl) (fun _=>by kernel_rfl)
noncomputable def kf196 (fu:Nat):KF:=⟨⟨[.ptr 0 0,zi],[(109,[zi])]⟩,[⟨zx 47 zT,[(109,[zi])]⟩],false,codec_scalars_Put fu⟩
theorem knows196 (fu:Nat):Known Tryz.prog 196 (kf196 fu):=mkK wf shT (fun | 47=>[(2,1,3,.int .i64)] | t=>canT t) fu { h:=[(0,kp [0,1]),(1,kp [0,1,5]),(2,kp [0,1,5,14]),(3,kp [0,1,5]),(4,kp [0,5,17,18,19]),(5,kp [0,5,17,18,19,20]),(6,kp [0,5,7,17,18,19]),(7,kp [0,5,17,18,19]),(8,kp [0,5,17,18,19]),(9,kp [5]),(10,kp [4])],tt:=[(4,47,zT),(17,5,zB),(24,3,zI),(27,3,zI),(28,3,zI),(39,47,zT)] } [(36,kf36 fu),(37,kf37nil fu)] []
 (k1 (knows36 fu) <| k1 (knows37nil fu) <| k0) (o0) Tryz.func196 (by kernel_rfl) (fun _=>by kernel_rfl)
noncomputable def kf202 (fu:Nat):KF:=⟨⟨[zi],[]⟩,[⟨(.tup [zi,zi,zo]),[]⟩],true,indic_Of fu⟩
theorem knows202 (fu:Nat):Known Tryz.prog 202 (kf202 fu):=mkK wf shT canT fu { h:=[(0,kp [0]),(1,kp [0,14]),(2,kp [2,3,4]),(3,kp [2,3,4])] } [] []
 (k0) (o0) Tryz.func202 (by kernel_rfl) (fun _=>by kernel_rfl)
noncomputable def kf203 (fu:Nat):KF:=⟨⟨[zi],[]⟩,[⟨(.tup [zi,zo]),[]⟩],true,indic_Code fu⟩
theorem knows203 (fu:Nat):Known Tryz.prog 203 (kf203 fu):=mkK wf shT canT fu { h:=[(0,kp [0]),(1,kp [0,9]),(2,kp [2,3]),(3,kp [2,3])] } [(153,kf153 fu)] []
 (k1 (knows153 fu) <| k0) (o0) Tryz.func203 (by kernel_rfl) (fun _=>by kernel_rfl)
noncomputable def kf204 (fu:Nat):KF:=⟨⟨[.ptr 0 0],[(179,[.ptr 1 0,zA,zv zI]),(216,[zE,zw 3 zI,zi,zi])]⟩,[⟨(.tup []),[(179,[(.ptr 1 0),(.elemv [zi,zi,zE,zE] 0),zv zI]),(216,[zE,zw 3 zI,zi,zi])]⟩],false,machine_Encoder_Apart fu⟩
theorem knows204 (fu:Nat):Known Tryz.prog 204 (kf204 fu):=mkK wf shT canT fu { h:=[(0,kp [])] } [] []
 (k0) (o0) Tryz.func204 (by kernel_rfl) (fun _=>by kernel_rfl)
noncomputable def kf199 (fu:Nat):KF:=⟨⟨[.ptr 0 0,zi],[(177,[.ptr 1 0,zi,zi,zi]),(179,[.ptr 2 0,zA,zv zI]),(216,[zE,zw 3 zI,zi,zi])]⟩,[⟨zx 47 zT,[(177,[(.ptr 1 0),zi,zi,zi]),(179,[(.ptr 2 0),(.elemv [zi,zi,zE,zE] 0),zv zI]),(216,[zE,zw 3 zI,zi,zi])]⟩],false,iscii_Encoder_Put fu⟩
theorem knows199 (fu:Nat):Known Tryz.prog 199 (kf199 fu):=mkK wf shT canT fu { h:=[(0,kp [0,1]),(1,kp [0,1,5,6,7]),(2,kp [0,1,5,7,8]),(3,kp [0,1,5,7,8,19]),(4,kp [0,5,7,8]),(5,kp [0,1,5,7,8,23]),(6,kp [0,5,7,8]),(7,kp [0,5,7,8,9]),(8,kp [0,5,8,9,36]),(9,kp [0,5,8,9]),(10,kp [0,5,8,9,10]),(11,kp [0,8,9,10]),(12,kp [0,8,9,10]),(13,kp [0,8,9]),(14,kp [0,8,9]),(15,kp [4])],tt:=[(4,47,zT),(9,47,zT),(41,47,zT),(56,47,zT),(62,3,zI),(64,47,zT),(65,47,zT),(73,47,zT),(79,47,zT),(80,47,zT)] } [(36,kf36 fu),(200,kf200 fu),(202,kf202 fu),(203,kf203 fu),(204,kf204 fu),(205,kf205 fu)] []
 (k1 (knows36 fu) <| k1 (knows200 fu) <| k1 (knows202 fu) <| k1 (knows203 fu) <| k1 (knows204 fu) <| k1 (knows205 fu) <| k0) (o0) Tryz.func199 (by kernel_rfl) (fun _=>by kernel_rfl)
noncomputable def koencPut (fu:Nat):KO:=⟨altsEnc, "Put",[zi],zx 47 zT,ko_encPut fu⟩
theorem knowsoencPut (fu:Nat):KnownO Tryz.prog (koencPut fu):=mkO wf shT canT fu [(205,kf205 fu),(196,kf196 fu),(199,kf199 fu)] (k1 (knows205 fu) <| k1 (knows196 fu) <| k1 (knows199 fu) <| k0) (fun _ _=>by kernel_rfl)
noncomputable def kf77 (fu:Nat):KF:=⟨⟨[.ptr 0 0,zv zT],[(132,[zs,zs,zi,.oref 1,.oref 2,zw 5 zB,zi,zi,zi,zo,zo]),(0,[.fam altsDec]),(0,[.fam altsEnc])]⟩,[⟨(.tup []),[(132,[zs,zs,zi,(.oref 1),(.oref 2),zw 5 zB,zi,zi,zi,zo,zo]),(0,[(.fam [(.tup [(.ifc 168 (.ptr 1 0)),(.ifc 216 (.agg [zE,zw 3 zI,zi,zi])),(.ifc 173 (.agg [(.ptr 0 0)]))]),(.tup [(.ifc 94 (.ptr 0 0)),(.ifc 98 (.agg [zw 5 zB,zi]))]),(.tup [(.ifc 99 (.ptr 2 0)),(.ifc 216 (.agg [zE,zw 3 zI,zi,zi])),(.ifc 173 (.agg [(.ptr 0 0)])),(.ifc 167 (.agg [(.ifc 168 (.ptr 1 0)),zi]))])])]),(0,[(.fam [(.tup [(.ifc 112 (.ptr 1 0)),(.ifc 216 (.agg [zE,zw 3 zI,zi,zi])),(.ifc 179 (.agg [(.ptr 0 0),(.elemv [zi,zi,zE,zE] 0),zv zI]))]),(.tup [(.ifc 107 (.ptr 0 0)),(.ifc 109 (.agg [zi]))]),(.tup [(.ifc 110 (.ptr 2 0)),(.ifc 216 (.agg [zE,zw 3 zI,zi,zi])),(.ifc 179 (.agg [(.ptr 0 0),(.elemv [zi,zi,zE,zE] 0),zv zI])),(.ifc 177 (.agg [(.ptr 1 0),zi,zi,zi]))])])])]⟩],false,stream_Stream_taken fu⟩
theorem knows77 (fu:Nat):Known Tryz.prog 77 (kf77 fu):=mkK wf shT canT fu { h:=[(0,kp [0,1,9,10,11]),(1,kp [0,1,9,10,11,12]),(2,kp [0,1,5,9,10,11]),(3,kp [0,1,5,6,9,10,11]),(4,kp [0,1,5,6,9,10,11,19]),(5,kp [0,1,5,6,9,10,11]),(6,kp [0,1,5,6,9,10,11,24]),(7,kp [0,1,5,6,9,10,11]),(8,kp [0,1,5,6,9,10,11,26,27,28]),(9,kp [0,1,5,6,9,10,11,26,27,28,29]),(10,kp [0,1,5,6,8,9,10,11,26,27,28]),(11,kp [0,1,5,6,8,9,10,11,26,27,28,37]),(12,kp [0,1,5,6,9,10,11,26,27,28]),(13,kp [0,1,5,6,9,10,11,26,27,28]),(14,kp [0,1,9,10,11,62]),(15,kp []),(16,kp [0,1,9,10,11])],tt:=[(1,47,zT),(6,3,zI),(9,47,zT),(16,3,zI),(25,3,zI),(26,3,zI),(44,47,zT)],vw:=[6] } [(78,kf78 fu),(113,kf113 fu),(114,kf114 fu),(205,kf205 fu),(209,kf209 fu)] [kodecPut fu,koencPut fu]
 (k1 (knows78 fu) <| k1 (knows113 fu) <| k1 (knows114 fu) <| k1 (knows205 fu) <| k1 (knows209 fu) <| k0) (o1 (knowsodecPut fu) <| o1 (knowsoencPut fu) <| o0) Tryz.func77 (by kernel_rfl) (fun _=>by kernel_rfl)
noncomputable def kf41 (fu:Nat):KF:=⟨⟨[zs,zs,zi,zv zB],[]⟩,[⟨(.tup [zv zB,(.agg [zi,zi,zi]),zi]),[]⟩],true,stream_All fu⟩
theorem knows41 (fu:Nat):Known Tryz.prog 41 (kf41 fu):=mkK wf shT canT fu { h:=[(0,kp [0,1,2,3,9]),(1,kp [3,9,11,12]),(2,kp [3,9,11,12,23]),(3,kp [8,9,10]),(4,kp [3,9,11,26,27,28]),(5,kp [3,9,11,26,27,28,29]),(6,kp [3,9,11,14,26,27,28]),(7,kp [3,9,11,26,27,28]),(8,kp [3,9,11,26,27,28,46]),(9,kp [8,9,10]),(10,kp [3,9,11,26,27,28]),(11,kp [9,11]),(12,kp [9,11,68]),(13,kp [9,11]),(14,kp [8,9,10])],tt:=[(3,5,zB),(8,5,zB),(26,5,zB),(39,47,zT),(50,5,zB),(61,47,zT),(74,47,zT),(79,5,zB)],vw:=[8],nv:=[(9,[(.cell 1 5,0,5,.int .u8)]),(14,[(.cell 1 5,0,5,.int .u8)])] } [(40,kf40 fu),(77,kf77 fu),(78,kf78 fu),(200,kf200 fu),(205,kf205 fu),(207,kf207 fu),(209,kf209 fu)] [kodecEnd fu,kodecPut fu,koencEnd fu,koencPut fu]
 (k1 (knows40 fu) <| k1 (knows77 fu) <| k1 (knows78 fu) <| k1 (knows200 fu) <| k1 (knows205 fu) <| k1 (knows207 fu) <| k1 (knows209 fu) <| k0) (o1 (knowsodecEnd fu) <| o1 (knowsodecPut fu) <| o1 (knowsoencEnd fu) <| o1 (knowsoencPut fu) <| o0) Tryz.func41 (by kernel_rfl) (fun _=>by kernel_rfl)
noncomputable def kf84 (fu:Nat):KF:=⟨⟨[.ptr 0 0,zi],[(132,[zs,zs,zi,.oref 1,.oref 2,zw 5 zB,zi,zi,zi,zo,zo]),(0,[.fam altsDec]),(0,[.fam altsEnc])]⟩,[⟨(.tup [zv zB,zi]),[(132,[zs,zs,zi,(.oref 1),(.oref 2),zw 5 zB,zi,zi,zi,zo,zo]),(0,[(.fam [(.tup [(.ifc 168 (.ptr 1 0)),(.ifc 216 (.agg [zE,zw 3 zI,zi,zi])),(.ifc 173 (.agg [(.ptr 0 0)]))]),(.tup [(.ifc 94 (.ptr 0 0)),(.ifc 98 (.agg [zw 5 zB,zi]))]),(.tup [(.ifc 99 (.ptr 2 0)),(.ifc 216 (.agg [zE,zw 3 zI,zi,zi])),(.ifc 173 (.agg [(.ptr 0 0)])),(.ifc 167 (.agg [(.ifc 168 (.ptr 1 0)),zi]))])])]),(0,[(.fam [(.tup [(.ifc 112 (.ptr 1 0)),(.ifc 216 (.agg [zE,zw 3 zI,zi,zi])),(.ifc 179 (.agg [(.ptr 0 0),(.elemv [zi,zi,zE,zE] 0),zv zI]))]),(.tup [(.ifc 107 (.ptr 0 0)),(.ifc 109 (.agg [zi]))]),(.tup [(.ifc 110 (.ptr 2 0)),(.ifc 216 (.agg [zE,zw 3 zI,zi,zi])),(.ifc 179 (.agg [(.ptr 0 0),(.elemv [zi,zi,zE,zE] 0),zv zI])),(.ifc 177 (.agg [(.ptr 1 0),zi,zi,zi]))])])])]⟩],false,stream_Stream_pay fu⟩
theorem knows84 (fu:Nat):Known Tryz.prog 84 (kf84 fu):=mkK wf shT canT fu { h:=[(0,kp [0,1]),(1,kp [0,6]),(2,kp [0,6,7]),(3,kp [0,7]),(4,kp [0,7,32]),(5,kp [4,5]),(6,kp [0,7,40]),(7,kp [0,7]),(8,kp [4,5]),(9,kp [0,7,56]),(10,kp [7]),(11,kp [4,5])],tt:=[(4,5,zB),(7,5,zB),(12,5,zB),(18,5,zB),(20,5,zB),(21,5,zB),(26,5,zB),(28,5,zB),(29,5,zB),(36,5,zB),(39,5,zB),(50,5,zB),(64,5,zB)] } [] []
 (k0) (o0) Tryz.func84 (by kernel_rfl) (fun _=>by kernel_rfl)
noncomputable def kf49 (fu:Nat):KF:=⟨⟨[.ptr 0 0,zv zB,zi],[(132,[zs,zs,zi,.oref 1,.oref 2,zw 5 zB,zi,zi,zi,zo,zo]),(0,[.fam altsDec]),(0,[.fam altsEnc])]⟩,[⟨(.tup [zv zB,zi,zi]),[(132,[zs,zs,zi,(.oref 1),(.oref 2),zw 5 zB,zi,zi,zi,zo,zo]),(0,[(.fam [(.tup [(.ifc 168 (.ptr 1 0)),(.ifc 216 (.agg [zE,zw 3 zI,zi,zi])),(.ifc 173 (.agg [(.ptr 0 0)]))]),(.tup [(.ifc 94 (.ptr 0 0)),(.ifc 98 (.agg [zw 5 zB,zi]))]),(.tup [(.ifc 99 (.ptr 2 0)),(.ifc 216 (.agg [zE,zw 3 zI,zi,zi])),(.ifc 173 (.agg [(.ptr 0 0)])),(.ifc 167 (.agg [(.ifc 168 (.ptr 1 0)),zi]))])])]),(0,[(.fam [(.tup [(.ifc 112 (.ptr 1 0)),(.ifc 216 (.agg [zE,zw 3 zI,zi,zi])),(.ifc 179 (.agg [(.ptr 0 0),(.elemv [zi,zi,zE,zE] 0),zv zI]))]),(.tup [(.ifc 107 (.ptr 0 0)),(.ifc 109 (.agg [zi]))]),(.tup [(.ifc 110 (.ptr 2 0)),(.ifc 216 (.agg [zE,zw 3 zI,zi,zi])),(.ifc 179 (.agg [(.ptr 0 0),(.elemv [zi,zi,zE,zE] 0),zv zI])),(.ifc 177 (.agg [(.ptr 1 0),zi,zi,zi]))])])])]⟩],false,stream_Stream_Feed fu⟩
theorem knows49 (fu:Nat):Known Tryz.prog 49 (kf49 fu):=mkK wf shT canT fu { h:=[(0,kp [0,1,2]),(1,kp [0,1,2,12]),(2,kp [6,7,8]),(3,kp [0,1,2,23]),(4,kp [6,7,8]),(5,kp [0,1,2,9]),(6,kp [0,1,2,9,46]),(7,kp [0,1,2,9]),(8,kp [0,1,2,9]),(9,kp [9,10,11]),(10,kp [6,7,8])],tt:=[(1,5,zB),(6,5,zB),(10,5,zB),(27,5,zB),(34,5,zB),(52,5,zB),(59,47,zT),(67,5,zB),(69,5,zB)] } [(77,kf77 fu),(84,kf84 fu),(205,kf205 fu),(209,kf209 fu)] [kodecPut fu,koencPut fu]
 (k1 (knows77 fu) <| k1 (knows84 fu) <| k1 (knows205 fu) <| k1 (knows209 fu) <| k0) (o1 (knowsodecPut fu) <| o1 (knowsoencPut fu) <| o0) Tryz.func49 (by kernel_rfl) (fun _=>by kernel_rfl)
noncomputable def kf50 (fu:Nat):KF:=⟨⟨[.ptr 0 0,zi],[(132,[zs,zs,zi,.oref 1,.oref 2,zw 5 zB,zi,zi,zi,zo,zo]),(0,[.fam altsDec]),(0,[.fam altsEnc])]⟩,[⟨(.tup [zv zB,zi]),[(132,[zs,zs,zi,(.oref 1),(.oref 2),zw 5 zB,zi,zi,zi,zo,zo]),(0,[(.fam [(.tup [(.ifc 168 (.ptr 1 0)),(.ifc 216 (.agg [zE,zw 3 zI,zi,zi])),(.ifc 173 (.agg [(.ptr 0 0)]))]),(.tup [(.ifc 94 (.ptr 0 0)),(.ifc 98 (.agg [zw 5 zB,zi]))]),(.tup [(.ifc 99 (.ptr 2 0)),(.ifc 216 (.agg [zE,zw 3 zI,zi,zi])),(.ifc 173 (.agg [(.ptr 0 0)])),(.ifc 167 (.agg [(.ifc 168 (.ptr 1 0)),zi]))])])]),(0,[(.fam [(.tup [(.ifc 112 (.ptr 1 0)),(.ifc 216 (.agg [zE,zw 3 zI,zi,zi])),(.ifc 179 (.agg [(.ptr 0 0),(.elemv [zi,zi,zE,zE] 0),zv zI]))]),(.tup [(.ifc 107 (.ptr 0 0)),(.ifc 109 (.agg [zi]))]),(.tup [(.ifc 110 (.ptr 2 0)),(.ifc 216 (.agg [zE,zw 3 zI,zi,zi])),(.ifc 179 (.agg [(.ptr 0 0),(.elemv [zi,zi,zE,zE] 0),zv zI])),(.ifc 177 (.agg [(.ptr 1 0),zi,zi,zi]))])])])]⟩],false,stream_Stream_Flush fu⟩
theorem knows50 (fu:Nat):Known Tryz.prog 50 (kf50 fu):=mkK wf shT canT fu { h:=[(0,kp [0,1]),(1,kp [0,1,6]),(2,kp [4,5]),(3,kp [0,1,11]),(4,kp [4,5]),(5,kp [0,1,26]),(6,kp [0,1]),(7,kp [0,1,39]),(8,kp [0,1]),(9,kp [0,1]),(10,kp [4,5])],tt:=[(4,5,zB),(32,47,zT),(45,47,zT),(53,5,zB)] } [(77,kf77 fu),(78,kf78 fu),(84,kf84 fu),(200,kf200 fu),(207,kf207 fu)] [kodecEnd fu,koencEnd fu]
 (k1 (knows77 fu) <| k1 (knows78 fu) <| k1 (knows84 fu) <| k1 (knows200 fu) <| k1 (knows207 fu) <| k0) (o1 (knowsodecEnd fu) <| o1 (knowsoencEnd fu) <| o0) Tryz.func50 (by kernel_rfl) (fun _=>by kernel_rfl)
noncomputable def kf38 (fu:Nat):KF:=⟨⟨[],[]⟩,[⟨zo,[]⟩],true,lontarlaw20_awake fu⟩
theorem knows38 (fu:Nat):Known Tryz.prog 38 (kf38 fu):=mkK wf shT canT fu { h:=[(0,kp []),(1,kp [1,2,3]),(2,kp [1,2,3,4,5]),(3,kp [1,2,3,4,29]),(4,kp [0]),(5,kp [1,2,3,4,6,7,8]),(6,kp [1,2,3,4,6,7,8,9,10]),(7,kp [1,2,3,6,7,8,9,10,13]),(8,kp [0])],tt:=[(1,5,zB),(6,5,zB),(9,5,zB),(11,5,zB),(15,5,zB),(17,5,zB),(32,5,zB),(34,5,zB),(40,5,zB),(45,5,zB),(51,5,zB),(61,5,zB),(74,5,zB)] } [(40,kf40 fu),(41,kf41 fu),(49,kf49 fu),(50,kf50 fu)] []
 (k1 (knows40 fu) <| k1 (knows41 fu) <| k1 (knows49 fu) <| k1 (knows50 fu) <| k0) (o0) Tryz.func38 (by kernel_rfl) (fun _=>by kernel_rfl)
noncomputable def kf37ok (fu:Nat):KF:=⟨⟨[zx 5 zB,zi],[]⟩,[⟨zx 5 zB,[]⟩],true,utf_Put_ok fu⟩
theorem knows37ok (fu:Nat):Known Tryz.prog 37 (kf37ok fu):=mkK wf shT canT fu { h:=[(0,kp [0,1]),(1,kp [0,1,6]),(2,kp [0,1,6,7]),(3,kp [4]),(4,kp [0,1,6,14]),(5,kp [4]),(6,kp [0,1,6,27]),(7,kp [4]),(8,kp [0,1,45]),(9,kp [4]),(10,kp [4])],tt:=[(0,5,zB),(4,5,zB),(9,5,zB),(12,5,zB),(13,5,zB),(16,5,zB),(25,5,zB),(26,5,zB),(29,5,zB),(43,5,zB),(44,5,zB),(47,5,zB),(66,5,zB),(67,5,zB),(68,5,zB),(69,5,zB)] } [(75,kf75 fu)] []
 (k1 (knows75 fu) <| k0) (o0) Tryz.func37 (by kernel_rfl) (fun _=>by kernel_rfl)
noncomputable def kf37 (fu:Nat):KF:=⟨⟨[zx 5 zB,zi],[]⟩,[⟨zx 5 zB,[]⟩],true,utf_Put fu⟩
theorem knows37 (fu:Nat):Known Tryz.prog 37 (kf37 fu):=mkK wf shT canT fu { h:=[(0,kp [0,1]),(1,kp [0,1,6]),(2,kp [0,1,6,7]),(3,kp [4]),(4,kp [0,1,6,14]),(5,kp [4]),(6,kp [0,1,6,27]),(7,kp [4]),(8,kp [0,1,45]),(9,kp [4]),(10,kp [4])],tt:=[(0,5,zB),(4,5,zB),(9,5,zB),(12,5,zB),(13,5,zB),(16,5,zB),(25,5,zB),(26,5,zB),(29,5,zB),(43,5,zB),(44,5,zB),(47,5,zB),(66,5,zB),(67,5,zB),(68,5,zB),(69,5,zB)] } [(37,kf37ok fu),(75,kf75 fu)] []
 (k1 (knows37ok fu) <| k1 (knows75 fu) <| k0) (o0) Tryz.func37 (by kernel_rfl) (fun _=>by kernel_rfl)
noncomputable def kf44 (fu:Nat):KF:=⟨⟨[zv zI],[]⟩,[⟨zx 5 zB,[]⟩],true,utf_Bytes fu⟩
theorem knows44 (fu:Nat):Known Tryz.prog 44 (kf44 fu):=mkK wf shT canT fu { h:=[(0,kp [0]),(1,kp [0,3]),(2,kp [0,3,6,7,8]),(3,kp [0,3,6,7,8,9]),(4,kp [0,3,5,6,7,8]),(5,kp [0,3,6,7,8]),(6,kp [0,3,6,7,8]),(7,kp [2])],tt:=[(0,3,zI),(2,5,zB),(3,5,zB),(6,3,zI),(12,5,zB),(14,5,zB),(16,5,zB)],lp:=[(3,[3])] } [(37,kf37ok fu),(37,kf37 fu),(37,kf37oknil fu),(37,kf37nil fu)] []
 (k1 (knows37ok fu) <| k1 (knows37 fu) <| k1 (knows37oknil fu) <| k1 (knows37nil fu) <| k0) (o0) Tryz.func44 (by kernel_rfl) (fun _=>by kernel_rfl)
noncomputable def kf115 (fu:Nat):KF:=⟨⟨[zi],[]⟩,[⟨(.tup [.lf (.cpx .f64),zo]),[]⟩],true,viet_Sign fu⟩
theorem knows115 (fu:Nat):Known Tryz.prog 115 (kf115 fu):=mkK wf shT canT fu { h:=[(0,kp [0]),(1,kp [4]),(2,kp [4,5]),(3,kp [2,3]),(4,kp [4,7]),(5,kp [2,3]),(6,kp [4,9]),(7,kp [2,3]),(8,kp [4,11]),(9,kp [2,3]),(10,kp [4,13]),(11,kp [2,3]),(12,kp [4,15]),(13,kp [2,3]),(14,kp [4,17]),(15,kp [2,3]),(16,kp [19]),(17,kp [2,3]),(18,kp [2,3])] } [] []
 (k0) (o0) Tryz.func115 (by kernel_rfl) (fun _=>by kernel_rfl)
noncomputable def kf116 (fu:Nat):KF:=⟨⟨[.agg [zi,.lf (.cpx .f64)],.lf (.cpx .f64)],[]⟩,[⟨(.tup [(.agg [zi,.lf (.cpx .f64)]),zo]),[]⟩],true,viet_Add fu⟩
theorem knows116 (fu:Nat):Known Tryz.prog 116 (kf116 fu):=mkK wf shT canT fu { h:=[(0,kp [1,2,4]),(1,kp [1,2,4,28]),(2,kp [4,5]),(3,kp [2,4,6]),(4,kp [2,4,6,8]),(5,kp [2,4,6,43]),(6,kp [4,5]),(7,kp [4,5])] } [(118,kf118 fu)] []
 (k1 (knows118 fu) <| k0) (o0) Tryz.func116 (by kernel_rfl) (fun _=>by kernel_rfl)
noncomputable def kf117 (fu:Nat):KF:=⟨⟨[zi],[]⟩,[⟨(.tup [(.agg [zi,.lf (.cpx .f64)]),zo]),[]⟩],true,viet_Split fu⟩
theorem knows117 (fu:Nat):Known Tryz.prog 117 (kf117 fu):=mkK wf shT canT fu { h:=[(0,kp [0,2]),(1,kp [0,2,4,5]),(2,kp [0,2,4,5,12,13,14]),(3,kp [0,2,4,5,12,13,14,15]),(4,kp [0,2,4,5,6,7,12,13,14]),(5,kp [0,2,4,5,6,12,13,14,21]),(6,kp [2,3]),(7,kp [0,2,4,5,12,13,14]),(8,kp [2,3])],tt:=[(4,137,.cons (.int .i64) (.cpx .f64)),(5,3,zI),(10,137,.cons (.int .i64) (.cpx .f64)),(11,3,zI),(12,3,zI),(22,137,.cons (.int .i64) (.cpx .f64))] } [(104,kf104 fu)] []
 (k1 (knows104 fu) <| k0) (o0) Tryz.func117 (by kernel_rfl) (fun _=>by kernel_rfl)
noncomputable def kf80 (fu:Nat):KF:=⟨⟨[.ptr 0 0],[(139,[zi,.lf (.cpx .f64),zo])]⟩,[⟨zx 3 zI,[(139,[zi,.lf (.cpx .f64),zo])]⟩],false,vcanon_Canon_End fu⟩
theorem knows80 (fu:Nat):Known Tryz.prog 80 (kf80 fu):=mkK wf shT canT fu { h:=[(0,kp [0]),(1,kp [0,9]),(2,kp [2]),(3,kp [0]),(4,kp [3]),(5,kp [2])],tt:=[(2,3,zI),(22,3,zI)] } [(118,kf118 fu)] []
 (k1 (knows118 fu) <| k0) (o0) Tryz.func80 (by kernel_rfl) (fun _=>by kernel_rfl)
noncomputable def kf79 (fu:Nat):KF:=⟨⟨[.ptr 0 0,zi],[(139,[zi,.lf (.cpx .f64),zo])]⟩,[⟨zx 3 zI,[(139,[zi,.lf (.cpx .f64),zo])]⟩],false,vcanon_Canon_Put fu⟩
theorem knows79 (fu:Nat):Known Tryz.prog 79 (kf79 fu):=mkK wf shT canT fu { h:=[(0,kp [0,1]),(1,kp [0,1,5,6]),(2,kp [0,1,5,23]),(3,kp [0,1,7,8]),(4,kp [0,1,7,33]),(5,kp []),(6,kp [4]),(7,kp [0,1,9]),(8,kp [0,1,9,10,11]),(9,kp [0,1,9,10,45]),(10,kp [9]),(11,kp [4]),(12,kp [4])],tt:=[(4,3,zI),(9,3,zI),(39,3,zI),(53,3,zI),(54,3,zI),(56,3,zI),(57,3,zI)] } [(80,kf80 fu),(115,kf115 fu),(116,kf116 fu),(117,kf117 fu)] []
 (k1 (knows80 fu) <| k1 (knows115 fu) <| k1 (knows116 fu) <| k1 (knows117 fu) <| k0) (o0) Tryz.func79 (by kernel_rfl) (fun _=>by kernel_rfl)
noncomputable def kf45 (fu:Nat):KF:=⟨⟨[zv zI],[]⟩,[⟨zx 3 zI,[]⟩],true,vcanon_All fu⟩
theorem knows45 (fu:Nat):Known Tryz.prog 45 (kf45 fu):=mkK wf shT canT fu { h:=[(0,kp [0]),(1,kp [0,3]),(2,kp [0,3,4]),(3,kp [0,3,4,9,10,11]),(4,kp [0,3,4,9,10,11,12]),(5,kp [0,3,4,6,9,10,11]),(6,kp [0,3,4,9,10,11]),(7,kp [0,3,4,9,10,11]),(8,kp [2])],tt:=[(0,3,zI),(2,3,zI),(4,3,zI),(9,3,zI),(15,3,zI),(18,3,zI),(19,3,zI),(21,3,zI),(23,3,zI),(24,3,zI)],lp:=[(4,[4,15])] } [(79,kf79 fu),(80,kf80 fu)] []
 (k1 (knows79 fu) <| k1 (knows80 fu) <| k0) (o0) Tryz.func45 (by kernel_rfl) (fun _=>by kernel_rfl)
noncomputable def kf81 (fu:Nat):KF:=⟨⟨[],[]⟩,[⟨(.tup [zv zI,(zv (.cpx .f64))]),[]⟩],true,lontarlaw09_Marks fu⟩
theorem knows81 (fu:Nat):Known Tryz.prog 81 (kf81 fu):=mkK wf shT canT fu { h:=[(0,kp []),(1,kp [0,1])],tt:=[(0,3,zI),(1,135,.cpx .f64),(2,3,zI),(3,135,.cpx .f64)] } [] []
 (k0) (o0) Tryz.func81 (by kernel_rfl) (fun _=>by kernel_rfl)
noncomputable def kf119 (fu:Nat):KF:=⟨⟨[],[]⟩,[⟨(.sl (.excl 207) false (.cons zI (.cons zI (.sl zI)))),[]⟩],true,lontarlaw09_Rows fu⟩
theorem knows119 (fu:Nat):Known Tryz.prog 119 (kf119 fu):=mkK wf shT canT fu { h:=[(0,kp []),(1,kp [0])],tt:=[(0,207,.cons (.int .i64) (.cons (.int .i64) (.sl (.int .i64)))),(1,3,zI),(3,3,zI),(5,3,zI),(7,3,zI),(9,3,zI),(11,3,zI),(13,3,zI),(15,3,zI),(17,3,zI),(19,3,zI),(21,3,zI),(23,3,zI),(25,3,zI),(27,3,zI),(29,207,.cons (.int .i64) (.cons (.int .i64) (.sl (.int .i64))))] } [] []
 (k0) (o0) Tryz.func119 (by kernel_rfl) (fun _=>by kernel_rfl)
noncomputable def kf120 (fu:Nat):KF:=⟨⟨[zi],[]⟩,[⟨zi,[]⟩],true,lontarlaw09_upper fu⟩
theorem knows120 (fu:Nat):Known Tryz.prog 120 (kf120 fu):=mkK wf shT canT fu { h:=[(0,kp [0]),(1,kp [0,4]),(2,kp [2]),(3,kp [2])] } [] []
 (k0) (o0) Tryz.func120 (by kernel_rfl) (fun _=>by kernel_rfl)
noncomputable def kf82 (fu:Nat):KF:=⟨⟨[zi],[]⟩,[⟨(.tup [(.agg [zi,.lf (.cpx .f64)]),zi,zo]),[]⟩],true,lontarlaw09_Letter fu⟩
theorem knows82 (fu:Nat):Known Tryz.prog 82 (kf82 fu):=mkK wf shT canT fu { h:=[(0,kp [0,2]),(1,kp [0,2,5]),(2,kp [0,2,5,6]),(3,kp [0,2,5,6,13]),(4,kp [0,2,5,6]),(5,kp [0,2,5,6,16,17,18]),(6,kp [0,2,5,6,16,17,18,19]),(7,kp [0,2,5,6,8,16,17,18]),(8,kp [0,2,5,6,8,16,17,18,23,24,25]),(9,kp [0,2,5,6,8,16,17,18,23,24,25,26]),(10,kp [0,2,5,6,8,9,10,16,17,18,23,24,25]),(11,kp [0,2,5,6,8,9,10,16,17,18,23,24,25,32]),(12,kp [2,6,8,9,10,11]),(13,kp [2,8,9,10,11,36]),(14,kp [2,8,9,10,11]),(15,kp [2,3,4]),(16,kp [0,2,5,6,8,16,17,18,23,24,25]),(17,kp [0,2,5,6,8,16,17,18,23,24,25]),(18,kp [0,2,5,6,16,17,18]),(19,kp [2,3,4])],tt:=[(16,207,.cons (.int .i64) (.cons (.int .i64) (.sl (.int .i64)))),(23,3,zI)] } [(119,kf119 fu),(120,kf120 fu)] []
 (k1 (knows119 fu) <| k1 (knows120 fu) <| k0) (o0) Tryz.func82 (by kernel_rfl) (fun _=>by kernel_rfl)
noncomputable def kf46 (fu:Nat):KF:=⟨⟨[zv zB],[]⟩,[⟨zx 3 zI,[]⟩],true,lontarlaw10_Some fu⟩
theorem knows46 (fu:Nat):Known Tryz.prog 46 (kf46 fu):=mkK wf shT canT fu { h:=[(0,kp [0]),(1,kp [0,3]),(2,kp [0,3,5]),(3,kp [3,5,19,20,21]),(4,kp [3,5,19,20,21,22]),(5,kp [3,5,7,19,20,21]),(6,kp [3,5,7,9,19,20,21]),(7,kp [3,5,7,9,19,20,21,34]),(8,kp [3,5,7,9,19,20,21]),(9,kp [3,5,7,9,19,20,21,41]),(10,kp [3,5,9,19,20,21]),(11,kp [3,5,19,20,21]),(12,kp [3,5,19,20,21]),(13,kp [2])],tt:=[(0,5,zB),(2,3,zI),(3,3,zI),(4,135,.cpx .f64),(5,3,zI),(13,3,zI),(14,135,.cpx .f64),(15,5,zB),(16,5,zB),(19,5,zB),(35,3,zI),(45,3,zI),(47,3,zI),(48,3,zI),(50,3,zI)],lp:=[(4,[5,45])] } [(81,kf81 fu),(82,kf82 fu)] []
 (k1 (knows81 fu) <| k1 (knows82 fu) <| k0) (o0) Tryz.func46 (by kernel_rfl) (fun _=>by kernel_rfl)
noncomputable def kf11 (fu:Nat):KF:=⟨⟨[zv zB,zb],[]⟩,[⟨zo,[]⟩],true,lontarlaw20_StreamCanon fu⟩
theorem knows11 (fu:Nat):Known Tryz.prog 11 (kf11 fu):=mkK wf shT canT fu { h:=[(0,kp [0,1]),(1,kp [0,1,14]),(2,kp [4]),(3,kp [0,5]),(4,kp [5,6]),(5,kp [5,6,7,8,9]),(6,kp [5,6,7,8,32]),(7,kp [4]),(8,kp [6,8,10,11,12]),(9,kp [6,8,10,11,12,42]),(10,kp [4]),(11,kp [4])],tt:=[(0,5,zB),(6,5,zB),(7,5,zB),(10,5,zB),(15,9,.str),(20,5,zB),(21,3,zI),(22,3,zI),(23,5,zB),(26,5,zB),(28,5,zB),(35,5,zB),(37,5,zB),(56,5,zB),(58,5,zB),(59,5,zB),(61,5,zB),(73,5,zB),(75,5,zB)] } [(38,kf38 fu),(41,kf41 fu),(44,kf44 fu),(45,kf45 fu),(46,kf46 fu)] []
 (k1 (knows38 fu) <| k1 (knows41 fu) <| k1 (knows44 fu) <| k1 (knows45 fu) <| k1 (knows46 fu) <| k0) (o0) Tryz.func11 (by kernel_rfl) (fun _=>by kernel_rfl)
end Go.Proofs.YtmknfofhhnfkcaaGreatDoor
