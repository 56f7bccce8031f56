/- Facts on the types of the program. -/
import Derived.Test.YtpbbgkmpjcddbaaA23
import Derived.Test.YtpbbgkmpjcddbaaProg
import Derived.KernelRfl
set_option linter.all false
namespace Go.Proofs.Ytpbbgkmpjcddbaa
open Go.AM

attribute [simp] Try.underlying3
@[simp] theorem szOf3 : szOf Try.prog 3 = some 1 := by kernel_rfl
@[simp] theorem aggT3 : aggT Try.prog 3 = some false := by kernel_rfl
attribute [simp] Try.underlying4
@[simp] theorem szOf4 : szOf Try.prog 4 = some 1 := by kernel_rfl
@[simp] theorem aggT4 : aggT Try.prog 4 = some false := by kernel_rfl
attribute [simp] Try.underlying5
@[simp] theorem szOf5 : szOf Try.prog 5 = some 1 := by kernel_rfl
@[simp] theorem aggT5 : aggT Try.prog 5 = some false := by kernel_rfl
attribute [simp] Try.underlying24
@[simp] theorem szOf24 : szOf Try.prog 24 = some 1 := by kernel_rfl
@[simp] theorem aggT24 : aggT Try.prog 24 = some false := by kernel_rfl
attribute [simp] Try.underlying27
@[simp] theorem szOf27 : szOf Try.prog 27 = some 1 := by kernel_rfl
@[simp] theorem aggT27 : aggT Try.prog 27 = some false := by kernel_rfl
attribute [simp] Try.underlying31
@[simp] theorem szOf31 : szOf Try.prog 31 = some 1 := by kernel_rfl
@[simp] theorem aggT31 : aggT Try.prog 31 = some false := by kernel_rfl
attribute [simp] Try.underlying33
@[simp] theorem szOf33 : szOf Try.prog 33 = some 2 := by kernel_rfl
@[simp] theorem aggT33 : aggT Try.prog 33 = some true := by kernel_rfl
attribute [simp] Try.underlying36
@[simp] theorem szOf36 : szOf Try.prog 36 = some 1 := by kernel_rfl
@[simp] theorem aggT36 : aggT Try.prog 36 = some false := by kernel_rfl
attribute [simp] Try.underlying38
@[simp] theorem szOf38 : szOf Try.prog 38 = some 2 := by kernel_rfl
@[simp] theorem aggT38 : aggT Try.prog 38 = some true := by kernel_rfl
attribute [simp] Try.underlying42
@[simp] theorem szOf42 : szOf Try.prog 42 = some 1 := by kernel_rfl
@[simp] theorem aggT42 : aggT Try.prog 42 = some false := by kernel_rfl
attribute [simp] Try.underlying47
@[simp] theorem szOf47 : szOf Try.prog 47 = some 1 := by kernel_rfl
@[simp] theorem aggT47 : aggT Try.prog 47 = some false := by kernel_rfl
attribute [simp] Try.underlying48
@[simp] theorem szOf48 : szOf Try.prog 48 = some 1 := by kernel_rfl
@[simp] theorem aggT48 : aggT Try.prog 48 = some false := by kernel_rfl
attribute [simp] Try.underlying61
@[simp] theorem szOf61 : szOf Try.prog 61 = some 1 := by kernel_rfl
@[simp] theorem aggT61 : aggT Try.prog 61 = some false := by kernel_rfl
attribute [simp] Try.underlying66
@[simp] theorem szOf66 : szOf Try.prog 66 = some 1 := by kernel_rfl
@[simp] theorem aggT66 : aggT Try.prog 66 = some false := by kernel_rfl
attribute [simp] Try.underlying72
@[simp] theorem szOf72 : szOf Try.prog 72 = some 3 := by kernel_rfl
@[simp] theorem aggT72 : aggT Try.prog 72 = some true := by kernel_rfl
attribute [simp] Try.underlying75
@[simp] theorem szOf75 : szOf Try.prog 75 = some 128 := by kernel_rfl
@[simp] theorem aggT75 : aggT Try.prog 75 = some true := by kernel_rfl
attribute [simp] Try.underlying77
@[simp] theorem szOf77 : szOf Try.prog 77 = some 1 := by kernel_rfl
@[simp] theorem aggT77 : aggT Try.prog 77 = some false := by kernel_rfl
attribute [simp] Try.underlying80
@[simp] theorem szOf80 : szOf Try.prog 80 = some 3 := by kernel_rfl
@[simp] theorem aggT80 : aggT Try.prog 80 = some true := by kernel_rfl
attribute [simp] Try.underlying82
@[simp] theorem szOf82 : szOf Try.prog 82 = some 1 := by kernel_rfl
@[simp] theorem aggT82 : aggT Try.prog 82 = some false := by kernel_rfl
attribute [simp] Try.underlying84
@[simp] theorem szOf84 : szOf Try.prog 84 = some 6 := by kernel_rfl
@[simp] theorem aggT84 : aggT Try.prog 84 = some true := by kernel_rfl
attribute [simp] Try.underlying86
@[simp] theorem szOf86 : szOf Try.prog 86 = some 8 := by kernel_rfl
@[simp] theorem aggT86 : aggT Try.prog 86 = some true := by kernel_rfl
attribute [simp] Try.underlying87
@[simp] theorem szOf87 : szOf Try.prog 87 = some 4 := by kernel_rfl
@[simp] theorem aggT87 : aggT Try.prog 87 = some true := by kernel_rfl
@[simp] theorem zeroPV3 : zeroPV Try.prog 3 = some [.lit (.int .i64 0)] := by kernel_rfl
@[simp] theorem zeroPV4 : zeroPV Try.prog 4 = some [.lit (.bool false)] := by kernel_rfl
@[simp] theorem zeroPV5 : zeroPV Try.prog 5 = some [.lit (.int .u8 0)] := by kernel_rfl
@[simp] theorem zeroPV24 : zeroPV Try.prog 24 = some [.sl .view true []] := by kernel_rfl
@[simp] theorem zeroPV27 : zeroPV Try.prog 27 = some [.lit (.int .u16 0)] := by kernel_rfl
@[simp] theorem zeroPV31 : zeroPV Try.prog 31 = some [.sl .view true []] := by kernel_rfl
@[simp] theorem zeroPV33 : zeroPV Try.prog 33 = some [.sl .view true [], .sl .view true []] := by kernel_rfl
@[simp] theorem zeroPV36 : zeroPV Try.prog 36 = some [.lit (.complex .f64 0 0)] := by kernel_rfl
@[simp] theorem zeroPV38 : zeroPV Try.prog 38 = some [.lit (.int .i64 0), .lit (.complex .f64 0 0)] := by kernel_rfl
@[simp] theorem zeroPV42 : zeroPV Try.prog 42 = some [.sl .view true []] := by kernel_rfl
@[simp] theorem zeroPV47 : zeroPV Try.prog 47 = some [.lit (.float .f64 0)] := by kernel_rfl
@[simp] theorem zeroPV48 : zeroPV Try.prog 48 = some [.sl .view true []] := by kernel_rfl
@[simp] theorem zeroPV61 : zeroPV Try.prog 61 = some [.sl .view true []] := by kernel_rfl
@[simp] theorem zeroPV66 : zeroPV Try.prog 66 = some [.sl .view true []] := by kernel_rfl
@[simp] theorem zeroPV72 : zeroPV Try.prog 72 = some [.lit (.int .i64 0), .lit (.complex .f64 0 0), .lit (.bool false)] := by kernel_rfl
@[simp] theorem zeroPV77 : zeroPV Try.prog 77 = some [.sl .view true []] := by kernel_rfl
@[simp] theorem zeroPV80 : zeroPV Try.prog 80 = some [.lit (.int .i64 0), .lit (.int .i64 0), .sl .view true []] := by kernel_rfl
@[simp] theorem zeroPV82 : zeroPV Try.prog 82 = some [.sl .view true []] := by kernel_rfl
@[simp] theorem zeroPV84 : zeroPV Try.prog 84 = some [.lit (.int .i64 0), .lit (.int .i64 0), .lit (.int .i64 0), .lit (.int .i64 0), .lit (.int .i64 0), .lit (.int .i64 0)] := by kernel_rfl
@[simp] theorem zeroPV86 : zeroPV Try.prog 86 = some [.lit (.int .i64 0), .lit (.int .i64 0), .lit (.int .i64 0), .lit (.int .i64 0), .lit (.int .i64 0), .lit (.int .i64 0), .lit (.int .i64 0), .lit (.int .i64 0)] := by kernel_rfl
@[simp] theorem zeroPV87 : zeroPV Try.prog 87 = some [.lit (.int .i64 0), .lit (.int .i64 0), .lit (.int .i64 0), .lit (.int .i64 0)] := by kernel_rfl

attribute [simp] evBuildSlice St.parts fillE evBuild fieldPlaces fillP setRange
end Go.Proofs.Ytpbbgkmpjcddbaa
