/- The walks: what functions do is what their models say. -/
import Derived.Test.YtcbbacmpkhajeaaMof1
import Derived.Test.YtcbbacmpkhajeaaProg
import Derived.KernelRfl
set_option linter.all false
namespace Go.Proofs.Ytcbbacmpkhajeaa
open Go.AM

theorem wf : WF Try.prog := by
  have h : Try.prog.funcs.toList.all (fun fn => !(fn.name == "runtime.NumGoroutine")) = true := by kernel_rfl
  refine ⟨?_, by kernel_rfl⟩
  intro k fn hk _
  have := List.all_eq_true.1 h fn (by rw [← Array.getElem?_toList] at hk; exact List.mem_of_getElem? hk)
  simpa using this
def shT : Nat → Sh
  | 2 => .int .i64
  | 3 => .int .i64
  | 4 => .bool
  | 5 => .int .u8
  | 6 => .int .u8
  | 7 => .cons (.int .i64) (.cons (.int .i64) (.cons (.bool) (.int .u8)))
  | 8 => .cons (.int .i64) (.cons (.int .i64) (.cons (.bool) (.int .u8)))
  | 9 => .str
  | 10 => .str
  | 11 => .str
  | 12 => .int .u64
  | 13 => .cons (.str) (.int .u64)
  | 14 => .cons (.str) (.int .u64)
  | 21 => .int .i32
  | 22 => .sl (.cons (.sl (.int .u8)) (.cons (.sl (.int .u8)) (.cons (.bool) (.cons (.sl (.int .i64)) (.sl (.int .i64))))))
  | 23 => .sl (.int .u8)
  | 26 => .int .i64
  | 29 => .sl (.cons (.sl (.int .i64)) (.sl (.int .i64)))
  | 34 => .sl (.int .i64)
  | 36 => .sl (.cons (.int .i64) (.cons (.int .i64) (.cons (.sl (.int .i64)) (.int .i64))))
  | 38 => .cons (.int .i64) (.cons (.int .i64) (.cons (.sl (.int .i64)) (.int .i64)))
  | 39 => .cons (.int .i64) (.cons (.int .i64) (.cons (.sl (.int .i64)) (.int .i64)))
  | 60 => .int .i64
  | 63 => .sl (.sl (.int .i64))
  | 68 => .cons (.sl (.int .i64)) (.sl (.int .i64))
  | 69 => .cons (.sl (.int .i64)) (.sl (.int .i64))
  | 102 => .cons (.int .i64) (.cons (.int .i64) (.cons (.int .i64) (.int .i64)))
  | 103 => .cons (.int .i64) (.cons (.int .i64) (.cons (.int .i64) (.int .i64)))
  | 104 => .sl (.cons (.int .i64) (.cons (.int .i64) (.cons (.int .i64) (.int .i64))))
  | 105 => .cons (.sl (.cons (.int .i64) (.cons (.int .i64) (.cons (.int .i64) (.int .i64))))) (.sl (.cons (.sl (.int .i64)) (.sl (.int .i64))))
  | 106 => .cons (.sl (.cons (.int .i64) (.cons (.int .i64) (.cons (.int .i64) (.int .i64))))) (.sl (.cons (.sl (.int .i64)) (.sl (.int .i64))))
  | 120 => .sl (.cons (.int .i64) (.int .i64))
  | 122 => .cons (.int .i64) (.int .i64)
  | 126 => .cons (.sl (.int .u8)) (.cons (.sl (.int .u8)) (.cons (.bool) (.cons (.sl (.int .i64)) (.sl (.int .i64)))))
  | 127 => .cons (.sl (.int .u8)) (.cons (.sl (.int .u8)) (.cons (.bool) (.cons (.sl (.int .i64)) (.sl (.int .i64)))))
  | 131 => .cons (.int .i64) (.cons (.int .i64) (.cons (.int .i64) (.cons (.int .i64) (.cons (.int .i64) (.cons (.int .i64) (.cons (.int .i64) (.cons (.int .i64) (.int .i64))))))))
  | 134 => .cons (.int .i64) (.cons (.int .i64) (.cons (.int .i64) (.cons (.int .i64) (.cons (.int .i64) (.cons (.int .i64) (.cons (.int .i64) (.cons (.int .i64) (.cons (.int .i64) (.cons (.int .i64) (.cons (.int .i64) (.cons (.int .i64) (.cons (.int .i64) (.cons (.int .i64) (.cons (.int .i64) (.cons (.int .i64) (.cons (.int .i64) (.cons (.int .i64) (.cons (.int .i64) (.cons (.int .i64) (.cons (.int .i64) (.cons (.int .i64) (.cons (.int .i64) (.cons (.int .i64) (.cons (.int .i64) (.cons (.int .i64) (.cons (.int .i64) (.cons (.int .i64) (.cons (.int .i64) (.cons (.int .i64) (.cons (.int .i64) (.cons (.int .i64) (.cons (.int .i64) (.cons (.int .i64) (.cons (.int .i64) (.cons (.int .i64) (.cons (.int .i64) (.cons (.int .i64) (.cons (.int .i64) (.cons (.int .i64) (.cons (.int .i64) (.cons (.int .i64) (.cons (.int .i64) (.cons (.int .i64) (.cons (.int .i64) (.cons (.int .i64) (.cons (.int .i64) (.cons (.int .i64) (.cons (.int .i64) (.cons (.int .i64) (.cons (.int .i64) (.cons (.int .i64) (.cons (.int .i64) (.cons (.int .i64) (.cons (.int .i64) (.cons (.int .i64) (.cons (.int .i64) (.cons (.int .i64) (.cons (.int .i64) (.cons (.int .i64) (.cons (.int .i64) (.cons (.int .i64) (.cons (.int .i64) (.cons (.int .i64) (.cons (.int .i64) (.cons (.int .i64) (.cons (.int .i64) (.cons (.int .i64) (.cons (.int .i64) (.cons (.int .i64) (.cons (.int .i64) (.cons (.int .i64) (.cons (.int .i64) (.int .i64)))))))))))))))))))))))))))))))))))))))))))))))))))))))))))))))))))))))))
  | 143 => .int .u32
  | 144 => .int .u8
  | 145 => .int .u8
  | 148 => .int .i32
  | 149 => .int .i32
  | _ => .unit
def canT : TypeId → List (Nat × Nat × TypeId × Sh)
  | 22 => [(0, 1, 127, .cons (.sl (.int .u8)) (.cons (.sl (.int .u8)) (.cons (.bool) (.cons (.sl (.int .i64)) (.sl (.int .i64))))))]
  | 23 => [(0, 1, 5, .int .u8)]
  | 29 => [(0, 1, 69, .cons (.sl (.int .i64)) (.sl (.int .i64)))]
  | 34 => [(0, 1, 3, .int .i64)]
  | 36 => [(0, 1, 39, .cons (.int .i64) (.cons (.int .i64) (.cons (.sl (.int .i64)) (.int .i64))))]
  | 38 => [(2, 1, 3, .int .i64)]
  | 39 => [(2, 0, 3, .int .i64)]
  | 63 => [(0, 1, 34, .sl (.int .i64))]
  | 68 => [(0, 1, 3, .int .i64), (1, 1, 3, .int .i64)]
  | 69 => [(0, 0, 3, .int .i64), (1, 0, 3, .int .i64)]
  | 84 => [(2, 1, 3, .int .i64)]
  | 85 => [(2, 0, 3, .int .i64)]
  | 104 => [(0, 1, 103, .cons (.int .i64) (.cons (.int .i64) (.cons (.int .i64) (.int .i64))))]
  | 105 => [(0, 1, 103, .cons (.int .i64) (.cons (.int .i64) (.cons (.int .i64) (.int .i64)))), (1, 1, 69, .cons (.sl (.int .i64)) (.sl (.int .i64)))]
  | 106 => [(0, 2, 103, .cons (.int .i64) (.cons (.int .i64) (.cons (.int .i64) (.int .i64)))), (1, 1, 69, .cons (.sl (.int .i64)) (.sl (.int .i64)))]
  | 112 => [(1, 1, 3, .int .i64)]
  | 113 => [(1, 1, 3, .int .i64)]
  | 120 => [(0, 1, 122, .cons (.int .i64) (.int .i64))]
  | 126 => [(0, 1, 5, .int .u8), (1, 1, 5, .int .u8), (3, 1, 3, .int .i64), (4, 1, 3, .int .i64)]
  | 127 => [(0, 0, 5, .int .u8), (1, 0, 5, .int .u8), (3, 0, 3, .int .i64), (4, 0, 3, .int .i64)]
  | _ => []
end Go.Proofs.Ytcbbacmpkhajeaa

namespace Go.Proofs.Ytcbbacmpkhajeaa
open Go.AM
open Go.AM.M
def h30 : Nat → Option Hint
  | 0 => some { keep := [0, 1] }
  | 1 => some { keep := [0, 1, 10] }
  | 2 => some { keep := [4] }
  | 3 => some { keep := [0, 1, 12, 13] }
  | 4 => some { keep := [0, 1, 12, 13, 14] }
  | 5 => some { keep := [0, 1, 5, 12, 13] }
  | 6 => some { keep := [0, 1, 12, 13, 24] }
  | 7 => some { keep := [4] }
  | 8 => some { keep := [0, 1, 12, 13] }
  | 9 => some { keep := [4] }
  | _ => none
def tt30 : Nat → Option (TypeId × Sh)
  | 0 => some (3, .int .i64)
  | 1 => some (3, .int .i64)
  | 6 => some (3, .int .i64)
  | 8 => some (3, .int .i64)
  | 11 => some (3, .int .i64)
  | 16 => some (3, .int .i64)
  | 20 => some (3, .int .i64)
  | _ => none
def lp30 : Nat → LH
  | _ => {}
noncomputable def kn30 (fu : Nat) : FuncId → List KF
  | _ => []
noncomputable def C30 (fu : Nat) : TC := { C := { P := Try.prog, mv := fun _ _ => false, res := fun _ => false, live := h30, call := fun _ _ _ => none, sh := shT }, kn := kn30 fu, fu, lp := lp30, dr := fun _ => none, can := canT, tt := tt30 }
def in30 : IS := ⟨[.sl .view false (.int .i64), .sl .view false (.int .i64)], []⟩
def ou30 : List OS := [⟨(.lf .bool), []⟩]
noncomputable def kf30 (fu : Nat) : KF := { inp := in30, outs := ou30, pure := true, model := lontarlaw01_Units fu }
theorem ok30 (fu : Nat) : (C30 fu).Ok := ⟨wf, fun f kf h => by
  have h : kf ∈ kn30 fu f := h
  unfold kn30 at h
  split at h
  · cases h⟩
set_option maxRecDepth 100000 in
theorem run30 (fu : Nat) (a) : fnK (C30 fu) Try.f30 (kf30 fu).inp (kf30 fu).outs a = (kf30 fu).model a := by kernel_rfl
theorem knows30 (fu : Nat) : Known Try.prog 30 (kf30 fu) := Known.of (ok30 fu) Try.func30 (by kernel_rfl) (run30 fu)
end Go.Proofs.Ytcbbacmpkhajeaa

namespace Go.Proofs.Ytcbbacmpkhajeaa
open Go.AM
open Go.AM.M
def h54 : Nat → Option Hint
  | 0 => some { keep := [0] }
  | 1 => some { keep := [2] }
  | _ => none
def tt54 : Nat → Option (TypeId × Sh)
  | _ => none
def lp54 : Nat → LH
  | _ => {}
noncomputable def kn54 (fu : Nat) : FuncId → List KF
  | _ => []
noncomputable def C54 (fu : Nat) : TC := { C := { P := Try.prog, mv := fun _ _ => false, res := fun _ => false, live := h54, call := fun _ _ _ => none, sh := shT }, kn := kn54 fu, fu, lp := lp54, dr := fun _ => none, can := canT, tt := tt54 }
def in54 : IS := ⟨[.elemv [.sl .view false (.cons (.int .i64) (.cons (.int .i64) (.cons (.int .i64) (.int .i64)))), .sl .view false (.cons (.sl (.int .i64)) (.sl (.int .i64)))] 0], []⟩
def ou54 : List OS := [⟨(.ptr 0 0), [(113, [(.elemv [(.sl .view false (.cons (.int .i64) (.cons (.int .i64) (.cons (.int .i64) (.int .i64))))), (.sl .view false (.cons (.sl (.int .i64)) (.sl (.int .i64))))] 0), (.sl (.own 3) false (.int .i64)), (.lf (.int .i64)), (.lf (.int .i64))])]⟩]
noncomputable def kf54 (fu : Nat) : KF := { inp := in54, outs := ou54, pure := false, model := match_Of fu }
theorem ok54 (fu : Nat) : (C54 fu).Ok := ⟨wf, fun f kf h => by
  have h : kf ∈ kn54 fu f := h
  unfold kn54 at h
  split at h
  · cases h⟩
set_option maxRecDepth 100000 in
theorem run54 (fu : Nat) (a) : fnK (C54 fu) Try.f54 (kf54 fu).inp (kf54 fu).outs a = (kf54 fu).model a := by kernel_rfl
theorem knows54 (fu : Nat) : Known Try.prog 54 (kf54 fu) := Known.of (ok54 fu) Try.func54 (by kernel_rfl) (run54 fu)
end Go.Proofs.Ytcbbacmpkhajeaa

namespace Go.Proofs.Ytcbbacmpkhajeaa
open Go.AM
open Go.AM.M
def h57 : Nat → Option Hint
  | 0 => some { keep := [0] }
  | 1 => some { keep := [2] }
  | _ => none
def tt57 : Nat → Option (TypeId × Sh)
  | _ => none
def lp57 : Nat → LH
  | _ => {}
noncomputable def kn57 (fu : Nat) : FuncId → List KF
  | _ => []
noncomputable def C57 (fu : Nat) : TC := { C := { P := Try.prog, mv := fun _ _ => false, res := fun _ => false, live := h57, call := fun _ _ _ => none, sh := shT }, kn := kn57 fu, fu, lp := lp57, dr := fun _ => none, can := canT, tt := tt57 }
def in57 : IS := ⟨[.elemv [.lf (.int .i64), .lf (.int .i64), .elemv [.sl .view false (.cons (.int .i64) (.cons (.int .i64) (.cons (.int .i64) (.int .i64)))), .sl .view false (.cons (.sl (.int .i64)) (.sl (.int .i64)))] 0, .elemv [.sl .view false (.cons (.int .i64) (.cons (.int .i64) (.cons (.int .i64) (.int .i64)))), .sl .view false (.cons (.sl (.int .i64)) (.sl (.int .i64)))] 0] 0], []⟩
def ou57 : List OS := [⟨(.elemv [(.sl .view false (.cons (.int .i64) (.cons (.int .i64) (.cons (.int .i64) (.int .i64))))), (.sl .view false (.cons (.sl (.int .i64)) (.sl (.int .i64))))] 0), []⟩]
noncomputable def kf57 (fu : Nat) : KF := { inp := in57, outs := ou57, pure := true, model := table_Table_Write fu }
theorem ok57 (fu : Nat) : (C57 fu).Ok := ⟨wf, fun f kf h => by
  have h : kf ∈ kn57 fu f := h
  unfold kn57 at h
  split at h
  · cases h⟩
set_option maxRecDepth 100000 in
theorem run57 (fu : Nat) (a) : fnK (C57 fu) Try.f57 (kf57 fu).inp (kf57 fu).outs a = (kf57 fu).model a := by kernel_rfl
theorem knows57 (fu : Nat) : Known Try.prog 57 (kf57 fu) := Known.of (ok57 fu) Try.func57 (by kernel_rfl) (run57 fu)
end Go.Proofs.Ytcbbacmpkhajeaa

namespace Go.Proofs.Ytcbbacmpkhajeaa
open Go.AM
open Go.AM.M
def h20 : Nat → Option Hint
  | 0 => some { keep := [0] }
  | 1 => some { keep := [2] }
  | _ => none
def tt20 : Nat → Option (TypeId × Sh)
  | _ => none
def lp20 : Nat → LH
  | _ => {}
noncomputable def kn20 (fu : Nat) : FuncId → List KF
  | 54 => [kf54 fu]
  | 57 => [kf57 fu]
  | _ => []
noncomputable def C20 (fu : Nat) : TC := { C := { P := Try.prog, mv := fun _ _ => false, res := fun _ => false, live := h20, call := fun _ _ _ => none, sh := shT }, kn := kn20 fu, fu, lp := lp20, dr := fun _ => none, can := canT, tt := tt20 }
def in20 : IS := ⟨[.elemv [.lf (.int .i64), .lf (.int .i64), .elemv [.sl .view false (.cons (.int .i64) (.cons (.int .i64) (.cons (.int .i64) (.int .i64)))), .sl .view false (.cons (.sl (.int .i64)) (.sl (.int .i64)))] 0, .elemv [.sl .view false (.cons (.int .i64) (.cons (.int .i64) (.cons (.int .i64) (.int .i64)))), .sl .view false (.cons (.sl (.int .i64)) (.sl (.int .i64)))] 0] 0], []⟩
def ou20 : List OS := [⟨(.ptr 1 0), [(113, [(.elemv [(.sl .view false (.cons (.int .i64) (.cons (.int .i64) (.cons (.int .i64) (.int .i64))))), (.sl .view false (.cons (.sl (.int .i64)) (.sl (.int .i64))))] 0), (.sl (.own 3) false (.int .i64)), (.lf (.int .i64)), (.lf (.int .i64))]), (85, [(.ptr 0 0), (.elemv [(.lf (.int .i64)), (.lf (.int .i64)), (.elemv [(.sl .view false (.cons (.int .i64) (.cons (.int .i64) (.cons (.int .i64) (.int .i64))))), (.sl .view false (.cons (.sl (.int .i64)) (.sl (.int .i64))))] 0), (.elemv [(.sl .view false (.cons (.int .i64) (.cons (.int .i64) (.cons (.int .i64) (.int .i64))))), (.sl .view false (.cons (.sl (.int .i64)) (.sl (.int .i64))))] 0)] 0), (.sl .view false (.int .i64))])]⟩]
noncomputable def kf20 (fu : Nat) : KF := { inp := in20, outs := ou20, pure := false, model := machine_Encode fu }
theorem ok20 (fu : Nat) : (C20 fu).Ok := ⟨wf, fun f kf h => by
  have h : kf ∈ kn20 fu f := h
  unfold kn20 at h
  split at h
  · simp only [List.mem_cons, List.not_mem_nil, or_false] at h
    subst h; exact knows54 fu
  · simp only [List.mem_cons, List.not_mem_nil, or_false] at h
    subst h; exact knows57 fu
  · cases h⟩
set_option maxRecDepth 100000 in
theorem run20 (fu : Nat) (a) : fnK (C20 fu) Try.f20 (kf20 fu).inp (kf20 fu).outs a = (kf20 fu).model a := by kernel_rfl
theorem knows20 (fu : Nat) : Known Try.prog 20 (kf20 fu) := Known.of (ok20 fu) Try.func20 (by kernel_rfl) (run20 fu)
end Go.Proofs.Ytcbbacmpkhajeaa

namespace Go.Proofs.Ytcbbacmpkhajeaa
open Go.AM
open Go.AM.M
def h90 : Nat → Option Hint
  | 0 => some { keep := [0, 1] }
  | 1 => some { keep := [0, 1, 10] }
  | 2 => some { keep := [4] }
  | 3 => some { keep := [0, 1, 12, 13] }
  | 4 => some { keep := [0, 1, 12, 13, 14] }
  | 5 => some { keep := [0, 1, 5, 12, 13] }
  | 6 => some { keep := [0, 1, 12, 13, 24] }
  | 7 => some { keep := [4] }
  | 8 => some { keep := [0, 1, 12, 13] }
  | 9 => some { keep := [4] }
  | _ => none
def tt90 : Nat → Option (TypeId × Sh)
  | 0 => some (3, .int .i64)
  | 1 => some (3, .int .i64)
  | 6 => some (3, .int .i64)
  | 8 => some (3, .int .i64)
  | 11 => some (3, .int .i64)
  | 16 => some (3, .int .i64)
  | 20 => some (3, .int .i64)
  | _ => none
def lp90 : Nat → LH
  | _ => {}
noncomputable def kn90 (fu : Nat) : FuncId → List KF
  | _ => []
noncomputable def C90 (fu : Nat) : TC := { C := { P := Try.prog, mv := fun _ _ => false, res := fun _ => false, live := h90, call := fun _ _ _ => none, sh := shT }, kn := kn90 fu, fu, lp := lp90, dr := fun _ => none, can := canT, tt := tt90 }
def in90 : IS := ⟨[.sl .view false (.int .i64), .sl .view false (.int .i64)], []⟩
def ou90 : List OS := [⟨(.lf .bool), []⟩]
noncomputable def kf90 (fu : Nat) : KF := { inp := in90, outs := ou90, pure := true, model := slices_Equal_int fu }
theorem ok90 (fu : Nat) : (C90 fu).Ok := ⟨wf, fun f kf h => by
  have h : kf ∈ kn90 fu f := h
  unfold kn90 at h
  split at h
  · cases h⟩
set_option maxRecDepth 100000 in
theorem run90 (fu : Nat) (a) : fnK (C90 fu) Try.f90 (kf90 fu).inp (kf90 fu).outs a = (kf90 fu).model a := by kernel_rfl
theorem knows90 (fu : Nat) : Known Try.prog 90 (kf90 fu) := Known.of (ok90 fu) Try.func90 (by kernel_rfl) (run90 fu)
end Go.Proofs.Ytcbbacmpkhajeaa

namespace Go.Proofs.Ytcbbacmpkhajeaa
open Go.AM
open Go.AM.M
def h89 : Nat → Option Hint
  | 0 => some { keep := [1, 2] }
  | 1 => some { keep := [3] }
  | _ => none
def tt89 : Nat → Option (TypeId × Sh)
  | 5 => some (3, .int .i64)
  | 6 => some (3, .int .i64)
  | _ => none
def lp89 : Nat → LH
  | _ => {}
noncomputable def kn89 (fu : Nat) : FuncId → List KF
  | 90 => [kf90 fu]
  | _ => []
noncomputable def C89 (fu : Nat) : TC := { C := { P := Try.prog, mv := fun _ _ => false, res := fun _ => false, live := h89, call := fun _ _ _ => none, sh := shT }, kn := kn89 fu, fu, lp := lp89, dr := fun _ => none, can := canT, tt := tt89 }
def in89 : IS := ⟨[.agg [.sl .view false (.int .i64), .sl .view false (.int .i64)], .elemv [.sl .view false (.int .i64)] 0], []⟩
def ou89 : List OS := [⟨(.lf .bool), []⟩]
noncomputable def kf89 (fu : Nat) : KF := { inp := in89, outs := ou89, pure := true, model := rule_Find_1 fu }
theorem ok89 (fu : Nat) : (C89 fu).Ok := ⟨wf, fun f kf h => by
  have h : kf ∈ kn89 fu f := h
  unfold kn89 at h
  split at h
  · simp only [List.mem_cons, List.not_mem_nil, or_false] at h
    subst h; exact knows90 fu
  · cases h⟩
set_option maxRecDepth 100000 in
theorem run89 (fu : Nat) (a) : fnK (C89 fu) Try.f89 (kf89 fu).inp (kf89 fu).outs a = (kf89 fu).model a := by kernel_rfl
theorem knows89 (fu : Nat) : Known Try.prog 89 (kf89 fu) := Known.of (ok89 fu) Try.func89 (by kernel_rfl) (run89 fu)
end Go.Proofs.Ytcbbacmpkhajeaa

namespace Go.Proofs.Ytcbbacmpkhajeaa
open Go.AM
open Go.AM.M
def h88find : Nat → Option Hint
  | 0 => some { keep := [0, 1] }
  | 1 => some { keep := [0, 1, 7, 8] }
  | 2 => some { keep := [0, 1, 7, 8, 9] }
  | 3 => some { keep := [0, 1, 5, 7, 8] }
  | 4 => some { keep := [0, 1, 5, 7, 8, 16] }
  | 5 => some { keep := [4] }
  | 6 => some { keep := [0, 1, 7, 8] }
  | 7 => some { keep := [4] }
  | _ => none
def tt88find : Nat → Option (TypeId × Sh)
  | 0 => some (69, .cons (.sl (.int .i64)) (.sl (.int .i64)))
  | 6 => some (69, .cons (.sl (.int .i64)) (.sl (.int .i64)))
  | 12 => some (69, .cons (.sl (.int .i64)) (.sl (.int .i64)))
  | _ => none
def lp88find : Nat → LH
  | _ => {}
noncomputable def kn88find (fu : Nat) : FuncId → List KF
  | 89 => [kf89 fu]
  | _ => []
noncomputable def C88find (fu : Nat) : TC := { C := { P := Try.prog, mv := fun _ _ => false, res := fun _ => false, live := h88find, call := fun _ _ _ => none, sh := shT }, kn := kn88find fu, fu, lp := lp88find, dr := fun _ => none, can := canT, tt := tt88find }
def in88find : IS := ⟨[.sl .view false (.cons (.sl (.int .i64)) (.sl (.int .i64))), .fn 89 [] [.elemv [.sl .view false (.int .i64)] 0]], []⟩
def ou88find : List OS := [⟨(.lf (.int .i64)), []⟩]
noncomputable def kf88find (fu : Nat) : KF := { inp := in88find, outs := ou88find, pure := true, model := slices_IndexFunc_api_Rule_find fu }
theorem ok88find (fu : Nat) : (C88find fu).Ok := ⟨wf, fun f kf h => by
  have h : kf ∈ kn88find fu f := h
  unfold kn88find at h
  split at h
  · simp only [List.mem_cons, List.not_mem_nil, or_false] at h
    subst h; exact knows89 fu
  · cases h⟩
set_option maxRecDepth 100000 in
theorem run88find (fu : Nat) (a) : fnK (C88find fu) Try.f88 (kf88find fu).inp (kf88find fu).outs a = (kf88find fu).model a := by kernel_rfl
theorem knows88find (fu : Nat) : Known Try.prog 88 (kf88find fu) := Known.of (ok88find fu) Try.func88 (by kernel_rfl) (run88find fu)
end Go.Proofs.Ytcbbacmpkhajeaa

namespace Go.Proofs.Ytcbbacmpkhajeaa
open Go.AM
open Go.AM.M
def h92 : Nat → Option Hint
  | 0 => some { keep := [1, 2] }
  | 1 => some { keep := [3] }
  | _ => none
def tt92 : Nat → Option (TypeId × Sh)
  | 5 => some (3, .int .i64)
  | 7 => some (3, .int .i64)
  | _ => none
def lp92 : Nat → LH
  | _ => {}
noncomputable def kn92 (fu : Nat) : FuncId → List KF
  | _ => []
noncomputable def C92 (fu : Nat) : TC := { C := { P := Try.prog, mv := fun _ _ => false, res := fun _ => false, live := h92, call := fun _ _ _ => none, sh := shT }, kn := kn92 fu, fu, lp := lp92, dr := fun _ => none, can := canT, tt := tt92 }
def in92 : IS := ⟨[.agg [.sl .view false (.int .i64), .sl .view false (.int .i64)], .elemv [.lf (.int .i64)] 0], []⟩
def ou92 : List OS := [⟨(.lf .bool), []⟩]
noncomputable def kf92 (fu : Nat) : KF := { inp := in92, outs := ou92, pure := true, model := table_used_1 fu }
theorem ok92 (fu : Nat) : (C92 fu).Ok := ⟨wf, fun f kf h => by
  have h : kf ∈ kn92 fu f := h
  unfold kn92 at h
  split at h
  · cases h⟩
set_option maxRecDepth 100000 in
theorem run92 (fu : Nat) (a) : fnK (C92 fu) Try.f92 (kf92 fu).inp (kf92 fu).outs a = (kf92 fu).model a := by kernel_rfl
theorem knows92 (fu : Nat) : Known Try.prog 92 (kf92 fu) := Known.of (ok92 fu) Try.func92 (by kernel_rfl) (run92 fu)
end Go.Proofs.Ytcbbacmpkhajeaa

namespace Go.Proofs.Ytcbbacmpkhajeaa
open Go.AM
open Go.AM.M
def h88used : Nat → Option Hint
  | 0 => some { keep := [0, 1] }
  | 1 => some { keep := [0, 1, 7, 8] }
  | 2 => some { keep := [0, 1, 7, 8, 9] }
  | 3 => some { keep := [0, 1, 5, 7, 8] }
  | 4 => some { keep := [0, 1, 5, 7, 8, 16] }
  | 5 => some { keep := [4] }
  | 6 => some { keep := [0, 1, 7, 8] }
  | 7 => some { keep := [4] }
  | _ => none
def tt88used : Nat → Option (TypeId × Sh)
  | 0 => some (69, .cons (.sl (.int .i64)) (.sl (.int .i64)))
  | 6 => some (69, .cons (.sl (.int .i64)) (.sl (.int .i64)))
  | 12 => some (69, .cons (.sl (.int .i64)) (.sl (.int .i64)))
  | _ => none
def lp88used : Nat → LH
  | _ => {}
noncomputable def kn88used (fu : Nat) : FuncId → List KF
  | 92 => [kf92 fu]
  | _ => []
noncomputable def C88used (fu : Nat) : TC := { C := { P := Try.prog, mv := fun _ _ => false, res := fun _ => false, live := h88used, call := fun _ _ _ => none, sh := shT }, kn := kn88used fu, fu, lp := lp88used, dr := fun _ => none, can := canT, tt := tt88used }
def in88used : IS := ⟨[.sl .view false (.cons (.sl (.int .i64)) (.sl (.int .i64))), .fn 92 [] [.elemv [.lf (.int .i64)] 0]], []⟩
def ou88used : List OS := [⟨(.lf (.int .i64)), []⟩]
noncomputable def kf88used (fu : Nat) : KF := { inp := in88used, outs := ou88used, pure := true, model := slices_IndexFunc_api_Rule_used fu }
theorem ok88used (fu : Nat) : (C88used fu).Ok := ⟨wf, fun f kf h => by
  have h : kf ∈ kn88used fu f := h
  unfold kn88used at h
  split at h
  · simp only [List.mem_cons, List.not_mem_nil, or_false] at h
    subst h; exact knows92 fu
  · cases h⟩
set_option maxRecDepth 100000 in
theorem run88used (fu : Nat) (a) : fnK (C88used fu) Try.f88 (kf88used fu).inp (kf88used fu).outs a = (kf88used fu).model a := by kernel_rfl
theorem knows88used (fu : Nat) : Known Try.prog 88 (kf88used fu) := Known.of (ok88used fu) Try.func88 (by kernel_rfl) (run88used fu)
end Go.Proofs.Ytcbbacmpkhajeaa

namespace Go.Proofs.Ytcbbacmpkhajeaa
open Go.AM
open Go.AM.M
def h72 : Nat → Option Hint
  | 0 => some { keep := [0, 3], fb := true }
  | 1 => some { keep := [4] }
  | _ => none
def tt72 : Nat → Option (TypeId × Sh)
  | 0 => some (69, .cons (.sl (.int .i64)) (.sl (.int .i64)))
  | 1 => some (3, .int .i64)
  | 5 => some (69, .cons (.sl (.int .i64)) (.sl (.int .i64)))
  | _ => none
def lp72 : Nat → LH
  | _ => {}
noncomputable def kn72 (fu : Nat) : FuncId → List KF
  | 88 => [kf88find fu, kf88used fu]
  | 89 => [kf89 fu]
  | _ => []
noncomputable def C72 (fu : Nat) : TC := { C := { P := Try.prog, mv := fun _ _ => false, res := fun _ => false, live := h72, call := fun _ _ _ => none, sh := shT }, kn := kn72 fu, fu, lp := lp72, dr := fun _ => none, can := canT, tt := tt72 }
def in72 : IS := ⟨[.sl .view false (.cons (.sl (.int .i64)) (.sl (.int .i64))), .sl .view false (.int .i64)], []⟩
def ou72 : List OS := [⟨(.lf (.int .i64)), []⟩]
noncomputable def kf72 (fu : Nat) : KF := { inp := in72, outs := ou72, pure := true, model := rule_Find fu }
theorem ok72 (fu : Nat) : (C72 fu).Ok := ⟨wf, fun f kf h => by
  have h : kf ∈ kn72 fu f := h
  unfold kn72 at h
  split at h
  · simp only [List.mem_cons, List.not_mem_nil, or_false] at h
    rcases h with rfl | rfl
    · exact knows88find fu
    · exact knows88used fu
  · simp only [List.mem_cons, List.not_mem_nil, or_false] at h
    subst h; exact knows89 fu
  · cases h⟩
set_option maxRecDepth 100000 in
theorem run72 (fu : Nat) (a) : fnK (C72 fu) Try.f72 (kf72 fu).inp (kf72 fu).outs a = (kf72 fu).model a := by kernel_rfl
theorem knows72 (fu : Nat) : Known Try.prog 72 (kf72 fu) := Known.of (ok72 fu) Try.func72 (by kernel_rfl) (run72 fu)
end Go.Proofs.Ytcbbacmpkhajeaa

namespace Go.Proofs.Ytcbbacmpkhajeaa
open Go.AM
open Go.AM.M
def h100 : Nat → Option Hint
  | 0 => some { keep := [0] }
  | 1 => some { keep := [2] }
  | _ => none
def tt100 : Nat → Option (TypeId × Sh)
  | _ => none
def lp100 : Nat → LH
  | _ => {}
noncomputable def kn100 (fu : Nat) : FuncId → List KF
  | _ => []
noncomputable def C100 (fu : Nat) : TC := { C := { P := Try.prog, mv := fun _ _ => false, res := fun _ => false, live := h100, call := fun _ _ _ => none, sh := shT }, kn := kn100 fu, fu, lp := lp100, dr := fun _ => none, can := canT, tt := tt100 }
def in100 : IS := ⟨[.lf (.int .i64)], []⟩
def ou100 : List OS := [⟨(.lf .bool), []⟩]
noncomputable def kf100 (fu : Nat) : KF := { inp := in100, outs := ou100, pure := true, model := rule_side_1 fu }
theorem ok100 (fu : Nat) : (C100 fu).Ok := ⟨wf, fun f kf h => by
  have h : kf ∈ kn100 fu f := h
  unfold kn100 at h
  split at h
  · cases h⟩
set_option maxRecDepth 100000 in
theorem run100 (fu : Nat) (a) : fnK (C100 fu) Try.f100 (kf100 fu).inp (kf100 fu).outs a = (kf100 fu).model a := by kernel_rfl
theorem knows100 (fu : Nat) : Known Try.prog 100 (kf100 fu) := Known.of (ok100 fu) Try.func100 (by kernel_rfl) (run100 fu)
end Go.Proofs.Ytcbbacmpkhajeaa

namespace Go.Proofs.Ytcbbacmpkhajeaa
open Go.AM
open Go.AM.M
def h104side : Nat → Option Hint
  | 0 => some { keep := [0, 1] }
  | 1 => some { keep := [0, 1, 7, 8] }
  | 2 => some { keep := [0, 1, 7, 8, 9] }
  | 3 => some { keep := [0, 1, 5, 7, 8] }
  | 4 => some { keep := [0, 1, 5, 7, 8, 16] }
  | 5 => some { keep := [4] }
  | 6 => some { keep := [0, 1, 7, 8] }
  | 7 => some { keep := [4] }
  | _ => none
def tt104side : Nat → Option (TypeId × Sh)
  | 0 => some (3, .int .i64)
  | 6 => some (3, .int .i64)
  | 12 => some (3, .int .i64)
  | _ => none
def lp104side : Nat → LH
  | _ => {}
noncomputable def kn104side (fu : Nat) : FuncId → List KF
  | 100 => [kf100 fu]
  | _ => []
noncomputable def C104side (fu : Nat) : TC := { C := { P := Try.prog, mv := fun _ _ => false, res := fun _ => false, live := h104side, call := fun _ _ _ => none, sh := shT }, kn := kn104side fu, fu, lp := lp104side, dr := fun _ => none, can := canT, tt := tt104side }
def in104side : IS := ⟨[.sl .view false (.int .i64), .fn 100 [] []], []⟩
def ou104side : List OS := [⟨(.lf (.int .i64)), []⟩]
noncomputable def kf104side (fu : Nat) : KF := { inp := in104side, outs := ou104side, pure := true, model := slices_IndexFunc_int_side fu }
theorem ok104side (fu : Nat) : (C104side fu).Ok := ⟨wf, fun f kf h => by
  have h : kf ∈ kn104side fu f := h
  unfold kn104side at h
  split at h
  · simp only [List.mem_cons, List.not_mem_nil, or_false] at h
    subst h; exact knows100 fu
  · cases h⟩
set_option maxRecDepth 100000 in
theorem run104side (fu : Nat) (a) : fnK (C104side fu) Try.f104 (kf104side fu).inp (kf104side fu).outs a = (kf104side fu).model a := by kernel_rfl
theorem knows104side (fu : Nat) : Known Try.prog 104 (kf104side fu) := Known.of (ok104side fu) Try.func104 (by kernel_rfl) (run104side fu)
end Go.Proofs.Ytcbbacmpkhajeaa

namespace Go.Proofs.Ytcbbacmpkhajeaa
open Go.AM
open Go.AM.M
def h99side : Nat → Option Hint
  | 0 => some { keep := [0, 1] }
  | 1 => some { keep := [4] }
  | _ => none
def tt99side : Nat → Option (TypeId × Sh)
  | 0 => some (3, .int .i64)
  | 5 => some (3, .int .i64)
  | _ => none
def lp99side : Nat → LH
  | _ => {}
noncomputable def kn99side (fu : Nat) : FuncId → List KF
  | 104 => [kf104side fu]
  | _ => []
noncomputable def C99side (fu : Nat) : TC := { C := { P := Try.prog, mv := fun _ _ => false, res := fun _ => false, live := h99side, call := fun _ _ _ => none, sh := shT }, kn := kn99side fu, fu, lp := lp99side, dr := fun _ => none, can := canT, tt := tt99side }
def in99side : IS := ⟨[.sl .view false (.int .i64), .fn 100 [] []], []⟩
def ou99side : List OS := [⟨(.lf .bool), []⟩]
noncomputable def kf99side (fu : Nat) : KF := { inp := in99side, outs := ou99side, pure := true, model := slices_ContainsFunc_int_side fu }
theorem ok99side (fu : Nat) : (C99side fu).Ok := ⟨wf, fun f kf h => by
  have h : kf ∈ kn99side fu f := h
  unfold kn99side at h
  split at h
  · simp only [List.mem_cons, List.not_mem_nil, or_false] at h
    subst h; exact knows104side fu
  · cases h⟩
set_option maxRecDepth 100000 in
theorem run99side (fu : Nat) (a) : fnK (C99side fu) Try.f99 (kf99side fu).inp (kf99side fu).outs a = (kf99side fu).model a := by kernel_rfl
theorem knows99side (fu : Nat) : Known Try.prog 99 (kf99side fu) := Known.of (ok99side fu) Try.func99 (by kernel_rfl) (run99side fu)
end Go.Proofs.Ytcbbacmpkhajeaa

namespace Go.Proofs.Ytcbbacmpkhajeaa
open Go.AM
open Go.AM.M
def h87 : Nat → Option Hint
  | 0 => some { keep := [0] }
  | 1 => some { keep := [2] }
  | _ => none
def tt87 : Nat → Option (TypeId × Sh)
  | 0 => some (3, .int .i64)
  | 3 => some (3, .int .i64)
  | 7 => some (3, .int .i64)
  | 12 => some (3, .int .i64)
  | _ => none
def lp87 : Nat → LH
  | _ => {}
noncomputable def kn87 (fu : Nat) : FuncId → List KF
  | 99 => [kf99side fu]
  | 100 => [kf100 fu]
  | _ => []
noncomputable def C87 (fu : Nat) : TC := { C := { P := Try.prog, mv := fun _ _ => false, res := fun _ => false, live := h87, call := fun _ _ _ => none, sh := shT }, kn := kn87 fu, fu, lp := lp87, dr := fun _ => none, can := canT, tt := tt87 }
def in87 : IS := ⟨[.sl .view false (.int .i64)], []⟩
def ou87 : List OS := [⟨(.lf .bool), []⟩]
noncomputable def kf87 (fu : Nat) : KF := { inp := in87, outs := ou87, pure := true, model := rule_side fu }
theorem ok87 (fu : Nat) : (C87 fu).Ok := ⟨wf, fun f kf h => by
  have h : kf ∈ kn87 fu f := h
  unfold kn87 at h
  split at h
  · simp only [List.mem_cons, List.not_mem_nil, or_false] at h
    subst h; exact knows99side fu
  · simp only [List.mem_cons, List.not_mem_nil, or_false] at h
    subst h; exact knows100 fu
  · cases h⟩
set_option maxRecDepth 100000 in
theorem run87 (fu : Nat) (a) : fnK (C87 fu) Try.f87 (kf87 fu).inp (kf87 fu).outs a = (kf87 fu).model a := by kernel_rfl
theorem knows87 (fu : Nat) : Known Try.prog 87 (kf87 fu) := Known.of (ok87 fu) Try.func87 (by kernel_rfl) (run87 fu)
end Go.Proofs.Ytcbbacmpkhajeaa

namespace Go.Proofs.Ytcbbacmpkhajeaa
open Go.AM
open Go.AM.M
def h70 : Nat → Option Hint
  | 0 => some { keep := [0] }
  | 1 => some { keep := [0, 6, 7, 8] }
  | 2 => some { keep := [0, 6, 7, 8, 9] }
  | 3 => some { keep := [0, 4, 5, 6, 7, 8] }
  | 4 => some { keep := [0, 4, 5, 6, 7, 8, 13] }
  | 5 => some { keep := [2, 3] }
  | 6 => some { keep := [0, 4, 5, 6, 7, 8, 17] }
  | 7 => some { keep := [2, 3] }
  | 8 => some { keep := [0, 4, 6, 7, 8, 29] }
  | 9 => some { keep := [2, 3] }
  | 10 => some { keep := [0, 6, 7, 8] }
  | 11 => some { keep := [2, 3] }
  | _ => none
def tt70 : Nat → Option (TypeId × Sh)
  | 0 => some (69, .cons (.sl (.int .i64)) (.sl (.int .i64)))
  | 6 => some (69, .cons (.sl (.int .i64)) (.sl (.int .i64)))
  | 19 => some (3, .int .i64)
  | 24 => some (3, .int .i64)
  | 30 => some (69, .cons (.sl (.int .i64)) (.sl (.int .i64)))
  | 32 => some (69, .cons (.sl (.int .i64)) (.sl (.int .i64)))
  | 34 => some (3, .int .i64)
  | _ => none
def lp70 : Nat → LH
  | _ => {}
noncomputable def kn70 (fu : Nat) : FuncId → List KF
  | 72 => [kf72 fu]
  | 87 => [kf87 fu]
  | _ => []
noncomputable def C70 (fu : Nat) : TC := { C := { P := Try.prog, mv := fun _ _ => false, res := fun _ => false, live := h70, call := fun _ _ _ => none, sh := shT }, kn := kn70 fu, fu, lp := lp70, dr := fun _ => none, can := canT, tt := tt70 }
def in70 : IS := ⟨[.sl .view false (.cons (.sl (.int .i64)) (.sl (.int .i64)))], []⟩
def ou70 : List OS := [⟨(.tup [(.lf (.int .i64)), (.lf (.int .i64))]), []⟩]
noncomputable def kf70 (fu : Nat) : KF := { inp := in70, outs := ou70, pure := true, model := rule_Check fu }
theorem ok70 (fu : Nat) : (C70 fu).Ok := ⟨wf, fun f kf h => by
  have h : kf ∈ kn70 fu f := h
  unfold kn70 at h
  split at h
  · simp only [List.mem_cons, List.not_mem_nil, or_false] at h
    subst h; exact knows72 fu
  · simp only [List.mem_cons, List.not_mem_nil, or_false] at h
    subst h; exact knows87 fu
  · cases h⟩
set_option maxRecDepth 100000 in
theorem run70 (fu : Nat) (a) : fnK (C70 fu) Try.f70 (kf70 fu).inp (kf70 fu).outs a = (kf70 fu).model a := by kernel_rfl
theorem knows70 (fu : Nat) : Known Try.prog 70 (kf70 fu) := Known.of (ok70 fu) Try.func70 (by kernel_rfl) (run70 fu)
end Go.Proofs.Ytcbbacmpkhajeaa

namespace Go.Proofs.Ytcbbacmpkhajeaa
open Go.AM
open Go.AM.M
def h71 : Nat → Option Hint
  | 0 => some { keep := [0, 1, 2] }
  | 1 => some { keep := [0, 1, 2, 19] }
  | 2 => some { keep := [6, 7] }
  | 3 => some { keep := [0, 2, 8] }
  | 4 => some { keep := [0, 2, 8, 29] }
  | 5 => some { keep := [0, 2, 8] }
  | 6 => some { keep := [0, 2, 8, 47] }
  | 7 => some { keep := [6, 7] }
  | 8 => some { keep := [6, 7] }
  | _ => none
def tt71 : Nat → Option (TypeId × Sh)
  | 16 => some (103, .cons (.int .i64) (.cons (.int .i64) (.cons (.int .i64) (.int .i64))))
  | 23 => some (103, .cons (.int .i64) (.cons (.int .i64) (.cons (.int .i64) (.int .i64))))
  | 33 => some (103, .cons (.int .i64) (.cons (.int .i64) (.cons (.int .i64) (.int .i64))))
  | 41 => some (103, .cons (.int .i64) (.cons (.int .i64) (.cons (.int .i64) (.int .i64))))
  | _ => none
def lp71 : Nat → LH
  | _ => {}
noncomputable def kn71 (fu : Nat) : FuncId → List KF
  | _ => []
noncomputable def C71 (fu : Nat) : TC := { C := { P := Try.prog, mv := fun _ _ => false, res := fun _ => false, live := h71, call := fun _ _ _ => none, sh := shT }, kn := kn71 fu, fu, lp := lp71, dr := fun _ => none, can := canT, tt := tt71 }
def in71 : IS := ⟨[.elemv [.sl .view false (.cons (.int .i64) (.cons (.int .i64) (.cons (.int .i64) (.int .i64)))), .sl .view false (.cons (.sl (.int .i64)) (.sl (.int .i64)))] 0, .lf (.int .i64), .lf (.int .i64)], []⟩
def ou71 : List OS := [⟨(.tup [(.lf (.int .i64)), (.lf .bool)]), []⟩]
noncomputable def kf71 (fu : Nat) : KF := { inp := in71, outs := ou71, pure := true, model := trie_Trie_Step fu }
theorem ok71 (fu : Nat) : (C71 fu).Ok := ⟨wf, fun f kf h => by
  have h : kf ∈ kn71 fu f := h
  unfold kn71 at h
  split at h
  · cases h⟩
set_option maxRecDepth 100000 in
theorem run71 (fu : Nat) (a) : fnK (C71 fu) Try.f71 (kf71 fu).inp (kf71 fu).outs a = (kf71 fu).model a := by kernel_rfl
theorem knows71 (fu : Nat) : Known Try.prog 71 (kf71 fu) := Known.of (ok71 fu) Try.func71 (by kernel_rfl) (run71 fu)
end Go.Proofs.Ytcbbacmpkhajeaa

namespace Go.Proofs.Ytcbbacmpkhajeaa
open Go.AM
open Go.AM.M
def h71box : Nat → Option Hint
  | 0 => some { keep := [0, 1, 2] }
  | 1 => some { keep := [0, 1, 2, 19] }
  | 2 => some { keep := [6, 7] }
  | 3 => some { keep := [0, 2, 8] }
  | 4 => some { keep := [0, 2, 8, 29] }
  | 5 => some { keep := [0, 2, 8] }
  | 6 => some { keep := [0, 2, 8, 47] }
  | 7 => some { keep := [6, 7] }
  | 8 => some { keep := [6, 7] }
  | _ => none
def tt71box : Nat → Option (TypeId × Sh)
  | 16 => some (103, .cons (.int .i64) (.cons (.int .i64) (.cons (.int .i64) (.int .i64))))
  | 23 => some (103, .cons (.int .i64) (.cons (.int .i64) (.cons (.int .i64) (.int .i64))))
  | 33 => some (103, .cons (.int .i64) (.cons (.int .i64) (.cons (.int .i64) (.int .i64))))
  | 41 => some (103, .cons (.int .i64) (.cons (.int .i64) (.cons (.int .i64) (.int .i64))))
  | _ => none
def lp71box : Nat → LH
  | _ => {}
noncomputable def kn71box (fu : Nat) : FuncId → List KF
  | _ => []
noncomputable def C71box (fu : Nat) : TC := { C := { P := Try.prog, mv := fun _ _ => false, res := fun _ => false, live := h71box, call := fun _ _ _ => none, sh := shT }, kn := kn71box fu, fu, lp := lp71box, dr := fun _ => none, can := canT, tt := tt71box }
def in71box : IS := ⟨[.ptr 0 0, .lf (.int .i64), .lf (.int .i64)], [(106, [.sl (.excl 103) false (.cons (.int .i64) (.cons (.int .i64) (.cons (.int .i64) (.int .i64)))), .sl (.own 69) false (.cons (.sl (.int .i64)) (.sl (.int .i64)))])]⟩
def ou71box : List OS := [⟨(.tup [(.lf (.int .i64)), (.lf .bool)]), [(106, [(.sl (.excl 103) false (.cons (.int .i64) (.cons (.int .i64) (.cons (.int .i64) (.int .i64))))), (.sl (.own 69) false (.cons (.sl (.int .i64)) (.sl (.int .i64))))])]⟩]
noncomputable def kf71box (fu : Nat) : KF := { inp := in71box, outs := ou71box, pure := false, model := trie_Trie_Step_box fu }
theorem ok71box (fu : Nat) : (C71box fu).Ok := ⟨wf, fun f kf h => by
  have h : kf ∈ kn71box fu f := h
  unfold kn71box at h
  split at h
  · cases h⟩
set_option maxRecDepth 100000 in
theorem run71box (fu : Nat) (a) : fnK (C71box fu) Try.f71 (kf71box fu).inp (kf71box fu).outs a = (kf71box fu).model a := by kernel_rfl
theorem knows71box (fu : Nat) : Known Try.prog 71 (kf71box fu) := Known.of (ok71box fu) Try.func71 (by kernel_rfl) (run71box fu)
end Go.Proofs.Ytcbbacmpkhajeaa

namespace Go.Proofs.Ytcbbacmpkhajeaa
open Go.AM
open Go.AM.M
def h48 : Nat → Option Hint
  | 0 => some { keep := [0] }
  | 1 => some { keep := [0, 5] }
  | 2 => some { keep := [0, 5, 20] }
  | 3 => some { keep := [2, 3] }
  | 4 => some { keep := [0, 6] }
  | 5 => some { keep := [0, 6, 26, 27, 28] }
  | 6 => some { keep := [0, 6, 26, 27, 28, 29] }
  | 7 => some { keep := [0, 6, 7, 8, 26, 27, 28] }
  | 8 => some { keep := [0, 6, 7, 8, 9, 26, 27, 28] }
  | 9 => some { keep := [0, 6, 7, 8, 9, 26, 27, 28] }
  | 10 => some { keep := [0, 6, 7, 9, 26, 27, 28, 47, 48, 49] }
  | 11 => some { keep := [0, 6, 7, 9, 26, 27, 28, 47, 48, 49, 50] }
  | 12 => some { keep := [0, 6, 7, 9, 11, 26, 27, 28, 47, 48, 49] }
  | 13 => some { keep := [0, 6, 7, 9, 11, 12, 13, 26, 27, 28, 47, 48, 49] }
  | 14 => some { keep := [0, 6, 7, 9, 11, 12, 26, 27, 28, 47, 48, 49, 61] }
  | 15 => some { keep := [0, 6, 7, 9, 11, 12, 26, 27, 28, 47, 48, 49] }
  | 16 => some { keep := [0, 6, 7, 9, 12, 26, 27, 28, 47, 48, 49] }
  | 17 => some { keep := [0, 6, 7, 12, 26, 27, 28, 47, 48, 49] }
  | 18 => some { keep := [0, 6, 7, 9, 26, 27, 28, 47, 48, 49] }
  | 19 => some { keep := [0, 6, 7, 9, 26, 27, 28, 47, 48, 49] }
  | 20 => some { keep := [0, 6, 26, 27, 28] }
  | 21 => some { keep := [0, 6, 26, 27, 28] }
  | 22 => some { keep := [2, 3], fb := true }
  | _ => none
def tt48 : Nat → Option (TypeId × Sh)
  | 0 => some (69, .cons (.sl (.int .i64)) (.sl (.int .i64)))
  | 15 => some (69, .cons (.sl (.int .i64)) (.sl (.int .i64)))
  | 23 => some (103, .cons (.int .i64) (.cons (.int .i64) (.cons (.int .i64) (.int .i64))))
  | 26 => some (69, .cons (.sl (.int .i64)) (.sl (.int .i64)))
  | 37 => some (69, .cons (.sl (.int .i64)) (.sl (.int .i64)))
  | 39 => some (3, .int .i64)
  | 40 => some (3, .int .i64)
  | 42 => some (69, .cons (.sl (.int .i64)) (.sl (.int .i64)))
  | 43 => some (69, .cons (.sl (.int .i64)) (.sl (.int .i64)))
  | 47 => some (3, .int .i64)
  | 65 => some (103, .cons (.int .i64) (.cons (.int .i64) (.cons (.int .i64) (.int .i64))))
  | 71 => some (103, .cons (.int .i64) (.cons (.int .i64) (.cons (.int .i64) (.int .i64))))
  | 76 => some (103, .cons (.int .i64) (.cons (.int .i64) (.cons (.int .i64) (.int .i64))))
  | 82 => some (103, .cons (.int .i64) (.cons (.int .i64) (.cons (.int .i64) (.int .i64))))
  | 83 => some (103, .cons (.int .i64) (.cons (.int .i64) (.cons (.int .i64) (.int .i64))))
  | 89 => some (103, .cons (.int .i64) (.cons (.int .i64) (.cons (.int .i64) (.int .i64))))
  | 99 => some (103, .cons (.int .i64) (.cons (.int .i64) (.cons (.int .i64) (.int .i64))))
  | _ => none
def lp48 : Nat → LH
  | 6 => { excl := [89, 99] }
  | 11 => { excl := [89, 99] }
  | _ => {}
noncomputable def kn48 (fu : Nat) : FuncId → List KF
  | 70 => [kf70 fu]
  | 71 => [kf71 fu, kf71box fu]
  | _ => []
noncomputable def C48 (fu : Nat) : TC := { C := { P := Try.prog, mv := fun _ _ => false, res := fun _ => false, live := h48, call := fun _ _ _ => none, sh := shT }, kn := kn48 fu, fu, lp := lp48, dr := fun _ => none, can := canT, tt := tt48 }
def in48 : IS := ⟨[.sl .view false (.cons (.sl (.int .i64)) (.sl (.int .i64)))], []⟩
def ou48 : List OS := [⟨(.tup [.nilp, (.lf (.int .i64))]), []⟩, ⟨(.tup [(.elemv [(.sl .view false (.cons (.int .i64) (.cons (.int .i64) (.cons (.int .i64) (.int .i64))))), (.sl .view false (.cons (.sl (.int .i64)) (.sl (.int .i64))))] 0), (.lf (.int .i64))]), []⟩]
noncomputable def kf48 (fu : Nat) : KF := { inp := in48, outs := ou48, pure := true, model := trie_Of fu }
theorem ok48 (fu : Nat) : (C48 fu).Ok := ⟨wf, fun f kf h => by
  have h : kf ∈ kn48 fu f := h
  unfold kn48 at h
  split at h
  · simp only [List.mem_cons, List.not_mem_nil, or_false] at h
    subst h; exact knows70 fu
  · simp only [List.mem_cons, List.not_mem_nil, or_false] at h
    rcases h with rfl | rfl
    · exact knows71 fu
    · exact knows71box fu
  · cases h⟩
set_option maxRecDepth 100000 in
theorem run48 (fu : Nat) (a) : fnK (C48 fu) Try.f48 (kf48 fu).inp (kf48 fu).outs a = (kf48 fu).model a := by kernel_rfl
theorem knows48 (fu : Nat) : Known Try.prog 48 (kf48 fu) := Known.of (ok48 fu) Try.func48 (by kernel_rfl) (run48 fu)
end Go.Proofs.Ytcbbacmpkhajeaa

namespace Go.Proofs.Ytcbbacmpkhajeaa
open Go.AM
open Go.AM.M
def h91used : Nat → Option Hint
  | 0 => some { keep := [0, 1] }
  | 1 => some { keep := [4] }
  | _ => none
def tt91used : Nat → Option (TypeId × Sh)
  | 0 => some (69, .cons (.sl (.int .i64)) (.sl (.int .i64)))
  | 5 => some (69, .cons (.sl (.int .i64)) (.sl (.int .i64)))
  | _ => none
def lp91used : Nat → LH
  | _ => {}
noncomputable def kn91used (fu : Nat) : FuncId → List KF
  | 88 => [kf88find fu, kf88used fu]
  | _ => []
noncomputable def C91used (fu : Nat) : TC := { C := { P := Try.prog, mv := fun _ _ => false, res := fun _ => false, live := h91used, call := fun _ _ _ => none, sh := shT }, kn := kn91used fu, fu, lp := lp91used, dr := fun _ => none, can := canT, tt := tt91used }
def in91used : IS := ⟨[.sl .view false (.cons (.sl (.int .i64)) (.sl (.int .i64))), .fn 92 [] [.elemv [.lf (.int .i64)] 0]], []⟩
def ou91used : List OS := [⟨(.lf .bool), []⟩]
noncomputable def kf91used (fu : Nat) : KF := { inp := in91used, outs := ou91used, pure := true, model := slices_ContainsFunc_api_Rule_used fu }
theorem ok91used (fu : Nat) : (C91used fu).Ok := ⟨wf, fun f kf h => by
  have h : kf ∈ kn91used fu f := h
  unfold kn91used at h
  split at h
  · simp only [List.mem_cons, List.not_mem_nil, or_false] at h
    rcases h with rfl | rfl
    · exact knows88find fu
    · exact knows88used fu
  · cases h⟩
set_option maxRecDepth 100000 in
theorem run91used (fu : Nat) (a) : fnK (C91used fu) Try.f91 (kf91used fu).inp (kf91used fu).outs a = (kf91used fu).model a := by kernel_rfl
theorem knows91used (fu : Nat) : Known Try.prog 91 (kf91used fu) := Known.of (ok91used fu) Try.func91 (by kernel_rfl) (run91used fu)
end Go.Proofs.Ytcbbacmpkhajeaa

namespace Go.Proofs.Ytcbbacmpkhajeaa
open Go.AM
open Go.AM.M
def h73 : Nat → Option Hint
  | 0 => some { keep := [0, 3], fb := true }
  | 1 => some { keep := [4] }
  | _ => none
def tt73 : Nat → Option (TypeId × Sh)
  | 0 => some (69, .cons (.sl (.int .i64)) (.sl (.int .i64)))
  | 5 => some (69, .cons (.sl (.int .i64)) (.sl (.int .i64)))
  | _ => none
def lp73 : Nat → LH
  | _ => {}
noncomputable def kn73 (fu : Nat) : FuncId → List KF
  | 91 => [kf91used fu]
  | 92 => [kf92 fu]
  | _ => []
noncomputable def C73 (fu : Nat) : TC := { C := { P := Try.prog, mv := fun _ _ => false, res := fun _ => false, live := h73, call := fun _ _ _ => none, sh := shT }, kn := kn73 fu, fu, lp := lp73, dr := fun _ => none, can := canT, tt := tt73 }
def in73 : IS := ⟨[.sl .view false (.cons (.sl (.int .i64)) (.sl (.int .i64))), .lf (.int .i64)], []⟩
def ou73 : List OS := [⟨(.lf .bool), []⟩]
noncomputable def kf73 (fu : Nat) : KF := { inp := in73, outs := ou73, pure := true, model := table_used fu }
theorem ok73 (fu : Nat) : (C73 fu).Ok := ⟨wf, fun f kf h => by
  have h : kf ∈ kn73 fu f := h
  unfold kn73 at h
  split at h
  · simp only [List.mem_cons, List.not_mem_nil, or_false] at h
    subst h; exact knows91used fu
  · simp only [List.mem_cons, List.not_mem_nil, or_false] at h
    subst h; exact knows92 fu
  · cases h⟩
set_option maxRecDepth 100000 in
theorem run73 (fu : Nat) (a) : fnK (C73 fu) Try.f73 (kf73 fu).inp (kf73 fu).outs a = (kf73 fu).model a := by kernel_rfl
theorem knows73 (fu : Nat) : Known Try.prog 73 (kf73 fu) := Known.of (ok73 fu) Try.func73 (by kernel_rfl) (run73 fu)
end Go.Proofs.Ytcbbacmpkhajeaa

namespace Go.Proofs.Ytcbbacmpkhajeaa
open Go.AM
open Go.AM.M
def h49 : Nat → Option Hint
  | 0 => some { keep := [0] }
  | 1 => some { keep := [0, 6, 7, 8] }
  | 2 => some { keep := [0, 6, 7, 8, 9] }
  | 3 => some { keep := [0, 4, 6, 7, 8] }
  | 4 => some { keep := [0, 4, 5, 6, 7, 8] }
  | 5 => some { keep := [0, 4, 5, 6, 7, 8, 17] }
  | 6 => some { keep := [0, 4, 5, 6, 7, 8] }
  | 7 => some { keep := [0, 4, 5, 6, 7, 8, 38] }
  | 8 => some { keep := [2] }
  | 9 => some { keep := [0, 6, 7, 8] }
  | 10 => some { keep := [2] }
  | _ => none
def tt49 : Nat → Option (TypeId × Sh)
  | 0 => some (69, .cons (.sl (.int .i64)) (.sl (.int .i64)))
  | 6 => some (69, .cons (.sl (.int .i64)) (.sl (.int .i64)))
  | 13 => some (3, .int .i64)
  | 20 => some (69, .cons (.sl (.int .i64)) (.sl (.int .i64)))
  | 22 => some (3, .int .i64)
  | 24 => some (3, .int .i64)
  | 31 => some (69, .cons (.sl (.int .i64)) (.sl (.int .i64)))
  | 33 => some (3, .int .i64)
  | _ => none
def lp49 : Nat → LH
  | _ => {}
noncomputable def kn49 (fu : Nat) : FuncId → List KF
  | 72 => [kf72 fu]
  | 73 => [kf73 fu]
  | _ => []
noncomputable def C49 (fu : Nat) : TC := { C := { P := Try.prog, mv := fun _ _ => false, res := fun _ => false, live := h49, call := fun _ _ _ => none, sh := shT }, kn := kn49 fu, fu, lp := lp49, dr := fun _ => none, can := canT, tt := tt49 }
def in49 : IS := ⟨[.sl .view false (.cons (.sl (.int .i64)) (.sl (.int .i64)))], []⟩
def ou49 : List OS := [⟨(.lf .bool), []⟩]
noncomputable def kf49 (fu : Nat) : KF := { inp := in49, outs := ou49, pure := true, model := table_closed fu }
theorem ok49 (fu : Nat) : (C49 fu).Ok := ⟨wf, fun f kf h => by
  have h : kf ∈ kn49 fu f := h
  unfold kn49 at h
  split at h
  · simp only [List.mem_cons, List.not_mem_nil, or_false] at h
    subst h; exact knows72 fu
  · simp only [List.mem_cons, List.not_mem_nil, or_false] at h
    subst h; exact knows73 fu
  · cases h⟩
set_option maxRecDepth 100000 in
theorem run49 (fu : Nat) (a) : fnK (C49 fu) Try.f49 (kf49 fu).inp (kf49 fu).outs a = (kf49 fu).model a := by kernel_rfl
theorem knows49 (fu : Nat) : Known Try.prog 49 (kf49 fu) := Known.of (ok49 fu) Try.func49 (by kernel_rfl) (run49 fu)
end Go.Proofs.Ytcbbacmpkhajeaa

namespace Go.Proofs.Ytcbbacmpkhajeaa
open Go.AM
open Go.AM.M
def h74 : Nat → Option Hint
  | 0 => some { keep := [0] }
  | 1 => some { keep := [0, 4] }
  | 2 => some { keep := [2] }
  | 3 => some { keep := [2] }
  | _ => none
def tt74 : Nat → Option (TypeId × Sh)
  | 0 => some (3, .int .i64)
  | 2 => some (3, .int .i64)
  | 3 => some (3, .int .i64)
  | 5 => some (3, .int .i64)
  | 6 => some (3, .int .i64)
  | 7 => some (3, .int .i64)
  | _ => none
def lp74 : Nat → LH
  | _ => {}
noncomputable def kn74 (fu : Nat) : FuncId → List KF
  | _ => []
noncomputable def C74 (fu : Nat) : TC := { C := { P := Try.prog, mv := fun _ _ => false, res := fun _ => false, live := h74, call := fun _ _ _ => none, sh := shT }, kn := kn74 fu, fu, lp := lp74, dr := fun _ => none, can := canT, tt := tt74 }
def in74 : IS := ⟨[.sl .view false (.int .i64)], []⟩
def ou74 : List OS := [⟨(.sl (.excl 3) false (.int .i64)), []⟩]
noncomputable def kf74 (fu : Nat) : KF := { inp := in74, outs := ou74, pure := true, model := slices_Clone_int fu }
theorem ok74 (fu : Nat) : (C74 fu).Ok := ⟨wf, fun f kf h => by
  have h : kf ∈ kn74 fu f := h
  unfold kn74 at h
  split at h
  · cases h⟩
set_option maxRecDepth 100000 in
theorem run74 (fu : Nat) (a) : fnK (C74 fu) Try.f74 (kf74 fu).inp (kf74 fu).outs a = (kf74 fu).model a := by kernel_rfl
theorem knows74 (fu : Nat) : Known Try.prog 74 (kf74 fu) := Known.of (ok74 fu) Try.func74 (by kernel_rfl) (run74 fu)
end Go.Proofs.Ytcbbacmpkhajeaa

namespace Go.Proofs.Ytcbbacmpkhajeaa
open Go.AM
open Go.AM.M
def h50 : Nat → Option Hint
  | 0 => some { keep := [0] }
  | 1 => some { keep := [0, 3] }
  | 2 => some { keep := [0, 3, 6, 7, 8] }
  | 3 => some { keep := [0, 3, 6, 7, 8, 9] }
  | 4 => some { keep := [0, 3, 5, 6, 7, 8] }
  | 5 => some { keep := [0, 3, 5, 6, 7, 8, 16] }
  | 6 => some { keep := [0, 3, 6, 7, 8] }
  | 7 => some { keep := [0, 3, 6, 7, 8] }
  | 8 => some { keep := [2] }
  | _ => none
def tt50 : Nat → Option (TypeId × Sh)
  | 0 => some (69, .cons (.sl (.int .i64)) (.sl (.int .i64)))
  | 2 => some (69, .cons (.sl (.int .i64)) (.sl (.int .i64)))
  | 3 => some (69, .cons (.sl (.int .i64)) (.sl (.int .i64)))
  | 6 => some (69, .cons (.sl (.int .i64)) (.sl (.int .i64)))
  | 12 => some (69, .cons (.sl (.int .i64)) (.sl (.int .i64)))
  | 14 => some (3, .int .i64)
  | 17 => some (69, .cons (.sl (.int .i64)) (.sl (.int .i64)))
  | 19 => some (3, .int .i64)
  | 20 => some (3, .int .i64)
  | 22 => some (3, .int .i64)
  | 23 => some (3, .int .i64)
  | 25 => some (69, .cons (.sl (.int .i64)) (.sl (.int .i64)))
  | 26 => some (69, .cons (.sl (.int .i64)) (.sl (.int .i64)))
  | 28 => some (69, .cons (.sl (.int .i64)) (.sl (.int .i64)))
  | _ => none
def lp50 : Nat → LH
  | _ => {}
noncomputable def kn50 (fu : Nat) : FuncId → List KF
  | 72 => [kf72 fu]
  | 74 => [kf74 fu]
  | _ => []
noncomputable def C50 (fu : Nat) : TC := { C := { P := Try.prog, mv := fun _ _ => false, res := fun _ => false, live := h50, call := fun _ _ _ => none, sh := shT }, kn := kn50 fu, fu, lp := lp50, dr := fun _ => none, can := canT, tt := tt50 }
def in50 : IS := ⟨[.sl .view false (.cons (.sl (.int .i64)) (.sl (.int .i64)))], []⟩
def ou50 : List OS := [⟨(.sl (.own 69) false (.cons (.sl (.int .i64)) (.sl (.int .i64)))), []⟩]
noncomputable def kf50 (fu : Nat) : KF := { inp := in50, outs := ou50, pure := true, model := rule_Turn fu }
theorem ok50 (fu : Nat) : (C50 fu).Ok := ⟨wf, fun f kf h => by
  have h : kf ∈ kn50 fu f := h
  unfold kn50 at h
  split at h
  · simp only [List.mem_cons, List.not_mem_nil, or_false] at h
    subst h; exact knows72 fu
  · simp only [List.mem_cons, List.not_mem_nil, or_false] at h
    subst h; exact knows74 fu
  · cases h⟩
set_option maxRecDepth 100000 in
theorem run50 (fu : Nat) (a) : fnK (C50 fu) Try.f50 (kf50 fu).inp (kf50 fu).outs a = (kf50 fu).model a := by kernel_rfl
theorem knows50 (fu : Nat) : Known Try.prog 50 (kf50 fu) := Known.of (ok50 fu) Try.func50 (by kernel_rfl) (run50 fu)
end Go.Proofs.Ytcbbacmpkhajeaa

namespace Go.Proofs.Ytcbbacmpkhajeaa
open Go.AM
open Go.AM.M
def h51 : Nat → Option Hint
  | 0 => some { keep := [0] }
  | 1 => some { keep := [0, 3] }
  | 2 => some { keep := [0, 3, 6, 7, 8] }
  | 3 => some { keep := [0, 3, 6, 7, 8, 9] }
  | 4 => some { keep := [0, 3, 5, 6, 7, 8] }
  | 5 => some { keep := [0, 3, 6, 7, 8] }
  | 6 => some { keep := [0, 3, 6, 7, 8] }
  | 7 => some { keep := [2] }
  | _ => none
def tt51 : Nat → Option (TypeId × Sh)
  | 0 => some (69, .cons (.sl (.int .i64)) (.sl (.int .i64)))
  | 6 => some (69, .cons (.sl (.int .i64)) (.sl (.int .i64)))
  | 14 => some (3, .int .i64)
  | _ => none
def lp51 : Nat → LH
  | _ => {}
noncomputable def kn51 (fu : Nat) : FuncId → List KF
  | _ => []
noncomputable def C51 (fu : Nat) : TC := { C := { P := Try.prog, mv := fun _ _ => false, res := fun _ => false, live := h51, call := fun _ _ _ => none, sh := shT }, kn := kn51 fu, fu, lp := lp51, dr := fun _ => none, can := canT, tt := tt51 }
def in51 : IS := ⟨[.sl .view false (.cons (.sl (.int .i64)) (.sl (.int .i64)))], []⟩
def ou51 : List OS := [⟨(.lf (.int .i64)), []⟩]
noncomputable def kf51 (fu : Nat) : KF := { inp := in51, outs := ou51, pure := true, model := rule_Longest fu }
theorem ok51 (fu : Nat) : (C51 fu).Ok := ⟨wf, fun f kf h => by
  have h : kf ∈ kn51 fu f := h
  unfold kn51 at h
  split at h
  · cases h⟩
set_option maxRecDepth 100000 in
theorem run51 (fu : Nat) (a) : fnK (C51 fu) Try.f51 (kf51 fu).inp (kf51 fu).outs a = (kf51 fu).model a := by kernel_rfl
theorem knows51 (fu : Nat) : Known Try.prog 51 (kf51 fu) := Known.of (ok51 fu) Try.func51 (by kernel_rfl) (run51 fu)
end Go.Proofs.Ytcbbacmpkhajeaa

namespace Go.Proofs.Ytcbbacmpkhajeaa
open Go.AM
open Go.AM.M
def h16 : Nat → Option Hint
  | 0 => some { keep := [0] }
  | 1 => some { keep := [0, 4, 5] }
  | 2 => some { keep := [0, 4, 5, 14] }
  | 3 => some { keep := [2, 3] }
  | 4 => some { keep := [0, 4, 18] }
  | 5 => some { keep := [2, 3] }
  | 6 => some { keep := [0, 4, 6] }
  | 7 => some { keep := [6, 7] }
  | 8 => some { keep := [5, 7] }
  | 9 => some { keep := [2, 3], fb := true }
  | _ => none
def tt16 : Nat → Option (TypeId × Sh)
  | 0 => some (69, .cons (.sl (.int .i64)) (.sl (.int .i64)))
  | 6 => some (69, .cons (.sl (.int .i64)) (.sl (.int .i64)))
  | 9 => some (69, .cons (.sl (.int .i64)) (.sl (.int .i64)))
  | 16 => some (69, .cons (.sl (.int .i64)) (.sl (.int .i64)))
  | 19 => some (69, .cons (.sl (.int .i64)) (.sl (.int .i64)))
  | 20 => some (69, .cons (.sl (.int .i64)) (.sl (.int .i64)))
  | 21 => some (69, .cons (.sl (.int .i64)) (.sl (.int .i64)))
  | 23 => some (69, .cons (.sl (.int .i64)) (.sl (.int .i64)))
  | 30 => some (69, .cons (.sl (.int .i64)) (.sl (.int .i64)))
  | _ => none
def lp16 : Nat → LH
  | _ => {}
noncomputable def kn16 (fu : Nat) : FuncId → List KF
  | 48 => [kf48 fu]
  | 49 => [kf49 fu]
  | 50 => [kf50 fu]
  | 51 => [kf51 fu]
  | _ => []
noncomputable def C16 (fu : Nat) : TC := { C := { P := Try.prog, mv := fun _ _ => false, res := fun _ => false, live := h16, call := fun _ _ _ => none, sh := shT }, kn := kn16 fu, fu, lp := lp16, dr := fun _ => none, can := canT, tt := tt16 }
def in16 : IS := ⟨[.sl .view false (.cons (.sl (.int .i64)) (.sl (.int .i64)))], []⟩
def ou16 : List OS := [⟨.tup [.nilp, .lf (.int .i64)], []⟩, ⟨.tup [.elemv [.lf (.int .i64), .lf (.int .i64), .elemv [.sl .view false (.cons (.int .i64) (.cons (.int .i64) (.cons (.int .i64) (.int .i64)))), .sl .view false (.cons (.sl (.int .i64)) (.sl (.int .i64)))] 0, .elemv [.sl .view false (.cons (.int .i64) (.cons (.int .i64) (.cons (.int .i64) (.int .i64)))), .sl .view false (.cons (.sl (.int .i64)) (.sl (.int .i64)))] 0] 0, .lf (.int .i64)], []⟩]
noncomputable def kf16 (fu : Nat) : KF := { inp := in16, outs := ou16, pure := true, model := table_Of fu }
theorem ok16 (fu : Nat) : (C16 fu).Ok := ⟨wf, fun f kf h => by
  have h : kf ∈ kn16 fu f := h
  unfold kn16 at h
  split at h
  · simp only [List.mem_cons, List.not_mem_nil, or_false] at h
    subst h; exact knows48 fu
  · simp only [List.mem_cons, List.not_mem_nil, or_false] at h
    subst h; exact knows49 fu
  · simp only [List.mem_cons, List.not_mem_nil, or_false] at h
    subst h; exact knows50 fu
  · simp only [List.mem_cons, List.not_mem_nil, or_false] at h
    subst h; exact knows51 fu
  · cases h⟩
set_option maxRecDepth 100000 in
theorem run16 (fu : Nat) (a) : fnK (C16 fu) Try.f16 (kf16 fu).inp (kf16 fu).outs a = (kf16 fu).model a := by kernel_rfl
theorem knows16 (fu : Nat) : Known Try.prog 16 (kf16 fu) := Known.of (ok16 fu) Try.func16 (by kernel_rfl) (run16 fu)
end Go.Proofs.Ytcbbacmpkhajeaa

namespace Go.Proofs.Ytcbbacmpkhajeaa
open Go.AM
open Go.AM.M
def h82 : Nat → Option Hint
  | 0 => some { keep := [0] }
  | 1 => some { keep := [2] }
  | _ => none
def tt82 : Nat → Option (TypeId × Sh)
  | _ => none
def lp82 : Nat → LH
  | _ => {}
noncomputable def kn82 (fu : Nat) : FuncId → List KF
  | _ => []
noncomputable def C82 (fu : Nat) : TC := { C := { P := Try.prog, mv := fun _ _ => false, res := fun _ => false, live := h82, call := fun _ _ _ => none, sh := shT }, kn := kn82 fu, fu, lp := lp82, dr := fun _ => none, can := canT, tt := tt82 }
def in82 : IS := ⟨[.lf (.int .i64)], []⟩
def ou82 : List OS := [⟨(.lf (.int .i64)), []⟩]
noncomputable def kf82 (fu : Nat) : KF := { inp := in82, outs := ou82, pure := true, model := indic_code fu }
theorem ok82 (fu : Nat) : (C82 fu).Ok := ⟨wf, fun f kf h => by
  have h : kf ∈ kn82 fu f := h
  unfold kn82 at h
  split at h
  · cases h⟩
set_option maxRecDepth 100000 in
theorem run82 (fu : Nat) (a) : fnK (C82 fu) Try.f82 (kf82 fu).inp (kf82 fu).outs a = (kf82 fu).model a := by kernel_rfl
theorem knows82 (fu : Nat) : Known Try.prog 82 (kf82 fu) := Known.of (ok82 fu) Try.func82 (by kernel_rfl) (run82 fu)
end Go.Proofs.Ytcbbacmpkhajeaa

namespace Go.Proofs.Ytcbbacmpkhajeaa
open Go.AM
open Go.AM.M
def h103 : Nat → Option Hint
  | 0 => some { keep := [0] }
  | 1 => some { keep := [0] }
  | _ => none
def tt103 : Nat → Option (TypeId × Sh)
  | _ => none
def lp103 : Nat → LH
  | _ => {}
noncomputable def kn103 (fu : Nat) : FuncId → List KF
  | _ => []
noncomputable def C103 (fu : Nat) : TC := { C := { P := Try.prog, mv := fun _ _ => false, res := fun _ => false, live := h103, call := fun _ _ _ => none, sh := shT }, kn := kn103 fu, fu, lp := lp103, dr := fun _ => none, can := canT, tt := tt103 }
def in103 : IS := ⟨[], []⟩
def ou103 : List OS := [⟨(.agg [(.lf (.int .i64)), (.lf (.int .i64)), (.lf (.int .i64)), (.lf (.int .i64)), (.lf (.int .i64)), (.lf (.int .i64)), (.lf (.int .i64)), (.lf (.int .i64)), (.lf (.int .i64)), (.lf (.int .i64)), (.lf (.int .i64)), (.lf (.int .i64)), (.lf (.int .i64)), (.lf (.int .i64)), (.lf (.int .i64)), (.lf (.int .i64)), (.lf (.int .i64)), (.lf (.int .i64)), (.lf (.int .i64)), (.lf (.int .i64)), (.lf (.int .i64)), (.lf (.int .i64)), (.lf (.int .i64)), (.lf (.int .i64)), (.lf (.int .i64)), (.lf (.int .i64)), (.lf (.int .i64)), (.lf (.int .i64)), (.lf (.int .i64)), (.lf (.int .i64)), (.lf (.int .i64)), (.lf (.int .i64)), (.lf (.int .i64)), (.lf (.int .i64)), (.lf (.int .i64)), (.lf (.int .i64)), (.lf (.int .i64)), (.lf (.int .i64)), (.lf (.int .i64)), (.lf (.int .i64)), (.lf (.int .i64)), (.lf (.int .i64)), (.lf (.int .i64)), (.lf (.int .i64)), (.lf (.int .i64)), (.lf (.int .i64)), (.lf (.int .i64)), (.lf (.int .i64)), (.lf (.int .i64)), (.lf (.int .i64)), (.lf (.int .i64)), (.lf (.int .i64)), (.lf (.int .i64)), (.lf (.int .i64)), (.lf (.int .i64)), (.lf (.int .i64)), (.lf (.int .i64)), (.lf (.int .i64)), (.lf (.int .i64)), (.lf (.int .i64)), (.lf (.int .i64)), (.lf (.int .i64)), (.lf (.int .i64)), (.lf (.int .i64)), (.lf (.int .i64)), (.lf (.int .i64)), (.lf (.int .i64)), (.lf (.int .i64)), (.lf (.int .i64)), (.lf (.int .i64)), (.lf (.int .i64)), (.lf (.int .i64)), (.lf (.int .i64)), (.lf (.int .i64))]), []⟩]
noncomputable def kf103 (fu : Nat) : KF := { inp := in103, outs := ou103, pure := true, model := indic_places fu }
theorem ok103 (fu : Nat) : (C103 fu).Ok := ⟨wf, fun f kf h => by
  have h : kf ∈ kn103 fu f := h
  unfold kn103 at h
  split at h
  · cases h⟩
set_option maxRecDepth 100000 in
theorem run103 (fu : Nat) (a) : fnK (C103 fu) Try.f103 (kf103 fu).inp (kf103 fu).outs a = (kf103 fu).model a := by kernel_rfl
theorem knows103 (fu : Nat) : Known Try.prog 103 (kf103 fu) := Known.of (ok103 fu) Try.func103 (by kernel_rfl) (run103 fu)
end Go.Proofs.Ytcbbacmpkhajeaa

namespace Go.Proofs.Ytcbbacmpkhajeaa
open Go.AM
open Go.AM.M
def h97 : Nat → Option Hint
  | 0 => some { keep := [0] }
  | 1 => some { keep := [0, 5] }
  | 2 => some { keep := [4] }
  | 3 => some { keep := [2, 3] }
  | 4 => some { keep := [0, 20] }
  | 5 => some { keep := [2, 3] }
  | 6 => some { keep := [2, 3] }
  | _ => none
def tt97 : Nat → Option (TypeId × Sh)
  | _ => none
def lp97 : Nat → LH
  | _ => {}
noncomputable def kn97 (fu : Nat) : FuncId → List KF
  | 103 => [kf103 fu]
  | _ => []
noncomputable def C97 (fu : Nat) : TC := { C := { P := Try.prog, mv := fun _ _ => false, res := fun _ => false, live := h97, call := fun _ _ _ => none, sh := shT }, kn := kn97 fu, fu, lp := lp97, dr := fun _ => none, can := canT, tt := tt97 }
def in97 : IS := ⟨[.lf (.int .u8)], []⟩
def ou97 : List OS := [⟨(.tup [(.lf (.int .i64)), (.lf .bool)]), []⟩]
noncomputable def kf97 (fu : Nat) : KF := { inp := in97, outs := ou97, pure := true, model := indic_Place fu }
theorem ok97 (fu : Nat) : (C97 fu).Ok := ⟨wf, fun f kf h => by
  have h : kf ∈ kn97 fu f := h
  unfold kn97 at h
  split at h
  · simp only [List.mem_cons, List.not_mem_nil, or_false] at h
    subst h; exact knows103 fu
  · cases h⟩
set_option maxRecDepth 100000 in
theorem run97 (fu : Nat) (a) : fnK (C97 fu) Try.f97 (kf97 fu).inp (kf97 fu).outs a = (kf97 fu).model a := by kernel_rfl
theorem knows97 (fu : Nat) : Known Try.prog 97 (kf97 fu) := Known.of (ok97 fu) Try.func97 (by kernel_rfl) (run97 fu)
end Go.Proofs.Ytcbbacmpkhajeaa

namespace Go.Proofs.Ytcbbacmpkhajeaa
open Go.AM
open Go.AM.M
def h98 : Nat → Option Hint
  | 0 => some { keep := [] }
  | 1 => some { keep := [0] }
  | _ => none
def tt98 : Nat → Option (TypeId × Sh)
  | 0 => some (122, .cons (.int .i64) (.int .i64))
  | 15 => some (122, .cons (.int .i64) (.int .i64))
  | _ => none
def lp98 : Nat → LH
  | _ => {}
noncomputable def kn98 (fu : Nat) : FuncId → List KF
  | _ => []
noncomputable def C98 (fu : Nat) : TC := { C := { P := Try.prog, mv := fun _ _ => false, res := fun _ => false, live := h98, call := fun _ _ _ => none, sh := shT }, kn := kn98 fu, fu, lp := lp98, dr := fun _ => none, can := canT, tt := tt98 }
def in98 : IS := ⟨[], []⟩
def ou98 : List OS := [⟨(.sl (.excl 122) false (.cons (.int .i64) (.int .i64))), []⟩]
noncomputable def kf98 (fu : Nat) : KF := { inp := in98, outs := ou98, pure := true, model := indic_Nukta fu }
theorem ok98 (fu : Nat) : (C98 fu).Ok := ⟨wf, fun f kf h => by
  have h : kf ∈ kn98 fu f := h
  unfold kn98 at h
  split at h
  · cases h⟩
set_option maxRecDepth 100000 in
theorem run98 (fu : Nat) (a) : fnK (C98 fu) Try.f98 (kf98 fu).inp (kf98 fu).outs a = (kf98 fu).model a := by kernel_rfl
theorem knows98 (fu : Nat) : Known Try.prog 98 (kf98 fu) := Known.of (ok98 fu) Try.func98 (by kernel_rfl) (run98 fu)
end Go.Proofs.Ytcbbacmpkhajeaa

namespace Go.Proofs.Ytcbbacmpkhajeaa
open Go.AM
open Go.AM.M
def h80 : Nat → Option Hint
  | 0 => some { keep := [] }
  | 1 => some { keep := [1] }
  | 2 => some { keep := [1, 9] }
  | 3 => some { keep := [1, 9, 10] }
  | 4 => some { keep := [1, 2, 9] }
  | 5 => some { keep := [1, 9] }
  | 6 => some { keep := [1, 9] }
  | 7 => some { keep := [1, 3] }
  | 8 => some { keep := [1, 3, 23] }
  | 9 => some { keep := [1, 3] }
  | 10 => some { keep := [1, 3, 4, 5] }
  | 11 => some { keep := [1, 3, 4, 32] }
  | 12 => some { keep := [1, 3] }
  | 13 => some { keep := [1, 41, 42, 43] }
  | 14 => some { keep := [1, 41, 42, 43, 44] }
  | 15 => some { keep := [1, 7, 41, 42, 43] }
  | 16 => some { keep := [1, 41, 42, 43] }
  | 17 => some { keep := [1, 41, 42, 43] }
  | 18 => some { keep := [1, 58] }
  | 19 => some { keep := [1, 58, 59] }
  | 20 => some { keep := [1, 8, 58] }
  | 21 => some { keep := [1, 58] }
  | 22 => some { keep := [1, 58] }
  | 23 => some { keep := [0] }
  | _ => none
def tt80 : Nat → Option (TypeId × Sh)
  | 0 => some (69, .cons (.sl (.int .i64)) (.sl (.int .i64)))
  | 1 => some (69, .cons (.sl (.int .i64)) (.sl (.int .i64)))
  | 12 => some (69, .cons (.sl (.int .i64)) (.sl (.int .i64)))
  | 14 => some (3, .int .i64)
  | 17 => some (3, .int .i64)
  | 19 => some (69, .cons (.sl (.int .i64)) (.sl (.int .i64)))
  | 20 => some (69, .cons (.sl (.int .i64)) (.sl (.int .i64)))
  | 33 => some (69, .cons (.sl (.int .i64)) (.sl (.int .i64)))
  | 35 => some (3, .int .i64)
  | 37 => some (3, .int .i64)
  | 39 => some (69, .cons (.sl (.int .i64)) (.sl (.int .i64)))
  | 40 => some (69, .cons (.sl (.int .i64)) (.sl (.int .i64)))
  | 41 => some (122, .cons (.int .i64) (.int .i64))
  | 47 => some (69, .cons (.sl (.int .i64)) (.sl (.int .i64)))
  | 50 => some (3, .int .i64)
  | 53 => some (3, .int .i64)
  | 55 => some (69, .cons (.sl (.int .i64)) (.sl (.int .i64)))
  | 56 => some (69, .cons (.sl (.int .i64)) (.sl (.int .i64)))
  | 61 => some (69, .cons (.sl (.int .i64)) (.sl (.int .i64)))
  | 64 => some (3, .int .i64)
  | 67 => some (3, .int .i64)
  | 69 => some (69, .cons (.sl (.int .i64)) (.sl (.int .i64)))
  | 70 => some (69, .cons (.sl (.int .i64)) (.sl (.int .i64)))
  | 72 => some (69, .cons (.sl (.int .i64)) (.sl (.int .i64)))
  | 73 => some (3, .int .i64)
  | 74 => some (3, .int .i64)
  | 76 => some (3, .int .i64)
  | 77 => some (3, .int .i64)
  | 79 => some (3, .int .i64)
  | 80 => some (3, .int .i64)
  | 82 => some (3, .int .i64)
  | 83 => some (3, .int .i64)
  | 85 => some (3, .int .i64)
  | 86 => some (3, .int .i64)
  | 88 => some (3, .int .i64)
  | 89 => some (3, .int .i64)
  | 91 => some (3, .int .i64)
  | 92 => some (3, .int .i64)
  | 94 => some (69, .cons (.sl (.int .i64)) (.sl (.int .i64)))
  | 95 => some (69, .cons (.sl (.int .i64)) (.sl (.int .i64)))
  | _ => none
def lp80 : Nat → LH
  | 3 => { excl := [1, 12] }
  | 8 => { excl := [1, 33] }
  | 14 => { excl := [1, 47] }
  | 19 => { excl := [1, 61] }
  | _ => {}
noncomputable def kn80 (fu : Nat) : FuncId → List KF
  | 82 => [kf82 fu]
  | 97 => [kf97 fu]
  | 98 => [kf98 fu]
  | _ => []
noncomputable def C80 (fu : Nat) : TC := { C := { P := Try.prog, mv := fun _ _ => false, res := fun _ => false, live := h80, call := fun _ _ _ => none, sh := shT }, kn := kn80 fu, fu, lp := lp80, dr := fun _ => none, can := canT, tt := tt80 }
def in80 : IS := ⟨[], []⟩
def ou80 : List OS := [⟨(.sl (.excl 69) false (.cons (.sl (.int .i64)) (.sl (.int .i64)))), []⟩]
noncomputable def kf80 (fu : Nat) : KF := { inp := in80, outs := ou80, pure := true, model := indic_Rules fu }
theorem ok80 (fu : Nat) : (C80 fu).Ok := ⟨wf, fun f kf h => by
  have h : kf ∈ kn80 fu f := h
  unfold kn80 at h
  split at h
  · simp only [List.mem_cons, List.not_mem_nil, or_false] at h
    subst h; exact knows82 fu
  · simp only [List.mem_cons, List.not_mem_nil, or_false] at h
    subst h; exact knows97 fu
  · simp only [List.mem_cons, List.not_mem_nil, or_false] at h
    subst h; exact knows98 fu
  · cases h⟩
set_option maxRecDepth 100000 in
theorem run80 (fu : Nat) (a) : fnK (C80 fu) Try.f80 (kf80 fu).inp (kf80 fu).outs a = (kf80 fu).model a := by kernel_rfl
theorem knows80 (fu : Nat) : Known Try.prog 80 (kf80 fu) := Known.of (ok80 fu) Try.func80 (by kernel_rfl) (run80 fu)
end Go.Proofs.Ytcbbacmpkhajeaa

namespace Go.Proofs.Ytcbbacmpkhajeaa
open Go.AM
open Go.AM.M
def h62 : Nat → Option Hint
  | 0 => some { keep := [] }
  | 1 => some { keep := [1] }
  | 2 => some { keep := [0] }
  | _ => none
def tt62 : Nat → Option (TypeId × Sh)
  | 4 => some (69, .cons (.sl (.int .i64)) (.sl (.int .i64)))
  | _ => none
def lp62 : Nat → LH
  | _ => {}
noncomputable def kn62 (fu : Nat) : FuncId → List KF
  | 16 => [kf16 fu]
  | 80 => [kf80 fu]
  | _ => []
noncomputable def C62 (fu : Nat) : TC := { C := { P := Try.prog, mv := fun _ _ => false, res := fun _ => false, live := h62, call := fun _ _ _ => none, sh := shT }, kn := kn62 fu, fu, lp := lp62, dr := fun _ => none, can := canT, tt := tt62 }
def in62 : IS := ⟨[], []⟩
def ou62 : List OS := [⟨.elemv [.lf (.int .i64), .lf (.int .i64), .elemv [.sl .view false (.cons (.int .i64) (.cons (.int .i64) (.cons (.int .i64) (.int .i64)))), .sl .view false (.cons (.sl (.int .i64)) (.sl (.int .i64)))] 0, .elemv [.sl .view false (.cons (.int .i64) (.cons (.int .i64) (.cons (.int .i64) (.int .i64)))), .sl .view false (.cons (.sl (.int .i64)) (.sl (.int .i64)))] 0] 0, []⟩]
noncomputable def kf62 (fu : Nat) : KF := { inp := in62, outs := ou62, pure := true, model := iscii_all fu }
theorem ok62 (fu : Nat) : (C62 fu).Ok := ⟨wf, fun f kf h => by
  have h : kf ∈ kn62 fu f := h
  unfold kn62 at h
  split at h
  · simp only [List.mem_cons, List.not_mem_nil, or_false] at h
    subst h; exact knows16 fu
  · simp only [List.mem_cons, List.not_mem_nil, or_false] at h
    subst h; exact knows80 fu
  · cases h⟩
set_option maxRecDepth 100000 in
theorem run62 (fu : Nat) (a) : fnK (C62 fu) Try.f62 (kf62 fu).inp (kf62 fu).outs a = (kf62 fu).model a := by kernel_rfl
theorem knows62 (fu : Nat) : Known Try.prog 62 (kf62 fu) := Known.of (ok62 fu) Try.func62 (by kernel_rfl) (run62 fu)
end Go.Proofs.Ytcbbacmpkhajeaa

namespace Go.Proofs.Ytcbbacmpkhajeaa
open Go.AM
open Go.AM.M
def h32 : Nat → Option Hint
  | 0 => some { keep := [] }
  | 1 => some { keep := [0] }
  | _ => none
def tt32 : Nat → Option (TypeId × Sh)
  | _ => none
def lp32 : Nat → LH
  | _ => {}
noncomputable def kn32 (fu : Nat) : FuncId → List KF
  | 20 => [kf20 fu]
  | 62 => [kf62 fu]
  | _ => []
noncomputable def C32 (fu : Nat) : TC := { C := { P := Try.prog, mv := fun _ _ => false, res := fun _ => false, live := h32, call := fun _ _ _ => none, sh := shT }, kn := kn32 fu, fu, lp := lp32, dr := fun _ => none, can := canT, tt := tt32 }
def in32 : IS := ⟨[], []⟩
def ou32 : List OS := [⟨(.ptr 2 0), [(113, [(.elemv [(.sl .view false (.cons (.int .i64) (.cons (.int .i64) (.cons (.int .i64) (.int .i64))))), (.sl .view false (.cons (.sl (.int .i64)) (.sl (.int .i64))))] 0), (.sl (.own 3) false (.int .i64)), (.lf (.int .i64)), (.lf (.int .i64))]), (85, [(.ptr 0 0), (.elemv [(.lf (.int .i64)), (.lf (.int .i64)), (.elemv [(.sl .view false (.cons (.int .i64) (.cons (.int .i64) (.cons (.int .i64) (.int .i64))))), (.sl .view false (.cons (.sl (.int .i64)) (.sl (.int .i64))))] 0), (.elemv [(.sl .view false (.cons (.int .i64) (.cons (.int .i64) (.cons (.int .i64) (.int .i64))))), (.sl .view false (.cons (.sl (.int .i64)) (.sl (.int .i64))))] 0)] 0), (.sl .view false (.int .i64))]), (91, [(.ptr 1 0), (.lf (.int .i64)), (.lf (.int .i64)), (.lf (.int .i64))])]⟩]
noncomputable def kf32 (fu : Nat) : KF := { inp := in32, outs := ou32, pure := false, model := iscii_Encode fu }
theorem ok32 (fu : Nat) : (C32 fu).Ok := ⟨wf, fun f kf h => by
  have h : kf ∈ kn32 fu f := h
  unfold kn32 at h
  split at h
  · simp only [List.mem_cons, List.not_mem_nil, or_false] at h
    subst h; exact knows20 fu
  · simp only [List.mem_cons, List.not_mem_nil, or_false] at h
    subst h; exact knows62 fu
  · cases h⟩
set_option maxRecDepth 100000 in
theorem run32 (fu : Nat) (a) : fnK (C32 fu) Try.f32 (kf32 fu).inp (kf32 fu).outs a = (kf32 fu).model a := by kernel_rfl
theorem knows32 (fu : Nat) : Known Try.prog 32 (kf32 fu) := Known.of (ok32 fu) Try.func32 (by kernel_rfl) (run32 fu)
end Go.Proofs.Ytcbbacmpkhajeaa

namespace Go.Proofs.Ytcbbacmpkhajeaa
open Go.AM
open Go.AM.M
def h101 : Nat → Option Hint
  | 0 => some { keep := [0, 1] }
  | 1 => some { keep := [0, 1, 15] }
  | 2 => some { keep := [4] }
  | 3 => some { keep := [4] }
  | _ => none
def tt101 : Nat → Option (TypeId × Sh)
  | 12 => some (103, .cons (.int .i64) (.cons (.int .i64) (.cons (.int .i64) (.int .i64))))
  | 19 => some (103, .cons (.int .i64) (.cons (.int .i64) (.cons (.int .i64) (.int .i64))))
  | _ => none
def lp101 : Nat → LH
  | _ => {}
noncomputable def kn101 (fu : Nat) : FuncId → List KF
  | _ => []
noncomputable def C101 (fu : Nat) : TC := { C := { P := Try.prog, mv := fun _ _ => false, res := fun _ => false, live := h101, call := fun _ _ _ => none, sh := shT }, kn := kn101 fu, fu, lp := lp101, dr := fun _ => none, can := canT, tt := tt101 }
def in101 : IS := ⟨[.elemv [.sl .view false (.cons (.int .i64) (.cons (.int .i64) (.cons (.int .i64) (.int .i64)))), .sl .view false (.cons (.sl (.int .i64)) (.sl (.int .i64)))] 0, .lf (.int .i64)], []⟩
def ou101 : List OS := [⟨(.lf (.int .i64)), []⟩]
noncomputable def kf101 (fu : Nat) : KF := { inp := in101, outs := ou101, pure := true, model := trie_Trie_Rule fu }
theorem ok101 (fu : Nat) : (C101 fu).Ok := ⟨wf, fun f kf h => by
  have h : kf ∈ kn101 fu f := h
  unfold kn101 at h
  split at h
  · cases h⟩
set_option maxRecDepth 100000 in
theorem run101 (fu : Nat) (a) : fnK (C101 fu) Try.f101 (kf101 fu).inp (kf101 fu).outs a = (kf101 fu).model a := by kernel_rfl
theorem knows101 (fu : Nat) : Known Try.prog 101 (kf101 fu) := Known.of (ok101 fu) Try.func101 (by kernel_rfl) (run101 fu)
end Go.Proofs.Ytcbbacmpkhajeaa

namespace Go.Proofs.Ytcbbacmpkhajeaa
open Go.AM
open Go.AM.M
def h102 : Nat → Option Hint
  | 0 => some { keep := [0, 1] }
  | 1 => some { keep := [4] }
  | _ => none
def tt102 : Nat → Option (TypeId × Sh)
  | 12 => some (103, .cons (.int .i64) (.cons (.int .i64) (.cons (.int .i64) (.int .i64))))
  | 20 => some (103, .cons (.int .i64) (.cons (.int .i64) (.cons (.int .i64) (.int .i64))))
  | _ => none
def lp102 : Nat → LH
  | _ => {}
noncomputable def kn102 (fu : Nat) : FuncId → List KF
  | _ => []
noncomputable def C102 (fu : Nat) : TC := { C := { P := Try.prog, mv := fun _ _ => false, res := fun _ => false, live := h102, call := fun _ _ _ => none, sh := shT }, kn := kn102 fu, fu, lp := lp102, dr := fun _ => none, can := canT, tt := tt102 }
def in102 : IS := ⟨[.elemv [.sl .view false (.cons (.int .i64) (.cons (.int .i64) (.cons (.int .i64) (.int .i64)))), .sl .view false (.cons (.sl (.int .i64)) (.sl (.int .i64)))] 0, .lf (.int .i64)], []⟩
def ou102 : List OS := [⟨(.lf .bool), []⟩]
noncomputable def kf102 (fu : Nat) : KF := { inp := in102, outs := ou102, pure := true, model := trie_Trie_Leaf fu }
theorem ok102 (fu : Nat) : (C102 fu).Ok := ⟨wf, fun f kf h => by
  have h : kf ∈ kn102 fu f := h
  unfold kn102 at h
  split at h
  · cases h⟩
set_option maxRecDepth 100000 in
theorem run102 (fu : Nat) (a) : fnK (C102 fu) Try.f102 (kf102 fu).inp (kf102 fu).outs a = (kf102 fu).model a := by kernel_rfl
theorem knows102 (fu : Nat) : Known Try.prog 102 (kf102 fu) := Known.of (ok102 fu) Try.func102 (by kernel_rfl) (run102 fu)
end Go.Proofs.Ytcbbacmpkhajeaa

namespace Go.Proofs.Ytcbbacmpkhajeaa
open Go.AM
open Go.AM.M
def h95 : Nat → Option Hint
  | 0 => some { keep := [0, 1] }
  | 1 => some { keep := [0, 1, 7, 8, 9] }
  | 2 => some { keep := [0, 1, 7, 8, 9, 15, 16, 17] }
  | 3 => some { keep := [0, 1, 7, 8, 9, 15, 16, 17, 18] }
  | 4 => some { keep := [0, 1, 7, 8, 9, 10, 11, 15, 16, 17] }
  | 5 => some { keep := [0, 1, 7, 8, 10, 12, 13, 15, 16, 17] }
  | 6 => some { keep := [0, 1, 7, 8, 10, 12, 15, 16, 17, 30] }
  | 7 => some { keep := [4, 5, 6] }
  | 8 => some { keep := [0, 1, 7, 8, 9, 10, 15, 16, 17] }
  | 9 => some { keep := [0, 1, 7, 8, 9, 10, 14, 15, 16, 17] }
  | 10 => some { keep := [0, 1, 7, 8, 9, 10, 14, 15, 16, 17, 38] }
  | 11 => some { keep := [0, 1, 7, 8, 9, 15, 16, 17] }
  | 12 => some { keep := [0, 1, 7, 8, 9, 15, 16, 17] }
  | 13 => some { keep := [4, 5, 6] }
  | _ => none
def tt95 : Nat → Option (TypeId × Sh)
  | 1 => some (3, .int .i64)
  | 15 => some (3, .int .i64)
  | _ => none
def lp95 : Nat → LH
  | _ => {}
noncomputable def kn95 (fu : Nat) : FuncId → List KF
  | 71 => [kf71 fu, kf71box fu]
  | 101 => [kf101 fu]
  | 102 => [kf102 fu]
  | _ => []
noncomputable def C95 (fu : Nat) : TC := { C := { P := Try.prog, mv := fun _ _ => false, res := fun _ => false, live := h95, call := fun _ _ _ => none, sh := shT }, kn := kn95 fu, fu, lp := lp95, dr := fun _ => none, can := canT, tt := tt95 }
def in95 : IS := ⟨[.elemv [.sl .view false (.cons (.int .i64) (.cons (.int .i64) (.cons (.int .i64) (.int .i64)))), .sl .view false (.cons (.sl (.int .i64)) (.sl (.int .i64)))] 0, .sl .view false (.int .i64)], []⟩
def ou95 : List OS := [⟨(.tup [(.lf (.int .i64)), (.lf (.int .i64)), (.lf .bool)]), []⟩]
noncomputable def kf95 (fu : Nat) : KF := { inp := in95, outs := ou95, pure := true, model := trie_Trie_Longest fu }
theorem ok95 (fu : Nat) : (C95 fu).Ok := ⟨wf, fun f kf h => by
  have h : kf ∈ kn95 fu f := h
  unfold kn95 at h
  split at h
  · simp only [List.mem_cons, List.not_mem_nil, or_false] at h
    rcases h with rfl | rfl
    · exact knows71 fu
    · exact knows71box fu
  · simp only [List.mem_cons, List.not_mem_nil, or_false] at h
    subst h; exact knows101 fu
  · simp only [List.mem_cons, List.not_mem_nil, or_false] at h
    subst h; exact knows102 fu
  · cases h⟩
set_option maxRecDepth 100000 in
theorem run95 (fu : Nat) (a) : fnK (C95 fu) Try.f95 (kf95 fu).inp (kf95 fu).outs a = (kf95 fu).model a := by kernel_rfl
theorem knows95 (fu : Nat) : Known Try.prog 95 (kf95 fu) := Known.of (ok95 fu) Try.func95 (by kernel_rfl) (run95 fu)
end Go.Proofs.Ytcbbacmpkhajeaa

namespace Go.Proofs.Ytcbbacmpkhajeaa
open Go.AM
open Go.AM.M
def h94 : Nat → Option Hint
  | 0 => some { keep := [0, 1, 2] }
  | 1 => some { keep := [0, 1, 2, 12] }
  | 2 => some { keep := [6] }
  | 3 => some { keep := [1, 8] }
  | 4 => some { keep := [6] }
  | _ => none
def tt94 : Nat → Option (TypeId × Sh)
  | 1 => some (3, .int .i64)
  | 2 => some (3, .int .i64)
  | 10 => some (3, .int .i64)
  | 18 => some (3, .int .i64)
  | 19 => some (3, .int .i64)
  | 20 => some (3, .int .i64)
  | 21 => some (3, .int .i64)
  | 27 => some (3, .int .i64)
  | _ => none
def lp94 : Nat → LH
  | _ => {}
noncomputable def kn94 (fu : Nat) : FuncId → List KF
  | 74 => [kf74 fu]
  | 95 => [kf95 fu]
  | _ => []
noncomputable def C94 (fu : Nat) : TC := { C := { P := Try.prog, mv := fun _ _ => false, res := fun _ => false, live := h94, call := fun _ _ _ => none, sh := shT }, kn := kn94 fu, fu, lp := lp94, dr := fun _ => none, can := canT, tt := tt94 }
def in94 : IS := ⟨[.elemv [.lf (.int .i64), .lf (.int .i64), .elemv [.sl .view false (.cons (.int .i64) (.cons (.int .i64) (.cons (.int .i64) (.int .i64)))), .sl .view false (.cons (.sl (.int .i64)) (.sl (.int .i64)))] 0, .elemv [.sl .view false (.cons (.int .i64) (.cons (.int .i64) (.cons (.int .i64) (.int .i64)))), .sl .view false (.cons (.sl (.int .i64)) (.sl (.int .i64)))] 0] 0, .sl .view false (.int .i64), .sl .view false (.int .i64)], []⟩
def ou94 : List OS := [⟨(.lf .bool), []⟩]
noncomputable def kf94 (fu : Nat) : KF := { inp := in94, outs := ou94, pure := true, model := table_Table_Joins fu }
theorem ok94 (fu : Nat) : (C94 fu).Ok := ⟨wf, fun f kf h => by
  have h : kf ∈ kn94 fu f := h
  unfold kn94 at h
  split at h
  · simp only [List.mem_cons, List.not_mem_nil, or_false] at h
    subst h; exact knows74 fu
  · simp only [List.mem_cons, List.not_mem_nil, or_false] at h
    subst h; exact knows95 fu
  · cases h⟩
set_option maxRecDepth 100000 in
theorem run94 (fu : Nat) (a) : fnK (C94 fu) Try.f94 (kf94 fu).inp (kf94 fu).outs a = (kf94 fu).model a := by kernel_rfl
theorem knows94 (fu : Nat) : Known Try.prog 94 (kf94 fu) := Known.of (ok94 fu) Try.func94 (by kernel_rfl) (run94 fu)
end Go.Proofs.Ytcbbacmpkhajeaa

namespace Go.Proofs.Ytcbbacmpkhajeaa
open Go.AM
open Go.AM.M
def h78 : Nat → Option Hint
  | 0 => some { keep := [0, 1, 5, 6] }
  | 1 => some { keep := [5, 6, 16] }
  | 2 => some { keep := [6] }
  | 3 => some { keep := [6] }
  | _ => none
def tt78 : Nat → Option (TypeId × Sh)
  | 1 => some (3, .int .i64)
  | 12 => some (3, .int .i64)
  | 14 => some (3, .int .i64)
  | _ => none
def lp78 : Nat → LH
  | _ => {}
noncomputable def kn78 (fu : Nat) : FuncId → List KF
  | 94 => [kf94 fu]
  | _ => []
noncomputable def C78 (fu : Nat) : TC := { C := { P := Try.prog, mv := fun _ _ => false, res := fun _ => false, live := h78, call := fun _ _ _ => none, sh := shT }, kn := kn78 fu, fu, lp := lp78, dr := fun _ => none, can := canT, tt := tt78 }
def in78 : IS := ⟨[.elemv [.lf (.int .i64), .lf (.int .i64), .elemv [.sl .view false (.cons (.int .i64) (.cons (.int .i64) (.cons (.int .i64) (.int .i64)))), .sl .view false (.cons (.sl (.int .i64)) (.sl (.int .i64)))] 0, .elemv [.sl .view false (.cons (.int .i64) (.cons (.int .i64) (.cons (.int .i64) (.int .i64)))), .sl .view false (.cons (.sl (.int .i64)) (.sl (.int .i64)))] 0] 0, .sl .view false (.int .i64), .agg [.lf (.int .i64), .lf (.int .i64), .sl .view false (.int .i64), .lf (.int .i64)]], []⟩
def ou78 : List OS := [⟨(.agg [(.lf (.int .i64)), (.lf (.int .i64)), (.sl .view false (.int .i64)), (.lf (.int .i64))]), []⟩]
noncomputable def kf78 (fu : Nat) : KF := { inp := in78, outs := ou78, pure := true, model := table_Table_Join fu }
theorem ok78 (fu : Nat) : (C78 fu).Ok := ⟨wf, fun f kf h => by
  have h : kf ∈ kn78 fu f := h
  unfold kn78 at h
  split at h
  · simp only [List.mem_cons, List.not_mem_nil, or_false] at h
    subst h; exact knows94 fu
  · cases h⟩
set_option maxRecDepth 100000 in
theorem run78 (fu : Nat) (a) : fnK (C78 fu) Try.f78 (kf78 fu).inp (kf78 fu).outs a = (kf78 fu).model a := by kernel_rfl
theorem knows78 (fu : Nat) : Known Try.prog 78 (kf78 fu) := Known.of (ok78 fu) Try.func78 (by kernel_rfl) (run78 fu)
end Go.Proofs.Ytcbbacmpkhajeaa

namespace Go.Proofs.Ytcbbacmpkhajeaa
open Go.AM
open Go.AM.M
def h58 : Nat → Option Hint
  | 0 => some { keep := [0, 1] }
  | 1 => some { keep := [0, 1, 7, 8, 9] }
  | 2 => some { keep := [0, 1, 7, 8, 9, 10] }
  | 3 => some { keep := [0, 1, 5, 6, 7, 8, 9] }
  | 4 => some { keep := [0, 1, 5, 6, 7, 8, 9] }
  | 5 => some { keep := [0, 1, 6, 7, 8, 9, 32] }
  | 6 => some { keep := [0, 1, 7, 8, 9] }
  | 7 => some { keep := [0, 1, 7, 8, 9] }
  | 8 => some { keep := [4] }
  | _ => none
def tt58 : Nat → Option (TypeId × Sh)
  | 1 => some (39, .cons (.int .i64) (.cons (.int .i64) (.cons (.sl (.int .i64)) (.int .i64))))
  | 4 => some (39, .cons (.int .i64) (.cons (.int .i64) (.cons (.sl (.int .i64)) (.int .i64))))
  | 7 => some (39, .cons (.int .i64) (.cons (.int .i64) (.cons (.sl (.int .i64)) (.int .i64))))
  | 14 => some (39, .cons (.int .i64) (.cons (.int .i64) (.cons (.sl (.int .i64)) (.int .i64))))
  | 23 => some (3, .int .i64)
  | 27 => some (39, .cons (.int .i64) (.cons (.int .i64) (.cons (.sl (.int .i64)) (.int .i64))))
  | 35 => some (3, .int .i64)
  | 39 => some (39, .cons (.int .i64) (.cons (.int .i64) (.cons (.sl (.int .i64)) (.int .i64))))
  | _ => none
def lp58 : Nat → LH
  | 2 => { excl := [1, 4, 7, 14, 27, 39] }
  | _ => {}
noncomputable def kn58 (fu : Nat) : FuncId → List KF
  | 78 => [kf78 fu]
  | _ => []
noncomputable def C58 (fu : Nat) : TC := { C := { P := Try.prog, mv := fun _ _ => false, res := fun _ => false, live := h58, call := fun _ _ _ => none, sh := shT }, kn := kn58 fu, fu, lp := lp58, dr := fun _ => none, can := canT, tt := tt58 }
def in58 : IS := ⟨[.ptr 0 0, .sl (.excl 39) false (.cons (.int .i64) (.cons (.int .i64) (.cons (.sl (.int .i64)) (.int .i64))))], [(85, [.ptr 1 0, .elemv [.lf (.int .i64), .lf (.int .i64), .elemv [.sl .view false (.cons (.int .i64) (.cons (.int .i64) (.cons (.int .i64) (.int .i64)))), .sl .view false (.cons (.sl (.int .i64)) (.sl (.int .i64)))] 0, .elemv [.sl .view false (.cons (.int .i64) (.cons (.int .i64) (.cons (.int .i64) (.int .i64)))), .sl .view false (.cons (.sl (.int .i64)) (.sl (.int .i64)))] 0] 0, .sl .view false (.int .i64)]), (113, [.elemv [.sl .view false (.cons (.int .i64) (.cons (.int .i64) (.cons (.int .i64) (.int .i64)))), .sl .view false (.cons (.sl (.int .i64)) (.sl (.int .i64)))] 0, .sl (.own 3) false (.int .i64), .lf (.int .i64), .lf (.int .i64)])]⟩
def ou58 : List OS := [⟨(.sl (.excl 39) false (.cons (.int .i64) (.cons (.int .i64) (.cons (.sl (.int .i64)) (.int .i64))))), [(85, [(.ptr 1 0), (.elemv [(.lf (.int .i64)), (.lf (.int .i64)), (.elemv [(.sl .view false (.cons (.int .i64) (.cons (.int .i64) (.cons (.int .i64) (.int .i64))))), (.sl .view false (.cons (.sl (.int .i64)) (.sl (.int .i64))))] 0), (.elemv [(.sl .view false (.cons (.int .i64) (.cons (.int .i64) (.cons (.int .i64) (.int .i64))))), (.sl .view false (.cons (.sl (.int .i64)) (.sl (.int .i64))))] 0)] 0), (.sl .view false (.int .i64))]), (113, [(.elemv [(.sl .view false (.cons (.int .i64) (.cons (.int .i64) (.cons (.int .i64) (.int .i64))))), (.sl .view false (.cons (.sl (.int .i64)) (.sl (.int .i64))))] 0), (.sl (.own 3) false (.int .i64)), (.lf (.int .i64)), (.lf (.int .i64))])]⟩]
noncomputable def kf58 (fu : Nat) : KF := { inp := in58, outs := ou58, pure := false, model := machine_Encoder_join fu }
theorem ok58 (fu : Nat) : (C58 fu).Ok := ⟨wf, fun f kf h => by
  have h : kf ∈ kn58 fu f := h
  unfold kn58 at h
  split at h
  · simp only [List.mem_cons, List.not_mem_nil, or_false] at h
    subst h; exact knows78 fu
  · cases h⟩
set_option maxRecDepth 100000 in
theorem run58 (fu : Nat) (a) : fnK (C58 fu) Try.f58 (kf58 fu).inp (kf58 fu).outs a = (kf58 fu).model a := by kernel_rfl
theorem knows58 (fu : Nat) : Known Try.prog 58 (kf58 fu) := Known.of (ok58 fu) Try.func58 (by kernel_rfl) (run58 fu)
end Go.Proofs.Ytcbbacmpkhajeaa

namespace Go.Proofs.Ytcbbacmpkhajeaa
open Go.AM
open Go.AM.M
def h96 : Nat → Option Hint
  | 0 => some { keep := [0, 1] }
  | 1 => some { keep := [0, 1, 15] }
  | 2 => some { keep := [4] }
  | 3 => some { keep := [4] }
  | _ => none
def tt96 : Nat → Option (TypeId × Sh)
  | 4 => some (3, .int .i64)
  | 12 => some (69, .cons (.sl (.int .i64)) (.sl (.int .i64)))
  | 19 => some (69, .cons (.sl (.int .i64)) (.sl (.int .i64)))
  | 23 => some (3, .int .i64)
  | 24 => some (3, .int .i64)
  | _ => none
def lp96 : Nat → LH
  | _ => {}
noncomputable def kn96 (fu : Nat) : FuncId → List KF
  | _ => []
noncomputable def C96 (fu : Nat) : TC := { C := { P := Try.prog, mv := fun _ _ => false, res := fun _ => false, live := h96, call := fun _ _ _ => none, sh := shT }, kn := kn96 fu, fu, lp := lp96, dr := fun _ => none, can := canT, tt := tt96 }
def in96 : IS := ⟨[.elemv [.sl .view false (.cons (.int .i64) (.cons (.int .i64) (.cons (.int .i64) (.int .i64)))), .sl .view false (.cons (.sl (.int .i64)) (.sl (.int .i64)))] 0, .lf (.int .i64)], []⟩
def ou96 : List OS := [⟨(.sl (.excl 3) false (.int .i64)), []⟩]
noncomputable def kf96 (fu : Nat) : KF := { inp := in96, outs := ou96, pure := true, model := trie_Trie_Out fu }
theorem ok96 (fu : Nat) : (C96 fu).Ok := ⟨wf, fun f kf h => by
  have h : kf ∈ kn96 fu f := h
  unfold kn96 at h
  split at h
  · cases h⟩
set_option maxRecDepth 100000 in
theorem run96 (fu : Nat) (a) : fnK (C96 fu) Try.f96 (kf96 fu).inp (kf96 fu).outs a = (kf96 fu).model a := by kernel_rfl
theorem knows96 (fu : Nat) : Known Try.prog 96 (kf96 fu) := Known.of (ok96 fu) Try.func96 (by kernel_rfl) (run96 fu)
end Go.Proofs.Ytcbbacmpkhajeaa

namespace Go.Proofs.Ytcbbacmpkhajeaa
open Go.AM
open Go.AM.M
def h79 : Nat → Option Hint
  | 0 => some { keep := [0, 1] }
  | 1 => some { keep := [0, 1, 5] }
  | 2 => some { keep := [0, 1, 5, 15] }
  | 3 => some { keep := [0, 1, 5, 6, 7, 8] }
  | 4 => some { keep := [0, 1, 5, 6, 7, 8] }
  | 5 => some { keep := [0, 1, 5, 6, 7, 45] }
  | 6 => some { keep := [0, 1, 5, 6, 9] }
  | 7 => some { keep := [0, 1, 5, 6, 9, 54] }
  | 8 => some { keep := [0, 1, 5, 9] }
  | 9 => some { keep := [0, 1, 5, 9] }
  | 10 => some { keep := [0, 1, 5, 9] }
  | 11 => some { keep := [0, 1, 5, 9] }
  | 12 => some { keep := [0, 1, 5] }
  | 13 => some { keep := [4] }
  | _ => none
def tt79 : Nat → Option (TypeId × Sh)
  | 4 => some (39, .cons (.int .i64) (.cons (.int .i64) (.cons (.sl (.int .i64)) (.int .i64))))
  | 5 => some (39, .cons (.int .i64) (.cons (.int .i64) (.cons (.sl (.int .i64)) (.int .i64))))
  | 13 => some (3, .int .i64)
  | 24 => some (3, .int .i64)
  | 36 => some (3, .int .i64)
  | 61 => some (3, .int .i64)
  | 63 => some (39, .cons (.int .i64) (.cons (.int .i64) (.cons (.sl (.int .i64)) (.int .i64))))
  | 65 => some (39, .cons (.int .i64) (.cons (.int .i64) (.cons (.sl (.int .i64)) (.int .i64))))
  | 66 => some (39, .cons (.int .i64) (.cons (.int .i64) (.cons (.sl (.int .i64)) (.int .i64))))
  | 71 => some (3, .int .i64)
  | 74 => some (3, .int .i64)
  | 75 => some (3, .int .i64)
  | 87 => some (39, .cons (.int .i64) (.cons (.int .i64) (.cons (.sl (.int .i64)) (.int .i64))))
  | _ => none
def lp79 : Nat → LH
  | 2 => { excl := [5, 63] }
  | _ => {}
noncomputable def kn79 (fu : Nat) : FuncId → List KF
  | 95 => [kf95 fu]
  | 96 => [kf96 fu]
  | _ => []
noncomputable def C79 (fu : Nat) : TC := { C := { P := Try.prog, mv := fun _ _ => false, res := fun _ => false, live := h79, call := fun _ _ _ => none, sh := shT }, kn := kn79 fu, fu, lp := lp79, dr := fun _ => none, can := canT, tt := tt79 }
def in79 : IS := ⟨[.ptr 0 0, .lf (.bool)], [(113, [.elemv [.sl .view false (.cons (.int .i64) (.cons (.int .i64) (.cons (.int .i64) (.int .i64)))), .sl .view false (.cons (.sl (.int .i64)) (.sl (.int .i64)))] 0, .sl (.own 3) false (.int .i64), .lf (.int .i64), .lf (.int .i64)])]⟩
def ou79 : List OS := [⟨(.sl (.excl 39) false (.cons (.int .i64) (.cons (.int .i64) (.cons (.sl (.int .i64)) (.int .i64))))), [(113, [(.elemv [(.sl .view false (.cons (.int .i64) (.cons (.int .i64) (.cons (.int .i64) (.int .i64))))), (.sl .view false (.cons (.sl (.int .i64)) (.sl (.int .i64))))] 0), (.sl (.own 3) false (.int .i64)), (.lf (.int .i64)), (.lf (.int .i64))])]⟩]
noncomputable def kf79 (fu : Nat) : KF := { inp := in79, outs := ou79, pure := false, model := match_Match_take fu }
theorem ok79 (fu : Nat) : (C79 fu).Ok := ⟨wf, fun f kf h => by
  have h : kf ∈ kn79 fu f := h
  unfold kn79 at h
  split at h
  · simp only [List.mem_cons, List.not_mem_nil, or_false] at h
    subst h; exact knows95 fu
  · simp only [List.mem_cons, List.not_mem_nil, or_false] at h
    subst h; exact knows96 fu
  · cases h⟩
set_option maxRecDepth 100000 in
theorem run79 (fu : Nat) (a) : fnK (C79 fu) Try.f79 (kf79 fu).inp (kf79 fu).outs a = (kf79 fu).model a := by kernel_rfl
theorem knows79 (fu : Nat) : Known Try.prog 79 (kf79 fu) := Known.of (ok79 fu) Try.func79 (by kernel_rfl) (run79 fu)
end Go.Proofs.Ytcbbacmpkhajeaa

namespace Go.Proofs.Ytcbbacmpkhajeaa
open Go.AM
open Go.AM.M
def h59 : Nat → Option Hint
  | 0 => some { keep := [0, 1] }
  | 1 => some { keep := [0] }
  | 2 => some { keep := [4] }
  | _ => none
def tt59 : Nat → Option (TypeId × Sh)
  | 4 => some (39, .cons (.int .i64) (.cons (.int .i64) (.cons (.sl (.int .i64)) (.int .i64))))
  | 9 => some (3, .int .i64)
  | 11 => some (3, .int .i64)
  | 12 => some (3, .int .i64)
  | 16 => some (39, .cons (.int .i64) (.cons (.int .i64) (.cons (.sl (.int .i64)) (.int .i64))))
  | _ => none
def lp59 : Nat → LH
  | _ => {}
noncomputable def kn59 (fu : Nat) : FuncId → List KF
  | 79 => [kf79 fu]
  | _ => []
noncomputable def C59 (fu : Nat) : TC := { C := { P := Try.prog, mv := fun _ _ => false, res := fun _ => false, live := h59, call := fun _ _ _ => none, sh := shT }, kn := kn59 fu, fu, lp := lp59, dr := fun _ => none, can := canT, tt := tt59 }
def in59 : IS := ⟨[.ptr 0 0, .lf (.int .i64)], [(113, [.elemv [.sl .view false (.cons (.int .i64) (.cons (.int .i64) (.cons (.int .i64) (.int .i64)))), .sl .view false (.cons (.sl (.int .i64)) (.sl (.int .i64)))] 0, .sl (.own 3) false (.int .i64), .lf (.int .i64), .lf (.int .i64)])]⟩
def ou59 : List OS := [⟨(.sl (.excl 39) false (.cons (.int .i64) (.cons (.int .i64) (.cons (.sl (.int .i64)) (.int .i64))))), [(113, [(.elemv [(.sl .view false (.cons (.int .i64) (.cons (.int .i64) (.cons (.int .i64) (.int .i64))))), (.sl .view false (.cons (.sl (.int .i64)) (.sl (.int .i64))))] 0), (.sl (.own 3) false (.int .i64)), (.lf (.int .i64)), (.lf (.int .i64))])]⟩]
noncomputable def kf59 (fu : Nat) : KF := { inp := in59, outs := ou59, pure := false, model := match_Match_Put fu }
theorem ok59 (fu : Nat) : (C59 fu).Ok := ⟨wf, fun f kf h => by
  have h : kf ∈ kn59 fu f := h
  unfold kn59 at h
  split at h
  · simp only [List.mem_cons, List.not_mem_nil, or_false] at h
    subst h; exact knows79 fu
  · cases h⟩
set_option maxRecDepth 100000 in
theorem run59 (fu : Nat) (a) : fnK (C59 fu) Try.f59 (kf59 fu).inp (kf59 fu).outs a = (kf59 fu).model a := by kernel_rfl
theorem knows59 (fu : Nat) : Known Try.prog 59 (kf59 fu) := Known.of (ok59 fu) Try.func59 (by kernel_rfl) (run59 fu)
end Go.Proofs.Ytcbbacmpkhajeaa

namespace Go.Proofs.Ytcbbacmpkhajeaa
open Go.AM
open Go.AM.M
def h22 : Nat → Option Hint
  | 0 => some { keep := [0, 1] }
  | 1 => some { keep := [4] }
  | _ => none
def tt22 : Nat → Option (TypeId × Sh)
  | 4 => some (39, .cons (.int .i64) (.cons (.int .i64) (.cons (.sl (.int .i64)) (.int .i64))))
  | 11 => some (39, .cons (.int .i64) (.cons (.int .i64) (.cons (.sl (.int .i64)) (.int .i64))))
  | 12 => some (39, .cons (.int .i64) (.cons (.int .i64) (.cons (.sl (.int .i64)) (.int .i64))))
  | _ => none
def lp22 : Nat → LH
  | _ => {}
noncomputable def kn22 (fu : Nat) : FuncId → List KF
  | 58 => [kf58 fu]
  | 59 => [kf59 fu]
  | _ => []
noncomputable def C22 (fu : Nat) : TC := { C := { P := Try.prog, mv := fun _ _ => false, res := fun _ => false, live := h22, call := fun _ _ _ => none, sh := shT }, kn := kn22 fu, fu, lp := lp22, dr := fun _ => none, can := canT, tt := tt22 }
def in22 : IS := ⟨[.ptr 0 0, .lf (.int .i64)], [(85, [.ptr 1 0, .elemv [.lf (.int .i64), .lf (.int .i64), .elemv [.sl .view false (.cons (.int .i64) (.cons (.int .i64) (.cons (.int .i64) (.int .i64)))), .sl .view false (.cons (.sl (.int .i64)) (.sl (.int .i64)))] 0, .elemv [.sl .view false (.cons (.int .i64) (.cons (.int .i64) (.cons (.int .i64) (.int .i64)))), .sl .view false (.cons (.sl (.int .i64)) (.sl (.int .i64)))] 0] 0, .sl .view false (.int .i64)]), (113, [.elemv [.sl .view false (.cons (.int .i64) (.cons (.int .i64) (.cons (.int .i64) (.int .i64)))), .sl .view false (.cons (.sl (.int .i64)) (.sl (.int .i64)))] 0, .sl (.own 3) false (.int .i64), .lf (.int .i64), .lf (.int .i64)])]⟩
def ou22 : List OS := [⟨(.sl (.excl 39) false (.cons (.int .i64) (.cons (.int .i64) (.cons (.sl (.int .i64)) (.int .i64))))), [(85, [(.ptr 1 0), (.elemv [(.lf (.int .i64)), (.lf (.int .i64)), (.elemv [(.sl .view false (.cons (.int .i64) (.cons (.int .i64) (.cons (.int .i64) (.int .i64))))), (.sl .view false (.cons (.sl (.int .i64)) (.sl (.int .i64))))] 0), (.elemv [(.sl .view false (.cons (.int .i64) (.cons (.int .i64) (.cons (.int .i64) (.int .i64))))), (.sl .view false (.cons (.sl (.int .i64)) (.sl (.int .i64))))] 0)] 0), (.sl .view false (.int .i64))]), (113, [(.elemv [(.sl .view false (.cons (.int .i64) (.cons (.int .i64) (.cons (.int .i64) (.int .i64))))), (.sl .view false (.cons (.sl (.int .i64)) (.sl (.int .i64))))] 0), (.sl (.own 3) false (.int .i64)), (.lf (.int .i64)), (.lf (.int .i64))])]⟩]
noncomputable def kf22 (fu : Nat) : KF := { inp := in22, outs := ou22, pure := false, model := machine_Encoder_Put fu }
theorem ok22 (fu : Nat) : (C22 fu).Ok := ⟨wf, fun f kf h => by
  have h : kf ∈ kn22 fu f := h
  unfold kn22 at h
  split at h
  · simp only [List.mem_cons, List.not_mem_nil, or_false] at h
    subst h; exact knows58 fu
  · simp only [List.mem_cons, List.not_mem_nil, or_false] at h
    subst h; exact knows59 fu
  · cases h⟩
set_option maxRecDepth 100000 in
theorem run22 (fu : Nat) (a) : fnK (C22 fu) Try.f22 (kf22 fu).inp (kf22 fu).outs a = (kf22 fu).model a := by kernel_rfl
theorem knows22 (fu : Nat) : Known Try.prog 22 (kf22 fu) := Known.of (ok22 fu) Try.func22 (by kernel_rfl) (run22 fu)
end Go.Proofs.Ytcbbacmpkhajeaa

namespace Go.Proofs.Ytcbbacmpkhajeaa
open Go.AM
open Go.AM.M
def h28 : Nat → Option Hint
  | 0 => some { keep := [] }
  | _ => none
def tt28 : Nat → Option (TypeId × Sh)
  | _ => none
def lp28 : Nat → LH
  | _ => {}
noncomputable def kn28 (fu : Nat) : FuncId → List KF
  | _ => []
noncomputable def C28 (fu : Nat) : TC := { C := { P := Try.prog, mv := fun _ _ => false, res := fun _ => false, live := h28, call := fun _ _ _ => none, sh := shT }, kn := kn28 fu, fu, lp := lp28, dr := fun _ => none, can := canT, tt := tt28 }
def in28 : IS := ⟨[.ptr 0 0], [(85, [.ptr 1 0, .elemv [.lf (.int .i64), .lf (.int .i64), .elemv [.sl .view false (.cons (.int .i64) (.cons (.int .i64) (.cons (.int .i64) (.int .i64)))), .sl .view false (.cons (.sl (.int .i64)) (.sl (.int .i64)))] 0, .elemv [.sl .view false (.cons (.int .i64) (.cons (.int .i64) (.cons (.int .i64) (.int .i64)))), .sl .view false (.cons (.sl (.int .i64)) (.sl (.int .i64)))] 0] 0, .sl .view false (.int .i64)]), (113, [.elemv [.sl .view false (.cons (.int .i64) (.cons (.int .i64) (.cons (.int .i64) (.int .i64)))), .sl .view false (.cons (.sl (.int .i64)) (.sl (.int .i64)))] 0, .sl (.own 3) false (.int .i64), .lf (.int .i64), .lf (.int .i64)])]⟩
def ou28 : List OS := [⟨(.tup []), [(85, [(.ptr 1 0), (.elemv [(.lf (.int .i64)), (.lf (.int .i64)), (.elemv [(.sl .view false (.cons (.int .i64) (.cons (.int .i64) (.cons (.int .i64) (.int .i64))))), (.sl .view false (.cons (.sl (.int .i64)) (.sl (.int .i64))))] 0), (.elemv [(.sl .view false (.cons (.int .i64) (.cons (.int .i64) (.cons (.int .i64) (.int .i64))))), (.sl .view false (.cons (.sl (.int .i64)) (.sl (.int .i64))))] 0)] 0), (.sl .view false (.int .i64))]), (113, [(.elemv [(.sl .view false (.cons (.int .i64) (.cons (.int .i64) (.cons (.int .i64) (.int .i64))))), (.sl .view false (.cons (.sl (.int .i64)) (.sl (.int .i64))))] 0), (.sl (.own 3) false (.int .i64)), (.lf (.int .i64)), (.lf (.int .i64))])]⟩]
noncomputable def kf28 (fu : Nat) : KF := { inp := in28, outs := ou28, pure := false, model := machine_Encoder_Apart fu }
theorem ok28 (fu : Nat) : (C28 fu).Ok := ⟨wf, fun f kf h => by
  have h : kf ∈ kn28 fu f := h
  unfold kn28 at h
  split at h
  · cases h⟩
set_option maxRecDepth 100000 in
theorem run28 (fu : Nat) (a) : fnK (C28 fu) Try.f28 (kf28 fu).inp (kf28 fu).outs a = (kf28 fu).model a := by kernel_rfl
theorem knows28 (fu : Nat) : Known Try.prog 28 (kf28 fu) := Known.of (ok28 fu) Try.func28 (by kernel_rfl) (run28 fu)
end Go.Proofs.Ytcbbacmpkhajeaa

namespace Go.Proofs.Ytcbbacmpkhajeaa
open Go.AM
open Go.AM.M
def h63 : Nat → Option Hint
  | 0 => some { keep := [0] }
  | 1 => some { keep := [0, 14] }
  | 2 => some { keep := [2, 3, 4] }
  | 3 => some { keep := [2, 3, 4] }
  | _ => none
def tt63 : Nat → Option (TypeId × Sh)
  | _ => none
def lp63 : Nat → LH
  | _ => {}
noncomputable def kn63 (fu : Nat) : FuncId → List KF
  | _ => []
noncomputable def C63 (fu : Nat) : TC := { C := { P := Try.prog, mv := fun _ _ => false, res := fun _ => false, live := h63, call := fun _ _ _ => none, sh := shT }, kn := kn63 fu, fu, lp := lp63, dr := fun _ => none, can := canT, tt := tt63 }
def in63 : IS := ⟨[.lf (.int .i64)], []⟩
def ou63 : List OS := [⟨(.tup [(.lf (.int .i64)), (.lf (.int .i64)), (.lf .bool)]), []⟩]
noncomputable def kf63 (fu : Nat) : KF := { inp := in63, outs := ou63, pure := true, model := indic_Of fu }
theorem ok63 (fu : Nat) : (C63 fu).Ok := ⟨wf, fun f kf h => by
  have h : kf ∈ kn63 fu f := h
  unfold kn63 at h
  split at h
  · cases h⟩
set_option maxRecDepth 100000 in
theorem run63 (fu : Nat) (a) : fnK (C63 fu) Try.f63 (kf63 fu).inp (kf63 fu).outs a = (kf63 fu).model a := by kernel_rfl
theorem knows63 (fu : Nat) : Known Try.prog 63 (kf63 fu) := Known.of (ok63 fu) Try.func63 (by kernel_rfl) (run63 fu)
end Go.Proofs.Ytcbbacmpkhajeaa

namespace Go.Proofs.Ytcbbacmpkhajeaa
open Go.AM
open Go.AM.M
def h64 : Nat → Option Hint
  | 0 => some { keep := [0] }
  | 1 => some { keep := [2] }
  | _ => none
def tt64 : Nat → Option (TypeId × Sh)
  | _ => none
def lp64 : Nat → LH
  | _ => {}
noncomputable def kn64 (fu : Nat) : FuncId → List KF
  | _ => []
noncomputable def C64 (fu : Nat) : TC := { C := { P := Try.prog, mv := fun _ _ => false, res := fun _ => false, live := h64, call := fun _ _ _ => none, sh := shT }, kn := kn64 fu, fu, lp := lp64, dr := fun _ => none, can := canT, tt := tt64 }
def in64 : IS := ⟨[.lf (.int .i64)], []⟩
def ou64 : List OS := [⟨(.lf .bool), []⟩]
noncomputable def kf64 (fu : Nat) : KF := { inp := in64, outs := ou64, pure := true, model := utf_Scalar fu }
theorem ok64 (fu : Nat) : (C64 fu).Ok := ⟨wf, fun f kf h => by
  have h : kf ∈ kn64 fu f := h
  unfold kn64 at h
  split at h
  · cases h⟩
set_option maxRecDepth 100000 in
theorem run64 (fu : Nat) (a) : fnK (C64 fu) Try.f64 (kf64 fu).inp (kf64 fu).outs a = (kf64 fu).model a := by kernel_rfl
theorem knows64 (fu : Nat) : Known Try.prog 64 (kf64 fu) := Known.of (ok64 fu) Try.func64 (by kernel_rfl) (run64 fu)
end Go.Proofs.Ytcbbacmpkhajeaa

namespace Go.Proofs.Ytcbbacmpkhajeaa
open Go.AM
open Go.AM.M
def h81 : Nat → Option Hint
  | 0 => some { keep := [0] }
  | 1 => some { keep := [2] }
  | _ => none
def tt81 : Nat → Option (TypeId × Sh)
  | 2 => some (39, .cons (.int .i64) (.cons (.int .i64) (.cons (.sl (.int .i64)) (.int .i64))))
  | 4 => some (39, .cons (.int .i64) (.cons (.int .i64) (.cons (.sl (.int .i64)) (.int .i64))))
  | _ => none
def lp81 : Nat → LH
  | _ => {}
noncomputable def kn81 (fu : Nat) : FuncId → List KF
  | 79 => [kf79 fu]
  | _ => []
noncomputable def C81 (fu : Nat) : TC := { C := { P := Try.prog, mv := fun _ _ => false, res := fun _ => false, live := h81, call := fun _ _ _ => none, sh := shT }, kn := kn81 fu, fu, lp := lp81, dr := fun _ => none, can := canT, tt := tt81 }
def in81 : IS := ⟨[.ptr 0 0], [(113, [.elemv [.sl .view false (.cons (.int .i64) (.cons (.int .i64) (.cons (.int .i64) (.int .i64)))), .sl .view false (.cons (.sl (.int .i64)) (.sl (.int .i64)))] 0, .sl (.own 3) false (.int .i64), .lf (.int .i64), .lf (.int .i64)])]⟩
def ou81 : List OS := [⟨(.sl (.excl 39) false (.cons (.int .i64) (.cons (.int .i64) (.cons (.sl (.int .i64)) (.int .i64))))), [(113, [(.elemv [(.sl .view false (.cons (.int .i64) (.cons (.int .i64) (.cons (.int .i64) (.int .i64))))), (.sl .view false (.cons (.sl (.int .i64)) (.sl (.int .i64))))] 0), (.sl (.own 3) false (.int .i64)), (.lf (.int .i64)), (.lf (.int .i64))])]⟩]
noncomputable def kf81 (fu : Nat) : KF := { inp := in81, outs := ou81, pure := false, model := match_Match_End fu }
theorem ok81 (fu : Nat) : (C81 fu).Ok := ⟨wf, fun f kf h => by
  have h : kf ∈ kn81 fu f := h
  unfold kn81 at h
  split at h
  · simp only [List.mem_cons, List.not_mem_nil, or_false] at h
    subst h; exact knows79 fu
  · cases h⟩
set_option maxRecDepth 100000 in
theorem run81 (fu : Nat) (a) : fnK (C81 fu) Try.f81 (kf81 fu).inp (kf81 fu).outs a = (kf81 fu).model a := by kernel_rfl
theorem knows81 (fu : Nat) : Known Try.prog 81 (kf81 fu) := Known.of (ok81 fu) Try.func81 (by kernel_rfl) (run81 fu)
end Go.Proofs.Ytcbbacmpkhajeaa

namespace Go.Proofs.Ytcbbacmpkhajeaa
open Go.AM
open Go.AM.M
def h65 : Nat → Option Hint
  | 0 => some { keep := [0] }
  | 1 => some { keep := [2] }
  | _ => none
def tt65 : Nat → Option (TypeId × Sh)
  | 2 => some (39, .cons (.int .i64) (.cons (.int .i64) (.cons (.sl (.int .i64)) (.int .i64))))
  | 8 => some (39, .cons (.int .i64) (.cons (.int .i64) (.cons (.sl (.int .i64)) (.int .i64))))
  | 9 => some (39, .cons (.int .i64) (.cons (.int .i64) (.cons (.sl (.int .i64)) (.int .i64))))
  | _ => none
def lp65 : Nat → LH
  | _ => {}
noncomputable def kn65 (fu : Nat) : FuncId → List KF
  | 58 => [kf58 fu]
  | 81 => [kf81 fu]
  | _ => []
noncomputable def C65 (fu : Nat) : TC := { C := { P := Try.prog, mv := fun _ _ => false, res := fun _ => false, live := h65, call := fun _ _ _ => none, sh := shT }, kn := kn65 fu, fu, lp := lp65, dr := fun _ => none, can := canT, tt := tt65 }
def in65 : IS := ⟨[.ptr 0 0], [(85, [.ptr 1 0, .elemv [.lf (.int .i64), .lf (.int .i64), .elemv [.sl .view false (.cons (.int .i64) (.cons (.int .i64) (.cons (.int .i64) (.int .i64)))), .sl .view false (.cons (.sl (.int .i64)) (.sl (.int .i64)))] 0, .elemv [.sl .view false (.cons (.int .i64) (.cons (.int .i64) (.cons (.int .i64) (.int .i64)))), .sl .view false (.cons (.sl (.int .i64)) (.sl (.int .i64)))] 0] 0, .sl .view false (.int .i64)]), (113, [.elemv [.sl .view false (.cons (.int .i64) (.cons (.int .i64) (.cons (.int .i64) (.int .i64)))), .sl .view false (.cons (.sl (.int .i64)) (.sl (.int .i64)))] 0, .sl (.own 3) false (.int .i64), .lf (.int .i64), .lf (.int .i64)])]⟩
def ou65 : List OS := [⟨(.sl (.excl 39) false (.cons (.int .i64) (.cons (.int .i64) (.cons (.sl (.int .i64)) (.int .i64))))), [(85, [(.ptr 1 0), (.elemv [(.lf (.int .i64)), (.lf (.int .i64)), (.elemv [(.sl .view false (.cons (.int .i64) (.cons (.int .i64) (.cons (.int .i64) (.int .i64))))), (.sl .view false (.cons (.sl (.int .i64)) (.sl (.int .i64))))] 0), (.elemv [(.sl .view false (.cons (.int .i64) (.cons (.int .i64) (.cons (.int .i64) (.int .i64))))), (.sl .view false (.cons (.sl (.int .i64)) (.sl (.int .i64))))] 0)] 0), (.sl .view false (.int .i64))]), (113, [(.elemv [(.sl .view false (.cons (.int .i64) (.cons (.int .i64) (.cons (.int .i64) (.int .i64))))), (.sl .view false (.cons (.sl (.int .i64)) (.sl (.int .i64))))] 0), (.sl (.own 3) false (.int .i64)), (.lf (.int .i64)), (.lf (.int .i64))])]⟩]
noncomputable def kf65 (fu : Nat) : KF := { inp := in65, outs := ou65, pure := false, model := machine_Encoder_End fu }
theorem ok65 (fu : Nat) : (C65 fu).Ok := ⟨wf, fun f kf h => by
  have h : kf ∈ kn65 fu f := h
  unfold kn65 at h
  split at h
  · simp only [List.mem_cons, List.not_mem_nil, or_false] at h
    subst h; exact knows58 fu
  · simp only [List.mem_cons, List.not_mem_nil, or_false] at h
    subst h; exact knows81 fu
  · cases h⟩
set_option maxRecDepth 100000 in
theorem run65 (fu : Nat) (a) : fnK (C65 fu) Try.f65 (kf65 fu).inp (kf65 fu).outs a = (kf65 fu).model a := by kernel_rfl
theorem knows65 (fu : Nat) : Known Try.prog 65 (kf65 fu) := Known.of (ok65 fu) Try.func65 (by kernel_rfl) (run65 fu)
end Go.Proofs.Ytcbbacmpkhajeaa

namespace Go.Proofs.Ytcbbacmpkhajeaa
open Go.AM
open Go.AM.M
def h66 : Nat → Option Hint
  | 0 => some { keep := [0] }
  | 1 => some { keep := [0, 9] }
  | 2 => some { keep := [2, 3] }
  | 3 => some { keep := [2, 3] }
  | _ => none
def tt66 : Nat → Option (TypeId × Sh)
  | _ => none
def lp66 : Nat → LH
  | _ => {}
noncomputable def kn66 (fu : Nat) : FuncId → List KF
  | 82 => [kf82 fu]
  | _ => []
noncomputable def C66 (fu : Nat) : TC := { C := { P := Try.prog, mv := fun _ _ => false, res := fun _ => false, live := h66, call := fun _ _ _ => none, sh := shT }, kn := kn66 fu, fu, lp := lp66, dr := fun _ => none, can := canT, tt := tt66 }
def in66 : IS := ⟨[.lf (.int .i64)], []⟩
def ou66 : List OS := [⟨(.tup [(.lf (.int .i64)), (.lf .bool)]), []⟩]
noncomputable def kf66 (fu : Nat) : KF := { inp := in66, outs := ou66, pure := true, model := indic_Code fu }
theorem ok66 (fu : Nat) : (C66 fu).Ok := ⟨wf, fun f kf h => by
  have h : kf ∈ kn66 fu f := h
  unfold kn66 at h
  split at h
  · simp only [List.mem_cons, List.not_mem_nil, or_false] at h
    subst h; exact knows82 fu
  · cases h⟩
set_option maxRecDepth 100000 in
theorem run66 (fu : Nat) (a) : fnK (C66 fu) Try.f66 (kf66 fu).inp (kf66 fu).outs a = (kf66 fu).model a := by kernel_rfl
theorem knows66 (fu : Nat) : Known Try.prog 66 (kf66 fu) := Known.of (ok66 fu) Try.func66 (by kernel_rfl) (run66 fu)
end Go.Proofs.Ytcbbacmpkhajeaa

namespace Go.Proofs.Ytcbbacmpkhajeaa
open Go.AM
open Go.AM.M
def h34 : Nat → Option Hint
  | 0 => some { keep := [0, 1] }
  | 1 => some { keep := [0, 1, 5, 6, 7] }
  | 2 => some { keep := [0, 1, 5, 7, 8] }
  | 3 => some { keep := [0, 1, 5, 7, 8, 19] }
  | 4 => some { keep := [0, 5, 7, 8] }
  | 5 => some { keep := [0, 1, 5, 7, 8, 23] }
  | 6 => some { keep := [0, 5, 7, 8] }
  | 7 => some { keep := [0, 5, 7, 8, 9] }
  | 8 => some { keep := [0, 5, 8, 9, 36] }
  | 9 => some { keep := [0, 5, 8, 9] }
  | 10 => some { keep := [0, 5, 8, 9, 10] }
  | 11 => some { keep := [0, 8, 9, 10] }
  | 12 => some { keep := [0, 8, 9, 10] }
  | 13 => some { keep := [0, 8, 9] }
  | 14 => some { keep := [0, 8, 9] }
  | 15 => some { keep := [4] }
  | _ => none
def tt34 : Nat → Option (TypeId × Sh)
  | 4 => some (39, .cons (.int .i64) (.cons (.int .i64) (.cons (.sl (.int .i64)) (.int .i64))))
  | 9 => some (39, .cons (.int .i64) (.cons (.int .i64) (.cons (.sl (.int .i64)) (.int .i64))))
  | 41 => some (39, .cons (.int .i64) (.cons (.int .i64) (.cons (.sl (.int .i64)) (.int .i64))))
  | 56 => some (39, .cons (.int .i64) (.cons (.int .i64) (.cons (.sl (.int .i64)) (.int .i64))))
  | 62 => some (3, .int .i64)
  | 64 => some (39, .cons (.int .i64) (.cons (.int .i64) (.cons (.sl (.int .i64)) (.int .i64))))
  | 65 => some (39, .cons (.int .i64) (.cons (.int .i64) (.cons (.sl (.int .i64)) (.int .i64))))
  | 73 => some (39, .cons (.int .i64) (.cons (.int .i64) (.cons (.sl (.int .i64)) (.int .i64))))
  | 79 => some (39, .cons (.int .i64) (.cons (.int .i64) (.cons (.sl (.int .i64)) (.int .i64))))
  | 80 => some (39, .cons (.int .i64) (.cons (.int .i64) (.cons (.sl (.int .i64)) (.int .i64))))
  | _ => none
def lp34 : Nat → LH
  | _ => {}
noncomputable def kn34 (fu : Nat) : FuncId → List KF
  | 22 => [kf22 fu]
  | 28 => [kf28 fu]
  | 63 => [kf63 fu]
  | 64 => [kf64 fu]
  | 65 => [kf65 fu]
  | 66 => [kf66 fu]
  | _ => []
noncomputable def C34 (fu : Nat) : TC := { C := { P := Try.prog, mv := fun _ _ => false, res := fun _ => false, live := h34, call := fun _ _ _ => none, sh := shT }, kn := kn34 fu, fu, lp := lp34, dr := fun _ => none, can := canT, tt := tt34 }
def in34 : IS := ⟨[.ptr 0 0, .lf (.int .i64)], [(91, [.ptr 1 0, .lf (.int .i64), .lf (.int .i64), .lf (.int .i64)]), (85, [.ptr 2 0, .elemv [.lf (.int .i64), .lf (.int .i64), .elemv [.sl .view false (.cons (.int .i64) (.cons (.int .i64) (.cons (.int .i64) (.int .i64)))), .sl .view false (.cons (.sl (.int .i64)) (.sl (.int .i64)))] 0, .elemv [.sl .view false (.cons (.int .i64) (.cons (.int .i64) (.cons (.int .i64) (.int .i64)))), .sl .view false (.cons (.sl (.int .i64)) (.sl (.int .i64)))] 0] 0, .sl .view false (.int .i64)]), (113, [.elemv [.sl .view false (.cons (.int .i64) (.cons (.int .i64) (.cons (.int .i64) (.int .i64)))), .sl .view false (.cons (.sl (.int .i64)) (.sl (.int .i64)))] 0, .sl (.own 3) false (.int .i64), .lf (.int .i64), .lf (.int .i64)])]⟩
def ou34 : List OS := [⟨(.sl (.excl 39) false (.cons (.int .i64) (.cons (.int .i64) (.cons (.sl (.int .i64)) (.int .i64))))), [(91, [(.ptr 1 0), (.lf (.int .i64)), (.lf (.int .i64)), (.lf (.int .i64))]), (85, [(.ptr 2 0), (.elemv [(.lf (.int .i64)), (.lf (.int .i64)), (.elemv [(.sl .view false (.cons (.int .i64) (.cons (.int .i64) (.cons (.int .i64) (.int .i64))))), (.sl .view false (.cons (.sl (.int .i64)) (.sl (.int .i64))))] 0), (.elemv [(.sl .view false (.cons (.int .i64) (.cons (.int .i64) (.cons (.int .i64) (.int .i64))))), (.sl .view false (.cons (.sl (.int .i64)) (.sl (.int .i64))))] 0)] 0), (.sl .view false (.int .i64))]), (113, [(.elemv [(.sl .view false (.cons (.int .i64) (.cons (.int .i64) (.cons (.int .i64) (.int .i64))))), (.sl .view false (.cons (.sl (.int .i64)) (.sl (.int .i64))))] 0), (.sl (.own 3) false (.int .i64)), (.lf (.int .i64)), (.lf (.int .i64))])]⟩]
noncomputable def kf34 (fu : Nat) : KF := { inp := in34, outs := ou34, pure := false, model := iscii_Encoder_Put fu }
theorem ok34 (fu : Nat) : (C34 fu).Ok := ⟨wf, fun f kf h => by
  have h : kf ∈ kn34 fu f := h
  unfold kn34 at h
  split at h
  · simp only [List.mem_cons, List.not_mem_nil, or_false] at h
    subst h; exact knows22 fu
  · simp only [List.mem_cons, List.not_mem_nil, or_false] at h
    subst h; exact knows28 fu
  · simp only [List.mem_cons, List.not_mem_nil, or_false] at h
    subst h; exact knows63 fu
  · simp only [List.mem_cons, List.not_mem_nil, or_false] at h
    subst h; exact knows64 fu
  · simp only [List.mem_cons, List.not_mem_nil, or_false] at h
    subst h; exact knows65 fu
  · simp only [List.mem_cons, List.not_mem_nil, or_false] at h
    subst h; exact knows66 fu
  · cases h⟩
set_option maxRecDepth 100000 in
theorem run34 (fu : Nat) (a) : fnK (C34 fu) Try.f34 (kf34 fu).inp (kf34 fu).outs a = (kf34 fu).model a := by kernel_rfl
theorem knows34 (fu : Nat) : Known Try.prog 34 (kf34 fu) := Known.of (ok34 fu) Try.func34 (by kernel_rfl) (run34 fu)
end Go.Proofs.Ytcbbacmpkhajeaa

namespace Go.Proofs.Ytcbbacmpkhajeaa
open Go.AM
open Go.AM.M
def h35 : Nat → Option Hint
  | 0 => some { keep := [0] }
  | 1 => some { keep := [2] }
  | _ => none
def tt35 : Nat → Option (TypeId × Sh)
  | 2 => some (39, .cons (.int .i64) (.cons (.int .i64) (.cons (.sl (.int .i64)) (.int .i64))))
  | 7 => some (39, .cons (.int .i64) (.cons (.int .i64) (.cons (.sl (.int .i64)) (.int .i64))))
  | _ => none
def lp35 : Nat → LH
  | _ => {}
noncomputable def kn35 (fu : Nat) : FuncId → List KF
  | 65 => [kf65 fu]
  | _ => []
noncomputable def C35 (fu : Nat) : TC := { C := { P := Try.prog, mv := fun _ _ => false, res := fun _ => false, live := h35, call := fun _ _ _ => none, sh := shT }, kn := kn35 fu, fu, lp := lp35, dr := fun _ => none, can := canT, tt := tt35 }
def in35 : IS := ⟨[.ptr 0 0], [(91, [.ptr 1 0, .lf (.int .i64), .lf (.int .i64), .lf (.int .i64)]), (85, [.ptr 2 0, .elemv [.lf (.int .i64), .lf (.int .i64), .elemv [.sl .view false (.cons (.int .i64) (.cons (.int .i64) (.cons (.int .i64) (.int .i64)))), .sl .view false (.cons (.sl (.int .i64)) (.sl (.int .i64)))] 0, .elemv [.sl .view false (.cons (.int .i64) (.cons (.int .i64) (.cons (.int .i64) (.int .i64)))), .sl .view false (.cons (.sl (.int .i64)) (.sl (.int .i64)))] 0] 0, .sl .view false (.int .i64)]), (113, [.elemv [.sl .view false (.cons (.int .i64) (.cons (.int .i64) (.cons (.int .i64) (.int .i64)))), .sl .view false (.cons (.sl (.int .i64)) (.sl (.int .i64)))] 0, .sl (.own 3) false (.int .i64), .lf (.int .i64), .lf (.int .i64)])]⟩
def ou35 : List OS := [⟨(.sl (.excl 39) false (.cons (.int .i64) (.cons (.int .i64) (.cons (.sl (.int .i64)) (.int .i64))))), [(91, [(.ptr 1 0), (.lf (.int .i64)), (.lf (.int .i64)), (.lf (.int .i64))]), (85, [(.ptr 2 0), (.elemv [(.lf (.int .i64)), (.lf (.int .i64)), (.elemv [(.sl .view false (.cons (.int .i64) (.cons (.int .i64) (.cons (.int .i64) (.int .i64))))), (.sl .view false (.cons (.sl (.int .i64)) (.sl (.int .i64))))] 0), (.elemv [(.sl .view false (.cons (.int .i64) (.cons (.int .i64) (.cons (.int .i64) (.int .i64))))), (.sl .view false (.cons (.sl (.int .i64)) (.sl (.int .i64))))] 0)] 0), (.sl .view false (.int .i64))]), (113, [(.elemv [(.sl .view false (.cons (.int .i64) (.cons (.int .i64) (.cons (.int .i64) (.int .i64))))), (.sl .view false (.cons (.sl (.int .i64)) (.sl (.int .i64))))] 0), (.sl (.own 3) false (.int .i64)), (.lf (.int .i64)), (.lf (.int .i64))])]⟩]
noncomputable def kf35 (fu : Nat) : KF := { inp := in35, outs := ou35, pure := false, model := iscii_Encoder_End fu }
theorem ok35 (fu : Nat) : (C35 fu).Ok := ⟨wf, fun f kf h => by
  have h : kf ∈ kn35 fu f := h
  unfold kn35 at h
  split at h
  · simp only [List.mem_cons, List.not_mem_nil, or_false] at h
    subst h; exact knows65 fu
  · cases h⟩
set_option maxRecDepth 100000 in
theorem run35 (fu : Nat) (a) : fnK (C35 fu) Try.f35 (kf35 fu).inp (kf35 fu).outs a = (kf35 fu).model a := by kernel_rfl
theorem knows35 (fu : Nat) : Known Try.prog 35 (kf35 fu) := Known.of (ok35 fu) Try.func35 (by kernel_rfl) (run35 fu)
end Go.Proofs.Ytcbbacmpkhajeaa

namespace Go.Proofs.Ytcbbacmpkhajeaa
open Go.AM
open Go.AM.M
def h55 : Nat → Option Hint
  | 0 => some { keep := [0] }
  | 1 => some { keep := [2] }
  | _ => none
def tt55 : Nat → Option (TypeId × Sh)
  | _ => none
def lp55 : Nat → LH
  | _ => {}
noncomputable def kn55 (fu : Nat) : FuncId → List KF
  | _ => []
noncomputable def C55 (fu : Nat) : TC := { C := { P := Try.prog, mv := fun _ _ => false, res := fun _ => false, live := h55, call := fun _ _ _ => none, sh := shT }, kn := kn55 fu, fu, lp := lp55, dr := fun _ => none, can := canT, tt := tt55 }
def in55 : IS := ⟨[.elemv [.lf (.int .i64), .lf (.int .i64), .elemv [.sl .view false (.cons (.int .i64) (.cons (.int .i64) (.cons (.int .i64) (.int .i64)))), .sl .view false (.cons (.sl (.int .i64)) (.sl (.int .i64)))] 0, .elemv [.sl .view false (.cons (.int .i64) (.cons (.int .i64) (.cons (.int .i64) (.int .i64)))), .sl .view false (.cons (.sl (.int .i64)) (.sl (.int .i64)))] 0] 0], []⟩
def ou55 : List OS := [⟨(.elemv [(.sl .view false (.cons (.int .i64) (.cons (.int .i64) (.cons (.int .i64) (.int .i64))))), (.sl .view false (.cons (.sl (.int .i64)) (.sl (.int .i64))))] 0), []⟩]
noncomputable def kf55 (fu : Nat) : KF := { inp := in55, outs := ou55, pure := true, model := table_Table_Read fu }
theorem ok55 (fu : Nat) : (C55 fu).Ok := ⟨wf, fun f kf h => by
  have h : kf ∈ kn55 fu f := h
  unfold kn55 at h
  split at h
  · cases h⟩
set_option maxRecDepth 100000 in
theorem run55 (fu : Nat) (a) : fnK (C55 fu) Try.f55 (kf55 fu).inp (kf55 fu).outs a = (kf55 fu).model a := by kernel_rfl
theorem knows55 (fu : Nat) : Known Try.prog 55 (kf55 fu) := Known.of (ok55 fu) Try.func55 (by kernel_rfl) (run55 fu)
end Go.Proofs.Ytcbbacmpkhajeaa

namespace Go.Proofs.Ytcbbacmpkhajeaa
open Go.AM
open Go.AM.M
def h18 : Nat → Option Hint
  | 0 => some { keep := [0] }
  | 1 => some { keep := [2] }
  | _ => none
def tt18 : Nat → Option (TypeId × Sh)
  | _ => none
def lp18 : Nat → LH
  | _ => {}
noncomputable def kn18 (fu : Nat) : FuncId → List KF
  | 54 => [kf54 fu]
  | 55 => [kf55 fu]
  | _ => []
noncomputable def C18 (fu : Nat) : TC := { C := { P := Try.prog, mv := fun _ _ => false, res := fun _ => false, live := h18, call := fun _ _ _ => none, sh := shT }, kn := kn18 fu, fu, lp := lp18, dr := fun _ => none, can := canT, tt := tt18 }
def in18 : IS := ⟨[.elemv [.lf (.int .i64), .lf (.int .i64), .elemv [.sl .view false (.cons (.int .i64) (.cons (.int .i64) (.cons (.int .i64) (.int .i64)))), .sl .view false (.cons (.sl (.int .i64)) (.sl (.int .i64)))] 0, .elemv [.sl .view false (.cons (.int .i64) (.cons (.int .i64) (.cons (.int .i64) (.int .i64)))), .sl .view false (.cons (.sl (.int .i64)) (.sl (.int .i64)))] 0] 0], []⟩
def ou18 : List OS := [⟨(.ifc 78 (.ptr 1 0)), [(113, [(.elemv [(.sl .view false (.cons (.int .i64) (.cons (.int .i64) (.cons (.int .i64) (.int .i64))))), (.sl .view false (.cons (.sl (.int .i64)) (.sl (.int .i64))))] 0), (.sl (.own 3) false (.int .i64)), (.lf (.int .i64)), (.lf (.int .i64))]), (83, [(.ptr 0 0)])]⟩]
noncomputable def kf18 (fu : Nat) : KF := { inp := in18, outs := ou18, pure := false, model := machine_Decode fu }
theorem ok18 (fu : Nat) : (C18 fu).Ok := ⟨wf, fun f kf h => by
  have h : kf ∈ kn18 fu f := h
  unfold kn18 at h
  split at h
  · simp only [List.mem_cons, List.not_mem_nil, or_false] at h
    subst h; exact knows54 fu
  · simp only [List.mem_cons, List.not_mem_nil, or_false] at h
    subst h; exact knows55 fu
  · cases h⟩
set_option maxRecDepth 100000 in
theorem run18 (fu : Nat) (a) : fnK (C18 fu) Try.f18 (kf18 fu).inp (kf18 fu).outs a = (kf18 fu).model a := by kernel_rfl
theorem knows18 (fu : Nat) : Known Try.prog 18 (kf18 fu) := Known.of (ok18 fu) Try.func18 (by kernel_rfl) (run18 fu)
end Go.Proofs.Ytcbbacmpkhajeaa

namespace Go.Proofs.Ytcbbacmpkhajeaa
open Go.AM
open Go.AM.M
def h37 : Nat → Option Hint
  | 0 => some { keep := [] }
  | 1 => some { keep := [0] }
  | _ => none
def tt37 : Nat → Option (TypeId × Sh)
  | _ => none
def lp37 : Nat → LH
  | _ => {}
noncomputable def kn37 (fu : Nat) : FuncId → List KF
  | 18 => [kf18 fu]
  | 62 => [kf62 fu]
  | _ => []
noncomputable def C37 (fu : Nat) : TC := { C := { P := Try.prog, mv := fun _ _ => false, res := fun _ => false, live := h37, call := fun _ _ _ => none, sh := shT }, kn := kn37 fu, fu, lp := lp37, dr := fun _ => none, can := canT, tt := tt37 }
def in37 : IS := ⟨[], []⟩
def ou37 : List OS := [⟨(.ptr 2 0), [(113, [(.elemv [(.sl .view false (.cons (.int .i64) (.cons (.int .i64) (.cons (.int .i64) (.int .i64))))), (.sl .view false (.cons (.sl (.int .i64)) (.sl (.int .i64))))] 0), (.sl (.own 3) false (.int .i64)), (.lf (.int .i64)), (.lf (.int .i64))]), (83, [(.ptr 0 0)]), (98, [(.ifc 78 (.ptr 1 0)), (.lf (.int .i64))])]⟩]
noncomputable def kf37 (fu : Nat) : KF := { inp := in37, outs := ou37, pure := false, model := iscii_Decode fu }
theorem ok37 (fu : Nat) : (C37 fu).Ok := ⟨wf, fun f kf h => by
  have h : kf ∈ kn37 fu f := h
  unfold kn37 at h
  split at h
  · simp only [List.mem_cons, List.not_mem_nil, or_false] at h
    subst h; exact knows18 fu
  · simp only [List.mem_cons, List.not_mem_nil, or_false] at h
    subst h; exact knows62 fu
  · cases h⟩
set_option maxRecDepth 100000 in
theorem run37 (fu : Nat) (a) : fnK (C37 fu) Try.f37 (kf37 fu).inp (kf37 fu).outs a = (kf37 fu).model a := by kernel_rfl
theorem knows37 (fu : Nat) : Known Try.prog 37 (kf37 fu) := Known.of (ok37 fu) Try.func37 (by kernel_rfl) (run37 fu)
end Go.Proofs.Ytcbbacmpkhajeaa

namespace Go.Proofs.Ytcbbacmpkhajeaa
open Go.AM
open Go.AM.M
def h83 : Nat → Option Hint
  | 0 => some { keep := [0, 1] }
  | 1 => some { keep := [4] }
  | _ => none
def tt83 : Nat → Option (TypeId × Sh)
  | _ => none
def lp83 : Nat → LH
  | _ => {}
noncomputable def kn83 (fu : Nat) : FuncId → List KF
  | _ => []
noncomputable def C83 (fu : Nat) : TC := { C := { P := Try.prog, mv := fun _ _ => false, res := fun _ => false, live := h83, call := fun _ _ _ => none, sh := shT }, kn := kn83 fu, fu, lp := lp83, dr := fun _ => none, can := canT, tt := tt83 }
def in83 : IS := ⟨[.lf (.int .i64), .lf (.int .i64)], []⟩
def ou83 : List OS := [⟨(.lf (.int .i64)), []⟩]
noncomputable def kf83 (fu : Nat) : KF := { inp := in83, outs := ou83, pure := true, model := indic_Scalar fu }
theorem ok83 (fu : Nat) : (C83 fu).Ok := ⟨wf, fun f kf h => by
  have h : kf ∈ kn83 fu f := h
  unfold kn83 at h
  split at h
  · cases h⟩
set_option maxRecDepth 100000 in
theorem run83 (fu : Nat) (a) : fnK (C83 fu) Try.f83 (kf83 fu).inp (kf83 fu).outs a = (kf83 fu).model a := by kernel_rfl
theorem knows83 (fu : Nat) : Known Try.prog 83 (kf83 fu) := Known.of (ok83 fu) Try.func83 (by kernel_rfl) (run83 fu)
end Go.Proofs.Ytcbbacmpkhajeaa

namespace Go.Proofs.Ytcbbacmpkhajeaa
open Go.AM
open Go.AM.M
def h67 : Nat → Option Hint
  | 0 => some { keep := [0, 1] }
  | 1 => some { keep := [0, 1, 10, 11, 12] }
  | 2 => some { keep := [0, 1, 10, 11, 12, 13] }
  | 3 => some { keep := [0, 1, 5, 6, 10, 11, 12] }
  | 4 => some { keep := [0, 1, 5, 6, 7, 10, 11, 12] }
  | 5 => some { keep := [0, 1, 5, 7, 10, 11, 12, 18, 19, 20] }
  | 6 => some { keep := [0, 1, 5, 7, 10, 11, 12, 18, 19, 20, 21] }
  | 7 => some { keep := [0, 1, 5, 7, 9, 10, 11, 12, 18, 19, 20] }
  | 8 => some { keep := [0, 1, 5, 7, 10, 11, 12, 18, 19, 20] }
  | 9 => some { keep := [0, 1, 5, 7, 9, 10, 11, 12, 18, 19, 20, 33] }
  | 10 => some { keep := [0, 1, 5, 7, 10, 11, 12, 18, 19, 20] }
  | 11 => some { keep := [0, 1, 5, 7, 9, 10, 11, 12, 18, 19, 20, 41] }
  | 12 => some { keep := [0, 1, 5, 7, 10, 11, 12, 18, 19, 20] }
  | 13 => some { keep := [0, 1, 5, 7, 10, 11, 12, 18, 19, 20] }
  | 14 => some { keep := [0, 1, 10, 11, 12] }
  | 15 => some { keep := [0, 1, 10, 11, 12] }
  | 16 => some { keep := [4] }
  | _ => none
def tt67 : Nat → Option (TypeId × Sh)
  | 1 => some (39, .cons (.int .i64) (.cons (.int .i64) (.cons (.sl (.int .i64)) (.int .i64))))
  | 4 => some (39, .cons (.int .i64) (.cons (.int .i64) (.cons (.sl (.int .i64)) (.int .i64))))
  | 7 => some (3, .int .i64)
  | 10 => some (39, .cons (.int .i64) (.cons (.int .i64) (.cons (.sl (.int .i64)) (.int .i64))))
  | 18 => some (3, .int .i64)
  | 24 => some (3, .int .i64)
  | 31 => some (3, .int .i64)
  | 32 => some (3, .int .i64)
  | 36 => some (3, .int .i64)
  | 39 => some (3, .int .i64)
  | 40 => some (3, .int .i64)
  | 50 => some (39, .cons (.int .i64) (.cons (.int .i64) (.cons (.sl (.int .i64)) (.int .i64))))
  | 52 => some (3, .int .i64)
  | 56 => some (39, .cons (.int .i64) (.cons (.int .i64) (.cons (.sl (.int .i64)) (.int .i64))))
  | _ => none
def lp67 : Nat → LH
  | 2 => { excl := [1, 4, 10, 50, 56] }
  | 6 => { excl := [1, 4, 7, 10, 24, 36, 50, 56] }
  | _ => {}
noncomputable def kn67 (fu : Nat) : FuncId → List KF
  | 83 => [kf83 fu]
  | _ => []
noncomputable def C67 (fu : Nat) : TC := { C := { P := Try.prog, mv := fun _ _ => false, res := fun _ => false, live := h67, call := fun _ _ _ => none, sh := shT }, kn := kn67 fu, fu, lp := lp67, dr := fun _ => none, can := canT, tt := tt67 }
def in67 : IS := ⟨[.ptr 0 0, .sl (.excl 39) false (.cons (.int .i64) (.cons (.int .i64) (.cons (.sl (.int .i64)) (.int .i64))))], [(98, [.ifc 78 (.ptr 1 0), .lf (.int .i64)]), (83, [.ptr 2 0]), (113, [.elemv [.sl .view false (.cons (.int .i64) (.cons (.int .i64) (.cons (.int .i64) (.int .i64)))), .sl .view false (.cons (.sl (.int .i64)) (.sl (.int .i64)))] 0, .sl (.own 3) false (.int .i64), .lf (.int .i64), .lf (.int .i64)])]⟩
def ou67 : List OS := [⟨(.sl (.excl 39) false (.cons (.int .i64) (.cons (.int .i64) (.cons (.sl (.int .i64)) (.int .i64))))), [(98, [(.ifc 78 (.ptr 1 0)), (.lf (.int .i64))]), (83, [(.ptr 2 0)]), (113, [(.elemv [(.sl .view false (.cons (.int .i64) (.cons (.int .i64) (.cons (.int .i64) (.int .i64))))), (.sl .view false (.cons (.sl (.int .i64)) (.sl (.int .i64))))] 0), (.sl (.own 3) false (.int .i64)), (.lf (.int .i64)), (.lf (.int .i64))])]⟩]
noncomputable def kf67 (fu : Nat) : KF := { inp := in67, outs := ou67, pure := false, model := iscii_Decoder_mean fu }
theorem ok67 (fu : Nat) : (C67 fu).Ok := ⟨wf, fun f kf h => by
  have h : kf ∈ kn67 fu f := h
  unfold kn67 at h
  split at h
  · simp only [List.mem_cons, List.not_mem_nil, or_false] at h
    subst h; exact knows83 fu
  · cases h⟩
set_option maxRecDepth 100000 in
theorem run67 (fu : Nat) (a) : fnK (C67 fu) Try.f67 (kf67 fu).inp (kf67 fu).outs a = (kf67 fu).model a := by kernel_rfl
theorem knows67 (fu : Nat) : Known Try.prog 67 (kf67 fu) := Known.of (ok67 fu) Try.func67 (by kernel_rfl) (run67 fu)
end Go.Proofs.Ytcbbacmpkhajeaa

namespace Go.Proofs.Ytcbbacmpkhajeaa
open Go.AM
open Go.AM.M
def h39 : Nat → Option Hint
  | 0 => some { keep := [0, 1] }
  | 1 => some { keep := [4] }
  | _ => none
def tt39 : Nat → Option (TypeId × Sh)
  | 4 => some (39, .cons (.int .i64) (.cons (.int .i64) (.cons (.sl (.int .i64)) (.int .i64))))
  | 11 => some (39, .cons (.int .i64) (.cons (.int .i64) (.cons (.sl (.int .i64)) (.int .i64))))
  | 12 => some (39, .cons (.int .i64) (.cons (.int .i64) (.cons (.sl (.int .i64)) (.int .i64))))
  | _ => none
def lp39 : Nat → LH
  | _ => {}
noncomputable def kn39 (fu : Nat) : FuncId → List KF
  | 22 => [kf22 fu]
  | 59 => [kf59 fu]
  | 67 => [kf67 fu]
  | _ => []
noncomputable def C39 (fu : Nat) : TC := { C := { P := Try.prog, mv := fun _ _ => false, res := fun _ => false, live := h39, call := fun _ _ _ => none, sh := shT }, kn := kn39 fu, fu, lp := lp39, dr := fun _ => none, can := canT, tt := tt39 }
def in39 : IS := ⟨[.ptr 0 0, .lf (.int .i64)], [(98, [.ifc 78 (.ptr 1 0), .lf (.int .i64)]), (83, [.ptr 2 0]), (113, [.elemv [.sl .view false (.cons (.int .i64) (.cons (.int .i64) (.cons (.int .i64) (.int .i64)))), .sl .view false (.cons (.sl (.int .i64)) (.sl (.int .i64)))] 0, .sl (.own 3) false (.int .i64), .lf (.int .i64), .lf (.int .i64)])]⟩
def ou39 : List OS := [⟨(.sl (.excl 39) false (.cons (.int .i64) (.cons (.int .i64) (.cons (.sl (.int .i64)) (.int .i64))))), [(98, [(.ifc 78 (.ptr 1 0)), (.lf (.int .i64))]), (83, [(.ptr 2 0)]), (113, [(.elemv [(.sl .view false (.cons (.int .i64) (.cons (.int .i64) (.cons (.int .i64) (.int .i64))))), (.sl .view false (.cons (.sl (.int .i64)) (.sl (.int .i64))))] 0), (.sl (.own 3) false (.int .i64)), (.lf (.int .i64)), (.lf (.int .i64))])]⟩]
noncomputable def kf39 (fu : Nat) : KF := { inp := in39, outs := ou39, pure := false, model := iscii_Decoder_Put fu }
theorem ok39 (fu : Nat) : (C39 fu).Ok := ⟨wf, fun f kf h => by
  have h : kf ∈ kn39 fu f := h
  unfold kn39 at h
  split at h
  · simp only [List.mem_cons, List.not_mem_nil, or_false] at h
    subst h; exact knows22 fu
  · simp only [List.mem_cons, List.not_mem_nil, or_false] at h
    subst h; exact knows59 fu
  · simp only [List.mem_cons, List.not_mem_nil, or_false] at h
    subst h; exact knows67 fu
  · cases h⟩
set_option maxRecDepth 100000 in
theorem run39 (fu : Nat) (a) : fnK (C39 fu) Try.f39 (kf39 fu).inp (kf39 fu).outs a = (kf39 fu).model a := by kernel_rfl
theorem knows39 (fu : Nat) : Known Try.prog 39 (kf39 fu) := Known.of (ok39 fu) Try.func39 (by kernel_rfl) (run39 fu)
end Go.Proofs.Ytcbbacmpkhajeaa

namespace Go.Proofs.Ytcbbacmpkhajeaa
open Go.AM
open Go.AM.M
def h40 : Nat → Option Hint
  | 0 => some { keep := [0] }
  | 1 => some { keep := [2] }
  | _ => none
def tt40 : Nat → Option (TypeId × Sh)
  | 2 => some (39, .cons (.int .i64) (.cons (.int .i64) (.cons (.sl (.int .i64)) (.int .i64))))
  | 8 => some (39, .cons (.int .i64) (.cons (.int .i64) (.cons (.sl (.int .i64)) (.int .i64))))
  | 9 => some (39, .cons (.int .i64) (.cons (.int .i64) (.cons (.sl (.int .i64)) (.int .i64))))
  | _ => none
def lp40 : Nat → LH
  | _ => {}
noncomputable def kn40 (fu : Nat) : FuncId → List KF
  | 65 => [kf65 fu]
  | 67 => [kf67 fu]
  | 81 => [kf81 fu]
  | _ => []
noncomputable def C40 (fu : Nat) : TC := { C := { P := Try.prog, mv := fun _ _ => false, res := fun _ => false, live := h40, call := fun _ _ _ => none, sh := shT }, kn := kn40 fu, fu, lp := lp40, dr := fun _ => none, can := canT, tt := tt40 }
def in40 : IS := ⟨[.ptr 0 0], [(98, [.ifc 78 (.ptr 1 0), .lf (.int .i64)]), (83, [.ptr 2 0]), (113, [.elemv [.sl .view false (.cons (.int .i64) (.cons (.int .i64) (.cons (.int .i64) (.int .i64)))), .sl .view false (.cons (.sl (.int .i64)) (.sl (.int .i64)))] 0, .sl (.own 3) false (.int .i64), .lf (.int .i64), .lf (.int .i64)])]⟩
def ou40 : List OS := [⟨(.sl (.excl 39) false (.cons (.int .i64) (.cons (.int .i64) (.cons (.sl (.int .i64)) (.int .i64))))), [(98, [(.ifc 78 (.ptr 1 0)), (.lf (.int .i64))]), (83, [(.ptr 2 0)]), (113, [(.elemv [(.sl .view false (.cons (.int .i64) (.cons (.int .i64) (.cons (.int .i64) (.int .i64))))), (.sl .view false (.cons (.sl (.int .i64)) (.sl (.int .i64))))] 0), (.sl (.own 3) false (.int .i64)), (.lf (.int .i64)), (.lf (.int .i64))])]⟩]
noncomputable def kf40 (fu : Nat) : KF := { inp := in40, outs := ou40, pure := false, model := iscii_Decoder_End fu }
theorem ok40 (fu : Nat) : (C40 fu).Ok := ⟨wf, fun f kf h => by
  have h : kf ∈ kn40 fu f := h
  unfold kn40 at h
  split at h
  · simp only [List.mem_cons, List.not_mem_nil, or_false] at h
    subst h; exact knows65 fu
  · simp only [List.mem_cons, List.not_mem_nil, or_false] at h
    subst h; exact knows67 fu
  · simp only [List.mem_cons, List.not_mem_nil, or_false] at h
    subst h; exact knows81 fu
  · cases h⟩
set_option maxRecDepth 100000 in
theorem run40 (fu : Nat) (a) : fnK (C40 fu) Try.f40 (kf40 fu).inp (kf40 fu).outs a = (kf40 fu).model a := by kernel_rfl
theorem knows40 (fu : Nat) : Known Try.prog 40 (kf40 fu) := Known.of (ok40 fu) Try.func40 (by kernel_rfl) (run40 fu)
end Go.Proofs.Ytcbbacmpkhajeaa

namespace Go.Proofs.Ytcbbacmpkhajeaa
open Go.AM
open Go.AM.M
def h41 : Nat → Option Hint
  | 0 => some { keep := [0] }
  | 1 => some { keep := [2] }
  | _ => none
def tt41 : Nat → Option (TypeId × Sh)
  | _ => none
def lp41 : Nat → LH
  | _ => {}
noncomputable def kn41 (fu : Nat) : FuncId → List KF
  | _ => []
noncomputable def C41 (fu : Nat) : TC := { C := { P := Try.prog, mv := fun _ _ => false, res := fun _ => false, live := h41, call := fun _ _ _ => none, sh := shT }, kn := kn41 fu, fu, lp := lp41, dr := fun _ => none, can := canT, tt := tt41 }
def in41 : IS := ⟨[.ptr 0 0], [(98, [.ifc 78 (.ptr 1 0), .lf (.int .i64)]), (83, [.ptr 2 0]), (113, [.elemv [.sl .view false (.cons (.int .i64) (.cons (.int .i64) (.cons (.int .i64) (.int .i64)))), .sl .view false (.cons (.sl (.int .i64)) (.sl (.int .i64)))] 0, .sl (.own 3) false (.int .i64), .lf (.int .i64), .lf (.int .i64)])]⟩
def ou41 : List OS := [⟨(.lf (.int .i64)), [(98, [(.ifc 78 (.ptr 1 0)), (.lf (.int .i64))]), (83, [(.ptr 2 0)]), (113, [(.elemv [(.sl .view false (.cons (.int .i64) (.cons (.int .i64) (.cons (.int .i64) (.int .i64))))), (.sl .view false (.cons (.sl (.int .i64)) (.sl (.int .i64))))] 0), (.sl (.own 3) false (.int .i64)), (.lf (.int .i64)), (.lf (.int .i64))])]⟩]
noncomputable def kf41 (fu : Nat) : KF := { inp := in41, outs := ou41, pure := false, model := iscii_Decoder_Script fu }
theorem ok41 (fu : Nat) : (C41 fu).Ok := ⟨wf, fun f kf h => by
  have h : kf ∈ kn41 fu f := h
  unfold kn41 at h
  split at h
  · cases h⟩
set_option maxRecDepth 100000 in
theorem run41 (fu : Nat) (a) : fnK (C41 fu) Try.f41 (kf41 fu).inp (kf41 fu).outs a = (kf41 fu).model a := by kernel_rfl
theorem knows41 (fu : Nat) : Known Try.prog 41 (kf41 fu) := Known.of (ok41 fu) Try.func41 (by kernel_rfl) (run41 fu)
end Go.Proofs.Ytcbbacmpkhajeaa

namespace Go.Proofs.Ytcbbacmpkhajeaa
open Go.AM
open Go.AM.M
def h31 : Nat → Option Hint
  | 0 => some { keep := [] }
  | 1 => some { keep := [1, 2] }
  | 2 => some { keep := [1, 2, 20] }
  | 3 => some { keep := [0] }
  | 4 => some { keep := [1, 2, 3] }
  | 5 => some { keep := [2, 3, 25, 26, 27] }
  | 6 => some { keep := [2, 3, 25, 26, 27, 28] }
  | 7 => some { keep := [2, 3, 5, 25, 26, 27] }
  | 8 => some { keep := [2, 3, 25, 26, 27] }
  | 9 => some { keep := [2, 3, 25, 26, 27] }
  | 10 => some { keep := [2, 3, 6] }
  | 11 => some { keep := [2, 3, 6, 36, 37, 38] }
  | 12 => some { keep := [2, 3, 6, 36, 37, 38, 39] }
  | 13 => some { keep := [2, 3, 6, 8, 36, 37, 38] }
  | 14 => some { keep := [2, 3, 6, 36, 37, 38, 44, 45, 46] }
  | 15 => some { keep := [2, 3, 6, 36, 37, 38, 44, 45, 46, 47] }
  | 16 => some { keep := [2, 3, 6, 10, 36, 37, 38, 44, 45, 46] }
  | 17 => some { keep := [2, 3, 6, 36, 37, 38, 44, 45, 46] }
  | 18 => some { keep := [2, 3, 6, 36, 37, 38, 44, 45, 46] }
  | 19 => some { keep := [2, 3, 6, 36, 37, 38] }
  | 20 => some { keep := [2, 3, 6, 57, 58, 59] }
  | 21 => some { keep := [2, 3, 6, 57, 58, 59, 60] }
  | 22 => some { keep := [2, 3, 6, 12, 57, 58, 59] }
  | 23 => some { keep := [2, 3, 6, 57, 58, 59] }
  | 24 => some { keep := [2, 3, 6, 57, 58, 59] }
  | 25 => some { keep := [0] }
  | _ => none
def tt31 : Nat → Option (TypeId × Sh)
  | 3 => some (3, .int .i64)
  | 6 => some (3, .int .i64)
  | 22 => some (39, .cons (.int .i64) (.cons (.int .i64) (.cons (.sl (.int .i64)) (.int .i64))))
  | 24 => some (39, .cons (.int .i64) (.cons (.int .i64) (.cons (.sl (.int .i64)) (.int .i64))))
  | 25 => some (39, .cons (.int .i64) (.cons (.int .i64) (.cons (.sl (.int .i64)) (.int .i64))))
  | 31 => some (3, .int .i64)
  | 33 => some (3, .int .i64)
  | 34 => some (3, .int .i64)
  | 36 => some (3, .int .i64)
  | 44 => some (39, .cons (.int .i64) (.cons (.int .i64) (.cons (.sl (.int .i64)) (.int .i64))))
  | 50 => some (3, .int .i64)
  | 52 => some (3, .int .i64)
  | 53 => some (3, .int .i64)
  | 57 => some (39, .cons (.int .i64) (.cons (.int .i64) (.cons (.sl (.int .i64)) (.int .i64))))
  | 63 => some (3, .int .i64)
  | 65 => some (3, .int .i64)
  | 66 => some (3, .int .i64)
  | 68 => some (3, .int .i64)
  | 69 => some (3, .int .i64)
  | 72 => some (3, .int .i64)
  | 73 => some (3, .int .i64)
  | _ => none
def lp31 : Nat → LH
  | 6 => { excl := [3, 31] }
  | 12 => { excl := [6, 50] }
  | 15 => { excl := [6, 50] }
  | 21 => { excl := [6, 63] }
  | _ => {}
noncomputable def kn31 (fu : Nat) : FuncId → List KF
  | 30 => [kf30 fu]
  | 32 => [kf32 fu]
  | 34 => [kf34 fu]
  | 35 => [kf35 fu]
  | 37 => [kf37 fu]
  | 39 => [kf39 fu]
  | 40 => [kf40 fu]
  | 41 => [kf41 fu]
  | _ => []
noncomputable def C31 (fu : Nat) : TC := { C := { P := Try.prog, mv := fun _ _ => false, res := fun _ => false, live := h31, call := fun _ _ _ => none, sh := shT }, kn := kn31 fu, fu, lp := lp31, dr := fun _ => none, can := canT, tt := tt31 }
def in31 : IS := ⟨[], []⟩
def ou31 : List OS := [⟨(.lf .bool), []⟩]
noncomputable def kf31 (fu : Nat) : KF := { inp := in31, outs := ou31, pure := true, model := lontarlaw18_awake fu }
theorem ok31 (fu : Nat) : (C31 fu).Ok := ⟨wf, fun f kf h => by
  have h : kf ∈ kn31 fu f := h
  unfold kn31 at h
  split at h
  · simp only [List.mem_cons, List.not_mem_nil, or_false] at h
    subst h; exact knows30 fu
  · simp only [List.mem_cons, List.not_mem_nil, or_false] at h
    subst h; exact knows32 fu
  · simp only [List.mem_cons, List.not_mem_nil, or_false] at h
    subst h; exact knows34 fu
  · simp only [List.mem_cons, List.not_mem_nil, or_false] at h
    subst h; exact knows35 fu
  · simp only [List.mem_cons, List.not_mem_nil, or_false] at h
    subst h; exact knows37 fu
  · simp only [List.mem_cons, List.not_mem_nil, or_false] at h
    subst h; exact knows39 fu
  · simp only [List.mem_cons, List.not_mem_nil, or_false] at h
    subst h; exact knows40 fu
  · simp only [List.mem_cons, List.not_mem_nil, or_false] at h
    subst h; exact knows41 fu
  · cases h⟩
set_option maxRecDepth 100000 in
theorem run31 (fu : Nat) (a) : fnK (C31 fu) Try.f31 (kf31 fu).inp (kf31 fu).outs a = (kf31 fu).model a := by kernel_rfl
theorem knows31 (fu : Nat) : Known Try.prog 31 (kf31 fu) := Known.of (ok31 fu) Try.func31 (by kernel_rfl) (run31 fu)
end Go.Proofs.Ytcbbacmpkhajeaa

namespace Go.Proofs.Ytcbbacmpkhajeaa
open Go.AM
open Go.AM.M
def h36 : Nat → Option Hint
  | 0 => some { keep := [] }
  | 1 => some { keep := [0] }
  | _ => none
def tt36 : Nat → Option (TypeId × Sh)
  | 0 => some (3, .int .i64)
  | 1 => some (3, .int .i64)
  | _ => none
def lp36 : Nat → LH
  | _ => {}
noncomputable def kn36 (fu : Nat) : FuncId → List KF
  | _ => []
noncomputable def C36 (fu : Nat) : TC := { C := { P := Try.prog, mv := fun _ _ => false, res := fun _ => false, live := h36, call := fun _ _ _ => none, sh := shT }, kn := kn36 fu, fu, lp := lp36, dr := fun _ => none, can := canT, tt := tt36 }
def in36 : IS := ⟨[], []⟩
def ou36 : List OS := [⟨(.sl (.excl 3) false (.int .i64)), []⟩]
noncomputable def kf36 (fu : Nat) : KF := { inp := in36, outs := ou36, pure := true, model := lontarlaw14_Codes fu }
theorem ok36 (fu : Nat) : (C36 fu).Ok := ⟨wf, fun f kf h => by
  have h : kf ∈ kn36 fu f := h
  unfold kn36 at h
  split at h
  · cases h⟩
set_option maxRecDepth 100000 in
theorem run36 (fu : Nat) (a) : fnK (C36 fu) Try.f36 (kf36 fu).inp (kf36 fu).outs a = (kf36 fu).model a := by kernel_rfl
theorem knows36 (fu : Nat) : Known Try.prog 36 (kf36 fu) := Known.of (ok36 fu) Try.func36 (by kernel_rfl) (run36 fu)
end Go.Proofs.Ytcbbacmpkhajeaa

namespace Go.Proofs.Ytcbbacmpkhajeaa
open Go.AM
open Go.AM.M
def h38 : Nat → Option Hint
  | 0 => some { keep := [0] }
  | 1 => some { keep := [0, 3] }
  | 2 => some { keep := [3, 10, 11, 12] }
  | 3 => some { keep := [3, 10, 11, 12, 13] }
  | 4 => some { keep := [3, 5, 10, 11, 12] }
  | 5 => some { keep := [3, 10, 11, 12] }
  | 6 => some { keep := [3, 5, 10, 11, 12, 25] }
  | 7 => some { keep := [3, 10, 11, 12] }
  | 8 => some { keep := [3, 5, 10, 11, 12, 36] }
  | 9 => some { keep := [3, 10, 11, 12] }
  | 10 => some { keep := [3, 5, 10, 11, 12, 46] }
  | 11 => some { keep := [3, 10, 11, 12] }
  | 12 => some { keep := [3, 10, 11, 12] }
  | 13 => some { keep := [2] }
  | _ => none
def tt38 : Nat → Option (TypeId × Sh)
  | 0 => some (5, .int .u8)
  | 2 => some (3, .int .i64)
  | 3 => some (3, .int .i64)
  | 6 => some (5, .int .u8)
  | 7 => some (5, .int .u8)
  | 10 => some (5, .int .u8)
  | 16 => some (3, .int .i64)
  | 23 => some (3, .int .i64)
  | 24 => some (3, .int .i64)
  | 28 => some (3, .int .i64)
  | 29 => some (3, .int .i64)
  | 34 => some (3, .int .i64)
  | 35 => some (3, .int .i64)
  | 39 => some (3, .int .i64)
  | 44 => some (3, .int .i64)
  | 45 => some (3, .int .i64)
  | 49 => some (3, .int .i64)
  | 54 => some (3, .int .i64)
  | 55 => some (3, .int .i64)
  | 57 => some (3, .int .i64)
  | _ => none
def lp38 : Nat → LH
  | 3 => { excl := [3, 16, 28, 39, 49] }
  | _ => {}
noncomputable def kn38 (fu : Nat) : FuncId → List KF
  | _ => []
noncomputable def C38 (fu : Nat) : TC := { C := { P := Try.prog, mv := fun _ _ => false, res := fun _ => false, live := h38, call := fun _ _ _ => none, sh := shT }, kn := kn38 fu, fu, lp := lp38, dr := fun _ => none, can := canT, tt := tt38 }
def in38 : IS := ⟨[.sl .view false (.int .u8)], []⟩
def ou38 : List OS := [⟨(.sl (.excl 3) false (.int .i64)), []⟩]
noncomputable def kf38 (fu : Nat) : KF := { inp := in38, outs := ou38, pure := true, model := lontarlaw18_Scalars fu }
theorem ok38 (fu : Nat) : (C38 fu).Ok := ⟨wf, fun f kf h => by
  have h : kf ∈ kn38 fu f := h
  unfold kn38 at h
  split at h
  · cases h⟩
set_option maxRecDepth 100000 in
theorem run38 (fu : Nat) (a) : fnK (C38 fu) Try.f38 (kf38 fu).inp (kf38 fu).outs a = (kf38 fu).model a := by kernel_rfl
theorem knows38 (fu : Nat) : Known Try.prog 38 (kf38 fu) := Known.of (ok38 fu) Try.func38 (by kernel_rfl) (run38 fu)
end Go.Proofs.Ytcbbacmpkhajeaa

namespace Go.Proofs.Ytcbbacmpkhajeaa
open Go.AM
open Go.AM.M
def h42 : Nat → Option Hint
  | 0 => some { keep := [0] }
  | 1 => some { keep := [2] }
  | _ => none
def tt42 : Nat → Option (TypeId × Sh)
  | _ => none
def lp42 : Nat → LH
  | _ => {}
noncomputable def kn42 (fu : Nat) : FuncId → List KF
  | _ => []
noncomputable def C42 (fu : Nat) : TC := { C := { P := Try.prog, mv := fun _ _ => false, res := fun _ => false, live := h42, call := fun _ _ _ => none, sh := shT }, kn := kn42 fu, fu, lp := lp42, dr := fun _ => none, can := canT, tt := tt42 }
def in42 : IS := ⟨[.ptr 0 0], [(91, [.ptr 1 0, .lf (.int .i64), .lf (.int .i64), .lf (.int .i64)]), (85, [.ptr 2 0, .elemv [.lf (.int .i64), .lf (.int .i64), .elemv [.sl .view false (.cons (.int .i64) (.cons (.int .i64) (.cons (.int .i64) (.int .i64)))), .sl .view false (.cons (.sl (.int .i64)) (.sl (.int .i64)))] 0, .elemv [.sl .view false (.cons (.int .i64) (.cons (.int .i64) (.cons (.int .i64) (.int .i64)))), .sl .view false (.cons (.sl (.int .i64)) (.sl (.int .i64)))] 0] 0, .sl .view false (.int .i64)]), (113, [.elemv [.sl .view false (.cons (.int .i64) (.cons (.int .i64) (.cons (.int .i64) (.int .i64)))), .sl .view false (.cons (.sl (.int .i64)) (.sl (.int .i64)))] 0, .sl (.own 3) false (.int .i64), .lf (.int .i64), .lf (.int .i64)])]⟩
def ou42 : List OS := [⟨(.lf (.int .i64)), [(91, [(.ptr 1 0), (.lf (.int .i64)), (.lf (.int .i64)), (.lf (.int .i64))]), (85, [(.ptr 2 0), (.elemv [(.lf (.int .i64)), (.lf (.int .i64)), (.elemv [(.sl .view false (.cons (.int .i64) (.cons (.int .i64) (.cons (.int .i64) (.int .i64))))), (.sl .view false (.cons (.sl (.int .i64)) (.sl (.int .i64))))] 0), (.elemv [(.sl .view false (.cons (.int .i64) (.cons (.int .i64) (.cons (.int .i64) (.int .i64))))), (.sl .view false (.cons (.sl (.int .i64)) (.sl (.int .i64))))] 0)] 0), (.sl .view false (.int .i64))]), (113, [(.elemv [(.sl .view false (.cons (.int .i64) (.cons (.int .i64) (.cons (.int .i64) (.int .i64))))), (.sl .view false (.cons (.sl (.int .i64)) (.sl (.int .i64))))] 0), (.sl (.own 3) false (.int .i64)), (.lf (.int .i64)), (.lf (.int .i64))])]⟩]
noncomputable def kf42 (fu : Nat) : KF := { inp := in42, outs := ou42, pure := false, model := iscii_Encoder_Script fu }
theorem ok42 (fu : Nat) : (C42 fu).Ok := ⟨wf, fun f kf h => by
  have h : kf ∈ kn42 fu f := h
  unfold kn42 at h
  split at h
  · cases h⟩
set_option maxRecDepth 100000 in
theorem run42 (fu : Nat) (a) : fnK (C42 fu) Try.f42 (kf42 fu).inp (kf42 fu).outs a = (kf42 fu).model a := by kernel_rfl
theorem knows42 (fu : Nat) : Known Try.prog 42 (kf42 fu) := Known.of (ok42 fu) Try.func42 (by kernel_rfl) (run42 fu)
end Go.Proofs.Ytcbbacmpkhajeaa

namespace Go.Proofs.Ytcbbacmpkhajeaa
open Go.AM
open Go.AM.M
def h11 : Nat → Option Hint
  | 0 => some { keep := [0] }
  | 1 => some { keep := [0, 14] }
  | 2 => some { keep := [2] }
  | 3 => some { keep := [0, 3] }
  | 4 => some { keep := [0, 3, 17] }
  | 5 => some { keep := [2] }
  | 6 => some { keep := [0, 3, 4] }
  | 7 => some { keep := [3, 4, 19, 20, 21] }
  | 8 => some { keep := [3, 4, 19, 20, 21, 22] }
  | 9 => some { keep := [3, 4, 6, 19, 20, 21] }
  | 10 => some { keep := [3, 4, 19, 20, 21] }
  | 11 => some { keep := [3, 4, 19, 20, 21] }
  | 12 => some { keep := [3, 4] }
  | 13 => some { keep := [3, 4, 7] }
  | 14 => some { keep := [3, 4, 7, 35, 36, 37] }
  | 15 => some { keep := [3, 4, 7, 35, 36, 37, 38] }
  | 16 => some { keep := [3, 4, 7, 8, 9, 35, 36, 37] }
  | 17 => some { keep := [3, 4, 7, 8, 9, 35, 36, 37, 52] }
  | 18 => some { keep := [3, 4, 7, 8, 9, 10, 35, 36, 37] }
  | 19 => some { keep := [3, 4, 7, 8, 9, 10, 35, 36, 37, 53, 54, 55] }
  | 20 => some { keep := [3, 4, 7, 8, 9, 10, 35, 36, 37, 53, 54, 55, 56] }
  | 21 => some { keep := [3, 4, 7, 8, 9, 10, 11, 12, 35, 36, 37, 53, 54, 55] }
  | 22 => some { keep := [3, 4, 7, 8, 9, 10, 11, 35, 36, 37, 53, 54, 55, 65] }
  | 23 => some { keep := [3, 4, 7, 8, 9, 10, 35, 36, 37, 53, 54, 55] }
  | 24 => some { keep := [3, 4, 7, 8, 9, 10, 35, 36, 37, 53, 54, 55] }
  | 25 => some { keep := [3, 4, 10, 35, 36, 37, 86] }
  | 26 => some { keep := [2] }
  | 27 => some { keep := [3, 4, 7, 35, 36, 37] }
  | 28 => some { keep := [3, 4, 7, 35, 36, 37] }
  | 29 => some { keep := [2] }
  | _ => none
def tt11 : Nat → Option (TypeId × Sh)
  | 0 => some (5, .int .u8)
  | 4 => some (39, .cons (.int .i64) (.cons (.int .i64) (.cons (.sl (.int .i64)) (.int .i64))))
  | 18 => some (5, .int .u8)
  | 19 => some (3, .int .i64)
  | 25 => some (39, .cons (.int .i64) (.cons (.int .i64) (.cons (.sl (.int .i64)) (.int .i64))))
  | 28 => some (39, .cons (.int .i64) (.cons (.int .i64) (.cons (.sl (.int .i64)) (.int .i64))))
  | 29 => some (39, .cons (.int .i64) (.cons (.int .i64) (.cons (.sl (.int .i64)) (.int .i64))))
  | 31 => some (39, .cons (.int .i64) (.cons (.int .i64) (.cons (.sl (.int .i64)) (.int .i64))))
  | 33 => some (39, .cons (.int .i64) (.cons (.int .i64) (.cons (.sl (.int .i64)) (.int .i64))))
  | 34 => some (39, .cons (.int .i64) (.cons (.int .i64) (.cons (.sl (.int .i64)) (.int .i64))))
  | 35 => some (39, .cons (.int .i64) (.cons (.int .i64) (.cons (.sl (.int .i64)) (.int .i64))))
  | 43 => some (3, .int .i64)
  | 48 => some (3, .int .i64)
  | 53 => some (3, .int .i64)
  | 62 => some (3, .int .i64)
  | 77 => some (39, .cons (.int .i64) (.cons (.int .i64) (.cons (.sl (.int .i64)) (.int .i64))))
  | _ => none
def lp11 : Nat → LH
  | 8 => { excl := [4, 25] }
  | _ => {}
noncomputable def kn11 (fu : Nat) : FuncId → List KF
  | 31 => [kf31 fu]
  | 32 => [kf32 fu]
  | 34 => [kf34 fu]
  | 35 => [kf35 fu]
  | 36 => [kf36 fu]
  | 38 => [kf38 fu]
  | 42 => [kf42 fu]
  | _ => []
noncomputable def C11 (fu : Nat) : TC := { C := { P := Try.prog, mv := fun _ _ => false, res := fun _ => false, live := h11, call := fun _ _ _ => none, sh := shT }, kn := kn11 fu, fu, lp := lp11, dr := fun _ => none, can := canT, tt := tt11 }
def in11 : IS := ⟨[.sl .view false (.int .u8)], []⟩
def ou11 : List OS := [⟨(.lf .bool), []⟩]
noncomputable def kf11 (fu : Nat) : KF := { inp := in11, outs := ou11, pure := true, model := lontarlaw18_IsciiSwitch fu }
theorem ok11 (fu : Nat) : (C11 fu).Ok := ⟨wf, fun f kf h => by
  have h : kf ∈ kn11 fu f := h
  unfold kn11 at h
  split at h
  · simp only [List.mem_cons, List.not_mem_nil, or_false] at h
    subst h; exact knows31 fu
  · simp only [List.mem_cons, List.not_mem_nil, or_false] at h
    subst h; exact knows32 fu
  · simp only [List.mem_cons, List.not_mem_nil, or_false] at h
    subst h; exact knows34 fu
  · simp only [List.mem_cons, List.not_mem_nil, or_false] at h
    subst h; exact knows35 fu
  · simp only [List.mem_cons, List.not_mem_nil, or_false] at h
    subst h; exact knows36 fu
  · simp only [List.mem_cons, List.not_mem_nil, or_false] at h
    subst h; exact knows38 fu
  · simp only [List.mem_cons, List.not_mem_nil, or_false] at h
    subst h; exact knows42 fu
  · cases h⟩
set_option maxRecDepth 100000 in
theorem run11 (fu : Nat) (a) : fnK (C11 fu) Try.f11 (kf11 fu).inp (kf11 fu).outs a = (kf11 fu).model a := by kernel_rfl
theorem knows11 (fu : Nat) : Known Try.prog 11 (kf11 fu) := Known.of (ok11 fu) Try.func11 (by kernel_rfl) (run11 fu)
end Go.Proofs.Ytcbbacmpkhajeaa

namespace Go.Proofs.Ytcbbacmpkhajeaa
open Go.AM
open Go.AM.M
def h10 : Nat → Option Hint
  | 0 => some { keep := [0] }
  | 1 => some { keep := [0, 18] }
  | 2 => some { keep := [2] }
  | 3 => some { keep := [0, 3, 4] }
  | 4 => some { keep := [0, 3, 4, 26] }
  | 5 => some { keep := [2] }
  | 6 => some { keep := [0, 3, 4, 5] }
  | 7 => some { keep := [0, 3, 4, 5, 28, 29, 30] }
  | 8 => some { keep := [0, 3, 4, 5, 28, 29, 30, 31] }
  | 9 => some { keep := [0, 3, 4, 5, 7, 28, 29, 30] }
  | 10 => some { keep := [0, 3, 4, 5, 28, 29, 30] }
  | 11 => some { keep := [0, 3, 4, 5, 28, 29, 30] }
  | 12 => some { keep := [0, 3, 4, 5, 8] }
  | 13 => some { keep := [0, 3, 4, 8, 43, 44, 45] }
  | 14 => some { keep := [0, 3, 4, 8, 43, 44, 45, 46] }
  | 15 => some { keep := [0, 3, 4, 8, 10, 43, 44, 45] }
  | 16 => some { keep := [0, 3, 4, 8, 10, 43, 44, 45, 51] }
  | 17 => some { keep := [2] }
  | 18 => some { keep := [0, 3, 4, 8, 43, 44, 45, 53, 54, 55] }
  | 19 => some { keep := [0, 3, 4, 8, 43, 44, 45, 53, 54, 55, 56] }
  | 20 => some { keep := [0, 3, 4, 8, 12, 43, 44, 45, 53, 54, 55] }
  | 21 => some { keep := [0, 3, 4, 8, 43, 44, 45, 53, 54, 55, 61, 62, 63] }
  | 22 => some { keep := [0, 3, 4, 8, 43, 44, 45, 53, 54, 55, 61, 62, 63, 64] }
  | 23 => some { keep := [0, 3, 4, 8, 14, 43, 44, 45, 53, 54, 55, 61, 62, 63] }
  | 24 => some { keep := [0, 3, 4, 8, 43, 44, 45, 53, 54, 55, 61, 62, 63] }
  | 25 => some { keep := [0, 3, 4, 8, 43, 44, 45, 53, 54, 55, 61, 62, 63] }
  | 26 => some { keep := [0, 3, 4, 8, 43, 44, 45, 53, 54, 55] }
  | 27 => some { keep := [0, 3, 4, 8, 43, 44, 45] }
  | 28 => some { keep := [0, 3, 4, 8, 75, 76, 77] }
  | 29 => some { keep := [0, 3, 4, 8, 75, 76, 77, 78] }
  | 30 => some { keep := [0, 3, 4, 8, 16, 75, 76, 77] }
  | 31 => some { keep := [0, 3, 4, 8, 75, 76, 77] }
  | 32 => some { keep := [0, 3, 4, 8, 75, 76, 77] }
  | 33 => some { keep := [2] }
  | _ => none
def tt10 : Nat → Option (TypeId × Sh)
  | 0 => some (5, .int .u8)
  | 5 => some (39, .cons (.int .i64) (.cons (.int .i64) (.cons (.sl (.int .i64)) (.int .i64))))
  | 8 => some (3, .int .i64)
  | 27 => some (5, .int .u8)
  | 28 => some (3, .int .i64)
  | 34 => some (39, .cons (.int .i64) (.cons (.int .i64) (.cons (.sl (.int .i64)) (.int .i64))))
  | 37 => some (39, .cons (.int .i64) (.cons (.int .i64) (.cons (.sl (.int .i64)) (.int .i64))))
  | 38 => some (39, .cons (.int .i64) (.cons (.int .i64) (.cons (.sl (.int .i64)) (.int .i64))))
  | 40 => some (39, .cons (.int .i64) (.cons (.int .i64) (.cons (.sl (.int .i64)) (.int .i64))))
  | 42 => some (39, .cons (.int .i64) (.cons (.int .i64) (.cons (.sl (.int .i64)) (.int .i64))))
  | 43 => some (39, .cons (.int .i64) (.cons (.int .i64) (.cons (.sl (.int .i64)) (.int .i64))))
  | 53 => some (3, .int .i64)
  | 61 => some (39, .cons (.int .i64) (.cons (.int .i64) (.cons (.sl (.int .i64)) (.int .i64))))
  | 67 => some (3, .int .i64)
  | 69 => some (3, .int .i64)
  | 70 => some (3, .int .i64)
  | 75 => some (39, .cons (.int .i64) (.cons (.int .i64) (.cons (.sl (.int .i64)) (.int .i64))))
  | 81 => some (3, .int .i64)
  | 83 => some (3, .int .i64)
  | 84 => some (3, .int .i64)
  | 86 => some (3, .int .i64)
  | 87 => some (5, .int .u8)
  | 88 => some (3, .int .i64)
  | _ => none
def lp10 : Nat → LH
  | 8 => { excl := [5, 34] }
  | 14 => { excl := [8, 67] }
  | 19 => { excl := [8, 67] }
  | 22 => { excl := [8, 67] }
  | 29 => { excl := [8, 81] }
  | _ => {}
noncomputable def kn10 (fu : Nat) : FuncId → List KF
  | 30 => [kf30 fu]
  | 31 => [kf31 fu]
  | 32 => [kf32 fu]
  | 34 => [kf34 fu]
  | 35 => [kf35 fu]
  | 37 => [kf37 fu]
  | 38 => [kf38 fu]
  | 39 => [kf39 fu]
  | 40 => [kf40 fu]
  | 41 => [kf41 fu]
  | 42 => [kf42 fu]
  | _ => []
noncomputable def C10 (fu : Nat) : TC := { C := { P := Try.prog, mv := fun _ _ => false, res := fun _ => false, live := h10, call := fun _ _ _ => none, sh := shT }, kn := kn10 fu, fu, lp := lp10, dr := fun _ => none, can := canT, tt := tt10 }
def in10 : IS := ⟨[.sl .view false (.int .u8)], []⟩
def ou10 : List OS := [⟨(.lf .bool), []⟩]
noncomputable def kf10 (fu : Nat) : KF := { inp := in10, outs := ou10, pure := true, model := lontarlaw18_IsciiBack fu }
theorem ok10 (fu : Nat) : (C10 fu).Ok := ⟨wf, fun f kf h => by
  have h : kf ∈ kn10 fu f := h
  unfold kn10 at h
  split at h
  · simp only [List.mem_cons, List.not_mem_nil, or_false] at h
    subst h; exact knows30 fu
  · simp only [List.mem_cons, List.not_mem_nil, or_false] at h
    subst h; exact knows31 fu
  · simp only [List.mem_cons, List.not_mem_nil, or_false] at h
    subst h; exact knows32 fu
  · simp only [List.mem_cons, List.not_mem_nil, or_false] at h
    subst h; exact knows34 fu
  · simp only [List.mem_cons, List.not_mem_nil, or_false] at h
    subst h; exact knows35 fu
  · simp only [List.mem_cons, List.not_mem_nil, or_false] at h
    subst h; exact knows37 fu
  · simp only [List.mem_cons, List.not_mem_nil, or_false] at h
    subst h; exact knows38 fu
  · simp only [List.mem_cons, List.not_mem_nil, or_false] at h
    subst h; exact knows39 fu
  · simp only [List.mem_cons, List.not_mem_nil, or_false] at h
    subst h; exact knows40 fu
  · simp only [List.mem_cons, List.not_mem_nil, or_false] at h
    subst h; exact knows41 fu
  · simp only [List.mem_cons, List.not_mem_nil, or_false] at h
    subst h; exact knows42 fu
  · cases h⟩
set_option maxRecDepth 100000 in
theorem run10 (fu : Nat) (a) : fnK (C10 fu) Try.f10 (kf10 fu).inp (kf10 fu).outs a = (kf10 fu).model a := by kernel_rfl
theorem knows10 (fu : Nat) : Known Try.prog 10 (kf10 fu) := Known.of (ok10 fu) Try.func10 (by kernel_rfl) (run10 fu)
end Go.Proofs.Ytcbbacmpkhajeaa
