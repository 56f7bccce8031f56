/- Facts on the program, printed by wip/gen.py. -/
import Derived.Test.YtpbbgkmpjcddbaaA30
import Derived.Test.YtpbbgkmpjcddbaaProg
import Derived.KernelRfl
set_option linter.all false
namespace Go.Proofs.Ytpbbgkmpjcddbaa
open Go.AM

theorem wf : WF Try.prog := by
  have h : Try.prog.funcs.toList.all (fun fn => !(fn.name == "runtime.NumGoroutine")) = true := by kernel_rfl
  refine ⟨?_, by kernel_rfl⟩
  intro k fn hk _
  have := List.all_eq_true.1 h fn (by rw [← Array.getElem?_toList] at hk; exact List.mem_of_getElem? hk)
  simpa using this
theorem szOf2 : szOf Try.prog 2 = some 1 := by kernel_rfl
theorem aggT2 : aggT Try.prog 2 = some false := by kernel_rfl
theorem szOf3 : szOf Try.prog 3 = some 1 := by kernel_rfl
theorem aggT3 : aggT Try.prog 3 = some false := by kernel_rfl
theorem szOf4 : szOf Try.prog 4 = some 1 := by kernel_rfl
theorem aggT4 : aggT Try.prog 4 = some false := by kernel_rfl
theorem szOf5 : szOf Try.prog 5 = some 1 := by kernel_rfl
theorem aggT5 : aggT Try.prog 5 = some false := by kernel_rfl
theorem szOf6 : szOf Try.prog 6 = some 1 := by kernel_rfl
theorem aggT6 : aggT Try.prog 6 = some false := by kernel_rfl
theorem szOf9 : szOf Try.prog 9 = some 1 := by kernel_rfl
theorem aggT9 : aggT Try.prog 9 = some false := by kernel_rfl
theorem szOf10 : szOf Try.prog 10 = some 1 := by kernel_rfl
theorem aggT10 : aggT Try.prog 10 = some false := by kernel_rfl
theorem szOf11 : szOf Try.prog 11 = some 1 := by kernel_rfl
theorem aggT11 : aggT Try.prog 11 = some false := by kernel_rfl
theorem szOf12 : szOf Try.prog 12 = some 1 := by kernel_rfl
theorem aggT12 : aggT Try.prog 12 = some false := by kernel_rfl
theorem szOf21 : szOf Try.prog 21 = some 1 := by kernel_rfl
theorem aggT21 : aggT Try.prog 21 = some false := by kernel_rfl
theorem szOf27 : szOf Try.prog 27 = some 1 := by kernel_rfl
theorem aggT27 : aggT Try.prog 27 = some false := by kernel_rfl
theorem szOf36 : szOf Try.prog 36 = some 1 := by kernel_rfl
theorem aggT36 : aggT Try.prog 36 = some false := by kernel_rfl
theorem szOf47 : szOf Try.prog 47 = some 1 := by kernel_rfl
theorem aggT47 : aggT Try.prog 47 = some false := by kernel_rfl
theorem szOf94 : szOf Try.prog 94 = some 1 := by kernel_rfl
theorem aggT94 : aggT Try.prog 94 = some false := by kernel_rfl
theorem szOf95 : szOf Try.prog 95 = some 1 := by kernel_rfl
theorem aggT95 : aggT Try.prog 95 = some false := by kernel_rfl
theorem szOf96 : szOf Try.prog 96 = some 1 := by kernel_rfl
theorem aggT96 : aggT Try.prog 96 = some false := by kernel_rfl
theorem szOf99 : szOf Try.prog 99 = some 1 := by kernel_rfl
theorem aggT99 : aggT Try.prog 99 = some false := by kernel_rfl
theorem szOf100 : szOf Try.prog 100 = some 1 := by kernel_rfl
theorem aggT100 : aggT Try.prog 100 = some false := by kernel_rfl
end Go.Proofs.Ytpbbgkmpjcddbaa
