/- The texts of VISCII: what its functions give. -/
import Derived.Test.YtpbbgkmpjcddbaaA23
import Derived.Test.YtpbbgkmpjcddbaaProg
import Derived.KernelRfl
set_option linter.all false
namespace Go.Proofs.Ytpbbgkmpjcddbaa
open Go.AM

def h3 (k : Nat) : Option (List Nat) := [[0], [0, 4], [2], [2]][k]?
def h4 (k : Nat) : Option (List Nat) := [[0, 1], [0, 1, 14], [4], [23, 24, 25], [23, 24, 25, 26], [6, 23, 24, 25], [6, 7, 8, 23, 24, 25], [6, 7, 8, 23, 24, 25, 29, 30, 31], [6, 7, 8, 23, 24, 25, 29, 30, 31, 32], [6, 7, 8, 9, 10, 23, 24, 25, 29, 30, 31], [6, 7, 8, 9, 23, 24, 25, 29, 30, 31, 38], [6, 7, 8, 23, 24, 25, 29, 30, 31], [6, 7, 8, 23, 24, 25, 29, 30, 31], [7, 8, 11, 12, 23, 24, 25], [23, 24, 25, 54], [4], [23, 24, 25], [4]][k]?
def h5 (k : Nat) : Option (List Nat) := [[0], [0, 8], [2], [0, 3], [0, 3, 9, 10, 11], [0, 3, 9, 10, 11, 12], [0, 3, 4, 5, 9, 10, 11], [0, 3, 9, 10, 11], [0, 3, 9, 10, 11], [0, 3, 6], [2]][k]?
def h6 (k : Nat) : Option (List Nat) := [[0], [0, 9], [2], [4], [4, 6, 7], [2]][k]?
def h7 (k : Nat) : Option (List Nat) := [[0, 1], [0, 1, 8], [4], [0, 1, 5, 6], [4]][k]?
def h8 (k : Nat) : Option (List Nat) := [[0], [0, 6], [2], [0, 8], [2], [0, 3, 4], [0, 3, 4, 20], [2], [2]][k]?
def h23 (k : Nat) : Option (List Nat) := [[], [1, 2], [1, 2, 4], [0]][k]?
def h24 (k : Nat) : Option (List Nat) := [[0], [0, 3], [0, 3, 4], [2], [0, 3, 6], [2], [0, 3, 8], [2], [0, 3, 10], [2], [0, 3, 12], [2], [0, 14], [2], [0, 17], [2], [2]][k]?
def h25 (k : Nat) : Option (List Nat) := [[], [1], [1, 2], [1, 2, 4], [1, 2], [1, 2], [1], [1], [1], [1], [0]][k]?
def h26 (k : Nat) : Option (List Nat) := [[0], [0, 5], [0, 5, 6], [0, 4, 5], [0, 4, 5, 12], [2, 3], [0, 5], [2, 3]][k]?
def h27 (k : Nat) : Option (List Nat) := [[], [1], [1, 3], [1, 3, 4], [1, 2, 3], [1, 3], [1, 3], [0]][k]?
def h28 (k : Nat) : Option (List Nat) := [[0, 1], [0, 1, 10], [4], [0, 1, 12, 13], [0, 1, 12, 13, 14], [0, 1, 5, 12, 13], [0, 1, 12, 13, 41], [4], [0, 1, 12, 13], [4]][k]?
def h42 (k : Nat) : Option (List Nat) := [[0, 1], [0, 1, 10], [4], [0, 1, 12, 13], [0, 1, 12, 13, 14], [0, 1, 5, 12, 13], [0, 1, 12, 13, 24], [4], [0, 1, 12, 13], [4]][k]?
def h29 (k : Nat) : Option (List Nat) := [[0, 2], [0, 2, 5], [0, 2, 5, 6], [0, 2, 5, 6, 13], [0, 2, 5, 6], [0, 2, 5, 6, 16, 17, 18], [0, 2, 5, 6, 16, 17, 18, 19], [0, 2, 5, 6, 8, 16, 17, 18], [0, 2, 5, 6, 8, 16, 17, 18, 23, 24, 25], [0, 2, 5, 6, 8, 16, 17, 18, 23, 24, 25, 26], [0, 2, 5, 6, 8, 9, 10, 16, 17, 18, 23, 24, 25], [0, 2, 5, 6, 8, 9, 10, 16, 17, 18, 23, 24, 25, 32], [2, 6, 8, 9, 10, 11], [2, 8, 9, 10, 11, 36], [2, 8, 9, 10, 11], [2, 3, 4], [0, 2, 5, 6, 8, 16, 17, 18, 23, 24, 25], [0, 2, 5, 6, 8, 16, 17, 18, 23, 24, 25], [0, 2, 5, 6, 16, 17, 18], [2, 3, 4]][k]?
def h49 (k : Nat) : Option (List Nat) := [[0], [0]][k]?
def h50 (k : Nat) : Option (List Nat) := [[], [0]][k]?
def h51 (k : Nat) : Option (List Nat) := [[0], [0, 4], [2], [2]][k]?

theorem wf : WF Try.prog := by
  have h : Try.prog.funcs.toList.all (fun fn => !(fn.name == "runtime.NumGoroutine")) = true := by kernel_rfl
  intro k fn hk _
  have := List.all_eq_true.1 h fn (by rw [← Array.getElem?_toList] at hk; exact List.mem_of_getElem? hk)
  simpa using this

/-- The scalars of the bytes. -/
def decL : List Int := [0, 1, 7858, 3, 4, 7860, 7850, 7, 8, 9, 10, 11, 12, 13, 14, 15, 16, 17, 18, 19, 7926, 21, 22, 23, 24, 7928, 26, 27, 28, 29, 7924, 31, 32, 33, 34, 35, 36, 37, 38, 39, 40, 41, 42, 43, 44, 45, 46, 47, 48, 49, 50, 51, 52, 53, 54, 55, 56, 57, 58, 59, 60, 61, 62, 63, 64, 65, 66, 67, 68, 69, 70, 71, 72, 73, 74, 75, 76, 77, 78, 79, 80, 81, 82, 83, 84, 85, 86, 87, 88, 89, 90, 91, 92, 93, 94, 95, 96, 97, 98, 99, 100, 101, 102, 103, 104, 105, 106, 107, 108, 109, 110, 111, 112, 113, 114, 115, 116, 117, 118, 119, 120, 121, 122, 123, 124, 125, 126, 127, 7840, 7854, 7856, 7862, 7844, 7846, 7848, 7852, 7868, 7864, 7870, 7872, 7874, 7876, 7878, 7888, 7890, 7892, 7894, 7896, 7906, 7898, 7900, 7902, 7882, 7886, 7884, 7880, 7910, 360, 7908, 7922, 213, 7855, 7857, 7863, 7845, 7847, 7849, 7853, 7869, 7865, 7871, 7873, 7875, 7877, 7879, 7889, 7891, 7893, 7895, 7904, 416, 7897, 7901, 7903, 7883, 7920, 7912, 7914, 7916, 417, 7899, 431, 192, 193, 194, 195, 7842, 258, 7859, 7861, 200, 201, 202, 7866, 204, 205, 296, 7923, 272, 7913, 210, 211, 212, 7841, 7927, 7915, 7917, 217, 218, 7929, 7925, 221, 7905, 432, 224, 225, 226, 227, 7843, 259, 7919, 7851, 232, 233, 234, 7867, 236, 237, 297, 7881, 273, 7921, 242, 243, 244, 245, 7887, 7885, 7909, 249, 250, 361, 7911, 253, 7907, 7918]
def decS (c : Int) : Int := decL.getD c.toNat 0

/-! ### Decode -/
def highPV : PV := .agg ((decL.drop 128).map fun z => .lit (.int .i64 z))
theorem high_run : ends (run Try.prog Orc.none h49 49 [] []) highPV = true := by kernel_rfl
theorem high_abs (σ : List Bx) : AbsCall Try.prog 49 [] σ highPV σ := (run_abs wf (SoundC.none _) (ends_eq high_run)).frame (by kernel_rfl) (by kernel_rfl) σ

def s49 : List PV → List Bx → Option (PV × List Bx)
  | [], σ => some (highPV, σ)
  | _, _ => none
def o49 : Orc := Orc.none.and 49 s49
theorem o49_ok : SoundC Try.prog o49 := (SoundC.none _).and Try.func49 (by kernel_rfl) (by
  intro args σ r σ' he
  unfold s49 at he
  split at he
  · injection he with he; injection he with e1 e2; subst e1; subst e2; exact high_abs _
  · cases he)

theorem dec_run : (List.range 256).all (fun c => ends (run Try.prog o49 h24 24 [.lit (.int .u8 (Int.ofNat c))] []) (.lit (.int .i64 (decS (Int.ofNat c))))) = true := by kernel_rfl

theorem dec_abs {c : Int} (h0 : 0 ≤ c) (h1 : c < 256) (σ : List Bx) : AbsCall Try.prog 24 [.lit (.int .u8 c)] σ (.lit (.int .i64 (decS c))) σ := by
  have h := List.all_eq_true.1 dec_run c.toNat (by simp; omega)
  have hc : Int.ofNat c.toNat = c := by simp; omega
  simp only [hc] at h
  exact (run_abs wf o49_ok (ends_eq h)).frame (by simp [noRefs, noRef]) rfl σ

def s24 : List PV → List Bx → Option (PV × List Bx)
  | [.lit (.int .u8 c)], σ => if 0 ≤ c ∧ c < 256 then some (.lit (.int .i64 (decS c)), σ) else none
  | _, _ => none
def o24 : Orc := Orc.none.and 24 s24
theorem s24_ok : ∀ args σ r σ', s24 args σ = some (r, σ') → AbsCall Try.prog 24 args σ r σ' := by
  intro args σ r σ' he
  unfold s24 at he
  split at he
  · split at he
    · rename_i h; injection he with he; injection he with e1 e2; subst e1; subst e2; exact dec_abs h.1 h.2 _
    · cases he
  · cases he
theorem o24_ok : SoundC Try.prog o24 := (SoundC.none _).and Try.func24 (by kernel_rfl) s24_ok

end Go.Proofs.Ytpbbgkmpjcddbaa
