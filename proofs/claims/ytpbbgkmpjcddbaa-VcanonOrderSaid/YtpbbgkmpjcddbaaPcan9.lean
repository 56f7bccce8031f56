/- A mark and a tone in any order: what the kernel sees. -/
import Derived.Test.YtpbbgkmpjcddbaaPcan8
set_option linter.all false
namespace Go.AM.M
open Go.AM
def okM : List Int := [774, 770, 795]
def okT : List Int := [768, 769, 777, 771, 803]
def noY (l : GVietLetter) (m t : Int) : Bool := match fitT l t with
  | some e => (fitT e m).isNone
  | none => true
def yes2 (l : GVietLetter) (m t : Int) (d : GVietLetter) : Bool := match fitT l t with
  | some e => match fitT e m with
    | some d' => joinT d == joinT d'
    | none => false
  | none => true
def pairOk (l : GVietLetter) (m t : Int) : Bool := match fitT l m with
  | some c => match fitT c t with
    | some d => yes2 l m t d
    | none => noY l m t
  | none => noY l m t
def orOk (v : Int) : Bool := match nthI vls v, nthI vss v with
  | some l, some s => (match splitT s with
    | some m => m.base == l.base && m.sign.1 == l.sign.1 && m.sign.2 == l.sign.2
    | none => false) && okM.all (fun m => okT.all (fun t => pairOk l m t))
  | _, _ => false
theorem orOk0 : ((List.range 37).all fun v => orOk v) = true := by kernel_rfl
theorem orOk1 : ((List.range 37).all fun v => orOk (37 + v)) = true := by kernel_rfl
theorem orOk2 : ((List.range 37).all fun v => orOk (74 + v)) = true := by kernel_rfl
theorem orOk3 : ((List.range 37).all fun v => orOk (111 + v)) = true := by kernel_rfl
theorem orOk_all {v : Int} (h0 : 0 ≤ v) (h1 : v < 148) : orOk v = true := by
  by_cases c1 : v < 37
  · exact upto (p := orOk) orOk0 h0 (by omega)
  · by_cases c2 : v < 74
    · have := upto (p := fun n => orOk (37 + n)) orOk1 (n := v - 37) (by omega) (by omega)
      rwa [show 37 + (v - 37) = v by omega] at this
    · by_cases c3 : v < 111
      · have := upto (p := fun n => orOk (74 + n)) orOk2 (n := v - 74) (by omega) (by omega)
        rwa [show 74 + (v - 74) = v by omega] at this
      · have := upto (p := fun n => orOk (111 + n)) orOk3 (n := v - 111) (by omega) (by omega)
        rwa [show 111 + (v - 111) = v by omega] at this
end Go.AM.M
