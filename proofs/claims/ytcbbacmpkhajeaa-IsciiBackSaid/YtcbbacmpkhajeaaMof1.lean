/- Models of functions, as the machine reckons them. -/
import Derived.Test.YtcbbacmpkhajeaaBm3
set_option linter.all false
namespace Go.AM.M
open Go.AM

def lontarlaw01_Units_L0 (fu : Nat) (x : ((List Int) × ((List Int) × (Int × Int)))) : Option (((List Int) × ((List Int) × (Int × Int))) ⊕ Bool) :=
  bif (decide (x.2.2.2 < x.2.2.1)) then
    ((nthI x.1 x.2.2.2)).bind fun y0 =>
    ((nthI x.2.1 x.2.2.2)).bind fun y1 =>
    bif (y0 != y1) then
      some (Sum.inr false)
    else
      some (Sum.inl (x.1, (x.2.1, (x.2.2.1, (w64 (x.2.2.2 + (1 : Int)))))))
  else
    some (Sum.inr true)

def lontarlaw01_Units (fu : Nat) (x : ((List Int) × (List Int))) : Option Bool :=
  bif ((↑((List.length x.1)) : Int) != (↑((List.length x.2)) : Int)) then
    some false
  else
    loopM (lontarlaw01_Units_L0 fu) fu (x.1, (x.2, ((↑((List.length x.1)) : Int), (0 : Int))))
end Go.AM.M

namespace Go.AM.M
open Go.AM

def match_Of (fu : Nat) (x : ((List (Int × (Int × (Int × Int)))) × (List ((List Int) × (List Int))))) : Option ((List (Int × (Int × (Int × Int)))) × ((List ((List Int) × (List Int))) × ((List Int) × (Int × Int)))) :=
  some (x.1, (x.2, (([] : List Int), ((0 : Int), (0 : Int)))))
end Go.AM.M

namespace Go.AM.M
open Go.AM

def table_Table_Write (fu : Nat) (x : (Int × (Int × ((List (Int × (Int × (Int × Int)))) × ((List ((List Int) × (List Int))) × ((List (Int × (Int × (Int × Int)))) × (List ((List Int) × (List Int))))))))) : Option ((List (Int × (Int × (Int × Int)))) × (List ((List Int) × (List Int)))) :=
  some (x.2.2.2.2.1, x.2.2.2.2.2)
end Go.AM.M

namespace Go.AM.M
open Go.AM

def machine_Encode (fu : Nat) (x : (Int × (Int × ((List (Int × (Int × (Int × Int)))) × ((List ((List Int) × (List Int))) × ((List (Int × (Int × (Int × Int)))) × (List ((List Int) × (List Int))))))))) : Option ((List (Int × (Int × (Int × Int)))) × ((List ((List Int) × (List Int))) × ((List Int) × (Int × (Int × (Int × (Int × ((List (Int × (Int × (Int × Int)))) × ((List ((List Int) × (List Int))) × ((List (Int × (Int × (Int × Int)))) × ((List ((List Int) × (List Int))) × (List Int)))))))))))) :=
  ((table_Table_Write fu (x.1, (x.2.1, (x.2.2.1, (x.2.2.2.1, (x.2.2.2.2.1, x.2.2.2.2.2))))))).bind fun y0 =>
  ((match_Of fu (y0.1, y0.2))).bind fun y1 =>
  some (y1.1, (y1.2.1, (y1.2.2.1, (y1.2.2.2.1, (y1.2.2.2.2, (x.1, (x.2.1, (x.2.2.1, (x.2.2.2.1, (x.2.2.2.2.1, (x.2.2.2.2.2, ([] : List Int))))))))))))
end Go.AM.M

namespace Go.AM.M
open Go.AM

def slices_Equal_int_L0 (fu : Nat) (x : ((List Int) × ((List Int) × (Int × Int)))) : Option (((List Int) × ((List Int) × (Int × Int))) ⊕ Bool) :=
  bif (decide (x.2.2.2 < x.2.2.1)) then
    ((nthI x.1 x.2.2.2)).bind fun y0 =>
    ((nthI x.2.1 x.2.2.2)).bind fun y1 =>
    bif (y0 != y1) then
      some (Sum.inr false)
    else
      some (Sum.inl (x.1, (x.2.1, (x.2.2.1, (w64 (x.2.2.2 + (1 : Int)))))))
  else
    some (Sum.inr true)

def slices_Equal_int (fu : Nat) (x : ((List Int) × (List Int))) : Option Bool :=
  bif ((↑((List.length x.1)) : Int) != (↑((List.length x.2)) : Int)) then
    some false
  else
    loopM (slices_Equal_int_L0 fu) fu (x.1, (x.2, ((↑((List.length x.1)) : Int), (0 : Int))))
end Go.AM.M

namespace Go.AM.M
open Go.AM

def rule_Find_1 (fu : Nat) (x : ((List Int) × ((List Int) × (List Int)))) : Option Bool :=
  ((slices_Equal_int fu (x.1, x.2.2))).bind fun y0 =>
  some y0
end Go.AM.M

namespace Go.AM.M
open Go.AM

def slices_IndexFunc_api_Rule_find_L0 (fu : Nat) (x : ((List ((List Int) × (List Int))) × ((List Int) × (Int × Int)))) : Option (((List ((List Int) × (List Int))) × ((List Int) × (Int × Int))) ⊕ Int) :=
  bif (decide (x.2.2.2 < x.2.2.1)) then
    ((nthI x.1 x.2.2.2)).bind fun y0 =>
    ((rule_Find_1 fu (y0.1, (y0.2, x.2.1)))).bind fun y1 =>
    bif y1 then
      some (Sum.inr x.2.2.2)
    else
      some (Sum.inl (x.1, (x.2.1, (x.2.2.1, (w64 (x.2.2.2 + (1 : Int)))))))
  else
    some (Sum.inr (-(1 : Int)))

def slices_IndexFunc_api_Rule_find (fu : Nat) (x : ((List ((List Int) × (List Int))) × (List Int))) : Option Int :=
  loopM (slices_IndexFunc_api_Rule_find_L0 fu) fu (x.1, (x.2, ((↑((List.length x.1)) : Int), (0 : Int))))
end Go.AM.M

namespace Go.AM.M
open Go.AM

def table_used_1 (fu : Nat) (x : ((List Int) × ((List Int) × Int))) : Option Bool :=
  ((nthI x.1 (w64 ((↑((List.length x.1)) : Int) - (1 : Int))))).bind fun y0 =>
  some (y0 == x.2.2)
end Go.AM.M

namespace Go.AM.M
open Go.AM

def slices_IndexFunc_api_Rule_used_L0 (fu : Nat) (x : ((List ((List Int) × (List Int))) × (Int × (Int × Int)))) : Option (((List ((List Int) × (List Int))) × (Int × (Int × Int))) ⊕ Int) :=
  bif (decide (x.2.2.2 < x.2.2.1)) then
    ((nthI x.1 x.2.2.2)).bind fun y0 =>
    ((table_used_1 fu (y0.1, (y0.2, x.2.1)))).bind fun y1 =>
    bif y1 then
      some (Sum.inr x.2.2.2)
    else
      some (Sum.inl (x.1, (x.2.1, (x.2.2.1, (w64 (x.2.2.2 + (1 : Int)))))))
  else
    some (Sum.inr (-(1 : Int)))

def slices_IndexFunc_api_Rule_used (fu : Nat) (x : ((List ((List Int) × (List Int))) × Int)) : Option Int :=
  loopM (slices_IndexFunc_api_Rule_used_L0 fu) fu (x.1, (x.2, ((↑((List.length x.1)) : Int), (0 : Int))))
end Go.AM.M

namespace Go.AM.M
open Go.AM

def rule_Find (fu : Nat) (x : ((List ((List Int) × (List Int))) × (List Int))) : Option Int :=
  ((slices_IndexFunc_api_Rule_find fu (x.1, x.2))).bind fun y0 =>
  some y0
end Go.AM.M

namespace Go.AM.M
open Go.AM

def rule_side_1 (fu : Nat) (x : Int) : Option Bool :=
  bif (decide (x < (0 : Int))) then
    some true
  else
    some (decide (x > (1114111 : Int)))
end Go.AM.M

namespace Go.AM.M
open Go.AM

def slices_IndexFunc_int_side_L0 (fu : Nat) (x : ((List Int) × (Int × Int))) : Option (((List Int) × (Int × Int)) ⊕ Int) :=
  bif (decide (x.2.2 < x.2.1)) then
    ((nthI x.1 x.2.2)).bind fun y0 =>
    ((rule_side_1 fu y0)).bind fun y1 =>
    bif y1 then
      some (Sum.inr x.2.2)
    else
      some (Sum.inl (x.1, (x.2.1, (w64 (x.2.2 + (1 : Int))))))
  else
    some (Sum.inr (-(1 : Int)))

def slices_IndexFunc_int_side (fu : Nat) (x : (List Int)) : Option Int :=
  loopM (slices_IndexFunc_int_side_L0 fu) fu (x, ((↑((List.length x)) : Int), (0 : Int)))
end Go.AM.M

namespace Go.AM.M
open Go.AM

def slices_ContainsFunc_int_side (fu : Nat) (x : (List Int)) : Option Bool :=
  ((slices_IndexFunc_int_side fu x)).bind fun y0 =>
  some (decide (y0 ≥ (0 : Int)))
end Go.AM.M

namespace Go.AM.M
open Go.AM

def rule_side (fu : Nat) (x : (List Int)) : Option Bool :=
  bif (decide ((↑((List.length x)) : Int) > (0 : Int))) then
    bif (decide ((↑((List.length x)) : Int) ≤ (8 : Int))) then
      ((slices_ContainsFunc_int_side fu x)).bind fun y0 =>
      some (!y0)
    else
      some false
  else
    some false
end Go.AM.M

namespace Go.AM.M
open Go.AM

def rule_Check_L0 (fu : Nat) (x : ((List ((List Int) × (List Int))) × ((List ((List Int) × (List Int))) × (Int × Int)))) : Option (((List ((List Int) × (List Int))) × ((List ((List Int) × (List Int))) × (Int × Int))) ⊕ (Int × Int)) :=
  bif (decide (x.2.2.2 < x.2.2.1)) then
    ((nthI x.2.1 x.2.2.2)).bind fun y0 =>
    bif (decide (x.2.2.2 ≥ (512 : Int))) then
      some (Sum.inr (x.2.2.2, (7 : Int)))
    else
      ((rule_side fu y0.1)).bind fun y1 =>
      bif (!y1) then
        some (Sum.inr (x.2.2.2, (9 : Int)))
      else
        ((rule_side fu y0.2)).bind fun y2 =>
        bif (!y2) then
          some (Sum.inr (x.2.2.2, (9 : Int)))
        else
          ((sliceI x.1 (0 : Int) x.2.2.2)).bind fun y3 =>
          ((rule_Find fu (y3, y0.1))).bind fun y4 =>
          bif (decide (y4 ≥ (0 : Int))) then
            some (Sum.inr (x.2.2.2, (8 : Int)))
          else
            some (Sum.inl (x.1, (x.2.1, (x.2.2.1, (w64 (x.2.2.2 + (1 : Int)))))))
  else
    some (Sum.inr ((-(1 : Int)), (0 : Int)))

def rule_Check (fu : Nat) (x : (List ((List Int) × (List Int)))) : Option (Int × Int) :=
  loopM (rule_Check_L0 fu) fu (x, (x, ((↑((List.length x)) : Int), (0 : Int))))
end Go.AM.M

namespace Go.AM.M
open Go.AM

def trie_Trie_Step_L0 (fu : Nat) (x : ((List (Int × (Int × (Int × Int)))) × ((List ((List Int) × (List Int))) × (Int × Int)))) : Option (((List (Int × (Int × (Int × Int)))) × ((List ((List Int) × (List Int))) × (Int × Int))) ⊕ (Int × Bool)) :=
  bif (decide (x.2.2.2 > (0 : Int))) then
    ((nthI x.1 x.2.2.2)).bind fun y0 =>
    bif (y0.1 == x.2.2.1) then
      some (Sum.inr (x.2.2.2, true))
    else
      ((nthI x.1 x.2.2.2)).bind fun y1 =>
      some (Sum.inl (x.1, (x.2.1, (x.2.2.1, y1.2.2.1))))
  else
    some (Sum.inr ((0 : Int), false))

def trie_Trie_Step (fu : Nat) (x : ((List (Int × (Int × (Int × Int)))) × ((List ((List Int) × (List Int))) × (Int × Int)))) : Option (Int × Bool) :=
  bif (decide (x.2.2.1 < (0 : Int))) then
    some ((0 : Int), false)
  else
    bif (decide (x.2.2.1 ≥ (↑((List.length x.1)) : Int))) then
      some ((0 : Int), false)
    else
      ((nthI x.1 x.2.2.1)).bind fun y0 =>
      loopM (trie_Trie_Step_L0 fu) fu (x.1, (x.2.1, (x.2.2.2, y0.2.1)))
end Go.AM.M

namespace Go.AM.M
open Go.AM

def trie_Trie_Step_box_L0 (fu : Nat) (x : (Int × (Int × ((List (Int × (Int × (Int × Int)))) × (List ((List Int) × (List Int))))))) : Option ((Int × (Int × ((List (Int × (Int × (Int × Int)))) × (List ((List Int) × (List Int)))))) ⊕ (Int × (Bool × ((List (Int × (Int × (Int × Int)))) × (List ((List Int) × (List Int))))))) :=
  bif (decide (x.2.1 > (0 : Int))) then
    ((nthI x.2.2.1 x.2.1)).bind fun y0 =>
    ((GetElem?.getElem? x.2.2.1 (Int.toNat x.2.1))).bind fun y1 =>
    bif (y1.1 == x.1) then
      some (Sum.inr (x.2.1, (true, (x.2.2.1, x.2.2.2))))
    else
      ((nthI x.2.2.1 x.2.1)).bind fun y2 =>
      ((GetElem?.getElem? x.2.2.1 (Int.toNat x.2.1))).bind fun y3 =>
      some (Sum.inl (x.1, (y3.2.2.1, (x.2.2.1, x.2.2.2))))
  else
    some (Sum.inr ((0 : Int), (false, (x.2.2.1, x.2.2.2))))

def trie_Trie_Step_box (fu : Nat) (x : (Int × (Int × ((List (Int × (Int × (Int × Int)))) × (List ((List Int) × (List Int))))))) : Option (Int × (Bool × ((List (Int × (Int × (Int × Int)))) × (List ((List Int) × (List Int)))))) :=
  bif (decide (x.1 < (0 : Int))) then
    some ((0 : Int), (false, (x.2.2.1, x.2.2.2)))
  else
    bif (decide (x.1 ≥ (↑((List.length x.2.2.1)) : Int))) then
      some ((0 : Int), (false, (x.2.2.1, x.2.2.2)))
    else
      ((nthI x.2.2.1 x.1)).bind fun y0 =>
      ((GetElem?.getElem? x.2.2.1 (Int.toNat x.1))).bind fun y1 =>
      loopM (trie_Trie_Step_box_L0 fu) fu (x.2.1, (y1.2.1, (x.2.2.1, x.2.2.2)))
end Go.AM.M

namespace Go.AM.M
open Go.AM

def trie_Of_L0 (fu : Nat) (x : ((List ((List Int) × (List Int))) × (Int × (Int × ((List ((List Int) × (List Int))) × (Int × (Int × ((List Int) × (Int × (Int × ((List (Int × (Int × (Int × Int)))) × ((List ((List Int) × (List Int))) × ((List Int) × (List Int)))))))))))))) : Option (((List ((List Int) × (List Int))) × (Int × (Int × ((List ((List Int) × (List Int))) × (Int × (Int × ((List Int) × (Int × (Int × ((List (Int × (Int × (Int × Int)))) × ((List ((List Int) × (List Int))) × ((List Int) × (List Int))))))))))))) ⊕ (((List ((List Int) × (List Int))) × ((List ((List Int) × (List Int))) × (Int × (Int × ((List (Int × (Int × (Int × Int)))) × (List ((List Int) × (List Int)))))))) ⊕ (Int ⊕ ((List (Int × (Int × (Int × Int)))) × ((List ((List Int) × (List Int))) × Int))))) :=
  bif (decide (x.2.2.2.2.2.2.2.2.1 < x.2.2.2.2.2.2.2.1)) then
    ((nthI x.2.2.2.2.2.2.1 x.2.2.2.2.2.2.2.2.1)).bind fun y0 =>
    ((trie_Trie_Step_box fu (x.2.2.1, (y0, (x.2.2.2.2.2.2.2.2.2.1, x.2.2.2.2.2.2.2.2.2.2.1))))).bind fun y1 =>
    bif (!y1.2.1) then
      ((nthI y1.2.2.1 x.2.2.1)).bind fun y2 =>
      ((GetElem?.getElem? y1.2.2.1 (Int.toNat x.2.2.1))).bind fun y3 =>
      bif (decide ((((List.length y1.2.2.1) + (List.length [(y0, ((0 : Int), (y3.2.1, (-(1 : Int)))))])) * (32 : Nat)) ≤ ((2 : Nat) ^ (46 : Nat)))) then
        ((nthI (y1.2.2.1 ++ [(y0, ((0 : Int), (y3.2.1, (-(1 : Int)))))]) x.2.2.1)).bind fun y4 =>
        ((GetElem?.getElem? (y1.2.2.1 ++ [(y0, ((0 : Int), (y3.2.1, (-(1 : Int)))))]) (Int.toNat x.2.2.1))).bind fun y5 =>
        some (Sum.inl (x.1, (x.2.1, ((↑((List.length y1.2.2.1)) : Int), (x.2.2.2.1, (x.2.2.2.2.1, (x.2.2.2.2.2.1, (x.2.2.2.2.2.2.1, (x.2.2.2.2.2.2.2.1, ((w64 (x.2.2.2.2.2.2.2.2.1 + (1 : Int))), ((List.set (y1.2.2.1 ++ [(y0, ((0 : Int), (y3.2.1, (-(1 : Int)))))]) (Int.toNat x.2.2.1) (y5.1, ((↑((List.length y1.2.2.1)) : Int), (y5.2.2.1, y5.2.2.2)))), (y1.2.2.2, (x.2.2.2.2.2.2.2.2.2.2.2.1, x.2.2.2.2.2.2.2.2.2.2.2.2)))))))))))))
      else
        none
    else
      some (Sum.inl (x.1, (x.2.1, (y1.1, (x.2.2.2.1, (x.2.2.2.2.1, (x.2.2.2.2.2.1, (x.2.2.2.2.2.2.1, (x.2.2.2.2.2.2.2.1, ((w64 (x.2.2.2.2.2.2.2.2.1 + (1 : Int))), (y1.2.2.1, (y1.2.2.2, (x.2.2.2.2.2.2.2.2.2.2.2.1, x.2.2.2.2.2.2.2.2.2.2.2.2)))))))))))))
  else
    Option.map Sum.inr (
      ((nthI x.2.2.2.2.2.2.2.2.2.1 x.2.2.1)).bind fun y6 =>
      ((GetElem?.getElem? x.2.2.2.2.2.2.2.2.2.1 (Int.toNat x.2.2.1))).bind fun y7 =>
      some (Sum.inl (x.1, (x.2.2.2.1, (x.2.2.2.2.1, ((w64 (x.2.2.2.2.2.1 + (1 : Int))), ((List.set x.2.2.2.2.2.2.2.2.2.1 (Int.toNat x.2.2.1) (y7.1, (y7.2.1, (y7.2.2.1, x.2.1)))), x.2.2.2.2.2.2.2.2.2.2.1)))))))

def trie_Of_L1 (fu : Nat) (x : ((List ((List Int) × (List Int))) × ((List ((List Int) × (List Int))) × (Int × (Int × ((List (Int × (Int × (Int × Int)))) × (List ((List Int) × (List Int))))))))) : Option (((List ((List Int) × (List Int))) × ((List ((List Int) × (List Int))) × (Int × (Int × ((List (Int × (Int × (Int × Int)))) × (List ((List Int) × (List Int)))))))) ⊕ (Int ⊕ ((List (Int × (Int × (Int × Int)))) × ((List ((List Int) × (List Int))) × Int)))) :=
  bif (decide (x.2.2.2.1 < x.2.2.1)) then
    ((nthI x.2.1 x.2.2.2.1)).bind fun y0 =>
    bif (decide (((List.length y0.2) * (8 : Nat)) ≤ ((2 : Nat) ^ (46 : Nat)))) then
      bif (decide ((((List.length x.2.2.2.2.2) + (List.length [(([] : List Int), y0.2)])) * (48 : Nat)) ≤ ((2 : Nat) ^ (46 : Nat)))) then
        loopM (trie_Of_L0 fu) fu (x.1, (x.2.2.2.1, ((0 : Int), (x.2.1, (x.2.2.1, (x.2.2.2.1, (y0.1, ((↑((List.length y0.1)) : Int), ((0 : Int), (x.2.2.2.2.1, ((x.2.2.2.2.2 ++ [(([] : List Int), y0.2)]), (y0.1, y0.2))))))))))))
      else
        none
    else
      none
  else
    some (Sum.inr (Sum.inr (x.2.2.2.2.1, (x.2.2.2.2.2, (0 : Int)))))

def trie_Of (fu : Nat) (x : (List ((List Int) × (List Int)))) : Option (Int ⊕ ((List (Int × (Int × (Int × Int)))) × ((List ((List Int) × (List Int))) × Int))) :=
  ((rule_Check fu x)).bind fun y0 =>
  bif (y0.2 != (0 : Int)) then
    some (Sum.inl y0.2)
  else
    loopM (trie_Of_L1 fu) fu (x, (x, ((↑((List.length x)) : Int), ((0 : Int), ([((0 : Int), ((0 : Int), ((0 : Int), (-(1 : Int)))))], ([] : List ((List Int) × (List Int))))))))
end Go.AM.M

namespace Go.AM.M
open Go.AM

def slices_ContainsFunc_api_Rule_used (fu : Nat) (x : ((List ((List Int) × (List Int))) × Int)) : Option Bool :=
  ((slices_IndexFunc_api_Rule_used fu (x.1, x.2))).bind fun y0 =>
  some (decide (y0 ≥ (0 : Int)))
end Go.AM.M

namespace Go.AM.M
open Go.AM

def table_used (fu : Nat) (x : ((List ((List Int) × (List Int))) × Int)) : Option Bool :=
  ((slices_ContainsFunc_api_Rule_used fu (x.1, x.2))).bind fun y0 =>
  some y0
end Go.AM.M

namespace Go.AM.M
open Go.AM

def table_closed_L0 (fu : Nat) (x : ((List ((List Int) × (List Int))) × (Int × ((List ((List Int) × (List Int))) × (Int × (Int × ((List Int) × (List Int)))))))) : Option (((List ((List Int) × (List Int))) × (Int × ((List ((List Int) × (List Int))) × (Int × (Int × ((List Int) × (List Int))))))) ⊕ (((List ((List Int) × (List Int))) × ((List ((List Int) × (List Int))) × (Int × Int))) ⊕ Bool)) :=
  bif (decide (x.2.1 > (0 : Int))) then
    ((sliceI x.2.2.2.2.2.1 (0 : Int) x.2.1)).bind fun y0 =>
    ((rule_Find fu (x.1, y0))).bind fun y1 =>
    bif (decide (y1 < (0 : Int))) then
      bif (decide (x.2.1 > (1 : Int))) then
        some (Sum.inr (Sum.inr false))
      else
        ((nthI x.2.2.2.2.2.1 (0 : Int))).bind fun y2 =>
        ((table_used fu (x.1, y2))).bind fun y3 =>
        bif y3 then
          some (Sum.inr (Sum.inr false))
        else
          some (Sum.inl (x.1, ((w64 (x.2.1 - (1 : Int))), (x.2.2.1, (x.2.2.2.1, (x.2.2.2.2.1, (x.2.2.2.2.2.1, x.2.2.2.2.2.2)))))))
    else
      some (Sum.inl (x.1, ((w64 (x.2.1 - (1 : Int))), (x.2.2.1, (x.2.2.2.1, (x.2.2.2.2.1, (x.2.2.2.2.2.1, x.2.2.2.2.2.2)))))))
  else
    some (Sum.inr (Sum.inl (x.1, (x.2.2.1, (x.2.2.2.1, (w64 (x.2.2.2.2.1 + (1 : Int))))))))

def table_closed_L1 (fu : Nat) (x : ((List ((List Int) × (List Int))) × ((List ((List Int) × (List Int))) × (Int × Int)))) : Option (((List ((List Int) × (List Int))) × ((List ((List Int) × (List Int))) × (Int × Int))) ⊕ Bool) :=
  bif (decide (x.2.2.2 < x.2.2.1)) then
    ((nthI x.2.1 x.2.2.2)).bind fun y0 =>
    loopM (table_closed_L0 fu) fu (x.1, ((w64 ((↑((List.length y0.1)) : Int) - (1 : Int))), (x.2.1, (x.2.2.1, (x.2.2.2, (y0.1, y0.2))))))
  else
    some (Sum.inr true)

def table_closed (fu : Nat) (x : (List ((List Int) × (List Int)))) : Option Bool :=
  loopM (table_closed_L1 fu) fu (x, (x, ((↑((List.length x)) : Int), (0 : Int))))
end Go.AM.M

namespace Go.AM.M
open Go.AM

def slices_Clone_int (fu : Nat) (x : (List Int)) : Option (List Int) :=
  bif (Nat.blt (0 : Nat) (List.length x)) then
    bif (decide ((((List.length ([] : List Int)) + (List.length x)) * (8 : Nat)) ≤ ((2 : Nat) ^ (46 : Nat)))) then
      some (([] : List Int) ++ x)
    else
      none
  else
    none
end Go.AM.M

namespace Go.AM.M
open Go.AM

def rule_Turn_L0 (fu : Nat) (x : ((List ((List Int) × (List Int))) × ((List ((List Int) × (List Int))) × ((List ((List Int) × (List Int))) × (Int × Int))))) : Option (((List ((List Int) × (List Int))) × ((List ((List Int) × (List Int))) × ((List ((List Int) × (List Int))) × (Int × Int)))) ⊕ (List ((List Int) × (List Int)))) :=
  bif (decide (x.2.2.2.2 < x.2.2.2.1)) then
    ((nthI x.2.2.1 x.2.2.2.2)).bind fun y0 =>
    ((rule_Find fu (x.2.1, y0.2))).bind fun y1 =>
    bif (decide (y1 < (0 : Int))) then
      ((slices_Clone_int fu y0.2)).bind fun y2 =>
      ((slices_Clone_int fu y0.1)).bind fun y3 =>
      bif (decide ((((List.length x.2.1) + (List.length [(y2, y3)])) * (48 : Nat)) ≤ ((2 : Nat) ^ (46 : Nat)))) then
        some (Sum.inl (x.1, ((x.2.1 ++ [(y2, y3)]), (x.2.2.1, (x.2.2.2.1, (w64 (x.2.2.2.2 + (1 : Int))))))))
      else
        none
    else
      some (Sum.inl (x.1, (x.2.1, (x.2.2.1, (x.2.2.2.1, (w64 (x.2.2.2.2 + (1 : Int))))))))
  else
    some (Sum.inr x.2.1)

def rule_Turn (fu : Nat) (x : (List ((List Int) × (List Int)))) : Option (List ((List Int) × (List Int))) :=
  loopM (rule_Turn_L0 fu) fu (x, (([] : List ((List Int) × (List Int))), (x, ((↑((List.length x)) : Int), (0 : Int)))))
end Go.AM.M

namespace Go.AM.M
open Go.AM

def rule_Longest_L0 (fu : Nat) (x : ((List ((List Int) × (List Int))) × (Int × ((List ((List Int) × (List Int))) × (Int × Int))))) : Option (((List ((List Int) × (List Int))) × (Int × ((List ((List Int) × (List Int))) × (Int × Int)))) ⊕ Int) :=
  bif (decide (x.2.2.2.2 < x.2.2.2.1)) then
    ((nthI x.2.2.1 x.2.2.2.2)).bind fun y0 =>
    some (Sum.inl (x.1, ((if ((↑((List.length y0.1)) : Int) > x.2.1) then (↑((List.length y0.1)) : Int) else x.2.1), (x.2.2.1, (x.2.2.2.1, (w64 (x.2.2.2.2 + (1 : Int))))))))
  else
    some (Sum.inr x.2.1)

def rule_Longest (fu : Nat) (x : (List ((List Int) × (List Int)))) : Option Int :=
  loopM (rule_Longest_L0 fu) fu (x, ((0 : Int), (x, ((↑((List.length x)) : Int), (0 : Int)))))
end Go.AM.M

namespace Go.AM.M
open Go.AM

def table_Of (fu : Nat) (x : (List ((List Int) × (List Int)))) : Option (Int ⊕ (Int × (Int × ((List (Int × (Int × (Int × Int)))) × ((List ((List Int) × (List Int))) × ((List (Int × (Int × (Int × Int)))) × ((List ((List Int) × (List Int))) × Int))))))) :=
  ((trie_Of fu x)).bind fun y0 =>
  match y0 with
  | .inl y1 =>
    bif (y1 != (0 : Int)) then
      some (Sum.inl y1)
    else
      ((table_closed fu x)).bind fun y2 =>
      bif (!y2) then
        some (Sum.inl (10 : Int))
      else
        ((rule_Turn fu x)).bind fun y3 =>
        ((rule_Longest fu x)).bind fun y4 =>
        ((rule_Longest fu y3)).bind fun y5 =>
        ((trie_Of fu y3)).bind fun y6 =>
        match y6 with
        | .inl y7 =>
          none
        | .inr y7 =>
          none
  | .inr y1 =>
    bif (y1.2.2 != (0 : Int)) then
      some (Sum.inl y1.2.2)
    else
      ((table_closed fu x)).bind fun y8 =>
      bif (!y8) then
        some (Sum.inl (10 : Int))
      else
        ((rule_Turn fu x)).bind fun y9 =>
        ((rule_Longest fu x)).bind fun y10 =>
        ((rule_Longest fu y9)).bind fun y11 =>
        ((trie_Of fu y9)).bind fun y12 =>
        match y12 with
        | .inl y13 =>
          none
        | .inr y13 =>
          some (Sum.inr (y10, (y11, (y1.1, (y1.2.1, (y13.1, (y13.2.1, y13.2.2)))))))
end Go.AM.M

namespace Go.AM.M
open Go.AM

def indic_code (fu : Nat) (x : Int) : Option Int :=
  ((nthI [(66 : Int), (67 : Int), (75 : Int), (74 : Int), (71 : Int), (68 : Int), (69 : Int), (72 : Int), (73 : Int)] x)).bind fun y0 =>
  some y0
end Go.AM.M

namespace Go.AM.M
open Go.AM

def indic_places (fu : Nat) (x : Unit) : Option (Int × (Int × (Int × (Int × (Int × (Int × (Int × (Int × (Int × (Int × (Int × (Int × (Int × (Int × (Int × (Int × (Int × (Int × (Int × (Int × (Int × (Int × (Int × (Int × (Int × (Int × (Int × (Int × (Int × (Int × (Int × (Int × (Int × (Int × (Int × (Int × (Int × (Int × (Int × (Int × (Int × (Int × (Int × (Int × (Int × (Int × (Int × (Int × (Int × (Int × (Int × (Int × (Int × (Int × (Int × (Int × (Int × (Int × (Int × (Int × (Int × (Int × (Int × (Int × (Int × (Int × (Int × (Int × (Int × (Int × (Int × (Int × (Int × Int))))))))))))))))))))))))))))))))))))))))))))))))))))))))))))))))))))))))) :=
  some ((1 : Int), ((2 : Int), ((3 : Int), ((5 : Int), ((6 : Int), ((7 : Int), ((8 : Int), ((9 : Int), ((10 : Int), ((11 : Int), ((14 : Int), ((15 : Int), ((16 : Int), ((13 : Int), ((18 : Int), ((19 : Int), ((20 : Int), ((17 : Int), ((21 : Int), ((22 : Int), ((23 : Int), ((24 : Int), ((25 : Int), ((26 : Int), ((27 : Int), ((28 : Int), ((29 : Int), ((30 : Int), ((31 : Int), ((32 : Int), ((33 : Int), ((34 : Int), ((35 : Int), ((36 : Int), ((37 : Int), ((38 : Int), ((39 : Int), ((40 : Int), ((41 : Int), ((42 : Int), ((43 : Int), ((44 : Int), ((45 : Int), ((46 : Int), ((47 : Int), ((95 : Int), ((48 : Int), ((49 : Int), ((50 : Int), ((51 : Int), ((52 : Int), ((53 : Int), ((54 : Int), ((55 : Int), ((56 : Int), ((57 : Int), ((-(1 : Int)), ((62 : Int), ((63 : Int), ((64 : Int), ((65 : Int), ((66 : Int), ((67 : Int), ((70 : Int), ((71 : Int), ((72 : Int), ((69 : Int), ((74 : Int), ((75 : Int), ((76 : Int), ((73 : Int), ((77 : Int), ((60 : Int), (-(1 : Int)))))))))))))))))))))))))))))))))))))))))))))))))))))))))))))))))))))))))))
end Go.AM.M

namespace Go.AM.M
open Go.AM

def indic_Place (fu : Nat) (x : Int) : Option (Int × Bool) :=
  bif (decide (x ≥ (161 : Int))) then
    bif (decide (x ≤ (234 : Int))) then
      ((indic_places fu ())).bind fun y0 =>
      ((nthI [y0.1, y0.2.1, y0.2.2.1, y0.2.2.2.1, y0.2.2.2.2.1, y0.2.2.2.2.2.1, y0.2.2.2.2.2.2.1, y0.2.2.2.2.2.2.2.1, y0.2.2.2.2.2.2.2.2.1, y0.2.2.2.2.2.2.2.2.2.1, y0.2.2.2.2.2.2.2.2.2.2.1, y0.2.2.2.2.2.2.2.2.2.2.2.1, y0.2.2.2.2.2.2.2.2.2.2.2.2.1, y0.2.2.2.2.2.2.2.2.2.2.2.2.2.1, y0.2.2.2.2.2.2.2.2.2.2.2.2.2.2.1, y0.2.2.2.2.2.2.2.2.2.2.2.2.2.2.2.1, y0.2.2.2.2.2.2.2.2.2.2.2.2.2.2.2.2.1, y0.2.2.2.2.2.2.2.2.2.2.2.2.2.2.2.2.2.1, y0.2.2.2.2.2.2.2.2.2.2.2.2.2.2.2.2.2.2.1, y0.2.2.2.2.2.2.2.2.2.2.2.2.2.2.2.2.2.2.2.1, y0.2.2.2.2.2.2.2.2.2.2.2.2.2.2.2.2.2.2.2.2.1, y0.2.2.2.2.2.2.2.2.2.2.2.2.2.2.2.2.2.2.2.2.2.1, y0.2.2.2.2.2.2.2.2.2.2.2.2.2.2.2.2.2.2.2.2.2.2.1, y0.2.2.2.2.2.2.2.2.2.2.2.2.2.2.2.2.2.2.2.2.2.2.2.1, y0.2.2.2.2.2.2.2.2.2.2.2.2.2.2.2.2.2.2.2.2.2.2.2.2.1, y0.2.2.2.2.2.2.2.2.2.2.2.2.2.2.2.2.2.2.2.2.2.2.2.2.2.1, y0.2.2.2.2.2.2.2.2.2.2.2.2.2.2.2.2.2.2.2.2.2.2.2.2.2.2.1, y0.2.2.2.2.2.2.2.2.2.2.2.2.2.2.2.2.2.2.2.2.2.2.2.2.2.2.2.1, y0.2.2.2.2.2.2.2.2.2.2.2.2.2.2.2.2.2.2.2.2.2.2.2.2.2.2.2.2.1, y0.2.2.2.2.2.2.2.2.2.2.2.2.2.2.2.2.2.2.2.2.2.2.2.2.2.2.2.2.2.1, y0.2.2.2.2.2.2.2.2.2.2.2.2.2.2.2.2.2.2.2.2.2.2.2.2.2.2.2.2.2.2.1, y0.2.2.2.2.2.2.2.2.2.2.2.2.2.2.2.2.2.2.2.2.2.2.2.2.2.2.2.2.2.2.2.1, y0.2.2.2.2.2.2.2.2.2.2.2.2.2.2.2.2.2.2.2.2.2.2.2.2.2.2.2.2.2.2.2.2.1, y0.2.2.2.2.2.2.2.2.2.2.2.2.2.2.2.2.2.2.2.2.2.2.2.2.2.2.2.2.2.2.2.2.2.1, y0.2.2.2.2.2.2.2.2.2.2.2.2.2.2.2.2.2.2.2.2.2.2.2.2.2.2.2.2.2.2.2.2.2.2.1, y0.2.2.2.2.2.2.2.2.2.2.2.2.2.2.2.2.2.2.2.2.2.2.2.2.2.2.2.2.2.2.2.2.2.2.2.1, y0.2.2.2.2.2.2.2.2.2.2.2.2.2.2.2.2.2.2.2.2.2.2.2.2.2.2.2.2.2.2.2.2.2.2.2.2.1, y0.2.2.2.2.2.2.2.2.2.2.2.2.2.2.2.2.2.2.2.2.2.2.2.2.2.2.2.2.2.2.2.2.2.2.2.2.2.1, y0.2.2.2.2.2.2.2.2.2.2.2.2.2.2.2.2.2.2.2.2.2.2.2.2.2.2.2.2.2.2.2.2.2.2.2.2.2.2.1, y0.2.2.2.2.2.2.2.2.2.2.2.2.2.2.2.2.2.2.2.2.2.2.2.2.2.2.2.2.2.2.2.2.2.2.2.2.2.2.2.1, y0.2.2.2.2.2.2.2.2.2.2.2.2.2.2.2.2.2.2.2.2.2.2.2.2.2.2.2.2.2.2.2.2.2.2.2.2.2.2.2.2.1, y0.2.2.2.2.2.2.2.2.2.2.2.2.2.2.2.2.2.2.2.2.2.2.2.2.2.2.2.2.2.2.2.2.2.2.2.2.2.2.2.2.2.1, y0.2.2.2.2.2.2.2.2.2.2.2.2.2.2.2.2.2.2.2.2.2.2.2.2.2.2.2.2.2.2.2.2.2.2.2.2.2.2.2.2.2.2.1, y0.2.2.2.2.2.2.2.2.2.2.2.2.2.2.2.2.2.2.2.2.2.2.2.2.2.2.2.2.2.2.2.2.2.2.2.2.2.2.2.2.2.2.2.1, y0.2.2.2.2.2.2.2.2.2.2.2.2.2.2.2.2.2.2.2.2.2.2.2.2.2.2.2.2.2.2.2.2.2.2.2.2.2.2.2.2.2.2.2.2.1, y0.2.2.2.2.2.2.2.2.2.2.2.2.2.2.2.2.2.2.2.2.2.2.2.2.2.2.2.2.2.2.2.2.2.2.2.2.2.2.2.2.2.2.2.2.2.1, y0.2.2.2.2.2.2.2.2.2.2.2.2.2.2.2.2.2.2.2.2.2.2.2.2.2.2.2.2.2.2.2.2.2.2.2.2.2.2.2.2.2.2.2.2.2.2.1, y0.2.2.2.2.2.2.2.2.2.2.2.2.2.2.2.2.2.2.2.2.2.2.2.2.2.2.2.2.2.2.2.2.2.2.2.2.2.2.2.2.2.2.2.2.2.2.2.1, y0.2.2.2.2.2.2.2.2.2.2.2.2.2.2.2.2.2.2.2.2.2.2.2.2.2.2.2.2.2.2.2.2.2.2.2.2.2.2.2.2.2.2.2.2.2.2.2.2.1, y0.2.2.2.2.2.2.2.2.2.2.2.2.2.2.2.2.2.2.2.2.2.2.2.2.2.2.2.2.2.2.2.2.2.2.2.2.2.2.2.2.2.2.2.2.2.2.2.2.2.1, y0.2.2.2.2.2.2.2.2.2.2.2.2.2.2.2.2.2.2.2.2.2.2.2.2.2.2.2.2.2.2.2.2.2.2.2.2.2.2.2.2.2.2.2.2.2.2.2.2.2.2.1, y0.2.2.2.2.2.2.2.2.2.2.2.2.2.2.2.2.2.2.2.2.2.2.2.2.2.2.2.2.2.2.2.2.2.2.2.2.2.2.2.2.2.2.2.2.2.2.2.2.2.2.2.1, y0.2.2.2.2.2.2.2.2.2.2.2.2.2.2.2.2.2.2.2.2.2.2.2.2.2.2.2.2.2.2.2.2.2.2.2.2.2.2.2.2.2.2.2.2.2.2.2.2.2.2.2.2.1, y0.2.2.2.2.2.2.2.2.2.2.2.2.2.2.2.2.2.2.2.2.2.2.2.2.2.2.2.2.2.2.2.2.2.2.2.2.2.2.2.2.2.2.2.2.2.2.2.2.2.2.2.2.2.1, y0.2.2.2.2.2.2.2.2.2.2.2.2.2.2.2.2.2.2.2.2.2.2.2.2.2.2.2.2.2.2.2.2.2.2.2.2.2.2.2.2.2.2.2.2.2.2.2.2.2.2.2.2.2.2.1, y0.2.2.2.2.2.2.2.2.2.2.2.2.2.2.2.2.2.2.2.2.2.2.2.2.2.2.2.2.2.2.2.2.2.2.2.2.2.2.2.2.2.2.2.2.2.2.2.2.2.2.2.2.2.2.2.1, y0.2.2.2.2.2.2.2.2.2.2.2.2.2.2.2.2.2.2.2.2.2.2.2.2.2.2.2.2.2.2.2.2.2.2.2.2.2.2.2.2.2.2.2.2.2.2.2.2.2.2.2.2.2.2.2.2.1, y0.2.2.2.2.2.2.2.2.2.2.2.2.2.2.2.2.2.2.2.2.2.2.2.2.2.2.2.2.2.2.2.2.2.2.2.2.2.2.2.2.2.2.2.2.2.2.2.2.2.2.2.2.2.2.2.2.2.1, y0.2.2.2.2.2.2.2.2.2.2.2.2.2.2.2.2.2.2.2.2.2.2.2.2.2.2.2.2.2.2.2.2.2.2.2.2.2.2.2.2.2.2.2.2.2.2.2.2.2.2.2.2.2.2.2.2.2.2.1, y0.2.2.2.2.2.2.2.2.2.2.2.2.2.2.2.2.2.2.2.2.2.2.2.2.2.2.2.2.2.2.2.2.2.2.2.2.2.2.2.2.2.2.2.2.2.2.2.2.2.2.2.2.2.2.2.2.2.2.2.1, y0.2.2.2.2.2.2.2.2.2.2.2.2.2.2.2.2.2.2.2.2.2.2.2.2.2.2.2.2.2.2.2.2.2.2.2.2.2.2.2.2.2.2.2.2.2.2.2.2.2.2.2.2.2.2.2.2.2.2.2.2.1, y0.2.2.2.2.2.2.2.2.2.2.2.2.2.2.2.2.2.2.2.2.2.2.2.2.2.2.2.2.2.2.2.2.2.2.2.2.2.2.2.2.2.2.2.2.2.2.2.2.2.2.2.2.2.2.2.2.2.2.2.2.2.1, y0.2.2.2.2.2.2.2.2.2.2.2.2.2.2.2.2.2.2.2.2.2.2.2.2.2.2.2.2.2.2.2.2.2.2.2.2.2.2.2.2.2.2.2.2.2.2.2.2.2.2.2.2.2.2.2.2.2.2.2.2.2.2.1, y0.2.2.2.2.2.2.2.2.2.2.2.2.2.2.2.2.2.2.2.2.2.2.2.2.2.2.2.2.2.2.2.2.2.2.2.2.2.2.2.2.2.2.2.2.2.2.2.2.2.2.2.2.2.2.2.2.2.2.2.2.2.2.2.1, y0.2.2.2.2.2.2.2.2.2.2.2.2.2.2.2.2.2.2.2.2.2.2.2.2.2.2.2.2.2.2.2.2.2.2.2.2.2.2.2.2.2.2.2.2.2.2.2.2.2.2.2.2.2.2.2.2.2.2.2.2.2.2.2.2.1, y0.2.2.2.2.2.2.2.2.2.2.2.2.2.2.2.2.2.2.2.2.2.2.2.2.2.2.2.2.2.2.2.2.2.2.2.2.2.2.2.2.2.2.2.2.2.2.2.2.2.2.2.2.2.2.2.2.2.2.2.2.2.2.2.2.2.1, y0.2.2.2.2.2.2.2.2.2.2.2.2.2.2.2.2.2.2.2.2.2.2.2.2.2.2.2.2.2.2.2.2.2.2.2.2.2.2.2.2.2.2.2.2.2.2.2.2.2.2.2.2.2.2.2.2.2.2.2.2.2.2.2.2.2.2.1, y0.2.2.2.2.2.2.2.2.2.2.2.2.2.2.2.2.2.2.2.2.2.2.2.2.2.2.2.2.2.2.2.2.2.2.2.2.2.2.2.2.2.2.2.2.2.2.2.2.2.2.2.2.2.2.2.2.2.2.2.2.2.2.2.2.2.2.2.1, y0.2.2.2.2.2.2.2.2.2.2.2.2.2.2.2.2.2.2.2.2.2.2.2.2.2.2.2.2.2.2.2.2.2.2.2.2.2.2.2.2.2.2.2.2.2.2.2.2.2.2.2.2.2.2.2.2.2.2.2.2.2.2.2.2.2.2.2.2.1, y0.2.2.2.2.2.2.2.2.2.2.2.2.2.2.2.2.2.2.2.2.2.2.2.2.2.2.2.2.2.2.2.2.2.2.2.2.2.2.2.2.2.2.2.2.2.2.2.2.2.2.2.2.2.2.2.2.2.2.2.2.2.2.2.2.2.2.2.2.2.1, y0.2.2.2.2.2.2.2.2.2.2.2.2.2.2.2.2.2.2.2.2.2.2.2.2.2.2.2.2.2.2.2.2.2.2.2.2.2.2.2.2.2.2.2.2.2.2.2.2.2.2.2.2.2.2.2.2.2.2.2.2.2.2.2.2.2.2.2.2.2.2.1, y0.2.2.2.2.2.2.2.2.2.2.2.2.2.2.2.2.2.2.2.2.2.2.2.2.2.2.2.2.2.2.2.2.2.2.2.2.2.2.2.2.2.2.2.2.2.2.2.2.2.2.2.2.2.2.2.2.2.2.2.2.2.2.2.2.2.2.2.2.2.2.2.1, y0.2.2.2.2.2.2.2.2.2.2.2.2.2.2.2.2.2.2.2.2.2.2.2.2.2.2.2.2.2.2.2.2.2.2.2.2.2.2.2.2.2.2.2.2.2.2.2.2.2.2.2.2.2.2.2.2.2.2.2.2.2.2.2.2.2.2.2.2.2.2.2.2.1, y0.2.2.2.2.2.2.2.2.2.2.2.2.2.2.2.2.2.2.2.2.2.2.2.2.2.2.2.2.2.2.2.2.2.2.2.2.2.2.2.2.2.2.2.2.2.2.2.2.2.2.2.2.2.2.2.2.2.2.2.2.2.2.2.2.2.2.2.2.2.2.2.2.2] (w8 (x - (161 : Int))))).bind fun y1 =>
      some ((if (y1 > (0 : Int)) then y1 else (0 : Int)), (decide (y1 ≥ (0 : Int))))
    else
      bif (decide (x ≥ (241 : Int))) then
        bif (decide (x ≤ (250 : Int))) then
          some ((w64 ((w64 ((102 : Int) + (w64 x))) - (241 : Int))), true)
        else
          some ((0 : Int), false)
      else
        some ((0 : Int), false)
  else
    bif (decide (x ≥ (241 : Int))) then
      bif (decide (x ≤ (250 : Int))) then
        some ((w64 ((w64 ((102 : Int) + (w64 x))) - (241 : Int))), true)
      else
        some ((0 : Int), false)
    else
      some ((0 : Int), false)
end Go.AM.M

namespace Go.AM.M
open Go.AM

def indic_Nukta (fu : Nat) (x : Unit) : Option (List (Int × Int)) :=
  some [((161 : Int), (80 : Int)), ((166 : Int), (12 : Int)), ((167 : Int), (97 : Int)), ((170 : Int), (96 : Int)), ((179 : Int), (88 : Int)), ((180 : Int), (89 : Int)), ((181 : Int), (90 : Int)), ((186 : Int), (91 : Int)), ((191 : Int), (92 : Int)), ((192 : Int), (93 : Int)), ((201 : Int), (94 : Int)), ((219 : Int), (98 : Int)), ((220 : Int), (99 : Int)), ((223 : Int), (68 : Int))]
end Go.AM.M

namespace Go.AM.M
open Go.AM

def indic_Rules_L0 (fu : Nat) (x : ((List ((List Int) × (List Int))) × Int)) : Option (((List ((List Int) × (List Int))) × Int) ⊕ (List ((List Int) × (List Int)))) :=
  bif (decide (x.2 < (9 : Int))) then
    ((indic_code fu x.2)).bind fun y0 =>
    bif (decide ((((List.length x.1) + (List.length [([(239 : Int), y0], [(w64 ((4096 : Int) + x.2))])])) * (48 : Nat)) ≤ ((2 : Nat) ^ (46 : Nat)))) then
      some (Sum.inl ((x.1 ++ [([(239 : Int), y0], [(w64 ((4096 : Int) + x.2))])]), (w64 (x.2 + (1 : Int)))))
    else
      none
  else
    Option.map Sum.inr (
      bif (decide ((((List.length x.1) + (List.length [([(217 : Int)], [(16397 : Int)]), ([(234 : Int)], [(10596 : Int)]), ([(234 : Int), (233 : Int)], [(61 : Int)]), ([(232 : Int), (232 : Int)], [(77 : Int), (16396 : Int)]), ([(232 : Int), (233 : Int)], [(77 : Int), (16397 : Int)]), ([(240 : Int), (184 : Int)], [(82 : Int)]), ([(240 : Int), (191 : Int)], [(112 : Int)])])) * (48 : Nat)) ≤ ((2 : Nat) ^ (46 : Nat)))) then
        some (x.1 ++ [([(217 : Int)], [(16397 : Int)]), ([(234 : Int)], [(10596 : Int)]), ([(234 : Int), (233 : Int)], [(61 : Int)]), ([(232 : Int), (232 : Int)], [(77 : Int), (16396 : Int)]), ([(232 : Int), (233 : Int)], [(77 : Int), (16397 : Int)]), ([(240 : Int), (184 : Int)], [(82 : Int)]), ([(240 : Int), (191 : Int)], [(112 : Int)])])
      else
        none)

def indic_Rules_L1 (fu : Nat) (x : ((List ((List Int) × (List Int))) × ((List (Int × Int)) × (Int × Int)))) : Option (((List ((List Int) × (List Int))) × ((List (Int × Int)) × (Int × Int))) ⊕ (List ((List Int) × (List Int)))) :=
  bif (decide (x.2.2.2 < x.2.2.1)) then
    ((nthI x.2.1 x.2.2.2)).bind fun y0 =>
    ((GetElem?.getElem? x.2.1 (Int.toNat x.2.2.2))).bind fun y1 =>
    ((GetElem?.getElem? [y1.1, y1.2] ((0 : Nat) + ((Int.toNat (0 : Int)) * (1 : Nat))))).bind fun y2 =>
    ((GetElem?.getElem? [y1.1, y1.2] ((0 : Nat) + ((Int.toNat (1 : Int)) * (1 : Nat))))).bind fun y3 =>
    bif (decide ((((List.length x.1) + (List.length [([y2, (233 : Int)], [y3])])) * (48 : Nat)) ≤ ((2 : Nat) ^ (46 : Nat)))) then
      some (Sum.inl ((x.1 ++ [([y2, (233 : Int)], [y3])]), (x.2.1, (x.2.2.1, (w64 (x.2.2.2 + (1 : Int)))))))
    else
      none
  else
    Option.map Sum.inr (
      loopM (indic_Rules_L0 fu) fu (x.1, (0 : Int)))

def indic_Rules_L2 (fu : Nat) (x : ((List ((List Int) × (List Int))) × Int)) : Option (((List ((List Int) × (List Int))) × Int) ⊕ (List ((List Int) × (List Int)))) :=
  bif (decide (x.2 ≤ (250 : Int))) then
    ((indic_Place fu (w8 x.2))).bind fun y0 =>
    bif y0.2 then
      bif (decide ((((List.length x.1) + (List.length [([x.2], [y0.1])])) * (48 : Nat)) ≤ ((2 : Nat) ^ (46 : Nat)))) then
        some (Sum.inl ((x.1 ++ [([x.2], [y0.1])]), (w64 (x.2 + (1 : Int)))))
      else
        none
    else
      some (Sum.inl (x.1, (w64 (x.2 + (1 : Int)))))
  else
    Option.map Sum.inr (
      ((indic_Nukta fu ())).bind fun y1 =>
      loopM (indic_Rules_L1 fu) fu (x.1, (y1, ((↑((List.length y1)) : Int), (0 : Int)))))

def indic_Rules_L3 (fu : Nat) (x : ((List ((List Int) × (List Int))) × Int)) : Option (((List ((List Int) × (List Int))) × Int) ⊕ (List ((List Int) × (List Int)))) :=
  bif (decide (x.2 < (128 : Int))) then
    bif (decide ((((List.length x.1) + (List.length [([x.2], [(w64 ((8192 : Int) + x.2))])])) * (48 : Nat)) ≤ ((2 : Nat) ^ (46 : Nat)))) then
      some (Sum.inl ((x.1 ++ [([x.2], [(w64 ((8192 : Int) + x.2))])]), (w64 (x.2 + (1 : Int)))))
    else
      none
  else
    Option.map Sum.inr (
      loopM (indic_Rules_L2 fu) fu (x.1, (161 : Int)))

def indic_Rules (fu : Nat) (x : Unit) : Option (List ((List Int) × (List Int))) :=
  loopM (indic_Rules_L3 fu) fu (([] : List ((List Int) × (List Int))), (0 : Int))
end Go.AM.M

namespace Go.AM.M
open Go.AM

def iscii_all (fu : Nat) (x : Unit) : Option (Int × (Int × ((List (Int × (Int × (Int × Int)))) × ((List ((List Int) × (List Int))) × ((List (Int × (Int × (Int × Int)))) × (List ((List Int) × (List Int)))))))) :=
  ((indic_Rules fu ())).bind fun y0 =>
  ((table_Of fu y0)).bind fun y1 =>
  match y1 with
  | .inl y2 =>
    none
  | .inr y2 =>
    some (y2.1, (y2.2.1, (y2.2.2.1, (y2.2.2.2.1, (y2.2.2.2.2.1, y2.2.2.2.2.2.1)))))
end Go.AM.M

namespace Go.AM.M
open Go.AM

def iscii_Encode (fu : Nat) (x : Unit) : Option ((List (Int × (Int × (Int × Int)))) × ((List ((List Int) × (List Int))) × ((List Int) × (Int × (Int × (Int × (Int × ((List (Int × (Int × (Int × Int)))) × ((List ((List Int) × (List Int))) × ((List (Int × (Int × (Int × Int)))) × ((List ((List Int) × (List Int))) × ((List Int) × (Int × (Int × Int)))))))))))))) :=
  ((iscii_all fu ())).bind fun y0 =>
  ((machine_Encode fu (y0.1, (y0.2.1, (y0.2.2.1, (y0.2.2.2.1, (y0.2.2.2.2.1, y0.2.2.2.2.2))))))).bind fun y1 =>
  some (y1.1, (y1.2.1, (y1.2.2.1, (y1.2.2.2.1, (y1.2.2.2.2.1, (y1.2.2.2.2.2.1, (y1.2.2.2.2.2.2.1, (y1.2.2.2.2.2.2.2.1, (y1.2.2.2.2.2.2.2.2.1, (y1.2.2.2.2.2.2.2.2.2.1, (y1.2.2.2.2.2.2.2.2.2.2.1, (y1.2.2.2.2.2.2.2.2.2.2.2, ((0 : Int), ((0 : Int), (0 : Int)))))))))))))))
end Go.AM.M

namespace Go.AM.M
open Go.AM

def trie_Trie_Rule (fu : Nat) (x : ((List (Int × (Int × (Int × Int)))) × ((List ((List Int) × (List Int))) × Int))) : Option Int :=
  bif (decide (x.2.2 < (0 : Int))) then
    some (-(1 : Int))
  else
    bif (decide (x.2.2 ≥ (↑((List.length x.1)) : Int))) then
      some (-(1 : Int))
    else
      ((nthI x.1 x.2.2)).bind fun y0 =>
      some y0.2.2.2
end Go.AM.M

namespace Go.AM.M
open Go.AM

def trie_Trie_Leaf (fu : Nat) (x : ((List (Int × (Int × (Int × Int)))) × ((List ((List Int) × (List Int))) × Int))) : Option Bool :=
  bif (decide (x.2.2 < (0 : Int))) then
    some true
  else
    bif (decide (x.2.2 ≥ (↑((List.length x.1)) : Int))) then
      some true
    else
      ((nthI x.1 x.2.2)).bind fun y0 =>
      some (y0.2.1 == (0 : Int))
end Go.AM.M

namespace Go.AM.M
open Go.AM

def trie_Trie_Longest_L0 (fu : Nat) (x : ((List (Int × (Int × (Int × Int)))) × ((List ((List Int) × (List Int))) × ((List Int) × (Int × (Int × (Int × ((List Int) × (Int × Int))))))))) : Option (((List (Int × (Int × (Int × Int)))) × ((List ((List Int) × (List Int))) × ((List Int) × (Int × (Int × (Int × ((List Int) × (Int × Int)))))))) ⊕ (Int × (Int × Bool))) :=
  bif (decide (x.2.2.2.2.2.2.2.2 < x.2.2.2.2.2.2.2.1)) then
    ((nthI x.2.2.2.2.2.2.1 x.2.2.2.2.2.2.2.2)).bind fun y0 =>
    ((trie_Trie_Step fu (x.1, (x.2.1, (x.2.2.2.2.2.1, y0))))).bind fun y1 =>
    bif (!y1.2) then
      some (Sum.inr (x.2.2.2.1, (x.2.2.2.2.1, false)))
    else
      ((trie_Trie_Rule fu (x.1, (x.2.1, y1.1)))).bind fun y2 =>
      bif (decide (y2 ≥ (0 : Int))) then
        some (Sum.inl (x.1, (x.2.1, (x.2.2.1, (y2, ((w64 (x.2.2.2.2.2.2.2.2 + (1 : Int))), (y1.1, (x.2.2.2.2.2.2.1, (x.2.2.2.2.2.2.2.1, (w64 (x.2.2.2.2.2.2.2.2 + (1 : Int))))))))))))
      else
        some (Sum.inl (x.1, (x.2.1, (x.2.2.1, (x.2.2.2.1, (x.2.2.2.2.1, (y1.1, (x.2.2.2.2.2.2.1, (x.2.2.2.2.2.2.2.1, (w64 (x.2.2.2.2.2.2.2.2 + (1 : Int))))))))))))
  else
    Option.map Sum.inr (
      ((trie_Trie_Leaf fu (x.1, (x.2.1, x.2.2.2.2.2.1)))).bind fun y3 =>
      some (x.2.2.2.1, (x.2.2.2.2.1, (!y3))))

def trie_Trie_Longest (fu : Nat) (x : ((List (Int × (Int × (Int × Int)))) × ((List ((List Int) × (List Int))) × (List Int)))) : Option (Int × (Int × Bool)) :=
  loopM (trie_Trie_Longest_L0 fu) fu (x.1, (x.2.1, (x.2.2, ((-(1 : Int)), ((0 : Int), ((0 : Int), (x.2.2, ((↑((List.length x.2.2)) : Int), (0 : Int)))))))))
end Go.AM.M

namespace Go.AM.M
open Go.AM

def table_Table_Joins (fu : Nat) (x : (Int × (Int × ((List (Int × (Int × (Int × Int)))) × ((List ((List Int) × (List Int))) × ((List (Int × (Int × (Int × Int)))) × ((List ((List Int) × (List Int))) × ((List Int) × (List Int))))))))) : Option Bool :=
  bif ((↑((List.length x.2.2.2.2.2.2.1)) : Int) == (0 : Int)) then
    some false
  else
    ((slices_Clone_int fu x.2.2.2.2.2.2.1)).bind fun y0 =>
    bif (decide ((((List.length y0) + (List.length x.2.2.2.2.2.2.2)) * (8 : Nat)) ≤ ((2 : Nat) ^ (46 : Nat)))) then
      ((trie_Trie_Longest fu (x.2.2.1, (x.2.2.2.1, (y0 ++ x.2.2.2.2.2.2.2))))).bind fun y1 =>
      some (decide (y1.2.1 > (↑((List.length x.2.2.2.2.2.2.1)) : Int)))
    else
      none
end Go.AM.M

namespace Go.AM.M
open Go.AM

def table_Table_Join (fu : Nat) (x : (Int × (Int × ((List (Int × (Int × (Int × Int)))) × ((List ((List Int) × (List Int))) × ((List (Int × (Int × (Int × Int)))) × ((List ((List Int) × (List Int))) × ((List Int) × (Int × (Int × ((List Int) × Int))))))))))) : Option (Int × (Int × ((List Int) × Int))) :=
  bif (x.2.2.2.2.2.2.2.2.2.2 == (0 : Int)) then
    ((table_Table_Joins fu (x.1, (x.2.1, (x.2.2.1, (x.2.2.2.1, (x.2.2.2.2.1, (x.2.2.2.2.2.1, (x.2.2.2.2.2.2.1, x.2.2.2.2.2.2.2.2.2.1))))))))).bind fun y0 =>
    bif y0 then
      some (x.2.2.2.2.2.2.2.1, (x.2.2.2.2.2.2.2.2.1, (([] : List Int), (3 : Int))))
    else
      some (x.2.2.2.2.2.2.2.1, (x.2.2.2.2.2.2.2.2.1, (x.2.2.2.2.2.2.2.2.2.1, x.2.2.2.2.2.2.2.2.2.2)))
  else
    some (x.2.2.2.2.2.2.2.1, (x.2.2.2.2.2.2.2.2.1, (x.2.2.2.2.2.2.2.2.2.1, x.2.2.2.2.2.2.2.2.2.2)))
end Go.AM.M

namespace Go.AM.M
open Go.AM

def machine_Encoder_join_L0 (fu : Nat) (x : ((List (Int × (Int × ((List Int) × Int)))) × (Int × (Int × (Int × (Int × ((List (Int × (Int × (Int × Int)))) × ((List ((List Int) × (List Int))) × ((List (Int × (Int × (Int × Int)))) × ((List ((List Int) × (List Int))) × ((List Int) × ((List (Int × (Int × (Int × Int)))) × ((List ((List Int) × (List Int))) × ((List Int) × (Int × Int))))))))))))))) : Option (((List (Int × (Int × ((List Int) × Int)))) × (Int × (Int × (Int × (Int × ((List (Int × (Int × (Int × Int)))) × ((List ((List Int) × (List Int))) × ((List (Int × (Int × (Int × Int)))) × ((List ((List Int) × (List Int))) × ((List Int) × ((List (Int × (Int × (Int × Int)))) × ((List ((List Int) × (List Int))) × ((List Int) × (Int × Int)))))))))))))) ⊕ ((List (Int × (Int × ((List Int) × Int)))) × (Int × (Int × ((List (Int × (Int × (Int × Int)))) × ((List ((List Int) × (List Int))) × ((List (Int × (Int × (Int × Int)))) × ((List ((List Int) × (List Int))) × ((List Int) × ((List (Int × (Int × (Int × Int)))) × ((List ((List Int) × (List Int))) × ((List Int) × (Int × Int))))))))))))) :=
  bif (decide (x.2.2.1 < x.2.1)) then
    ((nthI x.1 x.2.2.1)).bind fun y0 =>
    ((GetElem?.getElem? x.1 (Int.toNat x.2.2.1))).bind fun y1 =>
    ((table_Table_Join fu (x.2.2.2.1, (x.2.2.2.2.1, (x.2.2.2.2.2.1, (x.2.2.2.2.2.2.1, (x.2.2.2.2.2.2.2.1, (x.2.2.2.2.2.2.2.2.1, (x.2.2.2.2.2.2.2.2.2.1, (y1.1, (y1.2.1, (y1.2.2.1, y1.2.2.2)))))))))))).bind fun y2 =>
    ((nthI x.1 x.2.2.1)).bind fun y3 =>
    ((GetElem?.getElem? x.1 (Int.toNat x.2.2.1))).bind fun y4 =>
    ((nthI (List.set x.1 (Int.toNat x.2.2.1) (y2.1, (y2.2.1, (y2.2.2.1, y2.2.2.2)))) x.2.2.1)).bind fun y5 =>
    ((GetElem?.getElem? (List.set x.1 (Int.toNat x.2.2.1) (y2.1, (y2.2.1, (y2.2.2.1, y2.2.2.2)))) (Int.toNat x.2.2.1))).bind fun y6 =>
    bif (y6.2.2.2 == (0 : Int)) then
      some (Sum.inl ((List.set x.1 (Int.toNat x.2.2.1) (y2.1, (y2.2.1, (y2.2.2.1, y2.2.2.2)))), (x.2.1, ((w64 (x.2.2.1 + (1 : Int))), (x.2.2.2.1, (x.2.2.2.2.1, (x.2.2.2.2.2.1, (x.2.2.2.2.2.2.1, (x.2.2.2.2.2.2.2.1, (x.2.2.2.2.2.2.2.2.1, (y1.2.2.1, (x.2.2.2.2.2.2.2.2.2.2.1, (x.2.2.2.2.2.2.2.2.2.2.2.1, (x.2.2.2.2.2.2.2.2.2.2.2.2.1, (x.2.2.2.2.2.2.2.2.2.2.2.2.2.1, x.2.2.2.2.2.2.2.2.2.2.2.2.2.2)))))))))))))))
    else
      some (Sum.inl ((List.set x.1 (Int.toNat x.2.2.1) (y2.1, (y2.2.1, (y2.2.2.1, y2.2.2.2)))), (x.2.1, ((w64 (x.2.2.1 + (1 : Int))), (x.2.2.2.1, (x.2.2.2.2.1, (x.2.2.2.2.2.1, (x.2.2.2.2.2.2.1, (x.2.2.2.2.2.2.2.1, (x.2.2.2.2.2.2.2.2.1, (x.2.2.2.2.2.2.2.2.2.1, (x.2.2.2.2.2.2.2.2.2.2.1, (x.2.2.2.2.2.2.2.2.2.2.2.1, (x.2.2.2.2.2.2.2.2.2.2.2.2.1, (x.2.2.2.2.2.2.2.2.2.2.2.2.2.1, x.2.2.2.2.2.2.2.2.2.2.2.2.2.2)))))))))))))))
  else
    some (Sum.inr (x.1, (x.2.2.2.1, (x.2.2.2.2.1, (x.2.2.2.2.2.1, (x.2.2.2.2.2.2.1, (x.2.2.2.2.2.2.2.1, (x.2.2.2.2.2.2.2.2.1, (x.2.2.2.2.2.2.2.2.2.1, (x.2.2.2.2.2.2.2.2.2.2.1, (x.2.2.2.2.2.2.2.2.2.2.2.1, (x.2.2.2.2.2.2.2.2.2.2.2.2.1, (x.2.2.2.2.2.2.2.2.2.2.2.2.2.1, x.2.2.2.2.2.2.2.2.2.2.2.2.2.2)))))))))))))

def machine_Encoder_join (fu : Nat) (x : ((List (Int × (Int × ((List Int) × Int)))) × (Int × (Int × ((List (Int × (Int × (Int × Int)))) × ((List ((List Int) × (List Int))) × ((List (Int × (Int × (Int × Int)))) × ((List ((List Int) × (List Int))) × ((List Int) × ((List (Int × (Int × (Int × Int)))) × ((List ((List Int) × (List Int))) × ((List Int) × (Int × Int))))))))))))) : Option ((List (Int × (Int × ((List Int) × Int)))) × (Int × (Int × ((List (Int × (Int × (Int × Int)))) × ((List ((List Int) × (List Int))) × ((List (Int × (Int × (Int × Int)))) × ((List ((List Int) × (List Int))) × ((List Int) × ((List (Int × (Int × (Int × Int)))) × ((List ((List Int) × (List Int))) × ((List Int) × (Int × Int)))))))))))) :=
  loopM (machine_Encoder_join_L0 fu) fu (x.1, ((↑((List.length x.1)) : Int), ((0 : Int), (x.2.1, (x.2.2.1, (x.2.2.2.1, (x.2.2.2.2.1, (x.2.2.2.2.2.1, (x.2.2.2.2.2.2.1, (x.2.2.2.2.2.2.2.1, (x.2.2.2.2.2.2.2.2.1, (x.2.2.2.2.2.2.2.2.2.1, (x.2.2.2.2.2.2.2.2.2.2.1, (x.2.2.2.2.2.2.2.2.2.2.2.1, x.2.2.2.2.2.2.2.2.2.2.2.2))))))))))))))
end Go.AM.M

namespace Go.AM.M
open Go.AM

def trie_Trie_Out (fu : Nat) (x : ((List (Int × (Int × (Int × Int)))) × ((List ((List Int) × (List Int))) × Int))) : Option (List Int) :=
  bif (decide (x.2.2 < (0 : Int))) then
    some ([] : List Int)
  else
    bif (decide (x.2.2 ≥ (↑((List.length x.2.1)) : Int))) then
      some ([] : List Int)
    else
      ((nthI x.2.1 x.2.2)).bind fun y0 =>
      bif (decide (((List.length y0.2) * (8 : Nat)) ≤ ((2 : Nat) ^ (46 : Nat)))) then
        some y0.2
      else
        none
end Go.AM.M

namespace Go.AM.M
open Go.AM

def match_Match_take_L0 (fu : Nat) (x : (Bool × ((List (Int × (Int × ((List Int) × Int)))) × ((List (Int × (Int × (Int × Int)))) × ((List ((List Int) × (List Int))) × ((List Int) × (Int × Int))))))) : Option ((Bool × ((List (Int × (Int × ((List Int) × Int)))) × ((List (Int × (Int × (Int × Int)))) × ((List ((List Int) × (List Int))) × ((List Int) × (Int × Int)))))) ⊕ ((List (Int × (Int × ((List Int) × Int)))) × ((List (Int × (Int × (Int × Int)))) × ((List ((List Int) × (List Int))) × ((List Int) × (Int × Int)))))) :=
  bif (decide ((↑((List.length x.2.2.2.2.1)) : Int) > (0 : Int))) then
    ((trie_Trie_Longest fu (x.2.2.1, (x.2.2.2.1, x.2.2.2.2.1)))).bind fun y0 =>
    bif y0.2.2 then
      bif (!x.1) then
        some (Sum.inr (x.2.1, (x.2.2.1, (x.2.2.2.1, (x.2.2.2.2.1, (x.2.2.2.2.2.1, (w64 (x.2.2.2.2.2.2 + (↑((List.length x.2.2.2.2.1)) : Int)))))))))
      else
        bif (decide (y0.1 < (0 : Int))) then
          bif (decide ((((List.length x.2.1) + (List.length [(x.2.2.2.2.2.1, ((if (y0.2.1 > (1 : Int)) then y0.2.1 else (1 : Int)), (([] : List Int), (3 : Int))))])) * (48 : Nat)) ≤ ((2 : Nat) ^ (46 : Nat)))) then
            ((sliceI x.2.2.2.2.1 (if (y0.2.1 > (1 : Int)) then y0.2.1 else (1 : Int)) (↑((List.length x.2.2.2.2.1)) : Int))).bind fun y1 =>
            bif (decide (((List.length y1) * (8 : Nat)) ≤ ((2 : Nat) ^ (46 : Nat)))) then
              some (Sum.inl (x.1, ((x.2.1 ++ [(x.2.2.2.2.2.1, ((if (y0.2.1 > (1 : Int)) then y0.2.1 else (1 : Int)), (([] : List Int), (3 : Int))))]), (x.2.2.1, (x.2.2.2.1, (y1, ((w64 (x.2.2.2.2.2.1 + (if (y0.2.1 > (1 : Int)) then y0.2.1 else (1 : Int)))), (w64 (x.2.2.2.2.2.2 + (↑((List.length x.2.2.2.2.1)) : Int))))))))))
            else
              none
          else
            none
        else
          ((trie_Trie_Out fu (x.2.2.1, (x.2.2.2.1, y0.1)))).bind fun y2 =>
          bif (decide ((((List.length x.2.1) + (List.length [(x.2.2.2.2.2.1, ((if (y0.2.1 > (1 : Int)) then y0.2.1 else (1 : Int)), (y2, (0 : Int))))])) * (48 : Nat)) ≤ ((2 : Nat) ^ (46 : Nat)))) then
            ((sliceI x.2.2.2.2.1 (if (y0.2.1 > (1 : Int)) then y0.2.1 else (1 : Int)) (↑((List.length x.2.2.2.2.1)) : Int))).bind fun y3 =>
            bif (decide (((List.length y3) * (8 : Nat)) ≤ ((2 : Nat) ^ (46 : Nat)))) then
              some (Sum.inl (x.1, ((x.2.1 ++ [(x.2.2.2.2.2.1, ((if (y0.2.1 > (1 : Int)) then y0.2.1 else (1 : Int)), (y2, (0 : Int))))]), (x.2.2.1, (x.2.2.2.1, (y3, ((w64 (x.2.2.2.2.2.1 + (if (y0.2.1 > (1 : Int)) then y0.2.1 else (1 : Int)))), (w64 (x.2.2.2.2.2.2 + (↑((List.length x.2.2.2.2.1)) : Int))))))))))
            else
              none
          else
            none
    else
      bif (decide (y0.1 < (0 : Int))) then
        bif (decide ((((List.length x.2.1) + (List.length [(x.2.2.2.2.2.1, ((if (y0.2.1 > (1 : Int)) then y0.2.1 else (1 : Int)), (([] : List Int), (3 : Int))))])) * (48 : Nat)) ≤ ((2 : Nat) ^ (46 : Nat)))) then
          ((sliceI x.2.2.2.2.1 (if (y0.2.1 > (1 : Int)) then y0.2.1 else (1 : Int)) (↑((List.length x.2.2.2.2.1)) : Int))).bind fun y4 =>
          bif (decide (((List.length y4) * (8 : Nat)) ≤ ((2 : Nat) ^ (46 : Nat)))) then
            some (Sum.inl (x.1, ((x.2.1 ++ [(x.2.2.2.2.2.1, ((if (y0.2.1 > (1 : Int)) then y0.2.1 else (1 : Int)), (([] : List Int), (3 : Int))))]), (x.2.2.1, (x.2.2.2.1, (y4, ((w64 (x.2.2.2.2.2.1 + (if (y0.2.1 > (1 : Int)) then y0.2.1 else (1 : Int)))), (w64 (x.2.2.2.2.2.2 + (↑((List.length x.2.2.2.2.1)) : Int))))))))))
          else
            none
        else
          none
      else
        ((trie_Trie_Out fu (x.2.2.1, (x.2.2.2.1, y0.1)))).bind fun y5 =>
        bif (decide ((((List.length x.2.1) + (List.length [(x.2.2.2.2.2.1, ((if (y0.2.1 > (1 : Int)) then y0.2.1 else (1 : Int)), (y5, (0 : Int))))])) * (48 : Nat)) ≤ ((2 : Nat) ^ (46 : Nat)))) then
          ((sliceI x.2.2.2.2.1 (if (y0.2.1 > (1 : Int)) then y0.2.1 else (1 : Int)) (↑((List.length x.2.2.2.2.1)) : Int))).bind fun y6 =>
          bif (decide (((List.length y6) * (8 : Nat)) ≤ ((2 : Nat) ^ (46 : Nat)))) then
            some (Sum.inl (x.1, ((x.2.1 ++ [(x.2.2.2.2.2.1, ((if (y0.2.1 > (1 : Int)) then y0.2.1 else (1 : Int)), (y5, (0 : Int))))]), (x.2.2.1, (x.2.2.2.1, (y6, ((w64 (x.2.2.2.2.2.1 + (if (y0.2.1 > (1 : Int)) then y0.2.1 else (1 : Int)))), (w64 (x.2.2.2.2.2.2 + (↑((List.length x.2.2.2.2.1)) : Int))))))))))
          else
            none
        else
          none
  else
    some (Sum.inr (x.2.1, (x.2.2.1, (x.2.2.2.1, (x.2.2.2.2.1, (x.2.2.2.2.2.1, x.2.2.2.2.2.2))))))

def match_Match_take (fu : Nat) (x : (Bool × ((List (Int × (Int × (Int × Int)))) × ((List ((List Int) × (List Int))) × ((List Int) × (Int × Int)))))) : Option ((List (Int × (Int × ((List Int) × Int)))) × ((List (Int × (Int × (Int × Int)))) × ((List ((List Int) × (List Int))) × ((List Int) × (Int × Int))))) :=
  loopM (match_Match_take_L0 fu) fu (x.1, (([] : List (Int × (Int × ((List Int) × Int)))), (x.2.1, (x.2.2.1, (x.2.2.2.1, (x.2.2.2.2.1, x.2.2.2.2.2))))))
end Go.AM.M

namespace Go.AM.M
open Go.AM

def match_Match_Put (fu : Nat) (x : (Int × ((List (Int × (Int × (Int × Int)))) × ((List ((List Int) × (List Int))) × ((List Int) × (Int × Int)))))) : Option ((List (Int × (Int × ((List Int) × Int)))) × ((List (Int × (Int × (Int × Int)))) × ((List ((List Int) × (List Int))) × ((List Int) × (Int × Int))))) :=
  bif (decide ((((List.length x.2.2.2.1) + (List.length [x.1])) * (8 : Nat)) ≤ ((2 : Nat) ^ (46 : Nat)))) then
    ((match_Match_take fu (false, (x.2.1, (x.2.2.1, ((x.2.2.2.1 ++ [x.1]), (x.2.2.2.2.1, x.2.2.2.2.2))))))).bind fun y0 =>
    some (y0.1, (y0.2.1, (y0.2.2.1, (y0.2.2.2.1, (y0.2.2.2.2.1, y0.2.2.2.2.2)))))
  else
    none
end Go.AM.M

namespace Go.AM.M
open Go.AM

def machine_Encoder_Put (fu : Nat) (x : (Int × (Int × (Int × ((List (Int × (Int × (Int × Int)))) × ((List ((List Int) × (List Int))) × ((List (Int × (Int × (Int × Int)))) × ((List ((List Int) × (List Int))) × ((List Int) × ((List (Int × (Int × (Int × Int)))) × ((List ((List Int) × (List Int))) × ((List Int) × (Int × Int))))))))))))) : Option ((List (Int × (Int × ((List Int) × Int)))) × (Int × (Int × ((List (Int × (Int × (Int × Int)))) × ((List ((List Int) × (List Int))) × ((List (Int × (Int × (Int × Int)))) × ((List ((List Int) × (List Int))) × ((List Int) × ((List (Int × (Int × (Int × Int)))) × ((List ((List Int) × (List Int))) × ((List Int) × (Int × Int)))))))))))) :=
  ((match_Match_Put fu (x.1, (x.2.2.2.2.2.2.2.2.1, (x.2.2.2.2.2.2.2.2.2.1, (x.2.2.2.2.2.2.2.2.2.2.1, (x.2.2.2.2.2.2.2.2.2.2.2.1, x.2.2.2.2.2.2.2.2.2.2.2.2))))))).bind fun y0 =>
  ((machine_Encoder_join fu (y0.1, (x.2.1, (x.2.2.1, (x.2.2.2.1, (x.2.2.2.2.1, (x.2.2.2.2.2.1, (x.2.2.2.2.2.2.1, (x.2.2.2.2.2.2.2.1, (y0.2.1, (y0.2.2.1, (y0.2.2.2.1, (y0.2.2.2.2.1, y0.2.2.2.2.2)))))))))))))).bind fun y1 =>
  some (y1.1, (y1.2.1, (y1.2.2.1, (y1.2.2.2.1, (y1.2.2.2.2.1, (y1.2.2.2.2.2.1, (y1.2.2.2.2.2.2.1, (y1.2.2.2.2.2.2.2.1, (y1.2.2.2.2.2.2.2.2.1, (y1.2.2.2.2.2.2.2.2.2.1, (y1.2.2.2.2.2.2.2.2.2.2.1, (y1.2.2.2.2.2.2.2.2.2.2.2.1, y1.2.2.2.2.2.2.2.2.2.2.2.2))))))))))))
end Go.AM.M

namespace Go.AM.M
open Go.AM

def machine_Encoder_Apart (fu : Nat) (x : (Int × (Int × ((List (Int × (Int × (Int × Int)))) × ((List ((List Int) × (List Int))) × ((List (Int × (Int × (Int × Int)))) × ((List ((List Int) × (List Int))) × ((List Int) × ((List (Int × (Int × (Int × Int)))) × ((List ((List Int) × (List Int))) × ((List Int) × (Int × Int)))))))))))) : Option (Int × (Int × ((List (Int × (Int × (Int × Int)))) × ((List ((List Int) × (List Int))) × ((List (Int × (Int × (Int × Int)))) × ((List ((List Int) × (List Int))) × ((List Int) × ((List (Int × (Int × (Int × Int)))) × ((List ((List Int) × (List Int))) × ((List Int) × (Int × Int))))))))))) :=
  some (x.1, (x.2.1, (x.2.2.1, (x.2.2.2.1, (x.2.2.2.2.1, (x.2.2.2.2.2.1, (([] : List Int), (x.2.2.2.2.2.2.2.1, (x.2.2.2.2.2.2.2.2.1, (x.2.2.2.2.2.2.2.2.2.1, (x.2.2.2.2.2.2.2.2.2.2.1, x.2.2.2.2.2.2.2.2.2.2.2)))))))))))
end Go.AM.M

namespace Go.AM.M
open Go.AM

def indic_Of (fu : Nat) (x : Int) : Option (Int × (Int × Bool)) :=
  bif (decide (x < (2304 : Int))) then
    some ((0 : Int), ((0 : Int), false))
  else
    bif (decide (x ≥ (3456 : Int))) then
      some ((0 : Int), ((0 : Int), false))
    else
      bif (x == (2404 : Int)) then
        some ((0 : Int), ((0 : Int), false))
      else
        some ((w64 (Int.tdiv (w64 (x - (2304 : Int))) (128 : Int))), ((Int.tmod (w64 (x - (2304 : Int))) (128 : Int)), true))
end Go.AM.M

namespace Go.AM.M
open Go.AM

def utf_Scalar (fu : Nat) (x : Int) : Option Bool :=
  bif (decide (x ≥ (0 : Int))) then
    bif (decide (x ≤ (1114111 : Int))) then
      bif (decide (x < (55296 : Int))) then
        some true
      else
        some (decide (x > (57343 : Int)))
    else
      some false
  else
    some false
end Go.AM.M

namespace Go.AM.M
open Go.AM

def match_Match_End (fu : Nat) (x : ((List (Int × (Int × (Int × Int)))) × ((List ((List Int) × (List Int))) × ((List Int) × (Int × Int))))) : Option ((List (Int × (Int × ((List Int) × Int)))) × ((List (Int × (Int × (Int × Int)))) × ((List ((List Int) × (List Int))) × ((List Int) × (Int × Int))))) :=
  ((match_Match_take fu (true, (x.1, (x.2.1, (x.2.2.1, (x.2.2.2.1, x.2.2.2.2))))))).bind fun y0 =>
  some (y0.1, (y0.2.1, (y0.2.2.1, (y0.2.2.2.1, (y0.2.2.2.2.1, y0.2.2.2.2.2)))))
end Go.AM.M

namespace Go.AM.M
open Go.AM

def machine_Encoder_End (fu : Nat) (x : (Int × (Int × ((List (Int × (Int × (Int × Int)))) × ((List ((List Int) × (List Int))) × ((List (Int × (Int × (Int × Int)))) × ((List ((List Int) × (List Int))) × ((List Int) × ((List (Int × (Int × (Int × Int)))) × ((List ((List Int) × (List Int))) × ((List Int) × (Int × Int)))))))))))) : Option ((List (Int × (Int × ((List Int) × Int)))) × (Int × (Int × ((List (Int × (Int × (Int × Int)))) × ((List ((List Int) × (List Int))) × ((List (Int × (Int × (Int × Int)))) × ((List ((List Int) × (List Int))) × ((List Int) × ((List (Int × (Int × (Int × Int)))) × ((List ((List Int) × (List Int))) × ((List Int) × (Int × Int)))))))))))) :=
  ((match_Match_End fu (x.2.2.2.2.2.2.2.1, (x.2.2.2.2.2.2.2.2.1, (x.2.2.2.2.2.2.2.2.2.1, (x.2.2.2.2.2.2.2.2.2.2.1, x.2.2.2.2.2.2.2.2.2.2.2)))))).bind fun y0 =>
  ((machine_Encoder_join fu (y0.1, (x.1, (x.2.1, (x.2.2.1, (x.2.2.2.1, (x.2.2.2.2.1, (x.2.2.2.2.2.1, (x.2.2.2.2.2.2.1, (y0.2.1, (y0.2.2.1, (y0.2.2.2.1, (y0.2.2.2.2.1, y0.2.2.2.2.2)))))))))))))).bind fun y1 =>
  some (y1.1, (y1.2.1, (y1.2.2.1, (y1.2.2.2.1, (y1.2.2.2.2.1, (y1.2.2.2.2.2.1, (y1.2.2.2.2.2.2.1, (y1.2.2.2.2.2.2.2.1, (y1.2.2.2.2.2.2.2.2.1, (y1.2.2.2.2.2.2.2.2.2.1, (y1.2.2.2.2.2.2.2.2.2.2.1, (y1.2.2.2.2.2.2.2.2.2.2.2.1, y1.2.2.2.2.2.2.2.2.2.2.2.2))))))))))))
end Go.AM.M

namespace Go.AM.M
open Go.AM

def indic_Code (fu : Nat) (x : Int) : Option (Int × Bool) :=
  bif (decide (x < (0 : Int))) then
    some ((0 : Int), false)
  else
    bif (decide (x ≥ (9 : Int))) then
      some ((0 : Int), false)
    else
      ((indic_code fu x)).bind fun y0 =>
      some (y0, true)
end Go.AM.M

namespace Go.AM.M
open Go.AM

def iscii_Encoder_Put (fu : Nat) (x : (Int × (Int × (Int × (Int × (Int × (Int × ((List (Int × (Int × (Int × Int)))) × ((List ((List Int) × (List Int))) × ((List (Int × (Int × (Int × Int)))) × ((List ((List Int) × (List Int))) × ((List Int) × ((List (Int × (Int × (Int × Int)))) × ((List ((List Int) × (List Int))) × ((List Int) × (Int × Int)))))))))))))))) : Option ((List (Int × (Int × ((List Int) × Int)))) × (Int × (Int × (Int × (Int × (Int × ((List (Int × (Int × (Int × Int)))) × ((List ((List Int) × (List Int))) × ((List (Int × (Int × (Int × Int)))) × ((List ((List Int) × (List Int))) × ((List Int) × ((List (Int × (Int × (Int × Int)))) × ((List ((List Int) × (List Int))) × ((List Int) × (Int × Int))))))))))))))) :=
  ((indic_Of fu x.1)).bind fun y0 =>
  ((utf_Scalar fu x.1)).bind fun y1 =>
  bif (!y1) then
    bif y0.2.2 then
      bif (y0.1 != x.2.1) then
        ((machine_Encoder_End fu (x.2.2.2.2.1, (x.2.2.2.2.2.1, (x.2.2.2.2.2.2.1, (x.2.2.2.2.2.2.2.1, (x.2.2.2.2.2.2.2.2.1, (x.2.2.2.2.2.2.2.2.2.1, (x.2.2.2.2.2.2.2.2.2.2.1, (x.2.2.2.2.2.2.2.2.2.2.2.1, (x.2.2.2.2.2.2.2.2.2.2.2.2.1, (x.2.2.2.2.2.2.2.2.2.2.2.2.2.1, (x.2.2.2.2.2.2.2.2.2.2.2.2.2.2.1, x.2.2.2.2.2.2.2.2.2.2.2.2.2.2.2))))))))))))).bind fun y2 =>
        ((indic_Code fu y0.1)).bind fun y3 =>
        ((machine_Encoder_Apart fu (y2.2.1, (y2.2.2.1, (y2.2.2.2.1, (y2.2.2.2.2.1, (y2.2.2.2.2.2.1, (y2.2.2.2.2.2.2.1, (y2.2.2.2.2.2.2.2.1, (y2.2.2.2.2.2.2.2.2.1, (y2.2.2.2.2.2.2.2.2.2.1, (y2.2.2.2.2.2.2.2.2.2.2.1, (y2.2.2.2.2.2.2.2.2.2.2.2.1, y2.2.2.2.2.2.2.2.2.2.2.2.2))))))))))))).bind fun y4 =>
        bif (decide ((((List.length y2.1) + (List.length [(x.2.2.1, ((0 : Int), ([(239 : Int), y3.1], (0 : Int))))])) * (48 : Nat)) ≤ ((2 : Nat) ^ (46 : Nat)))) then
          ((machine_Encoder_Put fu ((-(1 : Int)), (y4.1, (y4.2.1, (y4.2.2.1, (y4.2.2.2.1, (y4.2.2.2.2.1, (y4.2.2.2.2.2.1, (y4.2.2.2.2.2.2.1, (y4.2.2.2.2.2.2.2.1, (y4.2.2.2.2.2.2.2.2.1, (y4.2.2.2.2.2.2.2.2.2.1, (y4.2.2.2.2.2.2.2.2.2.2.1, y4.2.2.2.2.2.2.2.2.2.2.2)))))))))))))).bind fun y5 =>
          bif (decide ((((List.length (y2.1 ++ [(x.2.2.1, ((0 : Int), ([(239 : Int), y3.1], (0 : Int))))])) + (List.length y5.1)) * (48 : Nat)) ≤ ((2 : Nat) ^ (46 : Nat)))) then
            some (((y2.1 ++ [(x.2.2.1, ((0 : Int), ([(239 : Int), y3.1], (0 : Int))))]) ++ y5.1), (y0.1, ((w64 (x.2.2.1 + (1 : Int))), (x.2.2.2.1, (y5.2.1, (y5.2.2.1, (y5.2.2.2.1, (y5.2.2.2.2.1, (y5.2.2.2.2.2.1, (y5.2.2.2.2.2.2.1, (y5.2.2.2.2.2.2.2.1, (y5.2.2.2.2.2.2.2.2.1, (y5.2.2.2.2.2.2.2.2.2.1, (y5.2.2.2.2.2.2.2.2.2.2.1, (y5.2.2.2.2.2.2.2.2.2.2.2.1, y5.2.2.2.2.2.2.2.2.2.2.2.2)))))))))))))))
          else
            none
        else
          none
      else
        ((machine_Encoder_Put fu ((-(1 : Int)), (x.2.2.2.2.1, (x.2.2.2.2.2.1, (x.2.2.2.2.2.2.1, (x.2.2.2.2.2.2.2.1, (x.2.2.2.2.2.2.2.2.1, (x.2.2.2.2.2.2.2.2.2.1, (x.2.2.2.2.2.2.2.2.2.2.1, (x.2.2.2.2.2.2.2.2.2.2.2.1, (x.2.2.2.2.2.2.2.2.2.2.2.2.1, (x.2.2.2.2.2.2.2.2.2.2.2.2.2.1, (x.2.2.2.2.2.2.2.2.2.2.2.2.2.2.1, x.2.2.2.2.2.2.2.2.2.2.2.2.2.2.2)))))))))))))).bind fun y6 =>
        bif (decide ((((List.length ([] : List (Int × (Int × ((List Int) × Int))))) + (List.length y6.1)) * (48 : Nat)) ≤ ((2 : Nat) ^ (46 : Nat)))) then
          some ((([] : List (Int × (Int × ((List Int) × Int)))) ++ y6.1), (x.2.1, ((w64 (x.2.2.1 + (1 : Int))), (x.2.2.2.1, (y6.2.1, (y6.2.2.1, (y6.2.2.2.1, (y6.2.2.2.2.1, (y6.2.2.2.2.2.1, (y6.2.2.2.2.2.2.1, (y6.2.2.2.2.2.2.2.1, (y6.2.2.2.2.2.2.2.2.1, (y6.2.2.2.2.2.2.2.2.2.1, (y6.2.2.2.2.2.2.2.2.2.2.1, (y6.2.2.2.2.2.2.2.2.2.2.2.1, y6.2.2.2.2.2.2.2.2.2.2.2.2)))))))))))))))
        else
          none
    else
      ((machine_Encoder_Put fu ((-(1 : Int)), (x.2.2.2.2.1, (x.2.2.2.2.2.1, (x.2.2.2.2.2.2.1, (x.2.2.2.2.2.2.2.1, (x.2.2.2.2.2.2.2.2.1, (x.2.2.2.2.2.2.2.2.2.1, (x.2.2.2.2.2.2.2.2.2.2.1, (x.2.2.2.2.2.2.2.2.2.2.2.1, (x.2.2.2.2.2.2.2.2.2.2.2.2.1, (x.2.2.2.2.2.2.2.2.2.2.2.2.2.1, (x.2.2.2.2.2.2.2.2.2.2.2.2.2.2.1, x.2.2.2.2.2.2.2.2.2.2.2.2.2.2.2)))))))))))))).bind fun y7 =>
      bif (decide ((((List.length ([] : List (Int × (Int × ((List Int) × Int))))) + (List.length y7.1)) * (48 : Nat)) ≤ ((2 : Nat) ^ (46 : Nat)))) then
        some ((([] : List (Int × (Int × ((List Int) × Int)))) ++ y7.1), (x.2.1, ((w64 (x.2.2.1 + (1 : Int))), (x.2.2.2.1, (y7.2.1, (y7.2.2.1, (y7.2.2.2.1, (y7.2.2.2.2.1, (y7.2.2.2.2.2.1, (y7.2.2.2.2.2.2.1, (y7.2.2.2.2.2.2.2.1, (y7.2.2.2.2.2.2.2.2.1, (y7.2.2.2.2.2.2.2.2.2.1, (y7.2.2.2.2.2.2.2.2.2.2.1, (y7.2.2.2.2.2.2.2.2.2.2.2.1, y7.2.2.2.2.2.2.2.2.2.2.2.2)))))))))))))))
      else
        none
  else
    bif (!y0.2.2) then
      bif y0.2.2 then
        bif (y0.1 != x.2.1) then
          ((machine_Encoder_End fu (x.2.2.2.2.1, (x.2.2.2.2.2.1, (x.2.2.2.2.2.2.1, (x.2.2.2.2.2.2.2.1, (x.2.2.2.2.2.2.2.2.1, (x.2.2.2.2.2.2.2.2.2.1, (x.2.2.2.2.2.2.2.2.2.2.1, (x.2.2.2.2.2.2.2.2.2.2.2.1, (x.2.2.2.2.2.2.2.2.2.2.2.2.1, (x.2.2.2.2.2.2.2.2.2.2.2.2.2.1, (x.2.2.2.2.2.2.2.2.2.2.2.2.2.2.1, x.2.2.2.2.2.2.2.2.2.2.2.2.2.2.2))))))))))))).bind fun y8 =>
          ((indic_Code fu y0.1)).bind fun y9 =>
          ((machine_Encoder_Apart fu (y8.2.1, (y8.2.2.1, (y8.2.2.2.1, (y8.2.2.2.2.1, (y8.2.2.2.2.2.1, (y8.2.2.2.2.2.2.1, (y8.2.2.2.2.2.2.2.1, (y8.2.2.2.2.2.2.2.2.1, (y8.2.2.2.2.2.2.2.2.2.1, (y8.2.2.2.2.2.2.2.2.2.2.1, (y8.2.2.2.2.2.2.2.2.2.2.2.1, y8.2.2.2.2.2.2.2.2.2.2.2.2))))))))))))).bind fun y10 =>
          bif (decide ((((List.length y8.1) + (List.length [(x.2.2.1, ((0 : Int), ([(239 : Int), y9.1], (0 : Int))))])) * (48 : Nat)) ≤ ((2 : Nat) ^ (46 : Nat)))) then
            ((machine_Encoder_Put fu ((w64 ((8192 : Int) + x.1)), (y10.1, (y10.2.1, (y10.2.2.1, (y10.2.2.2.1, (y10.2.2.2.2.1, (y10.2.2.2.2.2.1, (y10.2.2.2.2.2.2.1, (y10.2.2.2.2.2.2.2.1, (y10.2.2.2.2.2.2.2.2.1, (y10.2.2.2.2.2.2.2.2.2.1, (y10.2.2.2.2.2.2.2.2.2.2.1, y10.2.2.2.2.2.2.2.2.2.2.2)))))))))))))).bind fun y11 =>
            bif (decide ((((List.length (y8.1 ++ [(x.2.2.1, ((0 : Int), ([(239 : Int), y9.1], (0 : Int))))])) + (List.length y11.1)) * (48 : Nat)) ≤ ((2 : Nat) ^ (46 : Nat)))) then
              some (((y8.1 ++ [(x.2.2.1, ((0 : Int), ([(239 : Int), y9.1], (0 : Int))))]) ++ y11.1), (y0.1, ((w64 (x.2.2.1 + (1 : Int))), (x.2.2.2.1, (y11.2.1, (y11.2.2.1, (y11.2.2.2.1, (y11.2.2.2.2.1, (y11.2.2.2.2.2.1, (y11.2.2.2.2.2.2.1, (y11.2.2.2.2.2.2.2.1, (y11.2.2.2.2.2.2.2.2.1, (y11.2.2.2.2.2.2.2.2.2.1, (y11.2.2.2.2.2.2.2.2.2.2.1, (y11.2.2.2.2.2.2.2.2.2.2.2.1, y11.2.2.2.2.2.2.2.2.2.2.2.2)))))))))))))))
            else
              none
          else
            none
        else
          ((machine_Encoder_Put fu ((w64 ((8192 : Int) + x.1)), (x.2.2.2.2.1, (x.2.2.2.2.2.1, (x.2.2.2.2.2.2.1, (x.2.2.2.2.2.2.2.1, (x.2.2.2.2.2.2.2.2.1, (x.2.2.2.2.2.2.2.2.2.1, (x.2.2.2.2.2.2.2.2.2.2.1, (x.2.2.2.2.2.2.2.2.2.2.2.1, (x.2.2.2.2.2.2.2.2.2.2.2.2.1, (x.2.2.2.2.2.2.2.2.2.2.2.2.2.1, (x.2.2.2.2.2.2.2.2.2.2.2.2.2.2.1, x.2.2.2.2.2.2.2.2.2.2.2.2.2.2.2)))))))))))))).bind fun y12 =>
          bif (decide ((((List.length ([] : List (Int × (Int × ((List Int) × Int))))) + (List.length y12.1)) * (48 : Nat)) ≤ ((2 : Nat) ^ (46 : Nat)))) then
            some ((([] : List (Int × (Int × ((List Int) × Int)))) ++ y12.1), (x.2.1, ((w64 (x.2.2.1 + (1 : Int))), (x.2.2.2.1, (y12.2.1, (y12.2.2.1, (y12.2.2.2.1, (y12.2.2.2.2.1, (y12.2.2.2.2.2.1, (y12.2.2.2.2.2.2.1, (y12.2.2.2.2.2.2.2.1, (y12.2.2.2.2.2.2.2.2.1, (y12.2.2.2.2.2.2.2.2.2.1, (y12.2.2.2.2.2.2.2.2.2.2.1, (y12.2.2.2.2.2.2.2.2.2.2.2.1, y12.2.2.2.2.2.2.2.2.2.2.2.2)))))))))))))))
          else
            none
      else
        ((machine_Encoder_Put fu ((w64 ((8192 : Int) + x.1)), (x.2.2.2.2.1, (x.2.2.2.2.2.1, (x.2.2.2.2.2.2.1, (x.2.2.2.2.2.2.2.1, (x.2.2.2.2.2.2.2.2.1, (x.2.2.2.2.2.2.2.2.2.1, (x.2.2.2.2.2.2.2.2.2.2.1, (x.2.2.2.2.2.2.2.2.2.2.2.1, (x.2.2.2.2.2.2.2.2.2.2.2.2.1, (x.2.2.2.2.2.2.2.2.2.2.2.2.2.1, (x.2.2.2.2.2.2.2.2.2.2.2.2.2.2.1, x.2.2.2.2.2.2.2.2.2.2.2.2.2.2.2)))))))))))))).bind fun y13 =>
        bif (decide ((((List.length ([] : List (Int × (Int × ((List Int) × Int))))) + (List.length y13.1)) * (48 : Nat)) ≤ ((2 : Nat) ^ (46 : Nat)))) then
          some ((([] : List (Int × (Int × ((List Int) × Int)))) ++ y13.1), (x.2.1, ((w64 (x.2.2.1 + (1 : Int))), (x.2.2.2.1, (y13.2.1, (y13.2.2.1, (y13.2.2.2.1, (y13.2.2.2.2.1, (y13.2.2.2.2.2.1, (y13.2.2.2.2.2.2.1, (y13.2.2.2.2.2.2.2.1, (y13.2.2.2.2.2.2.2.2.1, (y13.2.2.2.2.2.2.2.2.2.1, (y13.2.2.2.2.2.2.2.2.2.2.1, (y13.2.2.2.2.2.2.2.2.2.2.2.1, y13.2.2.2.2.2.2.2.2.2.2.2.2)))))))))))))))
        else
          none
    else
      bif y0.2.2 then
        bif (y0.1 != x.2.1) then
          ((machine_Encoder_End fu (x.2.2.2.2.1, (x.2.2.2.2.2.1, (x.2.2.2.2.2.2.1, (x.2.2.2.2.2.2.2.1, (x.2.2.2.2.2.2.2.2.1, (x.2.2.2.2.2.2.2.2.2.1, (x.2.2.2.2.2.2.2.2.2.2.1, (x.2.2.2.2.2.2.2.2.2.2.2.1, (x.2.2.2.2.2.2.2.2.2.2.2.2.1, (x.2.2.2.2.2.2.2.2.2.2.2.2.2.1, (x.2.2.2.2.2.2.2.2.2.2.2.2.2.2.1, x.2.2.2.2.2.2.2.2.2.2.2.2.2.2.2))))))))))))).bind fun y14 =>
          ((indic_Code fu y0.1)).bind fun y15 =>
          ((machine_Encoder_Apart fu (y14.2.1, (y14.2.2.1, (y14.2.2.2.1, (y14.2.2.2.2.1, (y14.2.2.2.2.2.1, (y14.2.2.2.2.2.2.1, (y14.2.2.2.2.2.2.2.1, (y14.2.2.2.2.2.2.2.2.1, (y14.2.2.2.2.2.2.2.2.2.1, (y14.2.2.2.2.2.2.2.2.2.2.1, (y14.2.2.2.2.2.2.2.2.2.2.2.1, y14.2.2.2.2.2.2.2.2.2.2.2.2))))))))))))).bind fun y16 =>
          bif (decide ((((List.length y14.1) + (List.length [(x.2.2.1, ((0 : Int), ([(239 : Int), y15.1], (0 : Int))))])) * (48 : Nat)) ≤ ((2 : Nat) ^ (46 : Nat)))) then
            ((machine_Encoder_Put fu (y0.2.1, (y16.1, (y16.2.1, (y16.2.2.1, (y16.2.2.2.1, (y16.2.2.2.2.1, (y16.2.2.2.2.2.1, (y16.2.2.2.2.2.2.1, (y16.2.2.2.2.2.2.2.1, (y16.2.2.2.2.2.2.2.2.1, (y16.2.2.2.2.2.2.2.2.2.1, (y16.2.2.2.2.2.2.2.2.2.2.1, y16.2.2.2.2.2.2.2.2.2.2.2)))))))))))))).bind fun y17 =>
            bif (decide ((((List.length (y14.1 ++ [(x.2.2.1, ((0 : Int), ([(239 : Int), y15.1], (0 : Int))))])) + (List.length y17.1)) * (48 : Nat)) ≤ ((2 : Nat) ^ (46 : Nat)))) then
              some (((y14.1 ++ [(x.2.2.1, ((0 : Int), ([(239 : Int), y15.1], (0 : Int))))]) ++ y17.1), (y0.1, ((w64 (x.2.2.1 + (1 : Int))), (x.2.2.2.1, (y17.2.1, (y17.2.2.1, (y17.2.2.2.1, (y17.2.2.2.2.1, (y17.2.2.2.2.2.1, (y17.2.2.2.2.2.2.1, (y17.2.2.2.2.2.2.2.1, (y17.2.2.2.2.2.2.2.2.1, (y17.2.2.2.2.2.2.2.2.2.1, (y17.2.2.2.2.2.2.2.2.2.2.1, (y17.2.2.2.2.2.2.2.2.2.2.2.1, y17.2.2.2.2.2.2.2.2.2.2.2.2)))))))))))))))
            else
              none
          else
            none
        else
          ((machine_Encoder_Put fu (y0.2.1, (x.2.2.2.2.1, (x.2.2.2.2.2.1, (x.2.2.2.2.2.2.1, (x.2.2.2.2.2.2.2.1, (x.2.2.2.2.2.2.2.2.1, (x.2.2.2.2.2.2.2.2.2.1, (x.2.2.2.2.2.2.2.2.2.2.1, (x.2.2.2.2.2.2.2.2.2.2.2.1, (x.2.2.2.2.2.2.2.2.2.2.2.2.1, (x.2.2.2.2.2.2.2.2.2.2.2.2.2.1, (x.2.2.2.2.2.2.2.2.2.2.2.2.2.2.1, x.2.2.2.2.2.2.2.2.2.2.2.2.2.2.2)))))))))))))).bind fun y18 =>
          bif (decide ((((List.length ([] : List (Int × (Int × ((List Int) × Int))))) + (List.length y18.1)) * (48 : Nat)) ≤ ((2 : Nat) ^ (46 : Nat)))) then
            some ((([] : List (Int × (Int × ((List Int) × Int)))) ++ y18.1), (x.2.1, ((w64 (x.2.2.1 + (1 : Int))), (x.2.2.2.1, (y18.2.1, (y18.2.2.1, (y18.2.2.2.1, (y18.2.2.2.2.1, (y18.2.2.2.2.2.1, (y18.2.2.2.2.2.2.1, (y18.2.2.2.2.2.2.2.1, (y18.2.2.2.2.2.2.2.2.1, (y18.2.2.2.2.2.2.2.2.2.1, (y18.2.2.2.2.2.2.2.2.2.2.1, (y18.2.2.2.2.2.2.2.2.2.2.2.1, y18.2.2.2.2.2.2.2.2.2.2.2.2)))))))))))))))
          else
            none
      else
        ((machine_Encoder_Put fu (y0.2.1, (x.2.2.2.2.1, (x.2.2.2.2.2.1, (x.2.2.2.2.2.2.1, (x.2.2.2.2.2.2.2.1, (x.2.2.2.2.2.2.2.2.1, (x.2.2.2.2.2.2.2.2.2.1, (x.2.2.2.2.2.2.2.2.2.2.1, (x.2.2.2.2.2.2.2.2.2.2.2.1, (x.2.2.2.2.2.2.2.2.2.2.2.2.1, (x.2.2.2.2.2.2.2.2.2.2.2.2.2.1, (x.2.2.2.2.2.2.2.2.2.2.2.2.2.2.1, x.2.2.2.2.2.2.2.2.2.2.2.2.2.2.2)))))))))))))).bind fun y19 =>
        bif (decide ((((List.length ([] : List (Int × (Int × ((List Int) × Int))))) + (List.length y19.1)) * (48 : Nat)) ≤ ((2 : Nat) ^ (46 : Nat)))) then
          some ((([] : List (Int × (Int × ((List Int) × Int)))) ++ y19.1), (x.2.1, ((w64 (x.2.2.1 + (1 : Int))), (x.2.2.2.1, (y19.2.1, (y19.2.2.1, (y19.2.2.2.1, (y19.2.2.2.2.1, (y19.2.2.2.2.2.1, (y19.2.2.2.2.2.2.1, (y19.2.2.2.2.2.2.2.1, (y19.2.2.2.2.2.2.2.2.1, (y19.2.2.2.2.2.2.2.2.2.1, (y19.2.2.2.2.2.2.2.2.2.2.1, (y19.2.2.2.2.2.2.2.2.2.2.2.1, y19.2.2.2.2.2.2.2.2.2.2.2.2)))))))))))))))
        else
          none
end Go.AM.M

namespace Go.AM.M
open Go.AM

def iscii_Encoder_End (fu : Nat) (x : (Int × (Int × (Int × (Int × (Int × ((List (Int × (Int × (Int × Int)))) × ((List ((List Int) × (List Int))) × ((List (Int × (Int × (Int × Int)))) × ((List ((List Int) × (List Int))) × ((List Int) × ((List (Int × (Int × (Int × Int)))) × ((List ((List Int) × (List Int))) × ((List Int) × (Int × Int))))))))))))))) : Option ((List (Int × (Int × ((List Int) × Int)))) × (Int × (Int × (Int × (Int × (Int × ((List (Int × (Int × (Int × Int)))) × ((List ((List Int) × (List Int))) × ((List (Int × (Int × (Int × Int)))) × ((List ((List Int) × (List Int))) × ((List Int) × ((List (Int × (Int × (Int × Int)))) × ((List ((List Int) × (List Int))) × ((List Int) × (Int × Int))))))))))))))) :=
  ((machine_Encoder_End fu (x.2.2.2.1, (x.2.2.2.2.1, (x.2.2.2.2.2.1, (x.2.2.2.2.2.2.1, (x.2.2.2.2.2.2.2.1, (x.2.2.2.2.2.2.2.2.1, (x.2.2.2.2.2.2.2.2.2.1, (x.2.2.2.2.2.2.2.2.2.2.1, (x.2.2.2.2.2.2.2.2.2.2.2.1, (x.2.2.2.2.2.2.2.2.2.2.2.2.1, (x.2.2.2.2.2.2.2.2.2.2.2.2.2.1, x.2.2.2.2.2.2.2.2.2.2.2.2.2.2))))))))))))).bind fun y0 =>
  some (y0.1, (x.1, (x.2.1, (x.2.2.1, (y0.2.1, (y0.2.2.1, (y0.2.2.2.1, (y0.2.2.2.2.1, (y0.2.2.2.2.2.1, (y0.2.2.2.2.2.2.1, (y0.2.2.2.2.2.2.2.1, (y0.2.2.2.2.2.2.2.2.1, (y0.2.2.2.2.2.2.2.2.2.1, (y0.2.2.2.2.2.2.2.2.2.2.1, (y0.2.2.2.2.2.2.2.2.2.2.2.1, y0.2.2.2.2.2.2.2.2.2.2.2.2)))))))))))))))
end Go.AM.M

namespace Go.AM.M
open Go.AM

def table_Table_Read (fu : Nat) (x : (Int × (Int × ((List (Int × (Int × (Int × Int)))) × ((List ((List Int) × (List Int))) × ((List (Int × (Int × (Int × Int)))) × (List ((List Int) × (List Int))))))))) : Option ((List (Int × (Int × (Int × Int)))) × (List ((List Int) × (List Int)))) :=
  some (x.2.2.1, x.2.2.2.1)
end Go.AM.M

namespace Go.AM.M
open Go.AM

def machine_Decode (fu : Nat) (x : (Int × (Int × ((List (Int × (Int × (Int × Int)))) × ((List ((List Int) × (List Int))) × ((List (Int × (Int × (Int × Int)))) × (List ((List Int) × (List Int))))))))) : Option ((List (Int × (Int × (Int × Int)))) × ((List ((List Int) × (List Int))) × ((List Int) × (Int × Int)))) :=
  ((table_Table_Read fu (x.1, (x.2.1, (x.2.2.1, (x.2.2.2.1, (x.2.2.2.2.1, x.2.2.2.2.2))))))).bind fun y0 =>
  ((match_Of fu (y0.1, y0.2))).bind fun y1 =>
  some (y1.1, (y1.2.1, (y1.2.2.1, (y1.2.2.2.1, y1.2.2.2.2))))
end Go.AM.M

namespace Go.AM.M
open Go.AM

def iscii_Decode (fu : Nat) (x : Unit) : Option ((List (Int × (Int × (Int × Int)))) × ((List ((List Int) × (List Int))) × ((List Int) × (Int × (Int × Int))))) :=
  ((iscii_all fu ())).bind fun y0 =>
  ((machine_Decode fu (y0.1, (y0.2.1, (y0.2.2.1, (y0.2.2.2.1, (y0.2.2.2.2.1, y0.2.2.2.2.2))))))).bind fun y1 =>
  some (y1.1, (y1.2.1, (y1.2.2.1, (y1.2.2.2.1, (y1.2.2.2.2, (0 : Int))))))
end Go.AM.M

namespace Go.AM.M
open Go.AM

def indic_Scalar (fu : Nat) (x : (Int × Int)) : Option Int :=
  some (w64 ((w64 ((2304 : Int) + (w64 ((128 : Int) * x.1)))) + x.2))
end Go.AM.M

namespace Go.AM.M
open Go.AM

def iscii_Decoder_mean_L0 (fu : Nat) (x : ((List (Int × (Int × ((List Int) × Int)))) × (Int × ((List Int) × (Int × (Int × ((List Int) × (Int × (Int × (Int × ((List (Int × (Int × (Int × Int)))) × ((List ((List Int) × (List Int))) × ((List Int) × (Int × (Int × (Int × (Int × ((List Int) × Int)))))))))))))))))) : Option (((List (Int × (Int × ((List Int) × Int)))) × (Int × ((List Int) × (Int × (Int × ((List Int) × (Int × (Int × (Int × ((List (Int × (Int × (Int × Int)))) × ((List ((List Int) × (List Int))) × ((List Int) × (Int × (Int × (Int × (Int × ((List Int) × Int))))))))))))))))) ⊕ (((List (Int × (Int × ((List Int) × Int)))) × (Int × (Int × (Int × ((List (Int × (Int × (Int × Int)))) × ((List ((List Int) × (List Int))) × ((List Int) × (Int × Int)))))))) ⊕ ((List (Int × (Int × ((List Int) × Int)))) × (Int × ((List (Int × (Int × (Int × Int)))) × ((List ((List Int) × (List Int))) × ((List Int) × (Int × Int)))))))) :=
  bif (decide (x.2.2.2.2.2.2.2.1 < x.2.2.2.2.2.2.1)) then
    ((nthI x.2.2.2.2.2.1 x.2.2.2.2.2.2.2.1)).bind fun y0 =>
    bif (decide (y0 ≥ (8192 : Int))) then
      bif (decide ((((List.length x.2.2.1) + (List.length [(w64 (y0 - (8192 : Int)))])) * (8 : Nat)) ≤ ((2 : Nat) ^ (46 : Nat)))) then
        some (Sum.inl (x.1, (x.2.1, ((x.2.2.1 ++ [(w64 (y0 - (8192 : Int)))]), (x.2.2.2.1, (x.2.2.2.2.1, (x.2.2.2.2.2.1, (x.2.2.2.2.2.2.1, ((w64 (x.2.2.2.2.2.2.2.1 + (1 : Int))), (x.2.2.2.2.2.2.2.2.1, (x.2.2.2.2.2.2.2.2.2.1, (x.2.2.2.2.2.2.2.2.2.2.1, (x.2.2.2.2.2.2.2.2.2.2.2.1, (x.2.2.2.2.2.2.2.2.2.2.2.2.1, (x.2.2.2.2.2.2.2.2.2.2.2.2.2.1, (x.2.2.2.2.2.2.2.2.2.2.2.2.2.2.1, (x.2.2.2.2.2.2.2.2.2.2.2.2.2.2.2.1, (x.2.2.2.2.2.2.2.2.2.2.2.2.2.2.2.2.1, x.2.2.2.2.2.2.2.2.2.2.2.2.2.2.2.2.2))))))))))))))))))
      else
        none
    else
      bif (decide (y0 ≥ (4096 : Int))) then
        some (Sum.inl (x.1, (x.2.1, (x.2.2.1, (x.2.2.2.1, (x.2.2.2.2.1, (x.2.2.2.2.2.1, (x.2.2.2.2.2.2.1, ((w64 (x.2.2.2.2.2.2.2.1 + (1 : Int))), ((w64 (y0 - (4096 : Int))), (x.2.2.2.2.2.2.2.2.2.1, (x.2.2.2.2.2.2.2.2.2.2.1, (x.2.2.2.2.2.2.2.2.2.2.2.1, (x.2.2.2.2.2.2.2.2.2.2.2.2.1, (x.2.2.2.2.2.2.2.2.2.2.2.2.2.1, (x.2.2.2.2.2.2.2.2.2.2.2.2.2.2.1, (x.2.2.2.2.2.2.2.2.2.2.2.2.2.2.2.1, (x.2.2.2.2.2.2.2.2.2.2.2.2.2.2.2.2.1, x.2.2.2.2.2.2.2.2.2.2.2.2.2.2.2.2.2))))))))))))))))))
      else
        ((indic_Scalar fu (x.2.2.2.2.2.2.2.2.1, y0))).bind fun y1 =>
        bif (decide ((((List.length x.2.2.1) + (List.length [y1])) * (8 : Nat)) ≤ ((2 : Nat) ^ (46 : Nat)))) then
          some (Sum.inl (x.1, (x.2.1, ((x.2.2.1 ++ [y1]), (x.2.2.2.1, (x.2.2.2.2.1, (x.2.2.2.2.2.1, (x.2.2.2.2.2.2.1, ((w64 (x.2.2.2.2.2.2.2.1 + (1 : Int))), (x.2.2.2.2.2.2.2.2.1, (x.2.2.2.2.2.2.2.2.2.1, (x.2.2.2.2.2.2.2.2.2.2.1, (x.2.2.2.2.2.2.2.2.2.2.2.1, (x.2.2.2.2.2.2.2.2.2.2.2.2.1, (x.2.2.2.2.2.2.2.2.2.2.2.2.2.1, (x.2.2.2.2.2.2.2.2.2.2.2.2.2.2.1, (x.2.2.2.2.2.2.2.2.2.2.2.2.2.2.2.1, (x.2.2.2.2.2.2.2.2.2.2.2.2.2.2.2.2.1, x.2.2.2.2.2.2.2.2.2.2.2.2.2.2.2.2.2))))))))))))))))))
        else
          none
  else
    Option.map Sum.inr (
      ((nthI x.1 x.2.1)).bind fun y2 =>
      ((GetElem?.getElem? x.1 (Int.toNat x.2.1))).bind fun y3 =>
      some (Sum.inl ((List.set x.1 (Int.toNat x.2.1) (y3.1, (y3.2.1, (x.2.2.1, y3.2.2.2)))), (x.2.2.2.1, ((w64 (x.2.2.2.2.1 + (1 : Int))), (x.2.2.2.2.2.2.2.2.1, (x.2.2.2.2.2.2.2.2.2.1, (x.2.2.2.2.2.2.2.2.2.2.1, (x.2.2.2.2.2.2.2.2.2.2.2.1, (x.2.2.2.2.2.2.2.2.2.2.2.2.1, x.2.2.2.2.2.2.2.2.2.2.2.2.2.1))))))))))

def iscii_Decoder_mean_L1 (fu : Nat) (x : ((List (Int × (Int × ((List Int) × Int)))) × (Int × (Int × (Int × ((List (Int × (Int × (Int × Int)))) × ((List ((List Int) × (List Int))) × ((List Int) × (Int × Int))))))))) : Option (((List (Int × (Int × ((List Int) × Int)))) × (Int × (Int × (Int × ((List (Int × (Int × (Int × Int)))) × ((List ((List Int) × (List Int))) × ((List Int) × (Int × Int)))))))) ⊕ ((List (Int × (Int × ((List Int) × Int)))) × (Int × ((List (Int × (Int × (Int × Int)))) × ((List ((List Int) × (List Int))) × ((List Int) × (Int × Int))))))) :=
  bif (decide (x.2.2.1 < x.2.1)) then
    ((nthI x.1 x.2.2.1)).bind fun y0 =>
    ((GetElem?.getElem? x.1 (Int.toNat x.2.2.1))).bind fun y1 =>
    loopM (iscii_Decoder_mean_L0 fu) fu (x.1, (x.2.2.1, (([] : List Int), (x.2.1, (x.2.2.1, (y1.2.2.1, ((↑((List.length y1.2.2.1)) : Int), ((0 : Int), (x.2.2.2.1, (x.2.2.2.2.1, (x.2.2.2.2.2.1, (x.2.2.2.2.2.2.1, (x.2.2.2.2.2.2.2.1, (x.2.2.2.2.2.2.2.2, (y1.1, (y1.2.1, (y1.2.2.1, y1.2.2.2)))))))))))))))))
  else
    some (Sum.inr (x.1, (x.2.2.2.1, (x.2.2.2.2.1, (x.2.2.2.2.2.1, (x.2.2.2.2.2.2.1, (x.2.2.2.2.2.2.2.1, x.2.2.2.2.2.2.2.2)))))))

def iscii_Decoder_mean (fu : Nat) (x : ((List (Int × (Int × ((List Int) × Int)))) × (Int × ((List (Int × (Int × (Int × Int)))) × ((List ((List Int) × (List Int))) × ((List Int) × (Int × Int))))))) : Option ((List (Int × (Int × ((List Int) × Int)))) × (Int × ((List (Int × (Int × (Int × Int)))) × ((List ((List Int) × (List Int))) × ((List Int) × (Int × Int)))))) :=
  loopM (iscii_Decoder_mean_L1 fu) fu (x.1, ((↑((List.length x.1)) : Int), ((0 : Int), (x.2.1, (x.2.2.1, (x.2.2.2.1, (x.2.2.2.2.1, (x.2.2.2.2.2.1, x.2.2.2.2.2.2))))))))
end Go.AM.M

namespace Go.AM.M
open Go.AM

def iscii_Decoder_Put (fu : Nat) (x : (Int × (Int × ((List (Int × (Int × (Int × Int)))) × ((List ((List Int) × (List Int))) × ((List Int) × (Int × Int))))))) : Option ((List (Int × (Int × ((List Int) × Int)))) × (Int × ((List (Int × (Int × (Int × Int)))) × ((List ((List Int) × (List Int))) × ((List Int) × (Int × Int)))))) :=
  ((match_Match_Put fu (x.1, (x.2.2.1, (x.2.2.2.1, (x.2.2.2.2.1, (x.2.2.2.2.2.1, x.2.2.2.2.2.2))))))).bind fun y0 =>
  ((iscii_Decoder_mean fu (y0.1, (x.2.1, (y0.2.1, (y0.2.2.1, (y0.2.2.2.1, (y0.2.2.2.2.1, y0.2.2.2.2.2)))))))).bind fun y1 =>
  some (y1.1, (y1.2.1, (y1.2.2.1, (y1.2.2.2.1, (y1.2.2.2.2.1, (y1.2.2.2.2.2.1, y1.2.2.2.2.2.2))))))
end Go.AM.M

namespace Go.AM.M
open Go.AM

def iscii_Decoder_End (fu : Nat) (x : (Int × ((List (Int × (Int × (Int × Int)))) × ((List ((List Int) × (List Int))) × ((List Int) × (Int × Int)))))) : Option ((List (Int × (Int × ((List Int) × Int)))) × (Int × ((List (Int × (Int × (Int × Int)))) × ((List ((List Int) × (List Int))) × ((List Int) × (Int × Int)))))) :=
  ((match_Match_End fu (x.2.1, (x.2.2.1, (x.2.2.2.1, (x.2.2.2.2.1, x.2.2.2.2.2)))))).bind fun y0 =>
  ((iscii_Decoder_mean fu (y0.1, (x.1, (y0.2.1, (y0.2.2.1, (y0.2.2.2.1, (y0.2.2.2.2.1, y0.2.2.2.2.2)))))))).bind fun y1 =>
  some (y1.1, (y1.2.1, (y1.2.2.1, (y1.2.2.2.1, (y1.2.2.2.2.1, (y1.2.2.2.2.2.1, y1.2.2.2.2.2.2))))))
end Go.AM.M

namespace Go.AM.M
open Go.AM

def iscii_Decoder_Script (fu : Nat) (x : (Int × ((List (Int × (Int × (Int × Int)))) × ((List ((List Int) × (List Int))) × ((List Int) × (Int × Int)))))) : Option (Int × (Int × ((List (Int × (Int × (Int × Int)))) × ((List ((List Int) × (List Int))) × ((List Int) × (Int × Int)))))) :=
  some (x.1, (x.1, (x.2.1, (x.2.2.1, (x.2.2.2.1, (x.2.2.2.2.1, x.2.2.2.2.2))))))
end Go.AM.M

namespace Go.AM.M
open Go.AM

def lontarlaw18_awake_L0 (fu : Nat) (x : ((List Int) × ((List Int) × (Int × (Int × ((List (Int × (Int × ((List Int) × Int)))) × (Int × (Int × ((List (Int × (Int × (Int × Int)))) × ((List ((List Int) × (List Int))) × ((List Int) × (Int × (Int × (Int × (Int × ((List (Int × (Int × (Int × Int)))) × ((List ((List Int) × (List Int))) × ((List (Int × (Int × (Int × Int)))) × ((List ((List Int) × (List Int))) × ((List Int) × (Int × (Int × (Int × ((List (Int × (Int × (Int × Int)))) × ((List ((List Int) × (List Int))) × ((List Int) × (Int × (Int × Int)))))))))))))))))))))))))))) : Option (((List Int) × ((List Int) × (Int × (Int × ((List (Int × (Int × ((List Int) × Int)))) × (Int × (Int × ((List (Int × (Int × (Int × Int)))) × ((List ((List Int) × (List Int))) × ((List Int) × (Int × (Int × (Int × (Int × ((List (Int × (Int × (Int × Int)))) × ((List ((List Int) × (List Int))) × ((List (Int × (Int × (Int × Int)))) × ((List ((List Int) × (List Int))) × ((List Int) × (Int × (Int × (Int × ((List (Int × (Int × (Int × Int)))) × ((List ((List Int) × (List Int))) × ((List Int) × (Int × (Int × Int))))))))))))))))))))))))))) ⊕ (((List Int) × ((List Int) × (Int × (Int × ((List (Int × (Int × (Int × Int)))) × ((List ((List Int) × (List Int))) × ((List Int) × (Int × (Int × (Int × (Int × ((List (Int × (Int × (Int × Int)))) × ((List ((List Int) × (List Int))) × ((List (Int × (Int × (Int × Int)))) × ((List ((List Int) × (List Int))) × ((List Int) × (Int × (Int × (Int × ((List (Int × (Int × (Int × Int)))) × ((List ((List Int) × (List Int))) × ((List Int) × (Int × (Int × Int)))))))))))))))))))))))) ⊕ Bool)) :=
  bif (decide (x.2.2.2.2.2.2.1 < x.2.2.2.2.2.1)) then
    ((nthI x.2.2.2.2.1 x.2.2.2.2.2.2.1)).bind fun y0 =>
    ((GetElem?.getElem? x.2.2.2.2.1 (Int.toNat x.2.2.2.2.2.2.1))).bind fun y1 =>
    bif (decide ((((List.length x.2.1) + (List.length y1.2.2.1)) * (8 : Nat)) ≤ ((2 : Nat) ^ (46 : Nat)))) then
      some (Sum.inl (x.1, ((x.2.1 ++ y1.2.2.1), (x.2.2.1, (x.2.2.2.1, (x.2.2.2.2.1, (x.2.2.2.2.2.1, ((w64 (x.2.2.2.2.2.2.1 + (1 : Int))), (x.2.2.2.2.2.2.2.1, (x.2.2.2.2.2.2.2.2.1, (x.2.2.2.2.2.2.2.2.2.1, (x.2.2.2.2.2.2.2.2.2.2.1, (x.2.2.2.2.2.2.2.2.2.2.2.1, (x.2.2.2.2.2.2.2.2.2.2.2.2.1, (x.2.2.2.2.2.2.2.2.2.2.2.2.2.1, (x.2.2.2.2.2.2.2.2.2.2.2.2.2.2.1, (x.2.2.2.2.2.2.2.2.2.2.2.2.2.2.2.1, (x.2.2.2.2.2.2.2.2.2.2.2.2.2.2.2.2.1, (x.2.2.2.2.2.2.2.2.2.2.2.2.2.2.2.2.2.1, (x.2.2.2.2.2.2.2.2.2.2.2.2.2.2.2.2.2.2.1, (x.2.2.2.2.2.2.2.2.2.2.2.2.2.2.2.2.2.2.2.1, (x.2.2.2.2.2.2.2.2.2.2.2.2.2.2.2.2.2.2.2.2.1, (x.2.2.2.2.2.2.2.2.2.2.2.2.2.2.2.2.2.2.2.2.2.1, (x.2.2.2.2.2.2.2.2.2.2.2.2.2.2.2.2.2.2.2.2.2.2.1, (x.2.2.2.2.2.2.2.2.2.2.2.2.2.2.2.2.2.2.2.2.2.2.2.1, (x.2.2.2.2.2.2.2.2.2.2.2.2.2.2.2.2.2.2.2.2.2.2.2.2.1, (x.2.2.2.2.2.2.2.2.2.2.2.2.2.2.2.2.2.2.2.2.2.2.2.2.2.1, (x.2.2.2.2.2.2.2.2.2.2.2.2.2.2.2.2.2.2.2.2.2.2.2.2.2.2.1, x.2.2.2.2.2.2.2.2.2.2.2.2.2.2.2.2.2.2.2.2.2.2.2.2.2.2.2))))))))))))))))))))))))))))
    else
      none
  else
    some (Sum.inr (Sum.inl (x.1, (x.2.1, (x.2.2.1, ((w64 (x.2.2.2.1 + (1 : Int))), (x.2.2.2.2.2.2.2.1, (x.2.2.2.2.2.2.2.2.1, (x.2.2.2.2.2.2.2.2.2.1, (x.2.2.2.2.2.2.2.2.2.2.1, (x.2.2.2.2.2.2.2.2.2.2.2.1, (x.2.2.2.2.2.2.2.2.2.2.2.2.1, (x.2.2.2.2.2.2.2.2.2.2.2.2.2.1, (x.2.2.2.2.2.2.2.2.2.2.2.2.2.2.1, (x.2.2.2.2.2.2.2.2.2.2.2.2.2.2.2.1, (x.2.2.2.2.2.2.2.2.2.2.2.2.2.2.2.2.1, (x.2.2.2.2.2.2.2.2.2.2.2.2.2.2.2.2.2.1, (x.2.2.2.2.2.2.2.2.2.2.2.2.2.2.2.2.2.2.1, (x.2.2.2.2.2.2.2.2.2.2.2.2.2.2.2.2.2.2.2.1, (x.2.2.2.2.2.2.2.2.2.2.2.2.2.2.2.2.2.2.2.2.1, (x.2.2.2.2.2.2.2.2.2.2.2.2.2.2.2.2.2.2.2.2.2.1, (x.2.2.2.2.2.2.2.2.2.2.2.2.2.2.2.2.2.2.2.2.2.2.1, (x.2.2.2.2.2.2.2.2.2.2.2.2.2.2.2.2.2.2.2.2.2.2.2.1, (x.2.2.2.2.2.2.2.2.2.2.2.2.2.2.2.2.2.2.2.2.2.2.2.2.1, (x.2.2.2.2.2.2.2.2.2.2.2.2.2.2.2.2.2.2.2.2.2.2.2.2.2.1, (x.2.2.2.2.2.2.2.2.2.2.2.2.2.2.2.2.2.2.2.2.2.2.2.2.2.2.1, x.2.2.2.2.2.2.2.2.2.2.2.2.2.2.2.2.2.2.2.2.2.2.2.2.2.2.2))))))))))))))))))))))))))

def lontarlaw18_awake_L1 (fu : Nat) (x : ((List Int) × ((List Int) × ((List (Int × (Int × ((List Int) × Int)))) × (Int × (Int × ((List (Int × (Int × (Int × Int)))) × ((List ((List Int) × (List Int))) × ((List Int) × (Int × (Int × (Int × (Int × ((List (Int × (Int × (Int × Int)))) × ((List ((List Int) × (List Int))) × ((List (Int × (Int × (Int × Int)))) × ((List ((List Int) × (List Int))) × ((List Int) × (Int × (Int × (Int × ((List (Int × (Int × (Int × Int)))) × ((List ((List Int) × (List Int))) × ((List Int) × (Int × (Int × Int)))))))))))))))))))))))))) : Option (((List Int) × ((List Int) × ((List (Int × (Int × ((List Int) × Int)))) × (Int × (Int × ((List (Int × (Int × (Int × Int)))) × ((List ((List Int) × (List Int))) × ((List Int) × (Int × (Int × (Int × (Int × ((List (Int × (Int × (Int × Int)))) × ((List ((List Int) × (List Int))) × ((List (Int × (Int × (Int × Int)))) × ((List ((List Int) × (List Int))) × ((List Int) × (Int × (Int × (Int × ((List (Int × (Int × (Int × Int)))) × ((List ((List Int) × (List Int))) × ((List Int) × (Int × (Int × Int))))))))))))))))))))))))) ⊕ Bool) :=
  bif (decide (x.2.2.2.2.1 < x.2.2.2.1)) then
    ((nthI x.2.2.1 x.2.2.2.2.1)).bind fun y0 =>
    ((GetElem?.getElem? x.2.2.1 (Int.toNat x.2.2.2.2.1))).bind fun y1 =>
    bif (decide ((((List.length x.2.1) + (List.length y1.2.2.1)) * (8 : Nat)) ≤ ((2 : Nat) ^ (46 : Nat)))) then
      some (Sum.inl (x.1, ((x.2.1 ++ y1.2.2.1), (x.2.2.1, (x.2.2.2.1, ((w64 (x.2.2.2.2.1 + (1 : Int))), (x.2.2.2.2.2.1, (x.2.2.2.2.2.2.1, (x.2.2.2.2.2.2.2.1, (x.2.2.2.2.2.2.2.2.1, (x.2.2.2.2.2.2.2.2.2.1, (x.2.2.2.2.2.2.2.2.2.2.1, (x.2.2.2.2.2.2.2.2.2.2.2.1, (x.2.2.2.2.2.2.2.2.2.2.2.2.1, (x.2.2.2.2.2.2.2.2.2.2.2.2.2.1, (x.2.2.2.2.2.2.2.2.2.2.2.2.2.2.1, (x.2.2.2.2.2.2.2.2.2.2.2.2.2.2.2.1, (x.2.2.2.2.2.2.2.2.2.2.2.2.2.2.2.2.1, (x.2.2.2.2.2.2.2.2.2.2.2.2.2.2.2.2.2.1, (x.2.2.2.2.2.2.2.2.2.2.2.2.2.2.2.2.2.2.1, (x.2.2.2.2.2.2.2.2.2.2.2.2.2.2.2.2.2.2.2.1, (x.2.2.2.2.2.2.2.2.2.2.2.2.2.2.2.2.2.2.2.2.1, (x.2.2.2.2.2.2.2.2.2.2.2.2.2.2.2.2.2.2.2.2.2.1, (x.2.2.2.2.2.2.2.2.2.2.2.2.2.2.2.2.2.2.2.2.2.2.1, (x.2.2.2.2.2.2.2.2.2.2.2.2.2.2.2.2.2.2.2.2.2.2.2.1, (x.2.2.2.2.2.2.2.2.2.2.2.2.2.2.2.2.2.2.2.2.2.2.2.2.1, x.2.2.2.2.2.2.2.2.2.2.2.2.2.2.2.2.2.2.2.2.2.2.2.2.2))))))))))))))))))))))))))
    else
      none
  else
    Option.map Sum.inr (
      ((lontarlaw01_Units fu (x.1, [(239 : Int), (67 : Int), (179 : Int)]))).bind fun y2 =>
      bif y2 then
        ((lontarlaw01_Units fu (x.2.1, [(2453 : Int)]))).bind fun y3 =>
        bif y3 then
          ((iscii_Decoder_Script fu (x.2.2.2.2.2.2.2.2.2.2.2.2.2.2.2.2.2.2.2.2.2.2.2.2.2, (x.2.2.2.2.2.2.2.2.2.2.2.2.2.2.2.2.2.2.2.2.1, (x.2.2.2.2.2.2.2.2.2.2.2.2.2.2.2.2.2.2.2.2.2.1, (x.2.2.2.2.2.2.2.2.2.2.2.2.2.2.2.2.2.2.2.2.2.2.1, (x.2.2.2.2.2.2.2.2.2.2.2.2.2.2.2.2.2.2.2.2.2.2.2.1, x.2.2.2.2.2.2.2.2.2.2.2.2.2.2.2.2.2.2.2.2.2.2.2.2.1))))))).bind fun y4 =>
          some (y4.1 == (1 : Int))
        else
          some false
      else
        some false)

def lontarlaw18_awake_L2 (fu : Nat) (x : ((List Int) × ((List Int) × (Int × (Int × ((List (Int × (Int × (Int × Int)))) × ((List ((List Int) × (List Int))) × ((List Int) × (Int × (Int × (Int × (Int × ((List (Int × (Int × (Int × Int)))) × ((List ((List Int) × (List Int))) × ((List (Int × (Int × (Int × Int)))) × ((List ((List Int) × (List Int))) × ((List Int) × (Int × (Int × (Int × ((List (Int × (Int × (Int × Int)))) × ((List ((List Int) × (List Int))) × ((List Int) × (Int × (Int × Int))))))))))))))))))))))))) : Option (((List Int) × ((List Int) × (Int × (Int × ((List (Int × (Int × (Int × Int)))) × ((List ((List Int) × (List Int))) × ((List Int) × (Int × (Int × (Int × (Int × ((List (Int × (Int × (Int × Int)))) × ((List ((List Int) × (List Int))) × ((List (Int × (Int × (Int × Int)))) × ((List ((List Int) × (List Int))) × ((List Int) × (Int × (Int × (Int × ((List (Int × (Int × (Int × Int)))) × ((List ((List Int) × (List Int))) × ((List Int) × (Int × (Int × Int)))))))))))))))))))))))) ⊕ Bool) :=
  bif (decide (x.2.2.2.1 < x.2.2.1)) then
    ((nthI x.1 x.2.2.2.1)).bind fun y0 =>
    ((GetElem?.getElem? x.1 (Int.toNat x.2.2.2.1))).bind fun y1 =>
    ((iscii_Decoder_Put fu (y1, (x.2.2.2.2.2.2.2.2.2.2.2.2.2.2.2.2.2.2.2.2.2.2.2.2, (x.2.2.2.2.2.2.2.2.2.2.2.2.2.2.2.2.2.2.2.1, (x.2.2.2.2.2.2.2.2.2.2.2.2.2.2.2.2.2.2.2.2.1, (x.2.2.2.2.2.2.2.2.2.2.2.2.2.2.2.2.2.2.2.2.2.1, (x.2.2.2.2.2.2.2.2.2.2.2.2.2.2.2.2.2.2.2.2.2.2.1, x.2.2.2.2.2.2.2.2.2.2.2.2.2.2.2.2.2.2.2.2.2.2.2.1)))))))).bind fun y2 =>
    loopM (lontarlaw18_awake_L0 fu) fu (x.1, (x.2.1, (x.2.2.1, (x.2.2.2.1, (y2.1, ((↑((List.length y2.1)) : Int), ((0 : Int), (x.2.2.2.2.1, (x.2.2.2.2.2.1, (x.2.2.2.2.2.2.1, (x.2.2.2.2.2.2.2.1, (x.2.2.2.2.2.2.2.2.1, (x.2.2.2.2.2.2.2.2.2.1, (x.2.2.2.2.2.2.2.2.2.2.1, (x.2.2.2.2.2.2.2.2.2.2.2.1, (x.2.2.2.2.2.2.2.2.2.2.2.2.1, (x.2.2.2.2.2.2.2.2.2.2.2.2.2.1, (x.2.2.2.2.2.2.2.2.2.2.2.2.2.2.1, (x.2.2.2.2.2.2.2.2.2.2.2.2.2.2.2.1, (x.2.2.2.2.2.2.2.2.2.2.2.2.2.2.2.2.1, (x.2.2.2.2.2.2.2.2.2.2.2.2.2.2.2.2.2.1, (x.2.2.2.2.2.2.2.2.2.2.2.2.2.2.2.2.2.2.1, (y2.2.2.1, (y2.2.2.2.1, (y2.2.2.2.2.1, (y2.2.2.2.2.2.1, (y2.2.2.2.2.2.2, y2.2.1)))))))))))))))))))))))))))
  else
    Option.map Sum.inr (
      ((iscii_Decoder_End fu (x.2.2.2.2.2.2.2.2.2.2.2.2.2.2.2.2.2.2.2.2.2.2.2.2, (x.2.2.2.2.2.2.2.2.2.2.2.2.2.2.2.2.2.2.2.1, (x.2.2.2.2.2.2.2.2.2.2.2.2.2.2.2.2.2.2.2.2.1, (x.2.2.2.2.2.2.2.2.2.2.2.2.2.2.2.2.2.2.2.2.2.1, (x.2.2.2.2.2.2.2.2.2.2.2.2.2.2.2.2.2.2.2.2.2.2.1, x.2.2.2.2.2.2.2.2.2.2.2.2.2.2.2.2.2.2.2.2.2.2.2.1))))))).bind fun y3 =>
      loopM (lontarlaw18_awake_L1 fu) fu (x.1, (x.2.1, (y3.1, ((↑((List.length y3.1)) : Int), ((0 : Int), (x.2.2.2.2.1, (x.2.2.2.2.2.1, (x.2.2.2.2.2.2.1, (x.2.2.2.2.2.2.2.1, (x.2.2.2.2.2.2.2.2.1, (x.2.2.2.2.2.2.2.2.2.1, (x.2.2.2.2.2.2.2.2.2.2.1, (x.2.2.2.2.2.2.2.2.2.2.2.1, (x.2.2.2.2.2.2.2.2.2.2.2.2.1, (x.2.2.2.2.2.2.2.2.2.2.2.2.2.1, (x.2.2.2.2.2.2.2.2.2.2.2.2.2.2.1, (x.2.2.2.2.2.2.2.2.2.2.2.2.2.2.2.1, (x.2.2.2.2.2.2.2.2.2.2.2.2.2.2.2.2.1, (x.2.2.2.2.2.2.2.2.2.2.2.2.2.2.2.2.2.1, (x.2.2.2.2.2.2.2.2.2.2.2.2.2.2.2.2.2.2.1, (y3.2.2.1, (y3.2.2.2.1, (y3.2.2.2.2.1, (y3.2.2.2.2.2.1, (y3.2.2.2.2.2.2, y3.2.1))))))))))))))))))))))))))

def lontarlaw18_awake_L3 (fu : Nat) (x : ((List Int) × ((List (Int × (Int × ((List Int) × Int)))) × (Int × (Int × ((List (Int × (Int × (Int × Int)))) × ((List ((List Int) × (List Int))) × ((List Int) × (Int × (Int × (Int × (Int × ((List (Int × (Int × (Int × Int)))) × ((List ((List Int) × (List Int))) × ((List (Int × (Int × (Int × Int)))) × ((List ((List Int) × (List Int))) × ((List Int) × (Int × (Int × (Int × ((List (Int × (Int × (Int × Int)))) × ((List ((List Int) × (List Int))) × ((List Int) × (Int × (Int × Int))))))))))))))))))))))))) : Option (((List Int) × ((List (Int × (Int × ((List Int) × Int)))) × (Int × (Int × ((List (Int × (Int × (Int × Int)))) × ((List ((List Int) × (List Int))) × ((List Int) × (Int × (Int × (Int × (Int × ((List (Int × (Int × (Int × Int)))) × ((List ((List Int) × (List Int))) × ((List (Int × (Int × (Int × Int)))) × ((List ((List Int) × (List Int))) × ((List Int) × (Int × (Int × (Int × ((List (Int × (Int × (Int × Int)))) × ((List ((List Int) × (List Int))) × ((List Int) × (Int × (Int × Int)))))))))))))))))))))))) ⊕ Bool) :=
  bif (decide (x.2.2.2.1 < x.2.2.1)) then
    ((nthI x.2.1 x.2.2.2.1)).bind fun y0 =>
    ((GetElem?.getElem? x.2.1 (Int.toNat x.2.2.2.1))).bind fun y1 =>
    bif (decide ((((List.length x.1) + (List.length y1.2.2.1)) * (8 : Nat)) ≤ ((2 : Nat) ^ (46 : Nat)))) then
      some (Sum.inl ((x.1 ++ y1.2.2.1), (x.2.1, (x.2.2.1, ((w64 (x.2.2.2.1 + (1 : Int))), (x.2.2.2.2.1, (x.2.2.2.2.2.1, (x.2.2.2.2.2.2.1, (x.2.2.2.2.2.2.2.1, (x.2.2.2.2.2.2.2.2.1, (x.2.2.2.2.2.2.2.2.2.1, (x.2.2.2.2.2.2.2.2.2.2.1, (x.2.2.2.2.2.2.2.2.2.2.2.1, (x.2.2.2.2.2.2.2.2.2.2.2.2.1, (x.2.2.2.2.2.2.2.2.2.2.2.2.2.1, (x.2.2.2.2.2.2.2.2.2.2.2.2.2.2.1, (x.2.2.2.2.2.2.2.2.2.2.2.2.2.2.2.1, (x.2.2.2.2.2.2.2.2.2.2.2.2.2.2.2.2.1, (x.2.2.2.2.2.2.2.2.2.2.2.2.2.2.2.2.2.1, (x.2.2.2.2.2.2.2.2.2.2.2.2.2.2.2.2.2.2.1, (x.2.2.2.2.2.2.2.2.2.2.2.2.2.2.2.2.2.2.2.1, (x.2.2.2.2.2.2.2.2.2.2.2.2.2.2.2.2.2.2.2.2.1, (x.2.2.2.2.2.2.2.2.2.2.2.2.2.2.2.2.2.2.2.2.2.1, (x.2.2.2.2.2.2.2.2.2.2.2.2.2.2.2.2.2.2.2.2.2.2.1, (x.2.2.2.2.2.2.2.2.2.2.2.2.2.2.2.2.2.2.2.2.2.2.2.1, x.2.2.2.2.2.2.2.2.2.2.2.2.2.2.2.2.2.2.2.2.2.2.2.2)))))))))))))))))))))))))
    else
      none
  else
    Option.map Sum.inr (
      loopM (lontarlaw18_awake_L2 fu) fu (x.1, (([] : List Int), ((↑((List.length x.1)) : Int), ((0 : Int), (x.2.2.2.2.1, (x.2.2.2.2.2.1, (x.2.2.2.2.2.2.1, (x.2.2.2.2.2.2.2.1, (x.2.2.2.2.2.2.2.2.1, (x.2.2.2.2.2.2.2.2.2.1, (x.2.2.2.2.2.2.2.2.2.2.1, (x.2.2.2.2.2.2.2.2.2.2.2.1, (x.2.2.2.2.2.2.2.2.2.2.2.2.1, (x.2.2.2.2.2.2.2.2.2.2.2.2.2.1, (x.2.2.2.2.2.2.2.2.2.2.2.2.2.2.1, (x.2.2.2.2.2.2.2.2.2.2.2.2.2.2.2.1, (x.2.2.2.2.2.2.2.2.2.2.2.2.2.2.2.2.1, (x.2.2.2.2.2.2.2.2.2.2.2.2.2.2.2.2.2.1, (x.2.2.2.2.2.2.2.2.2.2.2.2.2.2.2.2.2.2.1, (x.2.2.2.2.2.2.2.2.2.2.2.2.2.2.2.2.2.2.2.1, (x.2.2.2.2.2.2.2.2.2.2.2.2.2.2.2.2.2.2.2.2.1, (x.2.2.2.2.2.2.2.2.2.2.2.2.2.2.2.2.2.2.2.2.2.1, (x.2.2.2.2.2.2.2.2.2.2.2.2.2.2.2.2.2.2.2.2.2.2.1, (x.2.2.2.2.2.2.2.2.2.2.2.2.2.2.2.2.2.2.2.2.2.2.2.1, x.2.2.2.2.2.2.2.2.2.2.2.2.2.2.2.2.2.2.2.2.2.2.2.2)))))))))))))))))))))))))

def lontarlaw18_awake (fu : Nat) (x : Unit) : Option Bool :=
  ((iscii_Encode fu ())).bind fun y0 =>
  ((iscii_Decode fu ())).bind fun y1 =>
  ((iscii_Encoder_Put fu ((2453 : Int), (y0.2.2.2.2.2.2.2.2.2.2.2.2.1, (y0.2.2.2.2.2.2.2.2.2.2.2.2.2.1, (y0.2.2.2.2.2.2.2.2.2.2.2.2.2.2, (y0.2.2.2.2.2.1, (y0.2.2.2.2.2.2.1, (y0.2.2.2.2.2.2.2.1, (y0.2.2.2.2.2.2.2.2.1, (y0.2.2.2.2.2.2.2.2.2.1, (y0.2.2.2.2.2.2.2.2.2.2.1, (y0.2.2.2.2.2.2.2.2.2.2.2.1, (y0.1, (y0.2.1, (y0.2.2.1, (y0.2.2.2.1, y0.2.2.2.2.1))))))))))))))))).bind fun y2 =>
  ((iscii_Encoder_End fu (y2.2.1, (y2.2.2.1, (y2.2.2.2.1, (y2.2.2.2.2.1, (y2.2.2.2.2.2.1, (y2.2.2.2.2.2.2.1, (y2.2.2.2.2.2.2.2.1, (y2.2.2.2.2.2.2.2.2.1, (y2.2.2.2.2.2.2.2.2.2.1, (y2.2.2.2.2.2.2.2.2.2.2.1, (y2.2.2.2.2.2.2.2.2.2.2.2.1, (y2.2.2.2.2.2.2.2.2.2.2.2.2.1, (y2.2.2.2.2.2.2.2.2.2.2.2.2.2.1, (y2.2.2.2.2.2.2.2.2.2.2.2.2.2.2.1, y2.2.2.2.2.2.2.2.2.2.2.2.2.2.2.2)))))))))))))))).bind fun y3 =>
  bif (decide ((((List.length y2.1) + (List.length y3.1)) * (48 : Nat)) ≤ ((2 : Nat) ^ (46 : Nat)))) then
    loopM (lontarlaw18_awake_L3 fu) fu (([] : List Int), ((y2.1 ++ y3.1), ((↑((List.length (y2.1 ++ y3.1))) : Int), ((0 : Int), (y3.2.2.2.2.2.2.2.2.2.2.2.1, (y3.2.2.2.2.2.2.2.2.2.2.2.2.1, (y3.2.2.2.2.2.2.2.2.2.2.2.2.2.1, (y3.2.2.2.2.2.2.2.2.2.2.2.2.2.2.1, (y3.2.2.2.2.2.2.2.2.2.2.2.2.2.2.2, (y3.2.2.2.2.1, (y3.2.2.2.2.2.1, (y3.2.2.2.2.2.2.1, (y3.2.2.2.2.2.2.2.1, (y3.2.2.2.2.2.2.2.2.1, (y3.2.2.2.2.2.2.2.2.2.1, (y3.2.2.2.2.2.2.2.2.2.2.1, (y3.2.1, (y3.2.2.1, (y3.2.2.2.1, (y1.1, (y1.2.1, (y1.2.2.1, (y1.2.2.2.1, (y1.2.2.2.2.1, y1.2.2.2.2.2))))))))))))))))))))))))
  else
    none
end Go.AM.M

namespace Go.AM.M
open Go.AM

def lontarlaw14_Codes (fu : Nat) (x : Unit) : Option (List Int) :=
  some [(66 : Int), (67 : Int), (75 : Int), (74 : Int), (71 : Int), (68 : Int), (69 : Int), (72 : Int), (73 : Int)]
end Go.AM.M

namespace Go.AM.M
open Go.AM

def lontarlaw18_Scalars_L0 (fu : Nat) (x : ((List Int) × ((List Int) × (Int × Int)))) : Option (((List Int) × ((List Int) × (Int × Int))) ⊕ (List Int)) :=
  bif (decide (x.2.2.2 < x.2.2.1)) then
    ((nthI x.2.1 x.2.2.2)).bind fun y0 =>
    bif (decide (y0 < (30 : Int))) then
      ((nthI [(8204 : Int), (8205 : Int), (2404 : Int), (97 : Int), (2364 : Int), (2381 : Int), (2509 : Int), (2492 : Int), (2314 : Int), (3349 : Int)] (Int.tmod y0 (10 : Int)))).bind fun y1 =>
      ((GetElem?.getElem? [(8204 : Int), (8205 : Int), (2404 : Int), (97 : Int), (2364 : Int), (2381 : Int), (2509 : Int), (2492 : Int), (2314 : Int), (3349 : Int)] (Int.toNat (Int.tmod y0 (10 : Int))))).bind fun y2 =>
      bif (decide ((((List.length x.1) + (List.length [y2])) * (8 : Nat)) ≤ ((2 : Nat) ^ (46 : Nat)))) then
        some (Sum.inl ((x.1 ++ [y2]), (x.2.1, (x.2.2.1, (w64 (x.2.2.2 + (1 : Int)))))))
      else
        none
    else
      bif (decide (y0 < (140 : Int))) then
        bif (decide ((((List.length x.1) + (List.length [(w64 ((2304 : Int) + (Int.tmod (w64 y0) (128 : Int))))])) * (8 : Nat)) ≤ ((2 : Nat) ^ (46 : Nat)))) then
          some (Sum.inl ((x.1 ++ [(w64 ((2304 : Int) + (Int.tmod (w64 y0) (128 : Int))))]), (x.2.1, (x.2.2.1, (w64 (x.2.2.2 + (1 : Int)))))))
        else
          none
      else
        bif (decide (y0 < (220 : Int))) then
          bif (decide ((((List.length x.1) + (List.length [(w64 ((2432 : Int) + (Int.tmod (w64 y0) (128 : Int))))])) * (8 : Nat)) ≤ ((2 : Nat) ^ (46 : Nat)))) then
            some (Sum.inl ((x.1 ++ [(w64 ((2432 : Int) + (Int.tmod (w64 y0) (128 : Int))))]), (x.2.1, (x.2.2.1, (w64 (x.2.2.2 + (1 : Int)))))))
          else
            none
        else
          bif (decide ((((List.length x.1) + (List.length [(w64 ((w64 ((2304 : Int) + (w64 ((128 : Int) * (w64 (Int.tmod y0 (9 : Int))))))) + (21 : Int)))])) * (8 : Nat)) ≤ ((2 : Nat) ^ (46 : Nat)))) then
            some (Sum.inl ((x.1 ++ [(w64 ((w64 ((2304 : Int) + (w64 ((128 : Int) * (w64 (Int.tmod y0 (9 : Int))))))) + (21 : Int)))]), (x.2.1, (x.2.2.1, (w64 (x.2.2.2 + (1 : Int)))))))
          else
            none
  else
    some (Sum.inr x.1)

def lontarlaw18_Scalars (fu : Nat) (x : (List Int)) : Option (List Int) :=
  ((sliceI x (0 : Int) (if ((60 : Int) < (↑((List.length x)) : Int)) then (60 : Int) else (↑((List.length x)) : Int)))).bind fun y0 =>
  loopM (lontarlaw18_Scalars_L0 fu) fu (([] : List Int), (y0, ((↑((List.length y0)) : Int), (0 : Int))))
end Go.AM.M

namespace Go.AM.M
open Go.AM

def iscii_Encoder_Script (fu : Nat) (x : (Int × (Int × (Int × (Int × (Int × ((List (Int × (Int × (Int × Int)))) × ((List ((List Int) × (List Int))) × ((List (Int × (Int × (Int × Int)))) × ((List ((List Int) × (List Int))) × ((List Int) × ((List (Int × (Int × (Int × Int)))) × ((List ((List Int) × (List Int))) × ((List Int) × (Int × Int))))))))))))))) : Option (Int × (Int × (Int × (Int × (Int × (Int × ((List (Int × (Int × (Int × Int)))) × ((List ((List Int) × (List Int))) × ((List (Int × (Int × (Int × Int)))) × ((List ((List Int) × (List Int))) × ((List Int) × ((List (Int × (Int × (Int × Int)))) × ((List ((List Int) × (List Int))) × ((List Int) × (Int × Int))))))))))))))) :=
  some (x.1, (x.1, (x.2.1, (x.2.2.1, (x.2.2.2.1, (x.2.2.2.2.1, (x.2.2.2.2.2.1, (x.2.2.2.2.2.2.1, (x.2.2.2.2.2.2.2.1, (x.2.2.2.2.2.2.2.2.1, (x.2.2.2.2.2.2.2.2.2.1, (x.2.2.2.2.2.2.2.2.2.2.1, (x.2.2.2.2.2.2.2.2.2.2.2.1, (x.2.2.2.2.2.2.2.2.2.2.2.2.1, (x.2.2.2.2.2.2.2.2.2.2.2.2.2.1, x.2.2.2.2.2.2.2.2.2.2.2.2.2.2)))))))))))))))
end Go.AM.M

namespace Go.AM.M
open Go.AM

def lontarlaw18_IsciiSwitch_L0 (fu : Nat) (x : ((List (Int × (Int × ((List Int) × Int)))) × (Int × (Int × (Int × (Int × (Int × ((List Int) × (Int × (Int × ((List (Int × (Int × (Int × Int)))) × ((List ((List Int) × (List Int))) × ((List Int) × (Int × (Int × (Int × (Int × ((List (Int × (Int × (Int × Int)))) × ((List ((List Int) × (List Int))) × ((List (Int × (Int × (Int × Int)))) × ((List ((List Int) × (List Int))) × ((List Int) × (Int × (Int × (Int × (Int × (Int × ((List Int) × Int)))))))))))))))))))))))))))) : Option (((List (Int × (Int × ((List Int) × Int)))) × (Int × (Int × (Int × (Int × (Int × ((List Int) × (Int × (Int × ((List (Int × (Int × (Int × Int)))) × ((List ((List Int) × (List Int))) × ((List Int) × (Int × (Int × (Int × (Int × ((List (Int × (Int × (Int × Int)))) × ((List ((List Int) × (List Int))) × ((List (Int × (Int × (Int × Int)))) × ((List ((List Int) × (List Int))) × ((List Int) × (Int × (Int × (Int × (Int × (Int × ((List Int) × Int))))))))))))))))))))))))))) ⊕ (((List (Int × (Int × ((List Int) × Int)))) × (Int × (Int × (Int × ((List (Int × (Int × (Int × Int)))) × ((List ((List Int) × (List Int))) × ((List Int) × (Int × (Int × (Int × (Int × ((List (Int × (Int × (Int × Int)))) × ((List ((List Int) × (List Int))) × ((List (Int × (Int × (Int × Int)))) × ((List ((List Int) × (List Int))) × ((List Int) × (Int × (Int × Int)))))))))))))))))) ⊕ Bool)) :=
  bif (decide (x.2.2.2.2.2.2.2.2.1 < x.2.2.2.2.2.2.2.1)) then
    ((nthI x.2.2.2.2.2.2.1 x.2.2.2.2.2.2.2.2.1)).bind fun y0 =>
    ((GetElem?.getElem? x.2.2.2.2.2.2.1 (Int.toNat x.2.2.2.2.2.2.2.2.1))).bind fun y1 =>
    ((nthI x.2.2.2.2.2.2.2.2.2.2.2.2.2.2.2.2.2.2.2.2.2.2.2.2.2.2.1 (1 : Int))).bind fun y2 =>
    bif (y1 == y2) then
      some (Sum.inl (x.1, (x.2.1, (x.2.2.1, (x.2.2.2.2.2.2.2.2.1, (x.2.2.2.2.1, (x.2.2.2.2.2.1, (x.2.2.2.2.2.2.1, (x.2.2.2.2.2.2.2.1, ((w64 (x.2.2.2.2.2.2.2.2.1 + (1 : Int))), (x.2.2.2.2.2.2.2.2.2.1, (x.2.2.2.2.2.2.2.2.2.2.1, (x.2.2.2.2.2.2.2.2.2.2.2.1, (x.2.2.2.2.2.2.2.2.2.2.2.2.1, (x.2.2.2.2.2.2.2.2.2.2.2.2.2.1, (x.2.2.2.2.2.2.2.2.2.2.2.2.2.2.1, (x.2.2.2.2.2.2.2.2.2.2.2.2.2.2.2.1, (x.2.2.2.2.2.2.2.2.2.2.2.2.2.2.2.2.1, (x.2.2.2.2.2.2.2.2.2.2.2.2.2.2.2.2.2.1, (x.2.2.2.2.2.2.2.2.2.2.2.2.2.2.2.2.2.2.1, (x.2.2.2.2.2.2.2.2.2.2.2.2.2.2.2.2.2.2.2.1, (x.2.2.2.2.2.2.2.2.2.2.2.2.2.2.2.2.2.2.2.2.1, (x.2.2.2.2.2.2.2.2.2.2.2.2.2.2.2.2.2.2.2.2.2.1, (x.2.2.2.2.2.2.2.2.2.2.2.2.2.2.2.2.2.2.2.2.2.2.1, (x.2.2.2.2.2.2.2.2.2.2.2.2.2.2.2.2.2.2.2.2.2.2.2.1, (x.2.2.2.2.2.2.2.2.2.2.2.2.2.2.2.2.2.2.2.2.2.2.2.2.1, (x.2.2.2.2.2.2.2.2.2.2.2.2.2.2.2.2.2.2.2.2.2.2.2.2.2.1, (x.2.2.2.2.2.2.2.2.2.2.2.2.2.2.2.2.2.2.2.2.2.2.2.2.2.2.1, x.2.2.2.2.2.2.2.2.2.2.2.2.2.2.2.2.2.2.2.2.2.2.2.2.2.2.2))))))))))))))))))))))))))))
    else
      some (Sum.inl (x.1, (x.2.1, (x.2.2.1, (x.2.2.2.1, (x.2.2.2.2.1, (x.2.2.2.2.2.1, (x.2.2.2.2.2.2.1, (x.2.2.2.2.2.2.2.1, ((w64 (x.2.2.2.2.2.2.2.2.1 + (1 : Int))), (x.2.2.2.2.2.2.2.2.2.1, (x.2.2.2.2.2.2.2.2.2.2.1, (x.2.2.2.2.2.2.2.2.2.2.2.1, (x.2.2.2.2.2.2.2.2.2.2.2.2.1, (x.2.2.2.2.2.2.2.2.2.2.2.2.2.1, (x.2.2.2.2.2.2.2.2.2.2.2.2.2.2.1, (x.2.2.2.2.2.2.2.2.2.2.2.2.2.2.2.1, (x.2.2.2.2.2.2.2.2.2.2.2.2.2.2.2.2.1, (x.2.2.2.2.2.2.2.2.2.2.2.2.2.2.2.2.2.1, (x.2.2.2.2.2.2.2.2.2.2.2.2.2.2.2.2.2.2.1, (x.2.2.2.2.2.2.2.2.2.2.2.2.2.2.2.2.2.2.2.1, (x.2.2.2.2.2.2.2.2.2.2.2.2.2.2.2.2.2.2.2.2.1, (x.2.2.2.2.2.2.2.2.2.2.2.2.2.2.2.2.2.2.2.2.2.1, (x.2.2.2.2.2.2.2.2.2.2.2.2.2.2.2.2.2.2.2.2.2.2.1, (x.2.2.2.2.2.2.2.2.2.2.2.2.2.2.2.2.2.2.2.2.2.2.2.1, (x.2.2.2.2.2.2.2.2.2.2.2.2.2.2.2.2.2.2.2.2.2.2.2.2.1, (x.2.2.2.2.2.2.2.2.2.2.2.2.2.2.2.2.2.2.2.2.2.2.2.2.2.1, (x.2.2.2.2.2.2.2.2.2.2.2.2.2.2.2.2.2.2.2.2.2.2.2.2.2.2.1, x.2.2.2.2.2.2.2.2.2.2.2.2.2.2.2.2.2.2.2.2.2.2.2.2.2.2.2))))))))))))))))))))))))))))
  else
    Option.map Sum.inr (
      bif (decide (x.2.2.2.1 < (0 : Int))) then
        some (Sum.inr false)
      else
        bif (x.2.2.2.1 == x.2.1) then
          some (Sum.inr false)
        else
          bif (x.2.2.1 == (w64 ((↑((List.length x.1)) : Int) - (1 : Int)))) then
            some (Sum.inr false)
          else
            bif (x.2.2.2.2.2.2.2.2.2.2.2.2.2.2.2.2.2.2.2.2.2.2.2.2.2.1 != (0 : Int)) then
              some (Sum.inr false)
            else
              some (Sum.inl (x.1, (x.2.2.2.1, (x.2.2.2.2.1, ((w64 (x.2.2.2.2.2.1 + (1 : Int))), (x.2.2.2.2.2.2.2.2.2.1, (x.2.2.2.2.2.2.2.2.2.2.1, (x.2.2.2.2.2.2.2.2.2.2.2.1, (x.2.2.2.2.2.2.2.2.2.2.2.2.1, (x.2.2.2.2.2.2.2.2.2.2.2.2.2.1, (x.2.2.2.2.2.2.2.2.2.2.2.2.2.2.1, (x.2.2.2.2.2.2.2.2.2.2.2.2.2.2.2.1, (x.2.2.2.2.2.2.2.2.2.2.2.2.2.2.2.2.1, (x.2.2.2.2.2.2.2.2.2.2.2.2.2.2.2.2.2.1, (x.2.2.2.2.2.2.2.2.2.2.2.2.2.2.2.2.2.2.1, (x.2.2.2.2.2.2.2.2.2.2.2.2.2.2.2.2.2.2.2.1, (x.2.2.2.2.2.2.2.2.2.2.2.2.2.2.2.2.2.2.2.2.1, (x.2.2.2.2.2.2.2.2.2.2.2.2.2.2.2.2.2.2.2.2.2.1, (x.2.2.2.2.2.2.2.2.2.2.2.2.2.2.2.2.2.2.2.2.2.2.1, x.2.2.2.2.2.2.2.2.2.2.2.2.2.2.2.2.2.2.2.2.2.2.2.1))))))))))))))))))))

def lontarlaw18_IsciiSwitch_L1 (fu : Nat) (x : ((List (Int × (Int × ((List Int) × Int)))) × (Int × (Int × (Int × ((List (Int × (Int × (Int × Int)))) × ((List ((List Int) × (List Int))) × ((List Int) × (Int × (Int × (Int × (Int × ((List (Int × (Int × (Int × Int)))) × ((List ((List Int) × (List Int))) × ((List (Int × (Int × (Int × Int)))) × ((List ((List Int) × (List Int))) × ((List Int) × (Int × (Int × Int))))))))))))))))))) : Option (((List (Int × (Int × ((List Int) × Int)))) × (Int × (Int × (Int × ((List (Int × (Int × (Int × Int)))) × ((List ((List Int) × (List Int))) × ((List Int) × (Int × (Int × (Int × (Int × ((List (Int × (Int × (Int × Int)))) × ((List ((List Int) × (List Int))) × ((List (Int × (Int × (Int × Int)))) × ((List ((List Int) × (List Int))) × ((List Int) × (Int × (Int × Int)))))))))))))))))) ⊕ Bool) :=
  bif (decide (x.2.2.2.1 < x.2.2.1)) then
    ((nthI x.1 x.2.2.2.1)).bind fun y0 =>
    ((GetElem?.getElem? x.1 (Int.toNat x.2.2.2.1))).bind fun y1 =>
    bif ((↑((List.length y1.2.2.1)) : Int) != (2 : Int)) then
      some (Sum.inl (x.1, (x.2.1, (x.2.2.1, ((w64 (x.2.2.2.1 + (1 : Int))), (x.2.2.2.2.1, (x.2.2.2.2.2.1, (x.2.2.2.2.2.2.1, (x.2.2.2.2.2.2.2.1, (x.2.2.2.2.2.2.2.2.1, (x.2.2.2.2.2.2.2.2.2.1, (x.2.2.2.2.2.2.2.2.2.2.1, (x.2.2.2.2.2.2.2.2.2.2.2.1, (x.2.2.2.2.2.2.2.2.2.2.2.2.1, (x.2.2.2.2.2.2.2.2.2.2.2.2.2.1, (x.2.2.2.2.2.2.2.2.2.2.2.2.2.2.1, (x.2.2.2.2.2.2.2.2.2.2.2.2.2.2.2.1, (x.2.2.2.2.2.2.2.2.2.2.2.2.2.2.2.2.1, (x.2.2.2.2.2.2.2.2.2.2.2.2.2.2.2.2.2.1, x.2.2.2.2.2.2.2.2.2.2.2.2.2.2.2.2.2.2)))))))))))))))))))
    else
      ((nthI y1.2.2.1 (0 : Int))).bind fun y2 =>
      bif (y2 != (239 : Int)) then
        some (Sum.inl (x.1, (x.2.1, (x.2.2.1, ((w64 (x.2.2.2.1 + (1 : Int))), (x.2.2.2.2.1, (x.2.2.2.2.2.1, (x.2.2.2.2.2.2.1, (x.2.2.2.2.2.2.2.1, (x.2.2.2.2.2.2.2.2.1, (x.2.2.2.2.2.2.2.2.2.1, (x.2.2.2.2.2.2.2.2.2.2.1, (x.2.2.2.2.2.2.2.2.2.2.2.1, (x.2.2.2.2.2.2.2.2.2.2.2.2.1, (x.2.2.2.2.2.2.2.2.2.2.2.2.2.1, (x.2.2.2.2.2.2.2.2.2.2.2.2.2.2.1, (x.2.2.2.2.2.2.2.2.2.2.2.2.2.2.2.1, (x.2.2.2.2.2.2.2.2.2.2.2.2.2.2.2.2.1, (x.2.2.2.2.2.2.2.2.2.2.2.2.2.2.2.2.2.1, x.2.2.2.2.2.2.2.2.2.2.2.2.2.2.2.2.2.2)))))))))))))))))))
      else
        ((lontarlaw14_Codes fu ())).bind fun y3 =>
        loopM (lontarlaw18_IsciiSwitch_L0 fu) fu (x.1, (x.2.1, (x.2.2.2.1, ((-(1 : Int)), (x.2.2.1, (x.2.2.2.1, (y3, ((↑((List.length y3)) : Int), ((0 : Int), (x.2.2.2.2.1, (x.2.2.2.2.2.1, (x.2.2.2.2.2.2.1, (x.2.2.2.2.2.2.2.1, (x.2.2.2.2.2.2.2.2.1, (x.2.2.2.2.2.2.2.2.2.1, (x.2.2.2.2.2.2.2.2.2.2.1, (x.2.2.2.2.2.2.2.2.2.2.2.1, (x.2.2.2.2.2.2.2.2.2.2.2.2.1, (x.2.2.2.2.2.2.2.2.2.2.2.2.2.1, (x.2.2.2.2.2.2.2.2.2.2.2.2.2.2.1, (x.2.2.2.2.2.2.2.2.2.2.2.2.2.2.2.1, (x.2.2.2.2.2.2.2.2.2.2.2.2.2.2.2.2.1, (x.2.2.2.2.2.2.2.2.2.2.2.2.2.2.2.2.2.1, (x.2.2.2.2.2.2.2.2.2.2.2.2.2.2.2.2.2.2, (y1.1, (y1.2.1, (y1.2.2.1, y1.2.2.2)))))))))))))))))))))))))))
  else
    Option.map Sum.inr (
      ((iscii_Encoder_Script fu (x.2.2.2.2.2.2.2.2.2.2.2.2.2.2.2.2.1, (x.2.2.2.2.2.2.2.2.2.2.2.2.2.2.2.2.2.1, (x.2.2.2.2.2.2.2.2.2.2.2.2.2.2.2.2.2.2, (x.2.2.2.2.2.2.2.2.2.1, (x.2.2.2.2.2.2.2.2.2.2.1, (x.2.2.2.2.2.2.2.2.2.2.2.1, (x.2.2.2.2.2.2.2.2.2.2.2.2.1, (x.2.2.2.2.2.2.2.2.2.2.2.2.2.1, (x.2.2.2.2.2.2.2.2.2.2.2.2.2.2.1, (x.2.2.2.2.2.2.2.2.2.2.2.2.2.2.2.1, (x.2.2.2.2.1, (x.2.2.2.2.2.1, (x.2.2.2.2.2.2.1, (x.2.2.2.2.2.2.2.1, x.2.2.2.2.2.2.2.2.1)))))))))))))))).bind fun y4 =>
      some (y4.1 == x.2.1))

def lontarlaw18_IsciiSwitch_L2 (fu : Nat) (x : ((List (Int × (Int × ((List Int) × Int)))) × ((List Int) × (Int × (Int × ((List (Int × (Int × (Int × Int)))) × ((List ((List Int) × (List Int))) × ((List Int) × (Int × (Int × (Int × (Int × ((List (Int × (Int × (Int × Int)))) × ((List ((List Int) × (List Int))) × ((List (Int × (Int × (Int × Int)))) × ((List ((List Int) × (List Int))) × ((List Int) × (Int × (Int × Int))))))))))))))))))) : Option (((List (Int × (Int × ((List Int) × Int)))) × ((List Int) × (Int × (Int × ((List (Int × (Int × (Int × Int)))) × ((List ((List Int) × (List Int))) × ((List Int) × (Int × (Int × (Int × (Int × ((List (Int × (Int × (Int × Int)))) × ((List ((List Int) × (List Int))) × ((List (Int × (Int × (Int × Int)))) × ((List ((List Int) × (List Int))) × ((List Int) × (Int × (Int × Int)))))))))))))))))) ⊕ Bool) :=
  bif (decide (x.2.2.2.1 < x.2.2.1)) then
    ((nthI x.2.1 x.2.2.2.1)).bind fun y0 =>
    ((GetElem?.getElem? x.2.1 (Int.toNat x.2.2.2.1))).bind fun y1 =>
    ((iscii_Encoder_Put fu (y1, (x.2.2.2.2.2.2.2.2.2.2.2.2.2.2.2.2.1, (x.2.2.2.2.2.2.2.2.2.2.2.2.2.2.2.2.2.1, (x.2.2.2.2.2.2.2.2.2.2.2.2.2.2.2.2.2.2, (x.2.2.2.2.2.2.2.2.2.1, (x.2.2.2.2.2.2.2.2.2.2.1, (x.2.2.2.2.2.2.2.2.2.2.2.1, (x.2.2.2.2.2.2.2.2.2.2.2.2.1, (x.2.2.2.2.2.2.2.2.2.2.2.2.2.1, (x.2.2.2.2.2.2.2.2.2.2.2.2.2.2.1, (x.2.2.2.2.2.2.2.2.2.2.2.2.2.2.2.1, (x.2.2.2.2.1, (x.2.2.2.2.2.1, (x.2.2.2.2.2.2.1, (x.2.2.2.2.2.2.2.1, x.2.2.2.2.2.2.2.2.1))))))))))))))))).bind fun y2 =>
    bif (decide ((((List.length x.1) + (List.length y2.1)) * (48 : Nat)) ≤ ((2 : Nat) ^ (46 : Nat)))) then
      some (Sum.inl ((x.1 ++ y2.1), (x.2.1, (x.2.2.1, ((w64 (x.2.2.2.1 + (1 : Int))), (y2.2.2.2.2.2.2.2.2.2.2.2.1, (y2.2.2.2.2.2.2.2.2.2.2.2.2.1, (y2.2.2.2.2.2.2.2.2.2.2.2.2.2.1, (y2.2.2.2.2.2.2.2.2.2.2.2.2.2.2.1, (y2.2.2.2.2.2.2.2.2.2.2.2.2.2.2.2, (y2.2.2.2.2.1, (y2.2.2.2.2.2.1, (y2.2.2.2.2.2.2.1, (y2.2.2.2.2.2.2.2.1, (y2.2.2.2.2.2.2.2.2.1, (y2.2.2.2.2.2.2.2.2.2.1, (y2.2.2.2.2.2.2.2.2.2.2.1, (y2.2.1, (y2.2.2.1, y2.2.2.2.1)))))))))))))))))))
    else
      none
  else
    Option.map Sum.inr (
      ((iscii_Encoder_End fu (x.2.2.2.2.2.2.2.2.2.2.2.2.2.2.2.2.1, (x.2.2.2.2.2.2.2.2.2.2.2.2.2.2.2.2.2.1, (x.2.2.2.2.2.2.2.2.2.2.2.2.2.2.2.2.2.2, (x.2.2.2.2.2.2.2.2.2.1, (x.2.2.2.2.2.2.2.2.2.2.1, (x.2.2.2.2.2.2.2.2.2.2.2.1, (x.2.2.2.2.2.2.2.2.2.2.2.2.1, (x.2.2.2.2.2.2.2.2.2.2.2.2.2.1, (x.2.2.2.2.2.2.2.2.2.2.2.2.2.2.1, (x.2.2.2.2.2.2.2.2.2.2.2.2.2.2.2.1, (x.2.2.2.2.1, (x.2.2.2.2.2.1, (x.2.2.2.2.2.2.1, (x.2.2.2.2.2.2.2.1, x.2.2.2.2.2.2.2.2.1)))))))))))))))).bind fun y3 =>
      bif (decide ((((List.length x.1) + (List.length y3.1)) * (48 : Nat)) ≤ ((2 : Nat) ^ (46 : Nat)))) then
        loopM (lontarlaw18_IsciiSwitch_L1 fu) fu ((x.1 ++ y3.1), ((0 : Int), ((↑((List.length (x.1 ++ y3.1))) : Int), ((0 : Int), (y3.2.2.2.2.2.2.2.2.2.2.2.1, (y3.2.2.2.2.2.2.2.2.2.2.2.2.1, (y3.2.2.2.2.2.2.2.2.2.2.2.2.2.1, (y3.2.2.2.2.2.2.2.2.2.2.2.2.2.2.1, (y3.2.2.2.2.2.2.2.2.2.2.2.2.2.2.2, (y3.2.2.2.2.1, (y3.2.2.2.2.2.1, (y3.2.2.2.2.2.2.1, (y3.2.2.2.2.2.2.2.1, (y3.2.2.2.2.2.2.2.2.1, (y3.2.2.2.2.2.2.2.2.2.1, (y3.2.2.2.2.2.2.2.2.2.2.1, (y3.2.1, (y3.2.2.1, y3.2.2.2.1))))))))))))))))))
      else
        none)

def lontarlaw18_IsciiSwitch (fu : Nat) (x : (List Int)) : Option Bool :=
  ((lontarlaw18_awake fu ())).bind fun y0 =>
  bif (!y0) then
    some false
  else
    ((iscii_Encode fu ())).bind fun y1 =>
    ((lontarlaw18_Scalars fu x)).bind fun y2 =>
    loopM (lontarlaw18_IsciiSwitch_L2 fu) fu (([] : List (Int × (Int × ((List Int) × Int)))), (y2, ((↑((List.length y2)) : Int), ((0 : Int), (y1.1, (y1.2.1, (y1.2.2.1, (y1.2.2.2.1, (y1.2.2.2.2.1, (y1.2.2.2.2.2.1, (y1.2.2.2.2.2.2.1, (y1.2.2.2.2.2.2.2.1, (y1.2.2.2.2.2.2.2.2.1, (y1.2.2.2.2.2.2.2.2.2.1, (y1.2.2.2.2.2.2.2.2.2.2.1, (y1.2.2.2.2.2.2.2.2.2.2.2.1, (y1.2.2.2.2.2.2.2.2.2.2.2.2.1, (y1.2.2.2.2.2.2.2.2.2.2.2.2.2.1, y1.2.2.2.2.2.2.2.2.2.2.2.2.2.2))))))))))))))))))
end Go.AM.M

namespace Go.AM.M
open Go.AM

def lontarlaw18_IsciiBack_L0 (fu : Nat) (x : ((List Int) × ((List Int) × ((List (Int × (Int × ((List Int) × Int)))) × (Int × (Int × ((List Int) × (Int × (Int × ((List (Int × (Int × ((List Int) × Int)))) × (Int × (Int × ((List (Int × (Int × (Int × Int)))) × ((List ((List Int) × (List Int))) × ((List Int) × (Int × (Int × (Int × (Int × ((List (Int × (Int × (Int × Int)))) × ((List ((List Int) × (List Int))) × ((List (Int × (Int × (Int × Int)))) × ((List ((List Int) × (List Int))) × ((List Int) × (Int × (Int × (Int × ((List (Int × (Int × (Int × Int)))) × ((List ((List Int) × (List Int))) × ((List Int) × (Int × (Int × (Int × (Int × (Int × ((List Int) × Int)))))))))))))))))))))))))))))))))))) : Option (((List Int) × ((List Int) × ((List (Int × (Int × ((List Int) × Int)))) × (Int × (Int × ((List Int) × (Int × (Int × ((List (Int × (Int × ((List Int) × Int)))) × (Int × (Int × ((List (Int × (Int × (Int × Int)))) × ((List ((List Int) × (List Int))) × ((List Int) × (Int × (Int × (Int × (Int × ((List (Int × (Int × (Int × Int)))) × ((List ((List Int) × (List Int))) × ((List (Int × (Int × (Int × Int)))) × ((List ((List Int) × (List Int))) × ((List Int) × (Int × (Int × (Int × ((List (Int × (Int × (Int × Int)))) × ((List ((List Int) × (List Int))) × ((List Int) × (Int × (Int × (Int × (Int × (Int × ((List Int) × Int))))))))))))))))))))))))))))))))))) ⊕ (((List Int) × ((List Int) × ((List (Int × (Int × ((List Int) × Int)))) × (Int × (Int × ((List Int) × (Int × (Int × ((List (Int × (Int × (Int × Int)))) × ((List ((List Int) × (List Int))) × ((List Int) × (Int × (Int × (Int × (Int × ((List (Int × (Int × (Int × Int)))) × ((List ((List Int) × (List Int))) × ((List (Int × (Int × (Int × Int)))) × ((List ((List Int) × (List Int))) × ((List Int) × (Int × (Int × (Int × ((List (Int × (Int × (Int × Int)))) × ((List ((List Int) × (List Int))) × ((List Int) × (Int × (Int × (Int × (Int × (Int × ((List Int) × Int)))))))))))))))))))))))))))))))) ⊕ (((List Int) × ((List Int) × ((List (Int × (Int × ((List Int) × Int)))) × (Int × (Int × ((List (Int × (Int × (Int × Int)))) × ((List ((List Int) × (List Int))) × ((List Int) × (Int × (Int × (Int × (Int × ((List (Int × (Int × (Int × Int)))) × ((List ((List Int) × (List Int))) × ((List (Int × (Int × (Int × Int)))) × ((List ((List Int) × (List Int))) × ((List Int) × (Int × (Int × (Int × ((List (Int × (Int × (Int × Int)))) × ((List ((List Int) × (List Int))) × ((List Int) × (Int × (Int × Int))))))))))))))))))))))))) ⊕ Bool))) :=
  bif (decide (x.2.2.2.2.2.2.2.2.2.2.1 < x.2.2.2.2.2.2.2.2.2.1)) then
    ((nthI x.2.2.2.2.2.2.2.2.1 x.2.2.2.2.2.2.2.2.2.2.1)).bind fun y0 =>
    ((GetElem?.getElem? x.2.2.2.2.2.2.2.2.1 (Int.toNat x.2.2.2.2.2.2.2.2.2.2.1))).bind fun y1 =>
    bif (decide ((((List.length x.2.1) + (List.length y1.2.2.1)) * (8 : Nat)) ≤ ((2 : Nat) ^ (46 : Nat)))) then
      some (Sum.inl (x.1, ((x.2.1 ++ y1.2.2.1), (x.2.2.1, (x.2.2.2.1, (x.2.2.2.2.1, (x.2.2.2.2.2.1, (x.2.2.2.2.2.2.1, (x.2.2.2.2.2.2.2.1, (x.2.2.2.2.2.2.2.2.1, (x.2.2.2.2.2.2.2.2.2.1, ((w64 (x.2.2.2.2.2.2.2.2.2.2.1 + (1 : Int))), (x.2.2.2.2.2.2.2.2.2.2.2.1, (x.2.2.2.2.2.2.2.2.2.2.2.2.1, (x.2.2.2.2.2.2.2.2.2.2.2.2.2.1, (x.2.2.2.2.2.2.2.2.2.2.2.2.2.2.1, (x.2.2.2.2.2.2.2.2.2.2.2.2.2.2.2.1, (x.2.2.2.2.2.2.2.2.2.2.2.2.2.2.2.2.1, (x.2.2.2.2.2.2.2.2.2.2.2.2.2.2.2.2.2.1, (x.2.2.2.2.2.2.2.2.2.2.2.2.2.2.2.2.2.2.1, (x.2.2.2.2.2.2.2.2.2.2.2.2.2.2.2.2.2.2.2.1, (x.2.2.2.2.2.2.2.2.2.2.2.2.2.2.2.2.2.2.2.2.1, (x.2.2.2.2.2.2.2.2.2.2.2.2.2.2.2.2.2.2.2.2.2.1, (x.2.2.2.2.2.2.2.2.2.2.2.2.2.2.2.2.2.2.2.2.2.2.1, (x.2.2.2.2.2.2.2.2.2.2.2.2.2.2.2.2.2.2.2.2.2.2.2.1, (x.2.2.2.2.2.2.2.2.2.2.2.2.2.2.2.2.2.2.2.2.2.2.2.2.1, (x.2.2.2.2.2.2.2.2.2.2.2.2.2.2.2.2.2.2.2.2.2.2.2.2.2.1, (x.2.2.2.2.2.2.2.2.2.2.2.2.2.2.2.2.2.2.2.2.2.2.2.2.2.2.1, (x.2.2.2.2.2.2.2.2.2.2.2.2.2.2.2.2.2.2.2.2.2.2.2.2.2.2.2.1, (x.2.2.2.2.2.2.2.2.2.2.2.2.2.2.2.2.2.2.2.2.2.2.2.2.2.2.2.2.1, (x.2.2.2.2.2.2.2.2.2.2.2.2.2.2.2.2.2.2.2.2.2.2.2.2.2.2.2.2.2.1, (x.2.2.2.2.2.2.2.2.2.2.2.2.2.2.2.2.2.2.2.2.2.2.2.2.2.2.2.2.2.2.1, (x.2.2.2.2.2.2.2.2.2.2.2.2.2.2.2.2.2.2.2.2.2.2.2.2.2.2.2.2.2.2.2.1, (x.2.2.2.2.2.2.2.2.2.2.2.2.2.2.2.2.2.2.2.2.2.2.2.2.2.2.2.2.2.2.2.2.1, (x.2.2.2.2.2.2.2.2.2.2.2.2.2.2.2.2.2.2.2.2.2.2.2.2.2.2.2.2.2.2.2.2.2.1, (x.2.2.2.2.2.2.2.2.2.2.2.2.2.2.2.2.2.2.2.2.2.2.2.2.2.2.2.2.2.2.2.2.2.2.1, x.2.2.2.2.2.2.2.2.2.2.2.2.2.2.2.2.2.2.2.2.2.2.2.2.2.2.2.2.2.2.2.2.2.2.2))))))))))))))))))))))))))))))))))))
    else
      none
  else
    some (Sum.inr (Sum.inl (x.1, (x.2.1, (x.2.2.1, (x.2.2.2.1, (x.2.2.2.2.1, (x.2.2.2.2.2.1, (x.2.2.2.2.2.2.1, ((w64 (x.2.2.2.2.2.2.2.1 + (1 : Int))), (x.2.2.2.2.2.2.2.2.2.2.2.1, (x.2.2.2.2.2.2.2.2.2.2.2.2.1, (x.2.2.2.2.2.2.2.2.2.2.2.2.2.1, (x.2.2.2.2.2.2.2.2.2.2.2.2.2.2.1, (x.2.2.2.2.2.2.2.2.2.2.2.2.2.2.2.1, (x.2.2.2.2.2.2.2.2.2.2.2.2.2.2.2.2.1, (x.2.2.2.2.2.2.2.2.2.2.2.2.2.2.2.2.2.1, (x.2.2.2.2.2.2.2.2.2.2.2.2.2.2.2.2.2.2.1, (x.2.2.2.2.2.2.2.2.2.2.2.2.2.2.2.2.2.2.2.1, (x.2.2.2.2.2.2.2.2.2.2.2.2.2.2.2.2.2.2.2.2.1, (x.2.2.2.2.2.2.2.2.2.2.2.2.2.2.2.2.2.2.2.2.2.1, (x.2.2.2.2.2.2.2.2.2.2.2.2.2.2.2.2.2.2.2.2.2.2.1, (x.2.2.2.2.2.2.2.2.2.2.2.2.2.2.2.2.2.2.2.2.2.2.2.1, (x.2.2.2.2.2.2.2.2.2.2.2.2.2.2.2.2.2.2.2.2.2.2.2.2.1, (x.2.2.2.2.2.2.2.2.2.2.2.2.2.2.2.2.2.2.2.2.2.2.2.2.2.1, (x.2.2.2.2.2.2.2.2.2.2.2.2.2.2.2.2.2.2.2.2.2.2.2.2.2.2.1, (x.2.2.2.2.2.2.2.2.2.2.2.2.2.2.2.2.2.2.2.2.2.2.2.2.2.2.2.1, (x.2.2.2.2.2.2.2.2.2.2.2.2.2.2.2.2.2.2.2.2.2.2.2.2.2.2.2.2.1, (x.2.2.2.2.2.2.2.2.2.2.2.2.2.2.2.2.2.2.2.2.2.2.2.2.2.2.2.2.2.1, (x.2.2.2.2.2.2.2.2.2.2.2.2.2.2.2.2.2.2.2.2.2.2.2.2.2.2.2.2.2.2.1, (x.2.2.2.2.2.2.2.2.2.2.2.2.2.2.2.2.2.2.2.2.2.2.2.2.2.2.2.2.2.2.2.1, (x.2.2.2.2.2.2.2.2.2.2.2.2.2.2.2.2.2.2.2.2.2.2.2.2.2.2.2.2.2.2.2.2.1, (x.2.2.2.2.2.2.2.2.2.2.2.2.2.2.2.2.2.2.2.2.2.2.2.2.2.2.2.2.2.2.2.2.2.1, (x.2.2.2.2.2.2.2.2.2.2.2.2.2.2.2.2.2.2.2.2.2.2.2.2.2.2.2.2.2.2.2.2.2.2.1, x.2.2.2.2.2.2.2.2.2.2.2.2.2.2.2.2.2.2.2.2.2.2.2.2.2.2.2.2.2.2.2.2.2.2.2))))))))))))))))))))))))))))))))))

def lontarlaw18_IsciiBack_L1 (fu : Nat) (x : ((List Int) × ((List Int) × ((List (Int × (Int × ((List Int) × Int)))) × (Int × (Int × ((List Int) × (Int × (Int × ((List (Int × (Int × (Int × Int)))) × ((List ((List Int) × (List Int))) × ((List Int) × (Int × (Int × (Int × (Int × ((List (Int × (Int × (Int × Int)))) × ((List ((List Int) × (List Int))) × ((List (Int × (Int × (Int × Int)))) × ((List ((List Int) × (List Int))) × ((List Int) × (Int × (Int × (Int × ((List (Int × (Int × (Int × Int)))) × ((List ((List Int) × (List Int))) × ((List Int) × (Int × (Int × (Int × (Int × (Int × ((List Int) × Int))))))))))))))))))))))))))))))))) : Option (((List Int) × ((List Int) × ((List (Int × (Int × ((List Int) × Int)))) × (Int × (Int × ((List Int) × (Int × (Int × ((List (Int × (Int × (Int × Int)))) × ((List ((List Int) × (List Int))) × ((List Int) × (Int × (Int × (Int × (Int × ((List (Int × (Int × (Int × Int)))) × ((List ((List Int) × (List Int))) × ((List (Int × (Int × (Int × Int)))) × ((List ((List Int) × (List Int))) × ((List Int) × (Int × (Int × (Int × ((List (Int × (Int × (Int × Int)))) × ((List ((List Int) × (List Int))) × ((List Int) × (Int × (Int × (Int × (Int × (Int × ((List Int) × Int)))))))))))))))))))))))))))))))) ⊕ (((List Int) × ((List Int) × ((List (Int × (Int × ((List Int) × Int)))) × (Int × (Int × ((List (Int × (Int × (Int × Int)))) × ((List ((List Int) × (List Int))) × ((List Int) × (Int × (Int × (Int × (Int × ((List (Int × (Int × (Int × Int)))) × ((List ((List Int) × (List Int))) × ((List (Int × (Int × (Int × Int)))) × ((List ((List Int) × (List Int))) × ((List Int) × (Int × (Int × (Int × ((List (Int × (Int × (Int × Int)))) × ((List ((List Int) × (List Int))) × ((List Int) × (Int × (Int × Int))))))))))))))))))))))))) ⊕ Bool)) :=
  bif (decide (x.2.2.2.2.2.2.2.1 < x.2.2.2.2.2.2.1)) then
    ((nthI x.2.2.2.2.2.1 x.2.2.2.2.2.2.2.1)).bind fun y0 =>
    ((iscii_Decoder_Put fu (y0, (x.2.2.2.2.2.2.2.2.2.2.2.2.2.2.2.2.2.2.2.2.2.2.2.2.2.2.2.2.1, (x.2.2.2.2.2.2.2.2.2.2.2.2.2.2.2.2.2.2.2.2.2.2.2.1, (x.2.2.2.2.2.2.2.2.2.2.2.2.2.2.2.2.2.2.2.2.2.2.2.2.1, (x.2.2.2.2.2.2.2.2.2.2.2.2.2.2.2.2.2.2.2.2.2.2.2.2.2.1, (x.2.2.2.2.2.2.2.2.2.2.2.2.2.2.2.2.2.2.2.2.2.2.2.2.2.2.1, x.2.2.2.2.2.2.2.2.2.2.2.2.2.2.2.2.2.2.2.2.2.2.2.2.2.2.2.1)))))))).bind fun y1 =>
    loopM (lontarlaw18_IsciiBack_L0 fu) fu (x.1, (x.2.1, (x.2.2.1, (x.2.2.2.1, (x.2.2.2.2.1, (x.2.2.2.2.2.1, (x.2.2.2.2.2.2.1, (x.2.2.2.2.2.2.2.1, (y1.1, ((↑((List.length y1.1)) : Int), ((0 : Int), (x.2.2.2.2.2.2.2.2.1, (x.2.2.2.2.2.2.2.2.2.1, (x.2.2.2.2.2.2.2.2.2.2.1, (x.2.2.2.2.2.2.2.2.2.2.2.1, (x.2.2.2.2.2.2.2.2.2.2.2.2.1, (x.2.2.2.2.2.2.2.2.2.2.2.2.2.1, (x.2.2.2.2.2.2.2.2.2.2.2.2.2.2.1, (x.2.2.2.2.2.2.2.2.2.2.2.2.2.2.2.1, (x.2.2.2.2.2.2.2.2.2.2.2.2.2.2.2.2.1, (x.2.2.2.2.2.2.2.2.2.2.2.2.2.2.2.2.2.1, (x.2.2.2.2.2.2.2.2.2.2.2.2.2.2.2.2.2.2.1, (x.2.2.2.2.2.2.2.2.2.2.2.2.2.2.2.2.2.2.2.1, (x.2.2.2.2.2.2.2.2.2.2.2.2.2.2.2.2.2.2.2.2.1, (x.2.2.2.2.2.2.2.2.2.2.2.2.2.2.2.2.2.2.2.2.2.1, (x.2.2.2.2.2.2.2.2.2.2.2.2.2.2.2.2.2.2.2.2.2.2.1, (y1.2.2.1, (y1.2.2.2.1, (y1.2.2.2.2.1, (y1.2.2.2.2.2.1, (y1.2.2.2.2.2.2, (y1.2.1, (x.2.2.2.2.2.2.2.2.2.2.2.2.2.2.2.2.2.2.2.2.2.2.2.2.2.2.2.2.2.1, (x.2.2.2.2.2.2.2.2.2.2.2.2.2.2.2.2.2.2.2.2.2.2.2.2.2.2.2.2.2.2.1, (x.2.2.2.2.2.2.2.2.2.2.2.2.2.2.2.2.2.2.2.2.2.2.2.2.2.2.2.2.2.2.2.1, x.2.2.2.2.2.2.2.2.2.2.2.2.2.2.2.2.2.2.2.2.2.2.2.2.2.2.2.2.2.2.2.2)))))))))))))))))))))))))))))))))))
  else
    some (Sum.inr (Sum.inl (x.1, (x.2.1, (x.2.2.1, (x.2.2.2.1, ((w64 (x.2.2.2.2.1 + (1 : Int))), (x.2.2.2.2.2.2.2.2.1, (x.2.2.2.2.2.2.2.2.2.1, (x.2.2.2.2.2.2.2.2.2.2.1, (x.2.2.2.2.2.2.2.2.2.2.2.1, (x.2.2.2.2.2.2.2.2.2.2.2.2.1, (x.2.2.2.2.2.2.2.2.2.2.2.2.2.1, (x.2.2.2.2.2.2.2.2.2.2.2.2.2.2.1, (x.2.2.2.2.2.2.2.2.2.2.2.2.2.2.2.1, (x.2.2.2.2.2.2.2.2.2.2.2.2.2.2.2.2.1, (x.2.2.2.2.2.2.2.2.2.2.2.2.2.2.2.2.2.1, (x.2.2.2.2.2.2.2.2.2.2.2.2.2.2.2.2.2.2.1, (x.2.2.2.2.2.2.2.2.2.2.2.2.2.2.2.2.2.2.2.1, (x.2.2.2.2.2.2.2.2.2.2.2.2.2.2.2.2.2.2.2.2.1, (x.2.2.2.2.2.2.2.2.2.2.2.2.2.2.2.2.2.2.2.2.2.1, (x.2.2.2.2.2.2.2.2.2.2.2.2.2.2.2.2.2.2.2.2.2.2.1, (x.2.2.2.2.2.2.2.2.2.2.2.2.2.2.2.2.2.2.2.2.2.2.2.1, (x.2.2.2.2.2.2.2.2.2.2.2.2.2.2.2.2.2.2.2.2.2.2.2.2.1, (x.2.2.2.2.2.2.2.2.2.2.2.2.2.2.2.2.2.2.2.2.2.2.2.2.2.1, (x.2.2.2.2.2.2.2.2.2.2.2.2.2.2.2.2.2.2.2.2.2.2.2.2.2.2.1, (x.2.2.2.2.2.2.2.2.2.2.2.2.2.2.2.2.2.2.2.2.2.2.2.2.2.2.2.1, x.2.2.2.2.2.2.2.2.2.2.2.2.2.2.2.2.2.2.2.2.2.2.2.2.2.2.2.2.1)))))))))))))))))))))))))))

def lontarlaw18_IsciiBack_L2 (fu : Nat) (x : ((List Int) × ((List Int) × ((List (Int × (Int × ((List Int) × Int)))) × (Int × (Int × ((List (Int × (Int × (Int × Int)))) × ((List ((List Int) × (List Int))) × ((List Int) × (Int × (Int × (Int × (Int × ((List (Int × (Int × (Int × Int)))) × ((List ((List Int) × (List Int))) × ((List (Int × (Int × (Int × Int)))) × ((List ((List Int) × (List Int))) × ((List Int) × (Int × (Int × (Int × ((List (Int × (Int × (Int × Int)))) × ((List ((List Int) × (List Int))) × ((List Int) × (Int × (Int × Int)))))))))))))))))))))))))) : Option (((List Int) × ((List Int) × ((List (Int × (Int × ((List Int) × Int)))) × (Int × (Int × ((List (Int × (Int × (Int × Int)))) × ((List ((List Int) × (List Int))) × ((List Int) × (Int × (Int × (Int × (Int × ((List (Int × (Int × (Int × Int)))) × ((List ((List Int) × (List Int))) × ((List (Int × (Int × (Int × Int)))) × ((List ((List Int) × (List Int))) × ((List Int) × (Int × (Int × (Int × ((List (Int × (Int × (Int × Int)))) × ((List ((List Int) × (List Int))) × ((List Int) × (Int × (Int × Int))))))))))))))))))))))))) ⊕ Bool) :=
  bif (decide (x.2.2.2.2.1 < x.2.2.2.1)) then
    ((nthI x.2.2.1 x.2.2.2.2.1)).bind fun y0 =>
    ((GetElem?.getElem? x.2.2.1 (Int.toNat x.2.2.2.2.1))).bind fun y1 =>
    bif (decide ((((List.length x.2.1) + (List.length y1.2.2.1)) * (8 : Nat)) ≤ ((2 : Nat) ^ (46 : Nat)))) then
      some (Sum.inl (x.1, ((x.2.1 ++ y1.2.2.1), (x.2.2.1, (x.2.2.2.1, ((w64 (x.2.2.2.2.1 + (1 : Int))), (x.2.2.2.2.2.1, (x.2.2.2.2.2.2.1, (x.2.2.2.2.2.2.2.1, (x.2.2.2.2.2.2.2.2.1, (x.2.2.2.2.2.2.2.2.2.1, (x.2.2.2.2.2.2.2.2.2.2.1, (x.2.2.2.2.2.2.2.2.2.2.2.1, (x.2.2.2.2.2.2.2.2.2.2.2.2.1, (x.2.2.2.2.2.2.2.2.2.2.2.2.2.1, (x.2.2.2.2.2.2.2.2.2.2.2.2.2.2.1, (x.2.2.2.2.2.2.2.2.2.2.2.2.2.2.2.1, (x.2.2.2.2.2.2.2.2.2.2.2.2.2.2.2.2.1, (x.2.2.2.2.2.2.2.2.2.2.2.2.2.2.2.2.2.1, (x.2.2.2.2.2.2.2.2.2.2.2.2.2.2.2.2.2.2.1, (x.2.2.2.2.2.2.2.2.2.2.2.2.2.2.2.2.2.2.2.1, (x.2.2.2.2.2.2.2.2.2.2.2.2.2.2.2.2.2.2.2.2.1, (x.2.2.2.2.2.2.2.2.2.2.2.2.2.2.2.2.2.2.2.2.2.1, (x.2.2.2.2.2.2.2.2.2.2.2.2.2.2.2.2.2.2.2.2.2.2.1, (x.2.2.2.2.2.2.2.2.2.2.2.2.2.2.2.2.2.2.2.2.2.2.2.1, (x.2.2.2.2.2.2.2.2.2.2.2.2.2.2.2.2.2.2.2.2.2.2.2.2.1, x.2.2.2.2.2.2.2.2.2.2.2.2.2.2.2.2.2.2.2.2.2.2.2.2.2))))))))))))))))))))))))))
    else
      none
  else
    Option.map Sum.inr (
      ((lontarlaw18_Scalars fu x.1)).bind fun y2 =>
      ((lontarlaw01_Units fu (x.2.1, y2))).bind fun y3 =>
      bif y3 then
        ((iscii_Decoder_Script fu (x.2.2.2.2.2.2.2.2.2.2.2.2.2.2.2.2.2.2.2.2.2.2.2.2.2, (x.2.2.2.2.2.2.2.2.2.2.2.2.2.2.2.2.2.2.2.2.1, (x.2.2.2.2.2.2.2.2.2.2.2.2.2.2.2.2.2.2.2.2.2.1, (x.2.2.2.2.2.2.2.2.2.2.2.2.2.2.2.2.2.2.2.2.2.2.1, (x.2.2.2.2.2.2.2.2.2.2.2.2.2.2.2.2.2.2.2.2.2.2.2.1, x.2.2.2.2.2.2.2.2.2.2.2.2.2.2.2.2.2.2.2.2.2.2.2.2.1))))))).bind fun y4 =>
        ((iscii_Encoder_Script fu (x.2.2.2.2.2.2.2.2.2.2.2.2.2.2.2.2.2.1, (x.2.2.2.2.2.2.2.2.2.2.2.2.2.2.2.2.2.2.1, (x.2.2.2.2.2.2.2.2.2.2.2.2.2.2.2.2.2.2.2.1, (x.2.2.2.2.2.2.2.2.2.2.1, (x.2.2.2.2.2.2.2.2.2.2.2.1, (x.2.2.2.2.2.2.2.2.2.2.2.2.1, (x.2.2.2.2.2.2.2.2.2.2.2.2.2.1, (x.2.2.2.2.2.2.2.2.2.2.2.2.2.2.1, (x.2.2.2.2.2.2.2.2.2.2.2.2.2.2.2.1, (x.2.2.2.2.2.2.2.2.2.2.2.2.2.2.2.2.1, (x.2.2.2.2.2.1, (x.2.2.2.2.2.2.1, (x.2.2.2.2.2.2.2.1, (x.2.2.2.2.2.2.2.2.1, x.2.2.2.2.2.2.2.2.2.1)))))))))))))))).bind fun y5 =>
        some (y4.1 == y5.1)
      else
        some false)

def lontarlaw18_IsciiBack_L3 (fu : Nat) (x : ((List Int) × ((List Int) × ((List (Int × (Int × ((List Int) × Int)))) × (Int × (Int × ((List (Int × (Int × (Int × Int)))) × ((List ((List Int) × (List Int))) × ((List Int) × (Int × (Int × (Int × (Int × ((List (Int × (Int × (Int × Int)))) × ((List ((List Int) × (List Int))) × ((List (Int × (Int × (Int × Int)))) × ((List ((List Int) × (List Int))) × ((List Int) × (Int × (Int × (Int × ((List (Int × (Int × (Int × Int)))) × ((List ((List Int) × (List Int))) × ((List Int) × (Int × (Int × Int)))))))))))))))))))))))))) : Option (((List Int) × ((List Int) × ((List (Int × (Int × ((List Int) × Int)))) × (Int × (Int × ((List (Int × (Int × (Int × Int)))) × ((List ((List Int) × (List Int))) × ((List Int) × (Int × (Int × (Int × (Int × ((List (Int × (Int × (Int × Int)))) × ((List ((List Int) × (List Int))) × ((List (Int × (Int × (Int × Int)))) × ((List ((List Int) × (List Int))) × ((List Int) × (Int × (Int × (Int × ((List (Int × (Int × (Int × Int)))) × ((List ((List Int) × (List Int))) × ((List Int) × (Int × (Int × Int))))))))))))))))))))))))) ⊕ Bool) :=
  bif (decide (x.2.2.2.2.1 < x.2.2.2.1)) then
    ((nthI x.2.2.1 x.2.2.2.2.1)).bind fun y0 =>
    ((GetElem?.getElem? x.2.2.1 (Int.toNat x.2.2.2.2.1))).bind fun y1 =>
    bif (y1.2.2.2 != (0 : Int)) then
      some (Sum.inr true)
    else
      loopM (lontarlaw18_IsciiBack_L1 fu) fu (x.1, (x.2.1, (x.2.2.1, (x.2.2.2.1, (x.2.2.2.2.1, (y1.2.2.1, ((↑((List.length y1.2.2.1)) : Int), ((0 : Int), (x.2.2.2.2.2.1, (x.2.2.2.2.2.2.1, (x.2.2.2.2.2.2.2.1, (x.2.2.2.2.2.2.2.2.1, (x.2.2.2.2.2.2.2.2.2.1, (x.2.2.2.2.2.2.2.2.2.2.1, (x.2.2.2.2.2.2.2.2.2.2.2.1, (x.2.2.2.2.2.2.2.2.2.2.2.2.1, (x.2.2.2.2.2.2.2.2.2.2.2.2.2.1, (x.2.2.2.2.2.2.2.2.2.2.2.2.2.2.1, (x.2.2.2.2.2.2.2.2.2.2.2.2.2.2.2.1, (x.2.2.2.2.2.2.2.2.2.2.2.2.2.2.2.2.1, (x.2.2.2.2.2.2.2.2.2.2.2.2.2.2.2.2.2.1, (x.2.2.2.2.2.2.2.2.2.2.2.2.2.2.2.2.2.2.1, (x.2.2.2.2.2.2.2.2.2.2.2.2.2.2.2.2.2.2.2.1, (x.2.2.2.2.2.2.2.2.2.2.2.2.2.2.2.2.2.2.2.2.1, (x.2.2.2.2.2.2.2.2.2.2.2.2.2.2.2.2.2.2.2.2.2.1, (x.2.2.2.2.2.2.2.2.2.2.2.2.2.2.2.2.2.2.2.2.2.2.1, (x.2.2.2.2.2.2.2.2.2.2.2.2.2.2.2.2.2.2.2.2.2.2.2.1, (x.2.2.2.2.2.2.2.2.2.2.2.2.2.2.2.2.2.2.2.2.2.2.2.2.1, (x.2.2.2.2.2.2.2.2.2.2.2.2.2.2.2.2.2.2.2.2.2.2.2.2.2, (y1.1, (y1.2.1, (y1.2.2.1, y1.2.2.2))))))))))))))))))))))))))))))))
  else
    Option.map Sum.inr (
      ((iscii_Decoder_End fu (x.2.2.2.2.2.2.2.2.2.2.2.2.2.2.2.2.2.2.2.2.2.2.2.2.2, (x.2.2.2.2.2.2.2.2.2.2.2.2.2.2.2.2.2.2.2.2.1, (x.2.2.2.2.2.2.2.2.2.2.2.2.2.2.2.2.2.2.2.2.2.1, (x.2.2.2.2.2.2.2.2.2.2.2.2.2.2.2.2.2.2.2.2.2.2.1, (x.2.2.2.2.2.2.2.2.2.2.2.2.2.2.2.2.2.2.2.2.2.2.2.1, x.2.2.2.2.2.2.2.2.2.2.2.2.2.2.2.2.2.2.2.2.2.2.2.2.1))))))).bind fun y2 =>
      loopM (lontarlaw18_IsciiBack_L2 fu) fu (x.1, (x.2.1, (y2.1, ((↑((List.length y2.1)) : Int), ((0 : Int), (x.2.2.2.2.2.1, (x.2.2.2.2.2.2.1, (x.2.2.2.2.2.2.2.1, (x.2.2.2.2.2.2.2.2.1, (x.2.2.2.2.2.2.2.2.2.1, (x.2.2.2.2.2.2.2.2.2.2.1, (x.2.2.2.2.2.2.2.2.2.2.2.1, (x.2.2.2.2.2.2.2.2.2.2.2.2.1, (x.2.2.2.2.2.2.2.2.2.2.2.2.2.1, (x.2.2.2.2.2.2.2.2.2.2.2.2.2.2.1, (x.2.2.2.2.2.2.2.2.2.2.2.2.2.2.2.1, (x.2.2.2.2.2.2.2.2.2.2.2.2.2.2.2.2.1, (x.2.2.2.2.2.2.2.2.2.2.2.2.2.2.2.2.2.1, (x.2.2.2.2.2.2.2.2.2.2.2.2.2.2.2.2.2.2.1, (x.2.2.2.2.2.2.2.2.2.2.2.2.2.2.2.2.2.2.2.1, (y2.2.2.1, (y2.2.2.2.1, (y2.2.2.2.2.1, (y2.2.2.2.2.2.1, (y2.2.2.2.2.2.2, y2.2.1))))))))))))))))))))))))))

def lontarlaw18_IsciiBack_L4 (fu : Nat) (x : ((List Int) × ((List (Int × (Int × ((List Int) × Int)))) × ((List Int) × (Int × (Int × ((List (Int × (Int × (Int × Int)))) × ((List ((List Int) × (List Int))) × ((List Int) × (Int × (Int × (Int × (Int × ((List (Int × (Int × (Int × Int)))) × ((List ((List Int) × (List Int))) × ((List (Int × (Int × (Int × Int)))) × ((List ((List Int) × (List Int))) × ((List Int) × (Int × (Int × (Int × ((List (Int × (Int × (Int × Int)))) × ((List ((List Int) × (List Int))) × ((List Int) × (Int × (Int × Int)))))))))))))))))))))))))) : Option (((List Int) × ((List (Int × (Int × ((List Int) × Int)))) × ((List Int) × (Int × (Int × ((List (Int × (Int × (Int × Int)))) × ((List ((List Int) × (List Int))) × ((List Int) × (Int × (Int × (Int × (Int × ((List (Int × (Int × (Int × Int)))) × ((List ((List Int) × (List Int))) × ((List (Int × (Int × (Int × Int)))) × ((List ((List Int) × (List Int))) × ((List Int) × (Int × (Int × (Int × ((List (Int × (Int × (Int × Int)))) × ((List ((List Int) × (List Int))) × ((List Int) × (Int × (Int × Int))))))))))))))))))))))))) ⊕ Bool) :=
  bif (decide (x.2.2.2.2.1 < x.2.2.2.1)) then
    ((nthI x.2.2.1 x.2.2.2.2.1)).bind fun y0 =>
    ((GetElem?.getElem? x.2.2.1 (Int.toNat x.2.2.2.2.1))).bind fun y1 =>
    ((iscii_Encoder_Put fu (y1, (x.2.2.2.2.2.2.2.2.2.2.2.2.2.2.2.2.2.1, (x.2.2.2.2.2.2.2.2.2.2.2.2.2.2.2.2.2.2.1, (x.2.2.2.2.2.2.2.2.2.2.2.2.2.2.2.2.2.2.2.1, (x.2.2.2.2.2.2.2.2.2.2.1, (x.2.2.2.2.2.2.2.2.2.2.2.1, (x.2.2.2.2.2.2.2.2.2.2.2.2.1, (x.2.2.2.2.2.2.2.2.2.2.2.2.2.1, (x.2.2.2.2.2.2.2.2.2.2.2.2.2.2.1, (x.2.2.2.2.2.2.2.2.2.2.2.2.2.2.2.1, (x.2.2.2.2.2.2.2.2.2.2.2.2.2.2.2.2.1, (x.2.2.2.2.2.1, (x.2.2.2.2.2.2.1, (x.2.2.2.2.2.2.2.1, (x.2.2.2.2.2.2.2.2.1, x.2.2.2.2.2.2.2.2.2.1))))))))))))))))).bind fun y2 =>
    bif (decide ((((List.length x.2.1) + (List.length y2.1)) * (48 : Nat)) ≤ ((2 : Nat) ^ (46 : Nat)))) then
      some (Sum.inl (x.1, ((x.2.1 ++ y2.1), (x.2.2.1, (x.2.2.2.1, ((w64 (x.2.2.2.2.1 + (1 : Int))), (y2.2.2.2.2.2.2.2.2.2.2.2.1, (y2.2.2.2.2.2.2.2.2.2.2.2.2.1, (y2.2.2.2.2.2.2.2.2.2.2.2.2.2.1, (y2.2.2.2.2.2.2.2.2.2.2.2.2.2.2.1, (y2.2.2.2.2.2.2.2.2.2.2.2.2.2.2.2, (y2.2.2.2.2.1, (y2.2.2.2.2.2.1, (y2.2.2.2.2.2.2.1, (y2.2.2.2.2.2.2.2.1, (y2.2.2.2.2.2.2.2.2.1, (y2.2.2.2.2.2.2.2.2.2.1, (y2.2.2.2.2.2.2.2.2.2.2.1, (y2.2.1, (y2.2.2.1, (y2.2.2.2.1, (x.2.2.2.2.2.2.2.2.2.2.2.2.2.2.2.2.2.2.2.2.1, (x.2.2.2.2.2.2.2.2.2.2.2.2.2.2.2.2.2.2.2.2.2.1, (x.2.2.2.2.2.2.2.2.2.2.2.2.2.2.2.2.2.2.2.2.2.2.1, (x.2.2.2.2.2.2.2.2.2.2.2.2.2.2.2.2.2.2.2.2.2.2.2.1, (x.2.2.2.2.2.2.2.2.2.2.2.2.2.2.2.2.2.2.2.2.2.2.2.2.1, x.2.2.2.2.2.2.2.2.2.2.2.2.2.2.2.2.2.2.2.2.2.2.2.2.2))))))))))))))))))))))))))
    else
      none
  else
    Option.map Sum.inr (
      ((iscii_Encoder_End fu (x.2.2.2.2.2.2.2.2.2.2.2.2.2.2.2.2.2.1, (x.2.2.2.2.2.2.2.2.2.2.2.2.2.2.2.2.2.2.1, (x.2.2.2.2.2.2.2.2.2.2.2.2.2.2.2.2.2.2.2.1, (x.2.2.2.2.2.2.2.2.2.2.1, (x.2.2.2.2.2.2.2.2.2.2.2.1, (x.2.2.2.2.2.2.2.2.2.2.2.2.1, (x.2.2.2.2.2.2.2.2.2.2.2.2.2.1, (x.2.2.2.2.2.2.2.2.2.2.2.2.2.2.1, (x.2.2.2.2.2.2.2.2.2.2.2.2.2.2.2.1, (x.2.2.2.2.2.2.2.2.2.2.2.2.2.2.2.2.1, (x.2.2.2.2.2.1, (x.2.2.2.2.2.2.1, (x.2.2.2.2.2.2.2.1, (x.2.2.2.2.2.2.2.2.1, x.2.2.2.2.2.2.2.2.2.1)))))))))))))))).bind fun y3 =>
      bif (decide ((((List.length x.2.1) + (List.length y3.1)) * (48 : Nat)) ≤ ((2 : Nat) ^ (46 : Nat)))) then
        loopM (lontarlaw18_IsciiBack_L3 fu) fu (x.1, (([] : List Int), ((x.2.1 ++ y3.1), ((↑((List.length (x.2.1 ++ y3.1))) : Int), ((0 : Int), (y3.2.2.2.2.2.2.2.2.2.2.2.1, (y3.2.2.2.2.2.2.2.2.2.2.2.2.1, (y3.2.2.2.2.2.2.2.2.2.2.2.2.2.1, (y3.2.2.2.2.2.2.2.2.2.2.2.2.2.2.1, (y3.2.2.2.2.2.2.2.2.2.2.2.2.2.2.2, (y3.2.2.2.2.1, (y3.2.2.2.2.2.1, (y3.2.2.2.2.2.2.1, (y3.2.2.2.2.2.2.2.1, (y3.2.2.2.2.2.2.2.2.1, (y3.2.2.2.2.2.2.2.2.2.1, (y3.2.2.2.2.2.2.2.2.2.2.1, (y3.2.1, (y3.2.2.1, (y3.2.2.2.1, (x.2.2.2.2.2.2.2.2.2.2.2.2.2.2.2.2.2.2.2.2.1, (x.2.2.2.2.2.2.2.2.2.2.2.2.2.2.2.2.2.2.2.2.2.1, (x.2.2.2.2.2.2.2.2.2.2.2.2.2.2.2.2.2.2.2.2.2.2.1, (x.2.2.2.2.2.2.2.2.2.2.2.2.2.2.2.2.2.2.2.2.2.2.2.1, (x.2.2.2.2.2.2.2.2.2.2.2.2.2.2.2.2.2.2.2.2.2.2.2.2.1, x.2.2.2.2.2.2.2.2.2.2.2.2.2.2.2.2.2.2.2.2.2.2.2.2.2)))))))))))))))))))))))))
      else
        none)

def lontarlaw18_IsciiBack (fu : Nat) (x : (List Int)) : Option Bool :=
  ((lontarlaw18_awake fu ())).bind fun y0 =>
  bif (!y0) then
    some false
  else
    ((iscii_Encode fu ())).bind fun y1 =>
    ((iscii_Decode fu ())).bind fun y2 =>
    ((lontarlaw18_Scalars fu x)).bind fun y3 =>
    loopM (lontarlaw18_IsciiBack_L4 fu) fu (x, (([] : List (Int × (Int × ((List Int) × Int)))), (y3, ((↑((List.length y3)) : Int), ((0 : Int), (y1.1, (y1.2.1, (y1.2.2.1, (y1.2.2.2.1, (y1.2.2.2.2.1, (y1.2.2.2.2.2.1, (y1.2.2.2.2.2.2.1, (y1.2.2.2.2.2.2.2.1, (y1.2.2.2.2.2.2.2.2.1, (y1.2.2.2.2.2.2.2.2.2.1, (y1.2.2.2.2.2.2.2.2.2.2.1, (y1.2.2.2.2.2.2.2.2.2.2.2.1, (y1.2.2.2.2.2.2.2.2.2.2.2.2.1, (y1.2.2.2.2.2.2.2.2.2.2.2.2.2.1, (y1.2.2.2.2.2.2.2.2.2.2.2.2.2.2, (y2.1, (y2.2.1, (y2.2.2.1, (y2.2.2.2.1, (y2.2.2.2.2.1, y2.2.2.2.2.2)))))))))))))))))))))))))
end Go.AM.M

namespace Go.AM.M
open Go.AM

def lontarlaw03_find_L0 (fu : Nat) (x : ((List ((List Int) × (List Int))) × ((List Int) × ((List ((List Int) × (List Int))) × (Int × Int))))) : Option (((List ((List Int) × (List Int))) × ((List Int) × ((List ((List Int) × (List Int))) × (Int × Int)))) ⊕ Int) :=
  bif (decide (x.2.2.2.2 < x.2.2.2.1)) then
    ((nthI x.2.2.1 x.2.2.2.2)).bind fun y0 =>
    ((lontarlaw01_Units fu (y0.1, x.2.1))).bind fun y1 =>
    bif y1 then
      some (Sum.inr x.2.2.2.2)
    else
      some (Sum.inl (x.1, (x.2.1, (x.2.2.1, (x.2.2.2.1, (w64 (x.2.2.2.2 + (1 : Int))))))))
  else
    some (Sum.inr (-(1 : Int)))

def lontarlaw03_find (fu : Nat) (x : ((List ((List Int) × (List Int))) × (List Int))) : Option Int :=
  loopM (lontarlaw03_find_L0 fu) fu (x.1, (x.2, (x.1, ((↑((List.length x.1)) : Int), (0 : Int)))))
end Go.AM.M

namespace Go.AM.M
open Go.AM

def lontarlaw03_may_L0 (fu : Nat) (x : ((List Int) × ((List Int) × (Int × Int)))) : Option (((List Int) × ((List Int) × (Int × Int))) ⊕ Bool) :=
  bif (decide (x.2.2.2 < x.2.2.1)) then
    ((nthI x.2.1 x.2.2.2)).bind fun y0 =>
    bif (decide (y0 < (0 : Int))) then
      some (Sum.inr false)
    else
      bif (decide (y0 > (1114111 : Int))) then
        some (Sum.inr false)
      else
        some (Sum.inl (x.1, (x.2.1, (x.2.2.1, (w64 (x.2.2.2 + (1 : Int)))))))
  else
    Option.map Sum.inr (
      bif (decide ((↑((List.length x.1)) : Int) > (0 : Int))) then
        some (decide ((↑((List.length x.1)) : Int) < (9 : Int)))
      else
        some false)

def lontarlaw03_may (fu : Nat) (x : (List Int)) : Option Bool :=
  loopM (lontarlaw03_may_L0 fu) fu (x, (x, ((↑((List.length x)) : Int), (0 : Int))))
end Go.AM.M

namespace Go.AM.M
open Go.AM

def lontarlaw03_units_L0 (fu : Nat) (x : (Int × ((List Int) × ((List Int) × (Int × Int))))) : Option ((Int × ((List Int) × ((List Int) × (Int × Int)))) ⊕ (List Int)) :=
  bif (decide (x.2.2.2.2 < x.2.2.2.1)) then
    ((nthI x.2.2.1 x.2.2.2.2)).bind fun y0 =>
    bif (decide ((((List.length x.2.1) + (List.length [(w64 (x.1 + (w64 (Int.tmod y0 (5 : Int)))))])) * (8 : Nat)) ≤ ((2 : Nat) ^ (46 : Nat)))) then
      some (Sum.inl (x.1, ((x.2.1 ++ [(w64 (x.1 + (w64 (Int.tmod y0 (5 : Int)))))]), (x.2.2.1, (x.2.2.2.1, (w64 (x.2.2.2.2 + (1 : Int))))))))
    else
      none
  else
    Option.map Sum.inr (
      bif (decide ((((List.length x.2.1) + (List.length [x.1])) * (8 : Nat)) ≤ ((2 : Nat) ^ (46 : Nat)))) then
        ((sliceI (x.2.1 ++ [x.1]) (0 : Int) (if ((↑((List.length x.2.1)) : Int) > (1 : Int)) then (↑((List.length x.2.1)) : Int) else (1 : Int)))).bind fun y1 =>
        some y1
      else
        none)

def lontarlaw03_units (fu : Nat) (x : ((List Int) × Int)) : Option (List Int) :=
  ((sliceI x.1 (0 : Int) (if ((4 : Int) < (↑((List.length x.1)) : Int)) then (4 : Int) else (↑((List.length x.1)) : Int)))).bind fun y0 =>
  loopM (lontarlaw03_units_L0 fu) fu (x.2, (([] : List Int), (y0, ((↑((List.length y0)) : Int), (0 : Int)))))
end Go.AM.M

namespace Go.AM.M
open Go.AM

def lontarlaw03_Rules_L0 (fu : Nat) (x : ((List ((List Int) × (List Int))) × ((List ((List Int) × ((List Int) × (Bool × ((List Int) × (List Int)))))) × (Int × Int)))) : Option (((List ((List Int) × (List Int))) × ((List ((List Int) × ((List Int) × (Bool × ((List Int) × (List Int)))))) × (Int × Int))) ⊕ (List ((List Int) × (List Int)))) :=
  bif (decide (x.2.2.2 < x.2.2.1)) then
    ((nthI x.2.1 x.2.2.2)).bind fun y0 =>
    ((lontarlaw03_units fu (y0.1, (97 : Int)))).bind fun y1 =>
    ((lontarlaw03_units fu (y0.2.1, (97 : Int)))).bind fun y2 =>
    bif y0.2.2.1 then
      bif (decide ((((List.length x.1) + (List.length [(y0.2.2.2.1, y0.2.2.2.2)])) * (48 : Nat)) ≤ ((2 : Nat) ^ (46 : Nat)))) then
        some (Sum.inl ((x.1 ++ [(y0.2.2.2.1, y0.2.2.2.2)]), (x.2.1, (x.2.2.1, (w64 (x.2.2.2 + (1 : Int)))))))
      else
        none
    else
      bif (decide ((((List.length x.1) + (List.length [(y1, y2)])) * (48 : Nat)) ≤ ((2 : Nat) ^ (46 : Nat)))) then
        some (Sum.inl ((x.1 ++ [(y1, y2)]), (x.2.1, (x.2.2.1, (w64 (x.2.2.2 + (1 : Int)))))))
      else
        none
  else
    some (Sum.inr x.1)

def lontarlaw03_Rules (fu : Nat) (x : (List ((List Int) × ((List Int) × (Bool × ((List Int) × (List Int))))))) : Option (List ((List Int) × (List Int))) :=
  ((sliceI x (0 : Int) (if ((40 : Int) < (↑((List.length x)) : Int)) then (40 : Int) else (↑((List.length x)) : Int)))).bind fun y0 =>
  loopM (lontarlaw03_Rules_L0 fu) fu (([] : List ((List Int) × (List Int))), (y0, ((↑((List.length y0)) : Int), (0 : Int))))
end Go.AM.M

namespace Go.AM.M
open Go.AM

def lontarlaw03_Right_L0 (fu : Nat) (x : ((List ((List Int) × (List Int))) × ((List ((List Int) × (List Int))) × (Int × Int)))) : Option (((List ((List Int) × (List Int))) × ((List ((List Int) × (List Int))) × (Int × Int))) ⊕ (List ((List Int) × (List Int)))) :=
  bif (decide (x.2.2.2 < x.2.2.1)) then
    ((nthI x.2.1 x.2.2.2)).bind fun y0 =>
    ((GetElem?.getElem? x.2.1 (Int.toNat x.2.2.2))).bind fun y1 =>
    ((lontarlaw03_may fu y1.1)).bind fun y2 =>
    bif y2 then
      ((lontarlaw03_may fu y1.2)).bind fun y3 =>
      bif y3 then
        ((lontarlaw03_find fu (x.1, y1.1))).bind fun y4 =>
        bif (decide (y4 < (0 : Int))) then
          bif (decide ((((List.length x.1) + (List.length [(y1.1, y1.2)])) * (48 : Nat)) ≤ ((2 : Nat) ^ (46 : Nat)))) then
            some (Sum.inl ((x.1 ++ [(y1.1, y1.2)]), (x.2.1, (x.2.2.1, (w64 (x.2.2.2 + (1 : Int)))))))
          else
            none
        else
          some (Sum.inl (x.1, (x.2.1, (x.2.2.1, (w64 (x.2.2.2 + (1 : Int)))))))
      else
        some (Sum.inl (x.1, (x.2.1, (x.2.2.1, (w64 (x.2.2.2 + (1 : Int)))))))
    else
      some (Sum.inl (x.1, (x.2.1, (x.2.2.1, (w64 (x.2.2.2 + (1 : Int)))))))
  else
    some (Sum.inr x.1)

def lontarlaw03_Right (fu : Nat) (x : (List ((List Int) × ((List Int) × (Bool × ((List Int) × (List Int))))))) : Option (List ((List Int) × (List Int))) :=
  ((lontarlaw03_Rules fu x)).bind fun y0 =>
  loopM (lontarlaw03_Right_L0 fu) fu (([] : List ((List Int) × (List Int))), (y0, ((↑((List.length y0)) : Int), (0 : Int))))
end Go.AM.M

namespace Go.AM.M
open Go.AM

def lontarlaw15_Closed_L0 (fu : Nat) (x : ((List ((List Int) × (List Int))) × (Int × (Bool × (Bool × ((List ((List Int) × (List Int))) × (Int × (Int × ((List ((List Int) × (List Int))) × (Int × (Int × ((List Int) × (List Int))))))))))))) : Option (((List ((List Int) × (List Int))) × (Int × (Bool × (Bool × ((List ((List Int) × (List Int))) × (Int × (Int × ((List ((List Int) × (List Int))) × (Int × (Int × ((List Int) × (List Int)))))))))))) ⊕ (((List ((List Int) × (List Int))) × (Int × ((List ((List Int) × (List Int))) × (Int × (Int × ((List Int) × (List Int))))))) ⊕ (((List ((List Int) × (List Int))) × ((List ((List Int) × (List Int))) × (Int × Int))) ⊕ Bool))) :=
  bif (decide (x.2.2.2.2.2.2.2.2.2.1 < x.2.2.2.2.2.2.2.2.1)) then
    ((nthI x.2.2.2.2.2.2.2.1 x.2.2.2.2.2.2.2.2.2.1)).bind fun y0 =>
    bif x.2.2.1 then
      bif x.2.2.2.1 then
        some (Sum.inl (x.1, (x.2.1, (true, (true, (x.2.2.2.2.1, (x.2.2.2.2.2.1, (x.2.2.2.2.2.2.1, (x.2.2.2.2.2.2.2.1, (x.2.2.2.2.2.2.2.2.1, ((w64 (x.2.2.2.2.2.2.2.2.2.1 + (1 : Int))), (x.2.2.2.2.2.2.2.2.2.2.1, x.2.2.2.2.2.2.2.2.2.2.2))))))))))))
      else
        ((nthI y0.1 (w64 ((↑((List.length y0.1)) : Int) - (1 : Int))))).bind fun y1 =>
        ((nthI x.2.2.2.2.2.2.2.2.2.2.1 (0 : Int))).bind fun y2 =>
        some (Sum.inl (x.1, (x.2.1, (true, ((y1 == y2), (x.2.2.2.2.1, (x.2.2.2.2.2.1, (x.2.2.2.2.2.2.1, (x.2.2.2.2.2.2.2.1, (x.2.2.2.2.2.2.2.2.1, ((w64 (x.2.2.2.2.2.2.2.2.2.1 + (1 : Int))), (x.2.2.2.2.2.2.2.2.2.2.1, x.2.2.2.2.2.2.2.2.2.2.2))))))))))))
    else
      ((sliceI x.2.2.2.2.2.2.2.2.2.2.1 (0 : Int) x.2.1)).bind fun y3 =>
      ((lontarlaw01_Units fu (y0.1, y3))).bind fun y4 =>
      bif x.2.2.2.1 then
        some (Sum.inl (x.1, (x.2.1, (y4, (true, (x.2.2.2.2.1, (x.2.2.2.2.2.1, (x.2.2.2.2.2.2.1, (x.2.2.2.2.2.2.2.1, (x.2.2.2.2.2.2.2.2.1, ((w64 (x.2.2.2.2.2.2.2.2.2.1 + (1 : Int))), (x.2.2.2.2.2.2.2.2.2.2.1, x.2.2.2.2.2.2.2.2.2.2.2))))))))))))
      else
        ((nthI y0.1 (w64 ((↑((List.length y0.1)) : Int) - (1 : Int))))).bind fun y5 =>
        ((nthI x.2.2.2.2.2.2.2.2.2.2.1 (0 : Int))).bind fun y6 =>
        some (Sum.inl (x.1, (x.2.1, (y4, ((y5 == y6), (x.2.2.2.2.1, (x.2.2.2.2.2.1, (x.2.2.2.2.2.2.1, (x.2.2.2.2.2.2.2.1, (x.2.2.2.2.2.2.2.2.1, ((w64 (x.2.2.2.2.2.2.2.2.2.1 + (1 : Int))), (x.2.2.2.2.2.2.2.2.2.2.1, x.2.2.2.2.2.2.2.2.2.2.2))))))))))))
  else
    Option.map Sum.inr (
      bif (!x.2.2.1) then
        bif (decide (x.2.1 > (1 : Int))) then
          some (Sum.inr (Sum.inr false))
        else
          bif x.2.2.2.1 then
            some (Sum.inr (Sum.inr false))
          else
            some (Sum.inl (x.1, ((w64 (x.2.1 + (1 : Int))), (x.2.2.2.2.1, (x.2.2.2.2.2.1, (x.2.2.2.2.2.2.1, (x.2.2.2.2.2.2.2.2.2.2.1, x.2.2.2.2.2.2.2.2.2.2.2)))))))
      else
        some (Sum.inl (x.1, ((w64 (x.2.1 + (1 : Int))), (x.2.2.2.2.1, (x.2.2.2.2.2.1, (x.2.2.2.2.2.2.1, (x.2.2.2.2.2.2.2.2.2.2.1, x.2.2.2.2.2.2.2.2.2.2.2))))))))

def lontarlaw15_Closed_L1 (fu : Nat) (x : ((List ((List Int) × (List Int))) × (Int × ((List ((List Int) × (List Int))) × (Int × (Int × ((List Int) × (List Int)))))))) : Option (((List ((List Int) × (List Int))) × (Int × ((List ((List Int) × (List Int))) × (Int × (Int × ((List Int) × (List Int))))))) ⊕ (((List ((List Int) × (List Int))) × ((List ((List Int) × (List Int))) × (Int × Int))) ⊕ Bool)) :=
  bif (decide (x.2.1 < (↑((List.length x.2.2.2.2.2.1)) : Int))) then
    loopM (lontarlaw15_Closed_L0 fu) fu (x.1, (x.2.1, (false, (false, (x.2.2.1, (x.2.2.2.1, (x.2.2.2.2.1, (x.1, ((↑((List.length x.1)) : Int), ((0 : Int), (x.2.2.2.2.2.1, x.2.2.2.2.2.2)))))))))))
  else
    some (Sum.inr (Sum.inl (x.1, (x.2.2.1, (x.2.2.2.1, (w64 (x.2.2.2.2.1 + (1 : Int))))))))

def lontarlaw15_Closed_L2 (fu : Nat) (x : ((List ((List Int) × (List Int))) × ((List ((List Int) × (List Int))) × (Int × Int)))) : Option (((List ((List Int) × (List Int))) × ((List ((List Int) × (List Int))) × (Int × Int))) ⊕ Bool) :=
  bif (decide (x.2.2.2 < x.2.2.1)) then
    ((nthI x.2.1 x.2.2.2)).bind fun y0 =>
    loopM (lontarlaw15_Closed_L1 fu) fu (x.1, ((1 : Int), (x.2.1, (x.2.2.1, (x.2.2.2, (y0.1, y0.2))))))
  else
    some (Sum.inr true)

def lontarlaw15_Closed (fu : Nat) (x : (List ((List Int) × (List Int)))) : Option Bool :=
  loopM (lontarlaw15_Closed_L2 fu) fu (x, (x, ((↑((List.length x)) : Int), (0 : Int))))
end Go.AM.M

namespace Go.AM.M
open Go.AM

def lontarlaw15_Rules_L0 (fu : Nat) (x : ((List ((List Int) × (List Int))) × ((List ((List Int) × (List Int))) × (Int × Int)))) : Option (((List ((List Int) × (List Int))) × ((List ((List Int) × (List Int))) × (Int × Int))) ⊕ (List ((List Int) × (List Int)))) :=
  bif (decide (x.2.2.2 < x.2.2.1)) then
    ((nthI x.2.1 x.2.2.2)).bind fun y0 =>
    ((GetElem?.getElem? x.2.1 (Int.toNat x.2.2.2))).bind fun y1 =>
    bif (decide (((List.length x.1) * (48 : Nat)) ≤ ((2 : Nat) ^ (46 : Nat)))) then
      bif (decide ((((List.length x.1) + (List.length [(y1.1, y1.2)])) * (48 : Nat)) ≤ ((2 : Nat) ^ (46 : Nat)))) then
        ((lontarlaw15_Closed fu (x.1 ++ [(y1.1, y1.2)]))).bind fun y2 =>
        bif y2 then
          bif (decide ((((List.length x.1) + (List.length [(y1.1, y1.2)])) * (48 : Nat)) ≤ ((2 : Nat) ^ (46 : Nat)))) then
            some (Sum.inl ((x.1 ++ [(y1.1, y1.2)]), (x.2.1, (x.2.2.1, (w64 (x.2.2.2 + (1 : Int)))))))
          else
            none
        else
          some (Sum.inl (x.1, (x.2.1, (x.2.2.1, (w64 (x.2.2.2 + (1 : Int)))))))
      else
        none
    else
      none
  else
    some (Sum.inr x.1)

def lontarlaw15_Rules (fu : Nat) (x : (List ((List Int) × ((List Int) × (Bool × ((List Int) × (List Int))))))) : Option (List ((List Int) × (List Int))) :=
  ((lontarlaw03_Right fu x)).bind fun y0 =>
  loopM (lontarlaw15_Rules_L0 fu) fu (([] : List ((List Int) × (List Int))), (y0, ((↑((List.length y0)) : Int), (0 : Int))))
end Go.AM.M

namespace Go.AM.M
open Go.AM

def lontarlaw04_Longest_L0 (fu : Nat) (x : ((List ((List Int) × (List Int))) × ((List Int) × (Int × (Int × (Bool × ((List ((List Int) × (List Int))) × (Int × Int)))))))) : Option (((List ((List Int) × (List Int))) × ((List Int) × (Int × (Int × (Bool × ((List ((List Int) × (List Int))) × (Int × Int))))))) ⊕ (Int × (Int × Bool))) :=
  bif (decide (x.2.2.2.2.2.2.2 < x.2.2.2.2.2.2.1)) then
    ((nthI x.2.2.2.2.2.1 x.2.2.2.2.2.2.2)).bind fun y0 =>
    bif (decide ((↑((List.length y0.1)) : Int) ≤ (↑((List.length x.2.1)) : Int))) then
      ((sliceI x.2.1 (0 : Int) (↑((List.length y0.1)) : Int))).bind fun y1 =>
      ((lontarlaw01_Units fu (y0.1, y1))).bind fun y2 =>
      bif y2 then
        bif (decide ((↑((List.length y0.1)) : Int) > x.2.2.2.1)) then
          bif x.2.2.2.2.1 then
            some (Sum.inl (x.1, (x.2.1, (x.2.2.2.2.2.2.2, ((↑((List.length y0.1)) : Int), (true, (x.2.2.2.2.2.1, (x.2.2.2.2.2.2.1, (w64 (x.2.2.2.2.2.2.2 + (1 : Int)))))))))))
          else
            bif (decide ((↑((List.length y0.1)) : Int) > (↑((List.length x.2.1)) : Int))) then
              ((sliceI y0.1 (0 : Int) (↑((List.length x.2.1)) : Int))).bind fun y3 =>
              ((lontarlaw01_Units fu (y3, x.2.1))).bind fun y4 =>
              some (Sum.inl (x.1, (x.2.1, (x.2.2.2.2.2.2.2, ((↑((List.length y0.1)) : Int), (y4, (x.2.2.2.2.2.1, (x.2.2.2.2.2.2.1, (w64 (x.2.2.2.2.2.2.2 + (1 : Int)))))))))))
            else
              some (Sum.inl (x.1, (x.2.1, (x.2.2.2.2.2.2.2, ((↑((List.length y0.1)) : Int), (false, (x.2.2.2.2.2.1, (x.2.2.2.2.2.2.1, (w64 (x.2.2.2.2.2.2.2 + (1 : Int)))))))))))
        else
          bif x.2.2.2.2.1 then
            some (Sum.inl (x.1, (x.2.1, (x.2.2.1, (x.2.2.2.1, (true, (x.2.2.2.2.2.1, (x.2.2.2.2.2.2.1, (w64 (x.2.2.2.2.2.2.2 + (1 : Int)))))))))))
          else
            bif (decide ((↑((List.length y0.1)) : Int) > (↑((List.length x.2.1)) : Int))) then
              ((sliceI y0.1 (0 : Int) (↑((List.length x.2.1)) : Int))).bind fun y5 =>
              ((lontarlaw01_Units fu (y5, x.2.1))).bind fun y6 =>
              some (Sum.inl (x.1, (x.2.1, (x.2.2.1, (x.2.2.2.1, (y6, (x.2.2.2.2.2.1, (x.2.2.2.2.2.2.1, (w64 (x.2.2.2.2.2.2.2 + (1 : Int)))))))))))
            else
              some (Sum.inl (x.1, (x.2.1, (x.2.2.1, (x.2.2.2.1, (false, (x.2.2.2.2.2.1, (x.2.2.2.2.2.2.1, (w64 (x.2.2.2.2.2.2.2 + (1 : Int)))))))))))
      else
        bif x.2.2.2.2.1 then
          some (Sum.inl (x.1, (x.2.1, (x.2.2.1, (x.2.2.2.1, (true, (x.2.2.2.2.2.1, (x.2.2.2.2.2.2.1, (w64 (x.2.2.2.2.2.2.2 + (1 : Int)))))))))))
        else
          bif (decide ((↑((List.length y0.1)) : Int) > (↑((List.length x.2.1)) : Int))) then
            ((sliceI y0.1 (0 : Int) (↑((List.length x.2.1)) : Int))).bind fun y7 =>
            ((lontarlaw01_Units fu (y7, x.2.1))).bind fun y8 =>
            some (Sum.inl (x.1, (x.2.1, (x.2.2.1, (x.2.2.2.1, (y8, (x.2.2.2.2.2.1, (x.2.2.2.2.2.2.1, (w64 (x.2.2.2.2.2.2.2 + (1 : Int)))))))))))
          else
            some (Sum.inl (x.1, (x.2.1, (x.2.2.1, (x.2.2.2.1, (false, (x.2.2.2.2.2.1, (x.2.2.2.2.2.2.1, (w64 (x.2.2.2.2.2.2.2 + (1 : Int)))))))))))
    else
      bif x.2.2.2.2.1 then
        some (Sum.inl (x.1, (x.2.1, (x.2.2.1, (x.2.2.2.1, (true, (x.2.2.2.2.2.1, (x.2.2.2.2.2.2.1, (w64 (x.2.2.2.2.2.2.2 + (1 : Int)))))))))))
      else
        bif (decide ((↑((List.length y0.1)) : Int) > (↑((List.length x.2.1)) : Int))) then
          ((sliceI y0.1 (0 : Int) (↑((List.length x.2.1)) : Int))).bind fun y9 =>
          ((lontarlaw01_Units fu (y9, x.2.1))).bind fun y10 =>
          some (Sum.inl (x.1, (x.2.1, (x.2.2.1, (x.2.2.2.1, (y10, (x.2.2.2.2.2.1, (x.2.2.2.2.2.2.1, (w64 (x.2.2.2.2.2.2.2 + (1 : Int)))))))))))
        else
          some (Sum.inl (x.1, (x.2.1, (x.2.2.1, (x.2.2.2.1, (false, (x.2.2.2.2.2.1, (x.2.2.2.2.2.2.1, (w64 (x.2.2.2.2.2.2.2 + (1 : Int)))))))))))
  else
    some (Sum.inr (x.2.2.1, (x.2.2.2.1, x.2.2.2.2.1)))

def lontarlaw04_Longest (fu : Nat) (x : ((List ((List Int) × (List Int))) × (List Int))) : Option (Int × (Int × Bool)) :=
  loopM (lontarlaw04_Longest_L0 fu) fu (x.1, (x.2, ((-(1 : Int)), ((0 : Int), (false, (x.1, ((↑((List.length x.1)) : Int), (0 : Int))))))))
end Go.AM.M

namespace Go.AM.M
open Go.AM

def lontarlaw05_All_L0 (fu : Nat) (x : ((List ((List Int) × (List Int))) × ((List Int) × ((List (Int × (Int × ((List Int) × Int)))) × Int)))) : Option (((List ((List Int) × (List Int))) × ((List Int) × ((List (Int × (Int × ((List Int) × Int)))) × Int))) ⊕ (List (Int × (Int × ((List Int) × Int))))) :=
  bif (decide (x.2.2.2 < (↑((List.length x.2.1)) : Int))) then
    ((sliceI x.2.1 x.2.2.2 (↑((List.length x.2.1)) : Int))).bind fun y0 =>
    ((lontarlaw04_Longest fu (x.1, y0))).bind fun y1 =>
    bif (decide (y1.1 < (0 : Int))) then
      bif (decide ((((List.length x.2.2.1) + (List.length [(x.2.2.2, ((1 : Int), (([] : List Int), (3 : Int))))])) * (48 : Nat)) ≤ ((2 : Nat) ^ (46 : Nat)))) then
        some (Sum.inl (x.1, (x.2.1, ((x.2.2.1 ++ [(x.2.2.2, ((1 : Int), (([] : List Int), (3 : Int))))]), (w64 (x.2.2.2 + (1 : Int)))))))
      else
        none
    else
      ((nthI x.1 y1.1)).bind fun y2 =>
      bif (decide ((((List.length x.2.2.1) + (List.length [(x.2.2.2, (y1.2.1, (y2.2, (0 : Int))))])) * (48 : Nat)) ≤ ((2 : Nat) ^ (46 : Nat)))) then
        some (Sum.inl (x.1, (x.2.1, ((x.2.2.1 ++ [(x.2.2.2, (y1.2.1, (y2.2, (0 : Int))))]), (w64 (x.2.2.2 + y1.2.1))))))
      else
        none
  else
    some (Sum.inr x.2.2.1)

def lontarlaw05_All (fu : Nat) (x : ((List ((List Int) × (List Int))) × (List Int))) : Option (List (Int × (Int × ((List Int) × Int)))) :=
  loopM (lontarlaw05_All_L0 fu) fu (x.1, (x.2, (([] : List (Int × (Int × ((List Int) × Int)))), (0 : Int))))
end Go.AM.M

namespace Go.AM.M
open Go.AM

def machine_All_dec_L0 (fu : Nat) (x : ((List Int) × ((List (Int × (Int × ((List Int) × Int)))) × ((List Int) × (Int × (Int × ((List (Int × (Int × (Int × Int)))) × ((List ((List Int) × (List Int))) × ((List Int) × (Int × Int)))))))))) : Option (((List Int) × ((List (Int × (Int × ((List Int) × Int)))) × ((List Int) × (Int × (Int × ((List (Int × (Int × (Int × Int)))) × ((List ((List Int) × (List Int))) × ((List Int) × (Int × Int))))))))) ⊕ ((List (Int × (Int × ((List Int) × Int)))) × ((List (Int × (Int × (Int × Int)))) × ((List ((List Int) × (List Int))) × ((List Int) × (Int × Int)))))) :=
  bif (decide (x.2.2.2.2.1 < x.2.2.2.1)) then
    ((nthI x.2.2.1 x.2.2.2.2.1)).bind fun y0 =>
    ((match_Match_Put fu (y0, (x.2.2.2.2.2.1, (x.2.2.2.2.2.2.1, (x.2.2.2.2.2.2.2.1, (x.2.2.2.2.2.2.2.2.1, x.2.2.2.2.2.2.2.2.2))))))).bind fun y1 =>
    bif (decide ((((List.length x.2.1) + (List.length y1.1)) * (48 : Nat)) ≤ ((2 : Nat) ^ (46 : Nat)))) then
      some (Sum.inl (x.1, ((x.2.1 ++ y1.1), (x.2.2.1, (x.2.2.2.1, ((w64 (x.2.2.2.2.1 + (1 : Int))), (y1.2.1, (y1.2.2.1, (y1.2.2.2.1, (y1.2.2.2.2.1, y1.2.2.2.2.2))))))))))
    else
      none
  else
    Option.map Sum.inr (
      ((match_Match_End fu (x.2.2.2.2.2.1, (x.2.2.2.2.2.2.1, (x.2.2.2.2.2.2.2.1, (x.2.2.2.2.2.2.2.2.1, x.2.2.2.2.2.2.2.2.2)))))).bind fun y2 =>
      bif (decide ((((List.length x.2.1) + (List.length y2.1)) * (48 : Nat)) ≤ ((2 : Nat) ^ (46 : Nat)))) then
        some ((x.2.1 ++ y2.1), (y2.2.1, (y2.2.2.1, (y2.2.2.2.1, (y2.2.2.2.2.1, y2.2.2.2.2.2)))))
      else
        none)

def machine_All_dec (fu : Nat) (x : ((List Int) × ((List (Int × (Int × (Int × Int)))) × ((List ((List Int) × (List Int))) × ((List Int) × (Int × Int)))))) : Option ((List (Int × (Int × ((List Int) × Int)))) × ((List (Int × (Int × (Int × Int)))) × ((List ((List Int) × (List Int))) × ((List Int) × (Int × Int))))) :=
  loopM (machine_All_dec_L0 fu) fu (x.1, (([] : List (Int × (Int × ((List Int) × Int)))), (x.1, ((↑((List.length x.1)) : Int), ((0 : Int), (x.2.1, (x.2.2.1, (x.2.2.2.1, (x.2.2.2.2.1, x.2.2.2.2.2)))))))))
end Go.AM.M

namespace Go.AM.M
open Go.AM

def lontarlaw01_Same_L0 (fu : Nat) (x : ((List (Int × (Int × ((List Int) × Int)))) × ((List (Int × (Int × ((List Int) × Int)))) × (Int × Int)))) : Option (((List (Int × (Int × ((List Int) × Int)))) × ((List (Int × (Int × ((List Int) × Int)))) × (Int × Int))) ⊕ Bool) :=
  bif (decide (x.2.2.2 < x.2.2.1)) then
    ((nthI x.1 x.2.2.2)).bind fun y0 =>
    ((nthI x.2.1 x.2.2.2)).bind fun y1 =>
    bif (y0.1 != y1.1) then
      some (Sum.inr false)
    else
      ((nthI x.1 x.2.2.2)).bind fun y2 =>
      ((nthI x.2.1 x.2.2.2)).bind fun y3 =>
      bif (y2.2.1 != y3.2.1) then
        some (Sum.inr false)
      else
        ((nthI x.1 x.2.2.2)).bind fun y4 =>
        ((nthI x.2.1 x.2.2.2)).bind fun y5 =>
        bif (y4.2.2.2 != y5.2.2.2) then
          some (Sum.inr false)
        else
          ((nthI x.1 x.2.2.2)).bind fun y6 =>
          ((nthI x.2.1 x.2.2.2)).bind fun y7 =>
          ((lontarlaw01_Units fu (y6.2.2.1, y7.2.2.1))).bind fun y8 =>
          bif (!y8) then
            some (Sum.inr false)
          else
            some (Sum.inl (x.1, (x.2.1, (x.2.2.1, (w64 (x.2.2.2 + (1 : Int)))))))
  else
    some (Sum.inr true)

def lontarlaw01_Same (fu : Nat) (x : ((List (Int × (Int × ((List Int) × Int)))) × (List (Int × (Int × ((List Int) × Int)))))) : Option Bool :=
  bif ((↑((List.length x.1)) : Int) != (↑((List.length x.2)) : Int)) then
    some false
  else
    loopM (lontarlaw01_Same_L0 fu) fu (x.1, (x.2, ((↑((List.length x.1)) : Int), (0 : Int))))
end Go.AM.M

namespace Go.AM.M
open Go.AM

def lontarlaw04_Some_L0 (fu : Nat) (x : ((List Int) × ((List Int) × (Int × Int)))) : Option (((List Int) × ((List Int) × (Int × Int))) ⊕ (List Int)) :=
  bif (decide (x.2.2.2 < x.2.2.1)) then
    ((nthI x.2.1 x.2.2.2)).bind fun y0 =>
    bif (decide ((((List.length x.1) + (List.length [(w64 ((97 : Int) + (w64 (Int.tmod y0 (6 : Int)))))])) * (8 : Nat)) ≤ ((2 : Nat) ^ (46 : Nat)))) then
      some (Sum.inl ((x.1 ++ [(w64 ((97 : Int) + (w64 (Int.tmod y0 (6 : Int)))))]), (x.2.1, (x.2.2.1, (w64 (x.2.2.2 + (1 : Int)))))))
    else
      none
  else
    some (Sum.inr x.1)

def lontarlaw04_Some (fu : Nat) (x : (List Int)) : Option (List Int) :=
  ((sliceI x (0 : Int) (if ((60 : Int) < (↑((List.length x)) : Int)) then (60 : Int) else (↑((List.length x)) : Int)))).bind fun y0 =>
  loopM (lontarlaw04_Some_L0 fu) fu (([] : List Int), (y0, ((↑((List.length y0)) : Int), (0 : Int))))
end Go.AM.M

namespace Go.AM.M
open Go.AM

def lontarlaw15_Joins_L0 (fu : Nat) (x : ((List ((List Int) × (List Int))) × ((List Int) × ((List Int) × ((List ((List Int) × (List Int))) × (Int × Int)))))) : Option (((List ((List Int) × (List Int))) × ((List Int) × ((List Int) × ((List ((List Int) × (List Int))) × (Int × Int))))) ⊕ Bool) :=
  bif (decide (x.2.2.2.2.2 < x.2.2.2.2.1)) then
    ((nthI x.2.2.2.1 x.2.2.2.2.2)).bind fun y0 =>
    bif (decide ((↑((List.length x.2.1)) : Int) > (0 : Int))) then
      bif (decide ((↑((List.length y0.1)) : Int) > (↑((List.length x.2.1)) : Int))) then
        bif (decide ((↑((List.length y0.1)) : Int) ≤ (↑((List.length x.2.2.1)) : Int))) then
          ((sliceI x.2.2.1 (0 : Int) (↑((List.length y0.1)) : Int))).bind fun y1 =>
          ((lontarlaw01_Units fu (y0.1, y1))).bind fun y2 =>
          bif y2 then
            some (Sum.inr true)
          else
            some (Sum.inl (x.1, (x.2.1, (x.2.2.1, (x.2.2.2.1, (x.2.2.2.2.1, (w64 (x.2.2.2.2.2 + (1 : Int)))))))))
        else
          some (Sum.inl (x.1, (x.2.1, (x.2.2.1, (x.2.2.2.1, (x.2.2.2.2.1, (w64 (x.2.2.2.2.2 + (1 : Int)))))))))
      else
        some (Sum.inl (x.1, (x.2.1, (x.2.2.1, (x.2.2.2.1, (x.2.2.2.2.1, (w64 (x.2.2.2.2.2 + (1 : Int)))))))))
    else
      some (Sum.inl (x.1, (x.2.1, (x.2.2.1, (x.2.2.2.1, (x.2.2.2.2.1, (w64 (x.2.2.2.2.2 + (1 : Int)))))))))
  else
    some (Sum.inr false)

def lontarlaw15_Joins (fu : Nat) (x : ((List ((List Int) × (List Int))) × ((List Int) × (List Int)))) : Option Bool :=
  bif (decide (((List.length x.2.1) * (8 : Nat)) ≤ ((2 : Nat) ^ (46 : Nat)))) then
    bif (decide ((((List.length x.2.1) + (List.length x.2.2)) * (8 : Nat)) ≤ ((2 : Nat) ^ (46 : Nat)))) then
      loopM (lontarlaw15_Joins_L0 fu) fu (x.1, (x.2.1, ((x.2.1 ++ x.2.2), (x.1, ((↑((List.length x.1)) : Int), (0 : Int))))))
    else
      none
  else
    none
end Go.AM.M

namespace Go.AM.M
open Go.AM

def lontarlaw15_Encode_L0 (fu : Nat) (x : ((List ((List Int) × (List Int))) × ((List (Int × (Int × ((List Int) × Int)))) × ((List Int) × (Int × Int))))) : Option (((List ((List Int) × (List Int))) × ((List (Int × (Int × ((List Int) × Int)))) × ((List Int) × (Int × Int)))) ⊕ (List (Int × (Int × ((List Int) × Int))))) :=
  bif (decide (x.2.2.2.2 < x.2.2.2.1)) then
    ((nthI x.2.1 x.2.2.2.2)).bind fun y0 =>
    ((GetElem?.getElem? x.2.1 (Int.toNat x.2.2.2.2))).bind fun y1 =>
    bif (y1.2.2.2 != (0 : Int)) then
      some (Sum.inl (x.1, (x.2.1, (x.2.2.1, (x.2.2.2.1, (w64 (x.2.2.2.2 + (1 : Int))))))))
    else
      ((lontarlaw15_Joins fu (x.1, (x.2.2.1, y1.2.2.1)))).bind fun y2 =>
      bif y2 then
        ((nthI x.2.1 x.2.2.2.2)).bind fun y3 =>
        ((GetElem?.getElem? x.2.1 (Int.toNat x.2.2.2.2))).bind fun y4 =>
        some (Sum.inl (x.1, ((List.set x.2.1 (Int.toNat x.2.2.2.2) (y1.1, (y1.2.1, (([] : List Int), (3 : Int))))), (x.2.2.1, (x.2.2.2.1, (w64 (x.2.2.2.2 + (1 : Int))))))))
      else
        some (Sum.inl (x.1, (x.2.1, (y1.2.2.1, (x.2.2.2.1, (w64 (x.2.2.2.2 + (1 : Int))))))))
  else
    some (Sum.inr x.2.1)

def lontarlaw15_Encode (fu : Nat) (x : ((List ((List Int) × (List Int))) × (List Int))) : Option (List (Int × (Int × ((List Int) × Int)))) :=
  ((rule_Turn fu x.1)).bind fun y0 =>
  ((lontarlaw05_All fu (y0, x.2))).bind fun y1 =>
  loopM (lontarlaw15_Encode_L0 fu) fu (x.1, (y1, (([] : List Int), ((↑((List.length y1)) : Int), (0 : Int)))))
end Go.AM.M

namespace Go.AM.M
open Go.AM

def lontarlaw16_few (fu : Nat) (x : (List Int)) : Option (List Int) :=
  ((sliceI x (0 : Int) (if ((40 : Int) < (↑((List.length x)) : Int)) then (40 : Int) else (↑((List.length x)) : Int)))).bind fun y0 =>
  ((lontarlaw04_Some fu y0)).bind fun y1 =>
  some y1
end Go.AM.M

namespace Go.AM.M
open Go.AM

def machine_All_enc_L0 (fu : Nat) (x : ((List Int) × ((List (Int × (Int × ((List Int) × Int)))) × ((List Int) × (Int × (Int × (Int × (Int × ((List (Int × (Int × (Int × Int)))) × ((List ((List Int) × (List Int))) × ((List (Int × (Int × (Int × Int)))) × ((List ((List Int) × (List Int))) × ((List Int) × ((List (Int × (Int × (Int × Int)))) × ((List ((List Int) × (List Int))) × ((List Int) × (Int × Int))))))))))))))))) : Option (((List Int) × ((List (Int × (Int × ((List Int) × Int)))) × ((List Int) × (Int × (Int × (Int × (Int × ((List (Int × (Int × (Int × Int)))) × ((List ((List Int) × (List Int))) × ((List (Int × (Int × (Int × Int)))) × ((List ((List Int) × (List Int))) × ((List Int) × ((List (Int × (Int × (Int × Int)))) × ((List ((List Int) × (List Int))) × ((List Int) × (Int × Int)))))))))))))))) ⊕ ((List (Int × (Int × ((List Int) × Int)))) × (Int × (Int × ((List (Int × (Int × (Int × Int)))) × ((List ((List Int) × (List Int))) × ((List (Int × (Int × (Int × Int)))) × ((List ((List Int) × (List Int))) × ((List Int) × ((List (Int × (Int × (Int × Int)))) × ((List ((List Int) × (List Int))) × ((List Int) × (Int × Int))))))))))))) :=
  bif (decide (x.2.2.2.2.1 < x.2.2.2.1)) then
    ((nthI x.2.2.1 x.2.2.2.2.1)).bind fun y0 =>
    ((machine_Encoder_Put fu (y0, (x.2.2.2.2.2.1, (x.2.2.2.2.2.2.1, (x.2.2.2.2.2.2.2.1, (x.2.2.2.2.2.2.2.2.1, (x.2.2.2.2.2.2.2.2.2.1, (x.2.2.2.2.2.2.2.2.2.2.1, (x.2.2.2.2.2.2.2.2.2.2.2.1, (x.2.2.2.2.2.2.2.2.2.2.2.2.1, (x.2.2.2.2.2.2.2.2.2.2.2.2.2.1, (x.2.2.2.2.2.2.2.2.2.2.2.2.2.2.1, (x.2.2.2.2.2.2.2.2.2.2.2.2.2.2.2.1, x.2.2.2.2.2.2.2.2.2.2.2.2.2.2.2.2)))))))))))))).bind fun y1 =>
    bif (decide ((((List.length x.2.1) + (List.length y1.1)) * (48 : Nat)) ≤ ((2 : Nat) ^ (46 : Nat)))) then
      some (Sum.inl (x.1, ((x.2.1 ++ y1.1), (x.2.2.1, (x.2.2.2.1, ((w64 (x.2.2.2.2.1 + (1 : Int))), (y1.2.1, (y1.2.2.1, (y1.2.2.2.1, (y1.2.2.2.2.1, (y1.2.2.2.2.2.1, (y1.2.2.2.2.2.2.1, (y1.2.2.2.2.2.2.2.1, (y1.2.2.2.2.2.2.2.2.1, (y1.2.2.2.2.2.2.2.2.2.1, (y1.2.2.2.2.2.2.2.2.2.2.1, (y1.2.2.2.2.2.2.2.2.2.2.2.1, y1.2.2.2.2.2.2.2.2.2.2.2.2)))))))))))))))))
    else
      none
  else
    Option.map Sum.inr (
      ((machine_Encoder_End fu (x.2.2.2.2.2.1, (x.2.2.2.2.2.2.1, (x.2.2.2.2.2.2.2.1, (x.2.2.2.2.2.2.2.2.1, (x.2.2.2.2.2.2.2.2.2.1, (x.2.2.2.2.2.2.2.2.2.2.1, (x.2.2.2.2.2.2.2.2.2.2.2.1, (x.2.2.2.2.2.2.2.2.2.2.2.2.1, (x.2.2.2.2.2.2.2.2.2.2.2.2.2.1, (x.2.2.2.2.2.2.2.2.2.2.2.2.2.2.1, (x.2.2.2.2.2.2.2.2.2.2.2.2.2.2.2.1, x.2.2.2.2.2.2.2.2.2.2.2.2.2.2.2.2))))))))))))).bind fun y2 =>
      bif (decide ((((List.length x.2.1) + (List.length y2.1)) * (48 : Nat)) ≤ ((2 : Nat) ^ (46 : Nat)))) then
        some ((x.2.1 ++ y2.1), (y2.2.1, (y2.2.2.1, (y2.2.2.2.1, (y2.2.2.2.2.1, (y2.2.2.2.2.2.1, (y2.2.2.2.2.2.2.1, (y2.2.2.2.2.2.2.2.1, (y2.2.2.2.2.2.2.2.2.1, (y2.2.2.2.2.2.2.2.2.2.1, (y2.2.2.2.2.2.2.2.2.2.2.1, (y2.2.2.2.2.2.2.2.2.2.2.2.1, y2.2.2.2.2.2.2.2.2.2.2.2.2))))))))))))
      else
        none)

def machine_All_enc (fu : Nat) (x : ((List Int) × (Int × (Int × ((List (Int × (Int × (Int × Int)))) × ((List ((List Int) × (List Int))) × ((List (Int × (Int × (Int × Int)))) × ((List ((List Int) × (List Int))) × ((List Int) × ((List (Int × (Int × (Int × Int)))) × ((List ((List Int) × (List Int))) × ((List Int) × (Int × Int))))))))))))) : Option ((List (Int × (Int × ((List Int) × Int)))) × (Int × (Int × ((List (Int × (Int × (Int × Int)))) × ((List ((List Int) × (List Int))) × ((List (Int × (Int × (Int × Int)))) × ((List ((List Int) × (List Int))) × ((List Int) × ((List (Int × (Int × (Int × Int)))) × ((List ((List Int) × (List Int))) × ((List Int) × (Int × Int)))))))))))) :=
  loopM (machine_All_enc_L0 fu) fu (x.1, (([] : List (Int × (Int × ((List Int) × Int)))), (x.1, ((↑((List.length x.1)) : Int), ((0 : Int), (x.2.1, (x.2.2.1, (x.2.2.2.1, (x.2.2.2.2.1, (x.2.2.2.2.2.1, (x.2.2.2.2.2.2.1, (x.2.2.2.2.2.2.2.1, (x.2.2.2.2.2.2.2.2.1, (x.2.2.2.2.2.2.2.2.2.1, (x.2.2.2.2.2.2.2.2.2.2.1, (x.2.2.2.2.2.2.2.2.2.2.2.1, x.2.2.2.2.2.2.2.2.2.2.2.2))))))))))))))))
end Go.AM.M

namespace Go.AM.M
open Go.AM

def match_Match_Held (fu : Nat) (x : ((List (Int × (Int × (Int × Int)))) × ((List ((List Int) × (List Int))) × ((List Int) × (Int × Int))))) : Option (Int × ((List (Int × (Int × (Int × Int)))) × ((List ((List Int) × (List Int))) × ((List Int) × (Int × Int))))) :=
  some ((↑((List.length x.2.2.1)) : Int), (x.1, (x.2.1, (x.2.2.1, (x.2.2.2.1, x.2.2.2.2)))))
end Go.AM.M

namespace Go.AM.M
open Go.AM

def machine_Encoder_Held (fu : Nat) (x : (Int × (Int × ((List (Int × (Int × (Int × Int)))) × ((List ((List Int) × (List Int))) × ((List (Int × (Int × (Int × Int)))) × ((List ((List Int) × (List Int))) × ((List Int) × ((List (Int × (Int × (Int × Int)))) × ((List ((List Int) × (List Int))) × ((List Int) × (Int × Int)))))))))))) : Option (Int × (Int × (Int × ((List (Int × (Int × (Int × Int)))) × ((List ((List Int) × (List Int))) × ((List (Int × (Int × (Int × Int)))) × ((List ((List Int) × (List Int))) × ((List Int) × ((List (Int × (Int × (Int × Int)))) × ((List ((List Int) × (List Int))) × ((List Int) × (Int × Int)))))))))))) :=
  ((match_Match_Held fu (x.2.2.2.2.2.2.2.1, (x.2.2.2.2.2.2.2.2.1, (x.2.2.2.2.2.2.2.2.2.1, (x.2.2.2.2.2.2.2.2.2.2.1, x.2.2.2.2.2.2.2.2.2.2.2)))))).bind fun y0 =>
  some (y0.1, (x.1, (x.2.1, (x.2.2.1, (x.2.2.2.1, (x.2.2.2.2.1, (x.2.2.2.2.2.1, (x.2.2.2.2.2.2.1, (y0.2.1, (y0.2.2.1, (y0.2.2.2.1, (y0.2.2.2.2.1, y0.2.2.2.2.2))))))))))))
end Go.AM.M

namespace Go.AM.M
open Go.AM

def lontarlaw16_awake (fu : Nat) (x : Unit) : Option Bool :=
  ((table_Of fu [([(1 : Int)], [(7 : Int)]), ([(1 : Int), (2 : Int)], [(8 : Int)]), ([(2 : Int)], [(9 : Int)])])).bind fun y0 =>
  match y0 with
  | .inl y1 =>
    some false
  | .inr y1 =>
    bif (y1.2.2.2.2.2.2 != (0 : Int)) then
      some false
    else
      ((machine_Decode fu (y1.1, (y1.2.1, (y1.2.2.1, (y1.2.2.2.1, (y1.2.2.2.2.1, y1.2.2.2.2.2.1))))))).bind fun y2 =>
      ((machine_Encode fu (y1.1, (y1.2.1, (y1.2.2.1, (y1.2.2.2.1, (y1.2.2.2.2.1, y1.2.2.2.2.2.1))))))).bind fun y3 =>
      ((match_Match_Put fu ((1 : Int), (y2.1, (y2.2.1, (y2.2.2.1, (y2.2.2.2.1, y2.2.2.2.2))))))).bind fun y4 =>
      ((match_Match_Held fu (y4.2.1, (y4.2.2.1, (y4.2.2.2.1, (y4.2.2.2.2.1, y4.2.2.2.2.2)))))).bind fun y5 =>
      ((match_Match_Put fu ((2 : Int), (y5.2.1, (y5.2.2.1, (y5.2.2.2.1, (y5.2.2.2.2.1, y5.2.2.2.2.2))))))).bind fun y6 =>
      ((machine_Encoder_Put fu ((7 : Int), (y3.2.2.2.2.2.1, (y3.2.2.2.2.2.2.1, (y3.2.2.2.2.2.2.2.1, (y3.2.2.2.2.2.2.2.2.1, (y3.2.2.2.2.2.2.2.2.2.1, (y3.2.2.2.2.2.2.2.2.2.2.1, (y3.2.2.2.2.2.2.2.2.2.2.2, (y3.1, (y3.2.1, (y3.2.2.1, (y3.2.2.2.1, y3.2.2.2.2.1)))))))))))))).bind fun y7 =>
      ((machine_Encoder_Apart fu (y7.2.1, (y7.2.2.1, (y7.2.2.2.1, (y7.2.2.2.2.1, (y7.2.2.2.2.2.1, (y7.2.2.2.2.2.2.1, (y7.2.2.2.2.2.2.2.1, (y7.2.2.2.2.2.2.2.2.1, (y7.2.2.2.2.2.2.2.2.2.1, (y7.2.2.2.2.2.2.2.2.2.2.1, (y7.2.2.2.2.2.2.2.2.2.2.2.1, y7.2.2.2.2.2.2.2.2.2.2.2.2))))))))))))).bind fun y8 =>
      ((machine_Encoder_Put fu ((9 : Int), (y8.1, (y8.2.1, (y8.2.2.1, (y8.2.2.2.1, (y8.2.2.2.2.1, (y8.2.2.2.2.2.1, (y8.2.2.2.2.2.2.1, (y8.2.2.2.2.2.2.2.1, (y8.2.2.2.2.2.2.2.2.1, (y8.2.2.2.2.2.2.2.2.2.1, (y8.2.2.2.2.2.2.2.2.2.2.1, y8.2.2.2.2.2.2.2.2.2.2.2)))))))))))))).bind fun y9 =>
      bif ((↑((List.length y4.1)) : Int) == (0 : Int)) then
        bif (y5.1 == (1 : Int)) then
          bif ((↑((List.length y6.1)) : Int) == (1 : Int)) then
            bif ((↑((List.length y7.1)) : Int) == (1 : Int)) then
              bif ((↑((List.length y9.1)) : Int) == (1 : Int)) then
                ((nthI y9.1 (0 : Int))).bind fun y10 =>
                ((GetElem?.getElem? y9.1 (Int.toNat (0 : Int)))).bind fun y11 =>
                bif (y11.2.2.2 == (0 : Int)) then
                  ((machine_Encoder_Put fu ((9 : Int), (y9.2.1, (y9.2.2.1, (y9.2.2.2.1, (y9.2.2.2.2.1, (y9.2.2.2.2.2.1, (y9.2.2.2.2.2.2.1, (y9.2.2.2.2.2.2.2.1, (y9.2.2.2.2.2.2.2.2.1, (y9.2.2.2.2.2.2.2.2.2.1, (y9.2.2.2.2.2.2.2.2.2.2.1, (y9.2.2.2.2.2.2.2.2.2.2.2.1, y9.2.2.2.2.2.2.2.2.2.2.2.2)))))))))))))).bind fun y12 =>
                  some ((↑((List.length y12.1)) : Int) == (1 : Int))
                else
                  some false
              else
                some false
            else
              some false
          else
            some false
        else
          some false
      else
        some false
end Go.AM.M

namespace Go.AM.M
open Go.AM

def table_Table_Longest (fu : Nat) (x : (Int × (Int × ((List (Int × (Int × (Int × Int)))) × ((List ((List Int) × (List Int))) × ((List (Int × (Int × (Int × Int)))) × (List ((List Int) × (List Int))))))))) : Option (Int × Int) :=
  some (x.1, x.2.1)
end Go.AM.M

namespace Go.AM.M
open Go.AM

def lontarlaw16_MachineHeld_L0 (fu : Nat) (x : (Int × (Int × ((List Int) × (Int × (Int × ((List (Int × (Int × (Int × Int)))) × ((List ((List Int) × (List Int))) × ((List Int) × (Int × (Int × ((List (Int × (Int × (Int × Int)))) × ((List ((List Int) × (List Int))) × ((List Int) × (Int × (Int × (Int × (Int × ((List (Int × (Int × (Int × Int)))) × ((List ((List Int) × (List Int))) × ((List (Int × (Int × (Int × Int)))) × ((List ((List Int) × (List Int))) × (List Int))))))))))))))))))))))) : Option ((Int × (Int × ((List Int) × (Int × (Int × ((List (Int × (Int × (Int × Int)))) × ((List ((List Int) × (List Int))) × ((List Int) × (Int × (Int × ((List (Int × (Int × (Int × Int)))) × ((List ((List Int) × (List Int))) × ((List Int) × (Int × (Int × (Int × (Int × ((List (Int × (Int × (Int × Int)))) × ((List ((List Int) × (List Int))) × ((List (Int × (Int × (Int × Int)))) × ((List ((List Int) × (List Int))) × (List Int)))))))))))))))))))))) ⊕ Bool) :=
  bif (decide (x.2.2.2.2.1 < x.2.2.2.1)) then
    ((nthI x.2.2.1 x.2.2.2.2.1)).bind fun y0 =>
    ((GetElem?.getElem? x.2.2.1 (Int.toNat x.2.2.2.2.1))).bind fun y1 =>
    ((match_Match_Put fu (y1, (x.2.2.2.2.2.1, (x.2.2.2.2.2.2.1, (x.2.2.2.2.2.2.2.1, (x.2.2.2.2.2.2.2.2.1, x.2.2.2.2.2.2.2.2.2.1))))))).bind fun y2 =>
    ((machine_Encoder_Put fu (y1, (x.2.2.2.2.2.2.2.2.2.2.2.2.2.2.2.1, (x.2.2.2.2.2.2.2.2.2.2.2.2.2.2.2.2.1, (x.2.2.2.2.2.2.2.2.2.2.2.2.2.2.2.2.2.1, (x.2.2.2.2.2.2.2.2.2.2.2.2.2.2.2.2.2.2.1, (x.2.2.2.2.2.2.2.2.2.2.2.2.2.2.2.2.2.2.2.1, (x.2.2.2.2.2.2.2.2.2.2.2.2.2.2.2.2.2.2.2.2.1, (x.2.2.2.2.2.2.2.2.2.2.2.2.2.2.2.2.2.2.2.2.2, (x.2.2.2.2.2.2.2.2.2.2.1, (x.2.2.2.2.2.2.2.2.2.2.2.1, (x.2.2.2.2.2.2.2.2.2.2.2.2.1, (x.2.2.2.2.2.2.2.2.2.2.2.2.2.1, x.2.2.2.2.2.2.2.2.2.2.2.2.2.2.1)))))))))))))).bind fun y3 =>
    ((match_Match_Held fu (y2.2.1, (y2.2.2.1, (y2.2.2.2.1, (y2.2.2.2.2.1, y2.2.2.2.2.2)))))).bind fun y4 =>
    bif (decide (y4.1 ≥ (if (x.1 > (1 : Int)) then x.1 else (1 : Int)))) then
      some (Sum.inr false)
    else
      ((machine_Encoder_Held fu (y3.2.1, (y3.2.2.1, (y3.2.2.2.1, (y3.2.2.2.2.1, (y3.2.2.2.2.2.1, (y3.2.2.2.2.2.2.1, (y3.2.2.2.2.2.2.2.1, (y3.2.2.2.2.2.2.2.2.1, (y3.2.2.2.2.2.2.2.2.2.1, (y3.2.2.2.2.2.2.2.2.2.2.1, (y3.2.2.2.2.2.2.2.2.2.2.2.1, y3.2.2.2.2.2.2.2.2.2.2.2.2))))))))))))).bind fun y5 =>
      bif (decide (y5.1 ≥ (if (x.2.1 > (1 : Int)) then x.2.1 else (1 : Int)))) then
        some (Sum.inr false)
      else
        some (Sum.inl (x.1, (x.2.1, (x.2.2.1, (x.2.2.2.1, ((w64 (x.2.2.2.2.1 + (1 : Int))), (y4.2.1, (y4.2.2.1, (y4.2.2.2.1, (y4.2.2.2.2.1, (y4.2.2.2.2.2, (y5.2.2.2.2.2.2.2.2.1, (y5.2.2.2.2.2.2.2.2.2.1, (y5.2.2.2.2.2.2.2.2.2.2.1, (y5.2.2.2.2.2.2.2.2.2.2.2.1, (y5.2.2.2.2.2.2.2.2.2.2.2.2, (y5.2.1, (y5.2.2.1, (y5.2.2.2.1, (y5.2.2.2.2.1, (y5.2.2.2.2.2.1, (y5.2.2.2.2.2.2.1, y5.2.2.2.2.2.2.2.1))))))))))))))))))))))
  else
    some (Sum.inr true)

def lontarlaw16_MachineHeld (fu : Nat) (x : ((List ((List Int) × ((List Int) × (Bool × ((List Int) × (List Int)))))) × (List Int))) : Option Bool :=
  ((lontarlaw16_awake fu ())).bind fun y0 =>
  bif (!y0) then
    some false
  else
    ((lontarlaw15_Rules fu x.1)).bind fun y1 =>
    ((table_Of fu y1)).bind fun y2 =>
    match y2 with
    | .inl y3 =>
      some false
    | .inr y3 =>
      bif (y3.2.2.2.2.2.2 != (0 : Int)) then
        some false
      else
        ((machine_Decode fu (y3.1, (y3.2.1, (y3.2.2.1, (y3.2.2.2.1, (y3.2.2.2.2.1, y3.2.2.2.2.2.1))))))).bind fun y4 =>
        ((machine_Encode fu (y3.1, (y3.2.1, (y3.2.2.1, (y3.2.2.2.1, (y3.2.2.2.2.1, y3.2.2.2.2.2.1))))))).bind fun y5 =>
        ((table_Table_Longest fu (y3.1, (y3.2.1, (y3.2.2.1, (y3.2.2.2.1, (y3.2.2.2.2.1, y3.2.2.2.2.2.1))))))).bind fun y6 =>
        ((lontarlaw16_few fu x.2)).bind fun y7 =>
        loopM (lontarlaw16_MachineHeld_L0 fu) fu (y6.1, (y6.2, (y7, ((↑((List.length y7)) : Int), ((0 : Int), (y4.1, (y4.2.1, (y4.2.2.1, (y4.2.2.2.1, (y4.2.2.2.2, (y5.1, (y5.2.1, (y5.2.2.1, (y5.2.2.2.1, (y5.2.2.2.2.1, (y5.2.2.2.2.2.1, (y5.2.2.2.2.2.2.1, (y5.2.2.2.2.2.2.2.1, (y5.2.2.2.2.2.2.2.2.1, (y5.2.2.2.2.2.2.2.2.2.1, (y5.2.2.2.2.2.2.2.2.2.2.1, y5.2.2.2.2.2.2.2.2.2.2.2)))))))))))))))))))))
end Go.AM.M

namespace Go.AM.M
open Go.AM

def lontarlaw16_MachineEncode (fu : Nat) (x : ((List ((List Int) × ((List Int) × (Bool × ((List Int) × (List Int)))))) × (List Int))) : Option Bool :=
  ((lontarlaw16_awake fu ())).bind fun y0 =>
  bif (!y0) then
    some false
  else
    ((lontarlaw15_Rules fu x.1)).bind fun y1 =>
    ((table_Of fu y1)).bind fun y2 =>
    match y2 with
    | .inl y3 =>
      some false
    | .inr y3 =>
      bif (y3.2.2.2.2.2.2 != (0 : Int)) then
        some false
      else
        ((machine_Encode fu (y3.1, (y3.2.1, (y3.2.2.1, (y3.2.2.2.1, (y3.2.2.2.2.1, y3.2.2.2.2.2.1))))))).bind fun y4 =>
        ((lontarlaw16_few fu x.2)).bind fun y5 =>
        ((machine_All_enc fu (y5, (y4.2.2.2.2.2.1, (y4.2.2.2.2.2.2.1, (y4.2.2.2.2.2.2.2.1, (y4.2.2.2.2.2.2.2.2.1, (y4.2.2.2.2.2.2.2.2.2.1, (y4.2.2.2.2.2.2.2.2.2.2.1, (y4.2.2.2.2.2.2.2.2.2.2.2, (y4.1, (y4.2.1, (y4.2.2.1, (y4.2.2.2.1, y4.2.2.2.2.1)))))))))))))).bind fun y6 =>
        ((lontarlaw16_few fu x.2)).bind fun y7 =>
        ((lontarlaw15_Encode fu (y1, y7))).bind fun y8 =>
        ((lontarlaw01_Same fu (y6.1, y8))).bind fun y9 =>
        bif y9 then
          ((machine_Encoder_Held fu (y6.2.1, (y6.2.2.1, (y6.2.2.2.1, (y6.2.2.2.2.1, (y6.2.2.2.2.2.1, (y6.2.2.2.2.2.2.1, (y6.2.2.2.2.2.2.2.1, (y6.2.2.2.2.2.2.2.2.1, (y6.2.2.2.2.2.2.2.2.2.1, (y6.2.2.2.2.2.2.2.2.2.2.1, (y6.2.2.2.2.2.2.2.2.2.2.2.1, y6.2.2.2.2.2.2.2.2.2.2.2.2))))))))))))).bind fun y10 =>
          some (y10.1 == (0 : Int))
        else
          some false
end Go.AM.M

namespace Go.AM.M
open Go.AM

def lontarlaw16_MachineDecode (fu : Nat) (x : ((List ((List Int) × ((List Int) × (Bool × ((List Int) × (List Int)))))) × (List Int))) : Option Bool :=
  ((lontarlaw16_awake fu ())).bind fun y0 =>
  bif (!y0) then
    some false
  else
    ((lontarlaw15_Rules fu x.1)).bind fun y1 =>
    ((table_Of fu y1)).bind fun y2 =>
    match y2 with
    | .inl y3 =>
      some false
    | .inr y3 =>
      bif (y3.2.2.2.2.2.2 != (0 : Int)) then
        some false
      else
        ((machine_Decode fu (y3.1, (y3.2.1, (y3.2.2.1, (y3.2.2.2.1, (y3.2.2.2.2.1, y3.2.2.2.2.2.1))))))).bind fun y4 =>
        ((lontarlaw16_few fu x.2)).bind fun y5 =>
        ((machine_All_dec fu (y5, (y4.1, (y4.2.1, (y4.2.2.1, (y4.2.2.2.1, y4.2.2.2.2))))))).bind fun y6 =>
        ((lontarlaw16_few fu x.2)).bind fun y7 =>
        ((lontarlaw05_All fu (y1, y7))).bind fun y8 =>
        ((lontarlaw01_Same fu (y6.1, y8))).bind fun y9 =>
        bif y9 then
          ((match_Match_Held fu (y6.2.1, (y6.2.2.1, (y6.2.2.2.1, (y6.2.2.2.2.1, y6.2.2.2.2.2)))))).bind fun y10 =>
          some (y10.1 == (0 : Int))
        else
          some false
end Go.AM.M

namespace Go.AM.M
open Go.AM

def lontarlaw16_MachineSoon_L0 (fu : Nat) (x : (Int × (Int × ((List Int) × (Int × (Int × ((List (Int × (Int × ((List Int) × Int)))) × (Int × (Int × ((List (Int × (Int × (Int × Int)))) × ((List ((List Int) × (List Int))) × ((List Int) × (Int × Int))))))))))))) : Option ((Int × (Int × ((List Int) × (Int × (Int × ((List (Int × (Int × ((List Int) × Int)))) × (Int × (Int × ((List (Int × (Int × (Int × Int)))) × ((List ((List Int) × (List Int))) × ((List Int) × (Int × Int)))))))))))) ⊕ ((Int × ((List Int) × (Int × (Int × ((List (Int × (Int × (Int × Int)))) × ((List ((List Int) × (List Int))) × ((List Int) × (Int × Int)))))))) ⊕ Bool)) :=
  bif (decide (x.2.2.2.2.2.2.2.1 < x.2.2.2.2.2.2.1)) then
    ((nthI x.2.2.2.2.2.1 x.2.2.2.2.2.2.2.1)).bind fun y0 =>
    ((GetElem?.getElem? x.2.2.2.2.2.1 (Int.toNat x.2.2.2.2.2.2.2.1))).bind fun y1 =>
    some (Sum.inl ((w64 (x.1 + y1.2.1)), (x.2.1, (x.2.2.1, (x.2.2.2.1, (x.2.2.2.2.1, (x.2.2.2.2.2.1, (x.2.2.2.2.2.2.1, ((w64 (x.2.2.2.2.2.2.2.1 + (1 : Int))), (x.2.2.2.2.2.2.2.2.1, (x.2.2.2.2.2.2.2.2.2.1, (x.2.2.2.2.2.2.2.2.2.2.1, (x.2.2.2.2.2.2.2.2.2.2.2.1, x.2.2.2.2.2.2.2.2.2.2.2.2)))))))))))))
  else
    Option.map Sum.inr (
      ((match_Match_Held fu (x.2.2.2.2.2.2.2.2.1, (x.2.2.2.2.2.2.2.2.2.1, (x.2.2.2.2.2.2.2.2.2.2.1, (x.2.2.2.2.2.2.2.2.2.2.2.1, x.2.2.2.2.2.2.2.2.2.2.2.2)))))).bind fun y2 =>
      bif ((w64 (x.1 + y2.1)) != (w64 (x.2.1 + (1 : Int)))) then
        some (Sum.inr false)
      else
        some (Sum.inl (x.1, (x.2.2.1, (x.2.2.2.1, ((w64 (x.2.2.2.2.1 + (1 : Int))), (y2.2.1, (y2.2.2.1, (y2.2.2.2.1, (y2.2.2.2.2.1, y2.2.2.2.2.2))))))))))

def lontarlaw16_MachineSoon_L1 (fu : Nat) (x : (Int × ((List Int) × (Int × (Int × ((List (Int × (Int × (Int × Int)))) × ((List ((List Int) × (List Int))) × ((List Int) × (Int × Int))))))))) : Option ((Int × ((List Int) × (Int × (Int × ((List (Int × (Int × (Int × Int)))) × ((List ((List Int) × (List Int))) × ((List Int) × (Int × Int)))))))) ⊕ Bool) :=
  bif (decide (x.2.2.2.1 < x.2.2.1)) then
    ((nthI x.2.1 x.2.2.2.1)).bind fun y0 =>
    ((GetElem?.getElem? x.2.1 (Int.toNat x.2.2.2.1))).bind fun y1 =>
    ((match_Match_Put fu (y1, (x.2.2.2.2.1, (x.2.2.2.2.2.1, (x.2.2.2.2.2.2.1, (x.2.2.2.2.2.2.2.1, x.2.2.2.2.2.2.2.2))))))).bind fun y2 =>
    loopM (lontarlaw16_MachineSoon_L0 fu) fu (x.1, (x.2.2.2.1, (x.2.1, (x.2.2.1, (x.2.2.2.1, (y2.1, ((↑((List.length y2.1)) : Int), ((0 : Int), (y2.2.1, (y2.2.2.1, (y2.2.2.2.1, (y2.2.2.2.2.1, y2.2.2.2.2.2))))))))))))
  else
    some (Sum.inr true)

def lontarlaw16_MachineSoon (fu : Nat) (x : ((List ((List Int) × ((List Int) × (Bool × ((List Int) × (List Int)))))) × (List Int))) : Option Bool :=
  ((lontarlaw16_awake fu ())).bind fun y0 =>
  bif (!y0) then
    some false
  else
    ((lontarlaw15_Rules fu x.1)).bind fun y1 =>
    ((table_Of fu y1)).bind fun y2 =>
    match y2 with
    | .inl y3 =>
      some false
    | .inr y3 =>
      bif (y3.2.2.2.2.2.2 != (0 : Int)) then
        some false
      else
        ((machine_Decode fu (y3.1, (y3.2.1, (y3.2.2.1, (y3.2.2.2.1, (y3.2.2.2.2.1, y3.2.2.2.2.2.1))))))).bind fun y4 =>
        ((lontarlaw16_few fu x.2)).bind fun y5 =>
        loopM (lontarlaw16_MachineSoon_L1 fu) fu ((0 : Int), (y5, ((↑((List.length y5)) : Int), ((0 : Int), (y4.1, (y4.2.1, (y4.2.2.1, (y4.2.2.2.1, y4.2.2.2.2))))))))
end Go.AM.M

namespace Go.AM.M
open Go.AM

def lontarlaw14_Rules_1 (fu : Nat) (x : ((List Int) × ((List Int) × (List ((List Int) × (List Int)))))) : Option (List ((List Int) × (List Int))) :=
  bif (decide ((((List.length x.2.2) + (List.length [(x.1, x.2.1)])) * (48 : Nat)) ≤ ((2 : Nat) ^ (46 : Nat)))) then
    some (x.2.2 ++ [(x.1, x.2.1)])
  else
    none
end Go.AM.M

namespace Go.AM.M
open Go.AM

def lontarlaw14_Place (fu : Nat) (x : Int) : Option (Int × Bool) :=
  bif (decide ((w64 x) ≥ (161 : Int))) then
    bif (decide ((w64 x) ≤ (216 : Int))) then
      ((nthI [(1 : Int), (2 : Int), (3 : Int), (5 : Int), (6 : Int), (7 : Int), (8 : Int), (9 : Int), (10 : Int), (11 : Int), (14 : Int), (15 : Int), (16 : Int), (13 : Int), (18 : Int), (19 : Int), (20 : Int), (17 : Int), (21 : Int), (22 : Int), (23 : Int), (24 : Int), (25 : Int), (26 : Int), (27 : Int), (28 : Int), (29 : Int), (30 : Int), (31 : Int), (32 : Int), (33 : Int), (34 : Int), (35 : Int), (36 : Int), (37 : Int), (38 : Int), (39 : Int), (40 : Int), (41 : Int), (42 : Int), (43 : Int), (44 : Int), (45 : Int), (46 : Int), (47 : Int), (95 : Int), (48 : Int), (49 : Int), (50 : Int), (51 : Int), (52 : Int), (53 : Int), (54 : Int), (55 : Int), (56 : Int), (57 : Int)] (w64 ((w64 x) - (161 : Int))))).bind fun y0 =>
      ((GetElem?.getElem? [(1 : Int), (2 : Int), (3 : Int), (5 : Int), (6 : Int), (7 : Int), (8 : Int), (9 : Int), (10 : Int), (11 : Int), (14 : Int), (15 : Int), (16 : Int), (13 : Int), (18 : Int), (19 : Int), (20 : Int), (17 : Int), (21 : Int), (22 : Int), (23 : Int), (24 : Int), (25 : Int), (26 : Int), (27 : Int), (28 : Int), (29 : Int), (30 : Int), (31 : Int), (32 : Int), (33 : Int), (34 : Int), (35 : Int), (36 : Int), (37 : Int), (38 : Int), (39 : Int), (40 : Int), (41 : Int), (42 : Int), (43 : Int), (44 : Int), (45 : Int), (46 : Int), (47 : Int), (95 : Int), (48 : Int), (49 : Int), (50 : Int), (51 : Int), (52 : Int), (53 : Int), (54 : Int), (55 : Int), (56 : Int), (57 : Int)] (Int.toNat (w64 ((w64 x) - (161 : Int)))))).bind fun y1 =>
      some (y1, true)
    else
      bif (decide ((w64 x) ≥ (218 : Int))) then
        bif (decide ((w64 x) ≤ (233 : Int))) then
          ((nthI [(62 : Int), (63 : Int), (64 : Int), (65 : Int), (66 : Int), (67 : Int), (70 : Int), (71 : Int), (72 : Int), (69 : Int), (74 : Int), (75 : Int), (76 : Int), (73 : Int), (77 : Int), (60 : Int)] (w64 ((w64 x) - (218 : Int))))).bind fun y2 =>
          ((GetElem?.getElem? [(62 : Int), (63 : Int), (64 : Int), (65 : Int), (66 : Int), (67 : Int), (70 : Int), (71 : Int), (72 : Int), (69 : Int), (74 : Int), (75 : Int), (76 : Int), (73 : Int), (77 : Int), (60 : Int)] (Int.toNat (w64 ((w64 x) - (218 : Int)))))).bind fun y3 =>
          some (y3, true)
        else
          bif (decide ((w64 x) ≥ (241 : Int))) then
            bif (decide ((w64 x) ≤ (250 : Int))) then
              some ((w64 ((w64 ((w64 x) - (241 : Int))) + (102 : Int))), true)
            else
              some ((0 : Int), false)
          else
            some ((0 : Int), false)
      else
        bif (decide ((w64 x) ≥ (241 : Int))) then
          bif (decide ((w64 x) ≤ (250 : Int))) then
            some ((w64 ((w64 ((w64 x) - (241 : Int))) + (102 : Int))), true)
          else
            some ((0 : Int), false)
        else
          some ((0 : Int), false)
  else
    bif (decide ((w64 x) ≥ (218 : Int))) then
      bif (decide ((w64 x) ≤ (233 : Int))) then
        ((nthI [(62 : Int), (63 : Int), (64 : Int), (65 : Int), (66 : Int), (67 : Int), (70 : Int), (71 : Int), (72 : Int), (69 : Int), (74 : Int), (75 : Int), (76 : Int), (73 : Int), (77 : Int), (60 : Int)] (w64 ((w64 x) - (218 : Int))))).bind fun y4 =>
        ((GetElem?.getElem? [(62 : Int), (63 : Int), (64 : Int), (65 : Int), (66 : Int), (67 : Int), (70 : Int), (71 : Int), (72 : Int), (69 : Int), (74 : Int), (75 : Int), (76 : Int), (73 : Int), (77 : Int), (60 : Int)] (Int.toNat (w64 ((w64 x) - (218 : Int)))))).bind fun y5 =>
        some (y5, true)
      else
        bif (decide ((w64 x) ≥ (241 : Int))) then
          bif (decide ((w64 x) ≤ (250 : Int))) then
            some ((w64 ((w64 ((w64 x) - (241 : Int))) + (102 : Int))), true)
          else
            some ((0 : Int), false)
        else
          some ((0 : Int), false)
    else
      bif (decide ((w64 x) ≥ (241 : Int))) then
        bif (decide ((w64 x) ≤ (250 : Int))) then
          some ((w64 ((w64 ((w64 x) - (241 : Int))) + (102 : Int))), true)
        else
          some ((0 : Int), false)
      else
        some ((0 : Int), false)
end Go.AM.M

namespace Go.AM.M
open Go.AM

def lontarlaw14_Nukta (fu : Nat) (x : Unit) : Option (List (Int × Int)) :=
  some [((161 : Int), (80 : Int)), ((166 : Int), (12 : Int)), ((167 : Int), (97 : Int)), ((170 : Int), (96 : Int)), ((179 : Int), (88 : Int)), ((180 : Int), (89 : Int)), ((181 : Int), (90 : Int)), ((186 : Int), (91 : Int)), ((191 : Int), (92 : Int)), ((192 : Int), (93 : Int)), ((201 : Int), (94 : Int)), ((219 : Int), (98 : Int)), ((220 : Int), (99 : Int)), ((223 : Int), (68 : Int))]
end Go.AM.M

namespace Go.AM.M
open Go.AM

def lontarlaw14_Rules_L0 (fu : Nat) (x : ((List Int) × (Int × (Int × (List ((List Int) × (List Int))))))) : Option (((List Int) × (Int × (Int × (List ((List Int) × (List Int)))))) ⊕ (List ((List Int) × (List Int)))) :=
  bif (decide (x.2.2.1 < x.2.1)) then
    ((nthI x.1 x.2.2.1)).bind fun y0 =>
    ((GetElem?.getElem? x.1 (Int.toNat x.2.2.1))).bind fun y1 =>
    ((lontarlaw14_Rules_1 fu ([(239 : Int), y1], ([(w64 ((4096 : Int) + x.2.2.1))], x.2.2.2)))).bind fun y2 =>
    some (Sum.inl (x.1, (x.2.1, ((w64 (x.2.2.1 + (1 : Int))), y2))))
  else
    Option.map Sum.inr (
      ((lontarlaw14_Rules_1 fu ([(217 : Int)], ([(16397 : Int)], x.2.2.2)))).bind fun y3 =>
      ((lontarlaw14_Rules_1 fu ([(234 : Int)], ([(10596 : Int)], y3)))).bind fun y4 =>
      ((lontarlaw14_Rules_1 fu ([(234 : Int), (233 : Int)], ([(61 : Int)], y4)))).bind fun y5 =>
      ((lontarlaw14_Rules_1 fu ([(232 : Int), (232 : Int)], ([(77 : Int), (16396 : Int)], y5)))).bind fun y6 =>
      ((lontarlaw14_Rules_1 fu ([(232 : Int), (233 : Int)], ([(77 : Int), (16397 : Int)], y6)))).bind fun y7 =>
      ((lontarlaw14_Rules_1 fu ([(240 : Int), (184 : Int)], ([(82 : Int)], y7)))).bind fun y8 =>
      ((lontarlaw14_Rules_1 fu ([(240 : Int), (191 : Int)], ([(112 : Int)], y8)))).bind fun y9 =>
      some y9)

def lontarlaw14_Rules_L1 (fu : Nat) (x : ((List (Int × Int)) × (Int × (Int × (List ((List Int) × (List Int))))))) : Option (((List (Int × Int)) × (Int × (Int × (List ((List Int) × (List Int)))))) ⊕ (List ((List Int) × (List Int)))) :=
  bif (decide (x.2.2.1 < x.2.1)) then
    ((nthI x.1 x.2.2.1)).bind fun y0 =>
    ((GetElem?.getElem? x.1 (Int.toNat x.2.2.1))).bind fun y1 =>
    ((GetElem?.getElem? [y1.1, y1.2] ((0 : Nat) + ((Int.toNat (0 : Int)) * (1 : Nat))))).bind fun y2 =>
    ((GetElem?.getElem? [y1.1, y1.2] ((0 : Nat) + ((Int.toNat (1 : Int)) * (1 : Nat))))).bind fun y3 =>
    ((lontarlaw14_Rules_1 fu ([y2, (233 : Int)], ([y3], x.2.2.2)))).bind fun y4 =>
    some (Sum.inl (x.1, (x.2.1, ((w64 (x.2.2.1 + (1 : Int))), y4))))
  else
    Option.map Sum.inr (
      ((lontarlaw14_Codes fu ())).bind fun y5 =>
      loopM (lontarlaw14_Rules_L0 fu) fu (y5, ((↑((List.length y5)) : Int), ((0 : Int), x.2.2.2))))

def lontarlaw14_Rules_L2 (fu : Nat) (x : (Int × (List ((List Int) × (List Int))))) : Option ((Int × (List ((List Int) × (List Int)))) ⊕ (List ((List Int) × (List Int)))) :=
  bif (decide (x.1 < (256 : Int))) then
    ((lontarlaw14_Place fu (w8 x.1))).bind fun y0 =>
    bif y0.2 then
      ((lontarlaw14_Rules_1 fu ([x.1], ([y0.1], x.2)))).bind fun y1 =>
      some (Sum.inl ((w64 (x.1 + (1 : Int))), y1))
    else
      some (Sum.inl ((w64 (x.1 + (1 : Int))), x.2))
  else
    Option.map Sum.inr (
      ((lontarlaw14_Nukta fu ())).bind fun y2 =>
      loopM (lontarlaw14_Rules_L1 fu) fu (y2, ((↑((List.length y2)) : Int), ((0 : Int), x.2))))

def lontarlaw14_Rules_L3 (fu : Nat) (x : (Int × (List ((List Int) × (List Int))))) : Option ((Int × (List ((List Int) × (List Int)))) ⊕ (List ((List Int) × (List Int)))) :=
  bif (decide (x.1 < (128 : Int))) then
    ((lontarlaw14_Rules_1 fu ([x.1], ([(w64 ((8192 : Int) + x.1))], x.2)))).bind fun y0 =>
    some (Sum.inl ((w64 (x.1 + (1 : Int))), y0))
  else
    Option.map Sum.inr (
      loopM (lontarlaw14_Rules_L2 fu) fu ((161 : Int), x.2))

def lontarlaw14_Rules (fu : Nat) (x : Unit) : Option (List ((List Int) × (List Int))) :=
  loopM (lontarlaw14_Rules_L3 fu) fu ((0 : Int), ([] : List ((List Int) × (List Int))))
end Go.AM.M

namespace Go.AM.M
open Go.AM

def lontarlaw18_Bytes_L0 (fu : Nat) (x : ((List Int) × ((List Int) × (Int × Int)))) : Option (((List Int) × ((List Int) × (Int × Int))) ⊕ (List Int)) :=
  bif (decide (x.2.2.2 < x.2.2.1)) then
    ((nthI x.2.1 x.2.2.2)).bind fun y0 =>
    bif (decide (y0 < (20 : Int))) then
      ((lontarlaw14_Codes fu ())).bind fun y1 =>
      ((nthI y1 (Int.tmod y0 (9 : Int)))).bind fun y2 =>
      ((GetElem?.getElem? y1 (Int.toNat (Int.tmod y0 (9 : Int))))).bind fun y3 =>
      bif (decide ((((List.length x.1) + (List.length [(239 : Int), y3])) * (8 : Nat)) ≤ ((2 : Nat) ^ (46 : Nat)))) then
        some (Sum.inl ((x.1 ++ [(239 : Int), y3]), (x.2.1, (x.2.2.1, (w64 (x.2.2.2 + (1 : Int)))))))
      else
        none
    else
      bif (decide (y0 < (60 : Int))) then
        ((nthI [(232 : Int), (233 : Int), (234 : Int), (217 : Int), (240 : Int), (184 : Int), (191 : Int), (161 : Int), (239 : Int), (66 : Int)] (Int.tmod y0 (10 : Int)))).bind fun y4 =>
        ((GetElem?.getElem? [(232 : Int), (233 : Int), (234 : Int), (217 : Int), (240 : Int), (184 : Int), (191 : Int), (161 : Int), (239 : Int), (66 : Int)] (Int.toNat (Int.tmod y0 (10 : Int))))).bind fun y5 =>
        bif (decide ((((List.length x.1) + (List.length [y5])) * (8 : Nat)) ≤ ((2 : Nat) ^ (46 : Nat)))) then
          some (Sum.inl ((x.1 ++ [y5]), (x.2.1, (x.2.2.1, (w64 (x.2.2.2 + (1 : Int)))))))
        else
          none
      else
        bif (decide ((((List.length x.1) + (List.length [(w64 y0)])) * (8 : Nat)) ≤ ((2 : Nat) ^ (46 : Nat)))) then
          some (Sum.inl ((x.1 ++ [(w64 y0)]), (x.2.1, (x.2.2.1, (w64 (x.2.2.2 + (1 : Int)))))))
        else
          none
  else
    some (Sum.inr x.1)

def lontarlaw18_Bytes (fu : Nat) (x : (List Int)) : Option (List Int) :=
  ((sliceI x (0 : Int) (if ((60 : Int) < (↑((List.length x)) : Int)) then (60 : Int) else (↑((List.length x)) : Int)))).bind fun y0 =>
  loopM (lontarlaw18_Bytes_L0 fu) fu (([] : List Int), (y0, ((↑((List.length y0)) : Int), (0 : Int))))
end Go.AM.M

namespace Go.AM.M
open Go.AM

def lontarlaw18_Decode_L0 (fu : Nat) (x : ((List (Int × (Int × ((List Int) × Int)))) × (Int × (Int × ((List Int) × (Int × (Int × ((List Int) × (Int × (Int × (Int × (Int × ((List Int) × Int))))))))))))) : Option (((List (Int × (Int × ((List Int) × Int)))) × (Int × (Int × ((List Int) × (Int × (Int × ((List Int) × (Int × (Int × (Int × (Int × ((List Int) × Int)))))))))))) ⊕ (((List (Int × (Int × ((List Int) × Int)))) × (Int × (Int × Int))) ⊕ ((List (Int × (Int × ((List Int) × Int)))) × Int))) :=
  bif (decide (x.2.2.2.2.2.2.2.2.1 < x.2.2.2.2.2.2.2.1)) then
    ((nthI x.2.2.2.2.2.2.1 x.2.2.2.2.2.2.2.2.1)).bind fun y0 =>
    bif (decide (y0 ≥ (8192 : Int))) then
      bif (decide ((((List.length x.2.2.2.1) + (List.length [(w64 (y0 - (8192 : Int)))])) * (8 : Nat)) ≤ ((2 : Nat) ^ (46 : Nat)))) then
        some (Sum.inl (x.1, (x.2.1, (x.2.2.1, ((x.2.2.2.1 ++ [(w64 (y0 - (8192 : Int)))]), (x.2.2.2.2.1, (x.2.2.2.2.2.1, (x.2.2.2.2.2.2.1, (x.2.2.2.2.2.2.2.1, ((w64 (x.2.2.2.2.2.2.2.2.1 + (1 : Int))), (x.2.2.2.2.2.2.2.2.2.1, (x.2.2.2.2.2.2.2.2.2.2.1, (x.2.2.2.2.2.2.2.2.2.2.2.1, x.2.2.2.2.2.2.2.2.2.2.2.2)))))))))))))
      else
        none
    else
      bif (decide (y0 ≥ (4096 : Int))) then
        some (Sum.inl (x.1, ((w64 (y0 - (4096 : Int))), (x.2.2.1, (x.2.2.2.1, (x.2.2.2.2.1, (x.2.2.2.2.2.1, (x.2.2.2.2.2.2.1, (x.2.2.2.2.2.2.2.1, ((w64 (x.2.2.2.2.2.2.2.2.1 + (1 : Int))), (x.2.2.2.2.2.2.2.2.2.1, (x.2.2.2.2.2.2.2.2.2.2.1, (x.2.2.2.2.2.2.2.2.2.2.2.1, x.2.2.2.2.2.2.2.2.2.2.2.2)))))))))))))
      else
        bif (decide ((((List.length x.2.2.2.1) + (List.length [(w64 ((w64 ((2304 : Int) + (w64 ((128 : Int) * x.2.1)))) + y0))])) * (8 : Nat)) ≤ ((2 : Nat) ^ (46 : Nat)))) then
          some (Sum.inl (x.1, (x.2.1, (x.2.2.1, ((x.2.2.2.1 ++ [(w64 ((w64 ((2304 : Int) + (w64 ((128 : Int) * x.2.1)))) + y0))]), (x.2.2.2.2.1, (x.2.2.2.2.2.1, (x.2.2.2.2.2.2.1, (x.2.2.2.2.2.2.2.1, ((w64 (x.2.2.2.2.2.2.2.2.1 + (1 : Int))), (x.2.2.2.2.2.2.2.2.2.1, (x.2.2.2.2.2.2.2.2.2.2.1, (x.2.2.2.2.2.2.2.2.2.2.2.1, x.2.2.2.2.2.2.2.2.2.2.2.2)))))))))))))
        else
          none
  else
    Option.map Sum.inr (
      ((nthI x.1 x.2.2.1)).bind fun y1 =>
      ((GetElem?.getElem? x.1 (Int.toNat x.2.2.1))).bind fun y2 =>
      some (Sum.inl ((List.set x.1 (Int.toNat x.2.2.1) (y2.1, (y2.2.1, (x.2.2.2.1, y2.2.2.2)))), (x.2.1, (x.2.2.2.2.1, (w64 (x.2.2.2.2.2.1 + (1 : Int))))))))

def lontarlaw18_Decode_L1 (fu : Nat) (x : ((List (Int × (Int × ((List Int) × Int)))) × (Int × (Int × Int)))) : Option (((List (Int × (Int × ((List Int) × Int)))) × (Int × (Int × Int))) ⊕ ((List (Int × (Int × ((List Int) × Int)))) × Int)) :=
  bif (decide (x.2.2.2 < x.2.2.1)) then
    ((nthI x.1 x.2.2.2)).bind fun y0 =>
    ((GetElem?.getElem? x.1 (Int.toNat x.2.2.2))).bind fun y1 =>
    loopM (lontarlaw18_Decode_L0 fu) fu (x.1, (x.2.1, (x.2.2.2, (([] : List Int), (x.2.2.1, (x.2.2.2, (y1.2.2.1, ((↑((List.length y1.2.2.1)) : Int), ((0 : Int), (y1.1, (y1.2.1, (y1.2.2.1, y1.2.2.2))))))))))))
  else
    some (Sum.inr (x.1, x.2.1))

def lontarlaw18_Decode (fu : Nat) (x : (List Int)) : Option ((List (Int × (Int × ((List Int) × Int)))) × Int) :=
  ((lontarlaw14_Rules fu ())).bind fun y0 =>
  ((lontarlaw05_All fu (y0, x))).bind fun y1 =>
  loopM (lontarlaw18_Decode_L1 fu) fu (y1, ((0 : Int), ((↑((List.length y1)) : Int), (0 : Int))))
end Go.AM.M

namespace Go.AM.M
open Go.AM

def iscii_Encoder_Held (fu : Nat) (x : (Int × (Int × (Int × (Int × (Int × ((List (Int × (Int × (Int × Int)))) × ((List ((List Int) × (List Int))) × ((List (Int × (Int × (Int × Int)))) × ((List ((List Int) × (List Int))) × ((List Int) × ((List (Int × (Int × (Int × Int)))) × ((List ((List Int) × (List Int))) × ((List Int) × (Int × Int))))))))))))))) : Option (Int × (Int × (Int × (Int × (Int × (Int × ((List (Int × (Int × (Int × Int)))) × ((List ((List Int) × (List Int))) × ((List (Int × (Int × (Int × Int)))) × ((List ((List Int) × (List Int))) × ((List Int) × ((List (Int × (Int × (Int × Int)))) × ((List ((List Int) × (List Int))) × ((List Int) × (Int × Int))))))))))))))) :=
  ((machine_Encoder_Held fu (x.2.2.2.1, (x.2.2.2.2.1, (x.2.2.2.2.2.1, (x.2.2.2.2.2.2.1, (x.2.2.2.2.2.2.2.1, (x.2.2.2.2.2.2.2.2.1, (x.2.2.2.2.2.2.2.2.2.1, (x.2.2.2.2.2.2.2.2.2.2.1, (x.2.2.2.2.2.2.2.2.2.2.2.1, (x.2.2.2.2.2.2.2.2.2.2.2.2.1, (x.2.2.2.2.2.2.2.2.2.2.2.2.2.1, x.2.2.2.2.2.2.2.2.2.2.2.2.2.2))))))))))))).bind fun y0 =>
  some (y0.1, (x.1, (x.2.1, (x.2.2.1, (y0.2.1, (y0.2.2.1, (y0.2.2.2.1, (y0.2.2.2.2.1, (y0.2.2.2.2.2.1, (y0.2.2.2.2.2.2.1, (y0.2.2.2.2.2.2.2.1, (y0.2.2.2.2.2.2.2.2.1, (y0.2.2.2.2.2.2.2.2.2.1, (y0.2.2.2.2.2.2.2.2.2.2.1, (y0.2.2.2.2.2.2.2.2.2.2.2.1, y0.2.2.2.2.2.2.2.2.2.2.2.2)))))))))))))))
end Go.AM.M

namespace Go.AM.M
open Go.AM

def iscii_Decoder_Held (fu : Nat) (x : (Int × ((List (Int × (Int × (Int × Int)))) × ((List ((List Int) × (List Int))) × ((List Int) × (Int × Int)))))) : Option (Int × (Int × ((List (Int × (Int × (Int × Int)))) × ((List ((List Int) × (List Int))) × ((List Int) × (Int × Int)))))) :=
  ((match_Match_Held fu (x.2.1, (x.2.2.1, (x.2.2.2.1, (x.2.2.2.2.1, x.2.2.2.2.2)))))).bind fun y0 =>
  some (y0.1, (x.1, (y0.2.1, (y0.2.2.1, (y0.2.2.2.1, (y0.2.2.2.2.1, y0.2.2.2.2.2))))))
end Go.AM.M

namespace Go.AM.M
open Go.AM

def lontarlaw18_IsciiHeld_L0 (fu : Nat) (x : ((List Int) × (Int × (Int × ((List (Int × (Int × (Int × Int)))) × ((List ((List Int) × (List Int))) × ((List Int) × (Int × (Int × (Int × (Int × ((List (Int × (Int × (Int × Int)))) × ((List ((List Int) × (List Int))) × ((List (Int × (Int × (Int × Int)))) × ((List ((List Int) × (List Int))) × ((List Int) × (Int × (Int × (Int × ((List (Int × (Int × (Int × Int)))) × ((List ((List Int) × (List Int))) × ((List Int) × (Int × (Int × Int)))))))))))))))))))))))) : Option (((List Int) × (Int × (Int × ((List (Int × (Int × (Int × Int)))) × ((List ((List Int) × (List Int))) × ((List Int) × (Int × (Int × (Int × (Int × ((List (Int × (Int × (Int × Int)))) × ((List ((List Int) × (List Int))) × ((List (Int × (Int × (Int × Int)))) × ((List ((List Int) × (List Int))) × ((List Int) × (Int × (Int × (Int × ((List (Int × (Int × (Int × Int)))) × ((List ((List Int) × (List Int))) × ((List Int) × (Int × (Int × Int))))))))))))))))))))))) ⊕ Bool) :=
  bif (decide (x.2.2.1 < x.2.1)) then
    ((nthI x.1 x.2.2.1)).bind fun y0 =>
    ((GetElem?.getElem? x.1 (Int.toNat x.2.2.1))).bind fun y1 =>
    ((iscii_Encoder_Put fu (y1, (x.2.2.2.2.2.2.2.2.2.2.2.2.2.2.2.1, (x.2.2.2.2.2.2.2.2.2.2.2.2.2.2.2.2.1, (x.2.2.2.2.2.2.2.2.2.2.2.2.2.2.2.2.2.1, (x.2.2.2.2.2.2.2.2.1, (x.2.2.2.2.2.2.2.2.2.1, (x.2.2.2.2.2.2.2.2.2.2.1, (x.2.2.2.2.2.2.2.2.2.2.2.1, (x.2.2.2.2.2.2.2.2.2.2.2.2.1, (x.2.2.2.2.2.2.2.2.2.2.2.2.2.1, (x.2.2.2.2.2.2.2.2.2.2.2.2.2.2.1, (x.2.2.2.1, (x.2.2.2.2.1, (x.2.2.2.2.2.1, (x.2.2.2.2.2.2.1, x.2.2.2.2.2.2.2.1))))))))))))))))).bind fun y2 =>
    ((iscii_Encoder_Held fu (y2.2.1, (y2.2.2.1, (y2.2.2.2.1, (y2.2.2.2.2.1, (y2.2.2.2.2.2.1, (y2.2.2.2.2.2.2.1, (y2.2.2.2.2.2.2.2.1, (y2.2.2.2.2.2.2.2.2.1, (y2.2.2.2.2.2.2.2.2.2.1, (y2.2.2.2.2.2.2.2.2.2.2.1, (y2.2.2.2.2.2.2.2.2.2.2.2.1, (y2.2.2.2.2.2.2.2.2.2.2.2.2.1, (y2.2.2.2.2.2.2.2.2.2.2.2.2.2.1, (y2.2.2.2.2.2.2.2.2.2.2.2.2.2.2.1, y2.2.2.2.2.2.2.2.2.2.2.2.2.2.2.2)))))))))))))))).bind fun y3 =>
    bif (decide (y3.1 > (1 : Int))) then
      some (Sum.inr false)
    else
      some (Sum.inl (x.1, (x.2.1, ((w64 (x.2.2.1 + (1 : Int))), (y3.2.2.2.2.2.2.2.2.2.2.2.1, (y3.2.2.2.2.2.2.2.2.2.2.2.2.1, (y3.2.2.2.2.2.2.2.2.2.2.2.2.2.1, (y3.2.2.2.2.2.2.2.2.2.2.2.2.2.2.1, (y3.2.2.2.2.2.2.2.2.2.2.2.2.2.2.2, (y3.2.2.2.2.1, (y3.2.2.2.2.2.1, (y3.2.2.2.2.2.2.1, (y3.2.2.2.2.2.2.2.1, (y3.2.2.2.2.2.2.2.2.1, (y3.2.2.2.2.2.2.2.2.2.1, (y3.2.2.2.2.2.2.2.2.2.2.1, (y3.2.1, (y3.2.2.1, (y3.2.2.2.1, (x.2.2.2.2.2.2.2.2.2.2.2.2.2.2.2.2.2.2.1, (x.2.2.2.2.2.2.2.2.2.2.2.2.2.2.2.2.2.2.2.1, (x.2.2.2.2.2.2.2.2.2.2.2.2.2.2.2.2.2.2.2.2.1, (x.2.2.2.2.2.2.2.2.2.2.2.2.2.2.2.2.2.2.2.2.2.1, (x.2.2.2.2.2.2.2.2.2.2.2.2.2.2.2.2.2.2.2.2.2.2.1, x.2.2.2.2.2.2.2.2.2.2.2.2.2.2.2.2.2.2.2.2.2.2.2))))))))))))))))))))))))
  else
    some (Sum.inr true)

def lontarlaw18_IsciiHeld_L1 (fu : Nat) (x : ((List Int) × ((List Int) × (Int × (Int × ((List (Int × (Int × (Int × Int)))) × ((List ((List Int) × (List Int))) × ((List Int) × (Int × (Int × (Int × (Int × ((List (Int × (Int × (Int × Int)))) × ((List ((List Int) × (List Int))) × ((List (Int × (Int × (Int × Int)))) × ((List ((List Int) × (List Int))) × ((List Int) × (Int × (Int × (Int × ((List (Int × (Int × (Int × Int)))) × ((List ((List Int) × (List Int))) × ((List Int) × (Int × (Int × Int))))))))))))))))))))))))) : Option (((List Int) × ((List Int) × (Int × (Int × ((List (Int × (Int × (Int × Int)))) × ((List ((List Int) × (List Int))) × ((List Int) × (Int × (Int × (Int × (Int × ((List (Int × (Int × (Int × Int)))) × ((List ((List Int) × (List Int))) × ((List (Int × (Int × (Int × Int)))) × ((List ((List Int) × (List Int))) × ((List Int) × (Int × (Int × (Int × ((List (Int × (Int × (Int × Int)))) × ((List ((List Int) × (List Int))) × ((List Int) × (Int × (Int × Int)))))))))))))))))))))))) ⊕ Bool) :=
  bif (decide (x.2.2.2.1 < x.2.2.1)) then
    ((nthI x.2.1 x.2.2.2.1)).bind fun y0 =>
    ((GetElem?.getElem? x.2.1 (Int.toNat x.2.2.2.1))).bind fun y1 =>
    ((iscii_Decoder_Put fu (y1, (x.2.2.2.2.2.2.2.2.2.2.2.2.2.2.2.2.2.2.2.2.2.2.2.2, (x.2.2.2.2.2.2.2.2.2.2.2.2.2.2.2.2.2.2.2.1, (x.2.2.2.2.2.2.2.2.2.2.2.2.2.2.2.2.2.2.2.2.1, (x.2.2.2.2.2.2.2.2.2.2.2.2.2.2.2.2.2.2.2.2.2.1, (x.2.2.2.2.2.2.2.2.2.2.2.2.2.2.2.2.2.2.2.2.2.2.1, x.2.2.2.2.2.2.2.2.2.2.2.2.2.2.2.2.2.2.2.2.2.2.2.1)))))))).bind fun y2 =>
    ((iscii_Decoder_Held fu (y2.2.1, (y2.2.2.1, (y2.2.2.2.1, (y2.2.2.2.2.1, (y2.2.2.2.2.2.1, y2.2.2.2.2.2.2))))))).bind fun y3 =>
    bif (decide (y3.1 > (1 : Int))) then
      some (Sum.inr false)
    else
      some (Sum.inl (x.1, (x.2.1, (x.2.2.1, ((w64 (x.2.2.2.1 + (1 : Int))), (x.2.2.2.2.1, (x.2.2.2.2.2.1, (x.2.2.2.2.2.2.1, (x.2.2.2.2.2.2.2.1, (x.2.2.2.2.2.2.2.2.1, (x.2.2.2.2.2.2.2.2.2.1, (x.2.2.2.2.2.2.2.2.2.2.1, (x.2.2.2.2.2.2.2.2.2.2.2.1, (x.2.2.2.2.2.2.2.2.2.2.2.2.1, (x.2.2.2.2.2.2.2.2.2.2.2.2.2.1, (x.2.2.2.2.2.2.2.2.2.2.2.2.2.2.1, (x.2.2.2.2.2.2.2.2.2.2.2.2.2.2.2.1, (x.2.2.2.2.2.2.2.2.2.2.2.2.2.2.2.2.1, (x.2.2.2.2.2.2.2.2.2.2.2.2.2.2.2.2.2.1, (x.2.2.2.2.2.2.2.2.2.2.2.2.2.2.2.2.2.2.1, (y3.2.2.1, (y3.2.2.2.1, (y3.2.2.2.2.1, (y3.2.2.2.2.2.1, (y3.2.2.2.2.2.2, y3.2.1)))))))))))))))))))))))))
  else
    Option.map Sum.inr (
      ((lontarlaw18_Scalars fu x.1)).bind fun y4 =>
      loopM (lontarlaw18_IsciiHeld_L0 fu) fu (y4, ((↑((List.length y4)) : Int), ((0 : Int), (x.2.2.2.2.1, (x.2.2.2.2.2.1, (x.2.2.2.2.2.2.1, (x.2.2.2.2.2.2.2.1, (x.2.2.2.2.2.2.2.2.1, (x.2.2.2.2.2.2.2.2.2.1, (x.2.2.2.2.2.2.2.2.2.2.1, (x.2.2.2.2.2.2.2.2.2.2.2.1, (x.2.2.2.2.2.2.2.2.2.2.2.2.1, (x.2.2.2.2.2.2.2.2.2.2.2.2.2.1, (x.2.2.2.2.2.2.2.2.2.2.2.2.2.2.1, (x.2.2.2.2.2.2.2.2.2.2.2.2.2.2.2.1, (x.2.2.2.2.2.2.2.2.2.2.2.2.2.2.2.2.1, (x.2.2.2.2.2.2.2.2.2.2.2.2.2.2.2.2.2.1, (x.2.2.2.2.2.2.2.2.2.2.2.2.2.2.2.2.2.2.1, (x.2.2.2.2.2.2.2.2.2.2.2.2.2.2.2.2.2.2.2.1, (x.2.2.2.2.2.2.2.2.2.2.2.2.2.2.2.2.2.2.2.2.1, (x.2.2.2.2.2.2.2.2.2.2.2.2.2.2.2.2.2.2.2.2.2.1, (x.2.2.2.2.2.2.2.2.2.2.2.2.2.2.2.2.2.2.2.2.2.2.1, (x.2.2.2.2.2.2.2.2.2.2.2.2.2.2.2.2.2.2.2.2.2.2.2.1, x.2.2.2.2.2.2.2.2.2.2.2.2.2.2.2.2.2.2.2.2.2.2.2.2))))))))))))))))))))))))

def lontarlaw18_IsciiHeld (fu : Nat) (x : (List Int)) : Option Bool :=
  ((lontarlaw18_awake fu ())).bind fun y0 =>
  bif (!y0) then
    some false
  else
    ((iscii_Encode fu ())).bind fun y1 =>
    ((iscii_Decode fu ())).bind fun y2 =>
    ((lontarlaw18_Bytes fu x)).bind fun y3 =>
    loopM (lontarlaw18_IsciiHeld_L1 fu) fu (x, (y3, ((↑((List.length y3)) : Int), ((0 : Int), (y1.1, (y1.2.1, (y1.2.2.1, (y1.2.2.2.1, (y1.2.2.2.2.1, (y1.2.2.2.2.2.1, (y1.2.2.2.2.2.2.1, (y1.2.2.2.2.2.2.2.1, (y1.2.2.2.2.2.2.2.2.1, (y1.2.2.2.2.2.2.2.2.2.1, (y1.2.2.2.2.2.2.2.2.2.2.1, (y1.2.2.2.2.2.2.2.2.2.2.2.1, (y1.2.2.2.2.2.2.2.2.2.2.2.2.1, (y1.2.2.2.2.2.2.2.2.2.2.2.2.2.1, (y1.2.2.2.2.2.2.2.2.2.2.2.2.2.2, (y2.1, (y2.2.1, (y2.2.2.1, (y2.2.2.2.1, (y2.2.2.2.2.1, y2.2.2.2.2.2))))))))))))))))))))))))
end Go.AM.M

namespace Go.AM.M
open Go.AM

def lontarlaw18_IsciiDecode_L0 (fu : Nat) (x : ((List Int) × ((List (Int × (Int × ((List Int) × Int)))) × ((List (List Int)) × (Int × (Int × ((List Int) × (Int × (Int × ((List (Int × (Int × (Int × Int)))) × ((List ((List Int) × (List Int))) × ((List Int) × (Int × (Int × Int)))))))))))))) : Option (((List Int) × ((List (Int × (Int × ((List Int) × Int)))) × ((List (List Int)) × (Int × (Int × ((List Int) × (Int × (Int × ((List (Int × (Int × (Int × Int)))) × ((List ((List Int) × (List Int))) × ((List Int) × (Int × (Int × Int))))))))))))) ⊕ (((List (List Int)) × (Int × Int)) ⊕ Bool)) :=
  bif (decide (x.2.2.2.2.2.2.2.1 < x.2.2.2.2.2.2.1)) then
    ((nthI x.2.2.2.2.2.1 x.2.2.2.2.2.2.2.1)).bind fun y0 =>
    ((iscii_Decoder_Put fu (y0, (x.2.2.2.2.2.2.2.2.2.2.2.2.2, (x.2.2.2.2.2.2.2.2.1, (x.2.2.2.2.2.2.2.2.2.1, (x.2.2.2.2.2.2.2.2.2.2.1, (x.2.2.2.2.2.2.2.2.2.2.2.1, x.2.2.2.2.2.2.2.2.2.2.2.2.1)))))))).bind fun y1 =>
    bif (decide ((((List.length x.2.1) + (List.length y1.1)) * (48 : Nat)) ≤ ((2 : Nat) ^ (46 : Nat)))) then
      some (Sum.inl (x.1, ((x.2.1 ++ y1.1), (x.2.2.1, (x.2.2.2.1, (x.2.2.2.2.1, (x.2.2.2.2.2.1, (x.2.2.2.2.2.2.1, ((w64 (x.2.2.2.2.2.2.2.1 + (1 : Int))), (y1.2.2.1, (y1.2.2.2.1, (y1.2.2.2.2.1, (y1.2.2.2.2.2.1, (y1.2.2.2.2.2.2, y1.2.1))))))))))))))
    else
      none
  else
    Option.map Sum.inr (
      ((iscii_Decoder_End fu (x.2.2.2.2.2.2.2.2.2.2.2.2.2, (x.2.2.2.2.2.2.2.2.1, (x.2.2.2.2.2.2.2.2.2.1, (x.2.2.2.2.2.2.2.2.2.2.1, (x.2.2.2.2.2.2.2.2.2.2.2.1, x.2.2.2.2.2.2.2.2.2.2.2.2.1))))))).bind fun y2 =>
      bif (decide ((((List.length x.2.1) + (List.length y2.1)) * (48 : Nat)) ≤ ((2 : Nat) ^ (46 : Nat)))) then
        ((lontarlaw18_Decode fu x.1)).bind fun y3 =>
        ((lontarlaw01_Same fu ((x.2.1 ++ y2.1), y3.1))).bind fun y4 =>
        bif (!y4) then
          some (Sum.inr false)
        else
          ((iscii_Decoder_Script fu (y2.2.1, (y2.2.2.1, (y2.2.2.2.1, (y2.2.2.2.2.1, (y2.2.2.2.2.2.1, y2.2.2.2.2.2.2))))))).bind fun y5 =>
          bif (y5.1 != y3.2) then
            some (Sum.inr false)
          else
            ((iscii_Decoder_Held fu (y5.2.1, (y5.2.2.1, (y5.2.2.2.1, (y5.2.2.2.2.1, (y5.2.2.2.2.2.1, y5.2.2.2.2.2.2))))))).bind fun y6 =>
            bif (y6.1 != (0 : Int)) then
              some (Sum.inr false)
            else
              some (Sum.inl (x.2.2.1, (x.2.2.2.1, (w64 (x.2.2.2.2.1 + (1 : Int))))))
      else
        none)

def lontarlaw18_IsciiDecode_L1 (fu : Nat) (x : ((List (List Int)) × (Int × Int))) : Option (((List (List Int)) × (Int × Int)) ⊕ Bool) :=
  bif (decide (x.2.2 < x.2.1)) then
    ((nthI x.1 x.2.2)).bind fun y0 =>
    ((GetElem?.getElem? x.1 (Int.toNat x.2.2))).bind fun y1 =>
    ((iscii_Decode fu ())).bind fun y2 =>
    loopM (lontarlaw18_IsciiDecode_L0 fu) fu (y1, (([] : List (Int × (Int × ((List Int) × Int)))), (x.1, (x.2.1, (x.2.2, (y1, ((↑((List.length y1)) : Int), ((0 : Int), (y2.1, (y2.2.1, (y2.2.2.1, (y2.2.2.2.1, (y2.2.2.2.2.1, y2.2.2.2.2.2)))))))))))))
  else
    some (Sum.inr true)

def lontarlaw18_IsciiDecode_L2 (fu : Nat) (x : ((List Int) × ((List Int) × ((List Int) × (Int × Int))))) : Option (((List Int) × ((List Int) × ((List Int) × (Int × Int)))) ⊕ Bool) :=
  bif (decide (x.2.2.2.2 < x.2.2.2.1)) then
    ((nthI x.2.2.1 x.2.2.2.2)).bind fun y0 =>
    bif (decide ((((List.length x.2.1) + (List.length [(w64 y0)])) * (8 : Nat)) ≤ ((2 : Nat) ^ (46 : Nat)))) then
      some (Sum.inl (x.1, ((x.2.1 ++ [(w64 y0)]), (x.2.2.1, (x.2.2.2.1, (w64 (x.2.2.2.2 + (1 : Int))))))))
    else
      none
  else
    Option.map Sum.inr (
      ((lontarlaw18_Bytes fu x.1)).bind fun y1 =>
      loopM (lontarlaw18_IsciiDecode_L1 fu) fu ([y1, x.2.1], ((↑((List.length [y1, x.2.1])) : Int), (0 : Int))))

def lontarlaw18_IsciiDecode (fu : Nat) (x : ((List Int) × (List Int))) : Option Bool :=
  ((lontarlaw18_awake fu ())).bind fun y0 =>
  bif (!y0) then
    some false
  else
    ((sliceI x.2 (0 : Int) (if ((60 : Int) < (↑((List.length x.2)) : Int)) then (60 : Int) else (↑((List.length x.2)) : Int)))).bind fun y1 =>
    loopM (lontarlaw18_IsciiDecode_L2 fu) fu (x.1, (([] : List Int), (y1, ((↑((List.length y1)) : Int), (0 : Int)))))
end Go.AM.M

namespace Go.AM.M
open Go.AM

def lontarlaw18_Encode_1_L0 (fu : Nat) (x : ((List (Int × (Int × ((List Int) × Int)))) × (Int × (Int × ((List Int) × (Int × (List (Int × (Int × ((List Int) × Int)))))))))) : Option (((List (Int × (Int × ((List Int) × Int)))) × (Int × (Int × ((List Int) × (Int × (List (Int × (Int × ((List Int) × Int))))))))) ⊕ ((List Int) × (Int × (List (Int × (Int × ((List Int) × Int))))))) :=
  bif (decide (x.2.2.1 < x.2.1)) then
    ((nthI x.1 x.2.2.1)).bind fun y0 =>
    ((GetElem?.getElem? x.1 (Int.toNat x.2.2.1))).bind fun y1 =>
    bif (decide ((((List.length x.2.2.2.2.2) + (List.length [((w64 (y1.1 + x.2.2.2.2.1)), (y1.2.1, (y1.2.2.1, y1.2.2.2)))])) * (48 : Nat)) ≤ ((2 : Nat) ^ (46 : Nat)))) then
      some (Sum.inl (x.1, (x.2.1, ((w64 (x.2.2.1 + (1 : Int))), (x.2.2.2.1, (x.2.2.2.2.1, (x.2.2.2.2.2 ++ [((w64 (y1.1 + x.2.2.2.2.1)), (y1.2.1, (y1.2.2.1, y1.2.2.2)))])))))))
    else
      none
  else
    some (Sum.inr (([] : List Int), ((w64 (x.2.2.2.2.1 + (↑((List.length x.2.2.2.1)) : Int))), x.2.2.2.2.2)))

def lontarlaw18_Encode_1 (fu : Nat) (x : ((List Int) × (Int × (List (Int × (Int × ((List Int) × Int))))))) : Option ((List Int) × (Int × (List (Int × (Int × ((List Int) × Int)))))) :=
  ((lontarlaw14_Rules fu ())).bind fun y0 =>
  ((lontarlaw15_Encode fu (y0, x.1))).bind fun y1 =>
  loopM (lontarlaw18_Encode_1_L0 fu) fu (y1, ((↑((List.length y1)) : Int), ((0 : Int), (x.1, (x.2.1, x.2.2)))))
end Go.AM.M

namespace Go.AM.M
open Go.AM

def lontarlaw18_Encode_L0 (fu : Nat) (x : ((List Int) × (Int × ((List Int) × (Int × (Int × ((List (Int × (Int × ((List Int) × Int)))) × (Int × (List Int))))))))) : Option (((List Int) × (Int × ((List Int) × (Int × (Int × ((List (Int × (Int × ((List Int) × Int)))) × (Int × (List Int)))))))) ⊕ ((List (Int × (Int × ((List Int) × Int)))) × Int)) :=
  bif (decide (x.2.2.2.2.1 < x.2.2.2.1)) then
    ((nthI x.2.2.1 x.2.2.2.2.1)).bind fun y0 =>
    ((utf_Scalar fu y0)).bind fun y1 =>
    bif (!y1) then
      bif (decide (y0 ≥ (2304 : Int))) then
        bif (decide (y0 < (3456 : Int))) then
          bif (y0 != (2404 : Int)) then
            bif ((w64 (Int.tdiv (w64 (y0 - (2304 : Int))) (128 : Int))) != x.2.1) then
              ((lontarlaw18_Encode_1 fu (x.2.2.2.2.2.2.2, (x.2.2.2.2.2.2.1, x.2.2.2.2.2.1)))).bind fun y2 =>
              ((lontarlaw14_Codes fu ())).bind fun y3 =>
              ((nthI y3 (w64 (Int.tdiv (w64 (y0 - (2304 : Int))) (128 : Int))))).bind fun y4 =>
              ((GetElem?.getElem? y3 (Int.toNat (w64 (Int.tdiv (w64 (y0 - (2304 : Int))) (128 : Int)))))).bind fun y5 =>
              bif (decide ((((List.length y2.2.2) + (List.length [(x.2.2.2.2.1, ((0 : Int), ([(239 : Int), y5], (0 : Int))))])) * (48 : Nat)) ≤ ((2 : Nat) ^ (46 : Nat)))) then
                bif (decide ((((List.length y2.1) + (List.length [(Int.tmod y0 (128 : Int))])) * (8 : Nat)) ≤ ((2 : Nat) ^ (46 : Nat)))) then
                  some (Sum.inl (x.1, ((w64 (Int.tdiv (w64 (y0 - (2304 : Int))) (128 : Int))), (x.2.2.1, (x.2.2.2.1, ((w64 (x.2.2.2.2.1 + (1 : Int))), ((y2.2.2 ++ [(x.2.2.2.2.1, ((0 : Int), ([(239 : Int), y5], (0 : Int))))]), (y2.2.1, (y2.1 ++ [(Int.tmod y0 (128 : Int))])))))))))
                else
                  none
              else
                none
            else
              bif (decide ((((List.length x.2.2.2.2.2.2.2) + (List.length [(Int.tmod y0 (128 : Int))])) * (8 : Nat)) ≤ ((2 : Nat) ^ (46 : Nat)))) then
                some (Sum.inl (x.1, (x.2.1, (x.2.2.1, (x.2.2.2.1, ((w64 (x.2.2.2.2.1 + (1 : Int))), (x.2.2.2.2.2.1, (x.2.2.2.2.2.2.1, (x.2.2.2.2.2.2.2 ++ [(Int.tmod y0 (128 : Int))])))))))))
              else
                none
          else
            bif (decide ((((List.length x.2.2.2.2.2.2.2) + (List.length [(-(1 : Int))])) * (8 : Nat)) ≤ ((2 : Nat) ^ (46 : Nat)))) then
              some (Sum.inl (x.1, (x.2.1, (x.2.2.1, (x.2.2.2.1, ((w64 (x.2.2.2.2.1 + (1 : Int))), (x.2.2.2.2.2.1, (x.2.2.2.2.2.2.1, (x.2.2.2.2.2.2.2 ++ [(-(1 : Int))])))))))))
            else
              none
        else
          bif (decide ((((List.length x.2.2.2.2.2.2.2) + (List.length [(-(1 : Int))])) * (8 : Nat)) ≤ ((2 : Nat) ^ (46 : Nat)))) then
            some (Sum.inl (x.1, (x.2.1, (x.2.2.1, (x.2.2.2.1, ((w64 (x.2.2.2.2.1 + (1 : Int))), (x.2.2.2.2.2.1, (x.2.2.2.2.2.2.1, (x.2.2.2.2.2.2.2 ++ [(-(1 : Int))])))))))))
          else
            none
      else
        bif (decide ((((List.length x.2.2.2.2.2.2.2) + (List.length [(-(1 : Int))])) * (8 : Nat)) ≤ ((2 : Nat) ^ (46 : Nat)))) then
          some (Sum.inl (x.1, (x.2.1, (x.2.2.1, (x.2.2.2.1, ((w64 (x.2.2.2.2.1 + (1 : Int))), (x.2.2.2.2.2.1, (x.2.2.2.2.2.2.1, (x.2.2.2.2.2.2.2 ++ [(-(1 : Int))])))))))))
        else
          none
    else
      bif (decide (y0 ≥ (2304 : Int))) then
        bif (decide (y0 < (3456 : Int))) then
          bif (y0 != (2404 : Int)) then
            bif ((w64 (Int.tdiv (w64 (y0 - (2304 : Int))) (128 : Int))) != x.2.1) then
              ((lontarlaw18_Encode_1 fu (x.2.2.2.2.2.2.2, (x.2.2.2.2.2.2.1, x.2.2.2.2.2.1)))).bind fun y6 =>
              ((lontarlaw14_Codes fu ())).bind fun y7 =>
              ((nthI y7 (w64 (Int.tdiv (w64 (y0 - (2304 : Int))) (128 : Int))))).bind fun y8 =>
              ((GetElem?.getElem? y7 (Int.toNat (w64 (Int.tdiv (w64 (y0 - (2304 : Int))) (128 : Int)))))).bind fun y9 =>
              bif (decide ((((List.length y6.2.2) + (List.length [(x.2.2.2.2.1, ((0 : Int), ([(239 : Int), y9], (0 : Int))))])) * (48 : Nat)) ≤ ((2 : Nat) ^ (46 : Nat)))) then
                bif (decide ((((List.length y6.1) + (List.length [(Int.tmod y0 (128 : Int))])) * (8 : Nat)) ≤ ((2 : Nat) ^ (46 : Nat)))) then
                  some (Sum.inl (x.1, ((w64 (Int.tdiv (w64 (y0 - (2304 : Int))) (128 : Int))), (x.2.2.1, (x.2.2.2.1, ((w64 (x.2.2.2.2.1 + (1 : Int))), ((y6.2.2 ++ [(x.2.2.2.2.1, ((0 : Int), ([(239 : Int), y9], (0 : Int))))]), (y6.2.1, (y6.1 ++ [(Int.tmod y0 (128 : Int))])))))))))
                else
                  none
              else
                none
            else
              bif (decide ((((List.length x.2.2.2.2.2.2.2) + (List.length [(Int.tmod y0 (128 : Int))])) * (8 : Nat)) ≤ ((2 : Nat) ^ (46 : Nat)))) then
                some (Sum.inl (x.1, (x.2.1, (x.2.2.1, (x.2.2.2.1, ((w64 (x.2.2.2.2.1 + (1 : Int))), (x.2.2.2.2.2.1, (x.2.2.2.2.2.2.1, (x.2.2.2.2.2.2.2 ++ [(Int.tmod y0 (128 : Int))])))))))))
              else
                none
          else
            bif (decide ((((List.length x.2.2.2.2.2.2.2) + (List.length [(w64 ((8192 : Int) + y0))])) * (8 : Nat)) ≤ ((2 : Nat) ^ (46 : Nat)))) then
              some (Sum.inl (x.1, (x.2.1, (x.2.2.1, (x.2.2.2.1, ((w64 (x.2.2.2.2.1 + (1 : Int))), (x.2.2.2.2.2.1, (x.2.2.2.2.2.2.1, (x.2.2.2.2.2.2.2 ++ [(w64 ((8192 : Int) + y0))])))))))))
            else
              none
        else
          bif (decide ((((List.length x.2.2.2.2.2.2.2) + (List.length [(w64 ((8192 : Int) + y0))])) * (8 : Nat)) ≤ ((2 : Nat) ^ (46 : Nat)))) then
            some (Sum.inl (x.1, (x.2.1, (x.2.2.1, (x.2.2.2.1, ((w64 (x.2.2.2.2.1 + (1 : Int))), (x.2.2.2.2.2.1, (x.2.2.2.2.2.2.1, (x.2.2.2.2.2.2.2 ++ [(w64 ((8192 : Int) + y0))])))))))))
          else
            none
      else
        bif (decide ((((List.length x.2.2.2.2.2.2.2) + (List.length [(w64 ((8192 : Int) + y0))])) * (8 : Nat)) ≤ ((2 : Nat) ^ (46 : Nat)))) then
          some (Sum.inl (x.1, (x.2.1, (x.2.2.1, (x.2.2.2.1, ((w64 (x.2.2.2.2.1 + (1 : Int))), (x.2.2.2.2.2.1, (x.2.2.2.2.2.2.1, (x.2.2.2.2.2.2.2 ++ [(w64 ((8192 : Int) + y0))])))))))))
        else
          none
  else
    Option.map Sum.inr (
      ((lontarlaw18_Encode_1 fu (x.2.2.2.2.2.2.2, (x.2.2.2.2.2.2.1, x.2.2.2.2.2.1)))).bind fun y10 =>
      some (y10.2.2, x.2.1))

def lontarlaw18_Encode (fu : Nat) (x : (List Int)) : Option ((List (Int × (Int × ((List Int) × Int)))) × Int) :=
  loopM (lontarlaw18_Encode_L0 fu) fu (x, ((0 : Int), (x, ((↑((List.length x)) : Int), ((0 : Int), (([] : List (Int × (Int × ((List Int) × Int)))), ((0 : Int), ([] : List Int))))))))
end Go.AM.M

namespace Go.AM.M
open Go.AM

def lontarlaw18_IsciiEncode_L0 (fu : Nat) (x : ((List Int) × ((List (Int × (Int × ((List Int) × Int)))) × ((List (List Int)) × (Int × (Int × ((List Int) × (Int × (Int × ((List (Int × (Int × (Int × Int)))) × ((List ((List Int) × (List Int))) × ((List Int) × (Int × (Int × (Int × (Int × ((List (Int × (Int × (Int × Int)))) × ((List ((List Int) × (List Int))) × ((List (Int × (Int × (Int × Int)))) × ((List ((List Int) × (List Int))) × ((List Int) × (Int × (Int × Int))))))))))))))))))))))) : Option (((List Int) × ((List (Int × (Int × ((List Int) × Int)))) × ((List (List Int)) × (Int × (Int × ((List Int) × (Int × (Int × ((List (Int × (Int × (Int × Int)))) × ((List ((List Int) × (List Int))) × ((List Int) × (Int × (Int × (Int × (Int × ((List (Int × (Int × (Int × Int)))) × ((List ((List Int) × (List Int))) × ((List (Int × (Int × (Int × Int)))) × ((List ((List Int) × (List Int))) × ((List Int) × (Int × (Int × Int)))))))))))))))))))))) ⊕ (((List (List Int)) × (Int × Int)) ⊕ Bool)) :=
  bif (decide (x.2.2.2.2.2.2.2.1 < x.2.2.2.2.2.2.1)) then
    ((nthI x.2.2.2.2.2.1 x.2.2.2.2.2.2.2.1)).bind fun y0 =>
    ((iscii_Encoder_Put fu (y0, (x.2.2.2.2.2.2.2.2.2.2.2.2.2.2.2.2.2.2.2.2.1, (x.2.2.2.2.2.2.2.2.2.2.2.2.2.2.2.2.2.2.2.2.2.1, (x.2.2.2.2.2.2.2.2.2.2.2.2.2.2.2.2.2.2.2.2.2.2, (x.2.2.2.2.2.2.2.2.2.2.2.2.2.1, (x.2.2.2.2.2.2.2.2.2.2.2.2.2.2.1, (x.2.2.2.2.2.2.2.2.2.2.2.2.2.2.2.1, (x.2.2.2.2.2.2.2.2.2.2.2.2.2.2.2.2.1, (x.2.2.2.2.2.2.2.2.2.2.2.2.2.2.2.2.2.1, (x.2.2.2.2.2.2.2.2.2.2.2.2.2.2.2.2.2.2.1, (x.2.2.2.2.2.2.2.2.2.2.2.2.2.2.2.2.2.2.2.1, (x.2.2.2.2.2.2.2.2.1, (x.2.2.2.2.2.2.2.2.2.1, (x.2.2.2.2.2.2.2.2.2.2.1, (x.2.2.2.2.2.2.2.2.2.2.2.1, x.2.2.2.2.2.2.2.2.2.2.2.2.1))))))))))))))))).bind fun y1 =>
    bif (decide ((((List.length x.2.1) + (List.length y1.1)) * (48 : Nat)) ≤ ((2 : Nat) ^ (46 : Nat)))) then
      some (Sum.inl (x.1, ((x.2.1 ++ y1.1), (x.2.2.1, (x.2.2.2.1, (x.2.2.2.2.1, (x.2.2.2.2.2.1, (x.2.2.2.2.2.2.1, ((w64 (x.2.2.2.2.2.2.2.1 + (1 : Int))), (y1.2.2.2.2.2.2.2.2.2.2.2.1, (y1.2.2.2.2.2.2.2.2.2.2.2.2.1, (y1.2.2.2.2.2.2.2.2.2.2.2.2.2.1, (y1.2.2.2.2.2.2.2.2.2.2.2.2.2.2.1, (y1.2.2.2.2.2.2.2.2.2.2.2.2.2.2.2, (y1.2.2.2.2.1, (y1.2.2.2.2.2.1, (y1.2.2.2.2.2.2.1, (y1.2.2.2.2.2.2.2.1, (y1.2.2.2.2.2.2.2.2.1, (y1.2.2.2.2.2.2.2.2.2.1, (y1.2.2.2.2.2.2.2.2.2.2.1, (y1.2.1, (y1.2.2.1, y1.2.2.2.1)))))))))))))))))))))))
    else
      none
  else
    Option.map Sum.inr (
      ((iscii_Encoder_End fu (x.2.2.2.2.2.2.2.2.2.2.2.2.2.2.2.2.2.2.2.2.1, (x.2.2.2.2.2.2.2.2.2.2.2.2.2.2.2.2.2.2.2.2.2.1, (x.2.2.2.2.2.2.2.2.2.2.2.2.2.2.2.2.2.2.2.2.2.2, (x.2.2.2.2.2.2.2.2.2.2.2.2.2.1, (x.2.2.2.2.2.2.2.2.2.2.2.2.2.2.1, (x.2.2.2.2.2.2.2.2.2.2.2.2.2.2.2.1, (x.2.2.2.2.2.2.2.2.2.2.2.2.2.2.2.2.1, (x.2.2.2.2.2.2.2.2.2.2.2.2.2.2.2.2.2.1, (x.2.2.2.2.2.2.2.2.2.2.2.2.2.2.2.2.2.2.1, (x.2.2.2.2.2.2.2.2.2.2.2.2.2.2.2.2.2.2.2.1, (x.2.2.2.2.2.2.2.2.1, (x.2.2.2.2.2.2.2.2.2.1, (x.2.2.2.2.2.2.2.2.2.2.1, (x.2.2.2.2.2.2.2.2.2.2.2.1, x.2.2.2.2.2.2.2.2.2.2.2.2.1)))))))))))))))).bind fun y2 =>
      bif (decide ((((List.length x.2.1) + (List.length y2.1)) * (48 : Nat)) ≤ ((2 : Nat) ^ (46 : Nat)))) then
        ((lontarlaw18_Encode fu x.1)).bind fun y3 =>
        ((lontarlaw01_Same fu ((x.2.1 ++ y2.1), y3.1))).bind fun y4 =>
        bif (!y4) then
          some (Sum.inr false)
        else
          ((iscii_Encoder_Script fu (y2.2.1, (y2.2.2.1, (y2.2.2.2.1, (y2.2.2.2.2.1, (y2.2.2.2.2.2.1, (y2.2.2.2.2.2.2.1, (y2.2.2.2.2.2.2.2.1, (y2.2.2.2.2.2.2.2.2.1, (y2.2.2.2.2.2.2.2.2.2.1, (y2.2.2.2.2.2.2.2.2.2.2.1, (y2.2.2.2.2.2.2.2.2.2.2.2.1, (y2.2.2.2.2.2.2.2.2.2.2.2.2.1, (y2.2.2.2.2.2.2.2.2.2.2.2.2.2.1, (y2.2.2.2.2.2.2.2.2.2.2.2.2.2.2.1, y2.2.2.2.2.2.2.2.2.2.2.2.2.2.2.2)))))))))))))))).bind fun y5 =>
          bif (y5.1 != y3.2) then
            some (Sum.inr false)
          else
            ((iscii_Encoder_Held fu (y5.2.1, (y5.2.2.1, (y5.2.2.2.1, (y5.2.2.2.2.1, (y5.2.2.2.2.2.1, (y5.2.2.2.2.2.2.1, (y5.2.2.2.2.2.2.2.1, (y5.2.2.2.2.2.2.2.2.1, (y5.2.2.2.2.2.2.2.2.2.1, (y5.2.2.2.2.2.2.2.2.2.2.1, (y5.2.2.2.2.2.2.2.2.2.2.2.1, (y5.2.2.2.2.2.2.2.2.2.2.2.2.1, (y5.2.2.2.2.2.2.2.2.2.2.2.2.2.1, (y5.2.2.2.2.2.2.2.2.2.2.2.2.2.2.1, y5.2.2.2.2.2.2.2.2.2.2.2.2.2.2.2)))))))))))))))).bind fun y6 =>
            bif (y6.1 != (0 : Int)) then
              some (Sum.inr false)
            else
              some (Sum.inl (x.2.2.1, (x.2.2.2.1, (w64 (x.2.2.2.2.1 + (1 : Int))))))
      else
        none)

def lontarlaw18_IsciiEncode_L1 (fu : Nat) (x : ((List (List Int)) × (Int × Int))) : Option (((List (List Int)) × (Int × Int)) ⊕ Bool) :=
  bif (decide (x.2.2 < x.2.1)) then
    ((nthI x.1 x.2.2)).bind fun y0 =>
    ((GetElem?.getElem? x.1 (Int.toNat x.2.2))).bind fun y1 =>
    ((iscii_Encode fu ())).bind fun y2 =>
    loopM (lontarlaw18_IsciiEncode_L0 fu) fu (y1, (([] : List (Int × (Int × ((List Int) × Int)))), (x.1, (x.2.1, (x.2.2, (y1, ((↑((List.length y1)) : Int), ((0 : Int), (y2.1, (y2.2.1, (y2.2.2.1, (y2.2.2.2.1, (y2.2.2.2.2.1, (y2.2.2.2.2.2.1, (y2.2.2.2.2.2.2.1, (y2.2.2.2.2.2.2.2.1, (y2.2.2.2.2.2.2.2.2.1, (y2.2.2.2.2.2.2.2.2.2.1, (y2.2.2.2.2.2.2.2.2.2.2.1, (y2.2.2.2.2.2.2.2.2.2.2.2.1, (y2.2.2.2.2.2.2.2.2.2.2.2.2.1, (y2.2.2.2.2.2.2.2.2.2.2.2.2.2.1, y2.2.2.2.2.2.2.2.2.2.2.2.2.2.2))))))))))))))))))))))
  else
    some (Sum.inr true)

def lontarlaw18_IsciiEncode (fu : Nat) (x : ((List Int) × (List Int))) : Option Bool :=
  ((lontarlaw18_awake fu ())).bind fun y0 =>
  bif (!y0) then
    some false
  else
    ((lontarlaw18_Scalars fu x.1)).bind fun y1 =>
    ((sliceI x.2 (0 : Int) (if ((60 : Int) < (↑((List.length x.2)) : Int)) then (60 : Int) else (↑((List.length x.2)) : Int)))).bind fun y2 =>
    loopM (lontarlaw18_IsciiEncode_L1 fu) fu ([y1, y2], ((↑((List.length [y1, y2])) : Int), (0 : Int)))
end Go.AM.M

namespace Go.AM.M
open Go.AM

def lontarlaw18_IsciiScripts_1_L0 (fu : Nat) (x : ((List Int) × ((List (Int × (Int × ((List Int) × Int)))) × ((List (Int × (Int × ((List Int) × Int)))) × (Int × Int))))) : Option (((List Int) × ((List (Int × (Int × ((List Int) × Int)))) × ((List (Int × (Int × ((List Int) × Int)))) × (Int × Int)))) ⊕ (List Int)) :=
  bif (decide (x.2.2.2.2 < x.2.2.2.1)) then
    ((nthI x.2.2.1 x.2.2.2.2)).bind fun y0 =>
    bif (decide ((((List.length x.1) + (List.length y0.2.2.1)) * (8 : Nat)) ≤ ((2 : Nat) ^ (46 : Nat)))) then
      some (Sum.inl ((x.1 ++ y0.2.2.1), (x.2.1, (x.2.2.1, (x.2.2.2.1, (w64 (x.2.2.2.2 + (1 : Int))))))))
    else
      none
  else
    some (Sum.inr x.1)

def lontarlaw18_IsciiScripts_1 (fu : Nat) (x : ((List Int) × (List (Int × (Int × ((List Int) × Int)))))) : Option (List Int) :=
  loopM (lontarlaw18_IsciiScripts_1_L0 fu) fu (x.1, (x.2, (x.2, ((↑((List.length x.2)) : Int), (0 : Int)))))
end Go.AM.M

namespace Go.AM.M
open Go.AM

def lontarlaw18_IsciiScripts_L0 (fu : Nat) (x : ((List Int) × (Int × ((List Int) × ((List Int) × ((List Int) × (Int × (Int × ((List (Int × (Int × (Int × Int)))) × ((List ((List Int) × (List Int))) × ((List Int) × (Int × (Int × (Int × (Int × ((List (Int × (Int × (Int × Int)))) × ((List ((List Int) × (List Int))) × ((List (Int × (Int × (Int × Int)))) × ((List ((List Int) × (List Int))) × ((List Int) × (Int × (Int × (Int × ((List (Int × (Int × (Int × Int)))) × ((List ((List Int) × (List Int))) × ((List Int) × (Int × (Int × (Int × (Int × ((List (Int × (Int × (Int × Int)))) × ((List ((List Int) × (List Int))) × ((List (Int × (Int × (Int × Int)))) × ((List ((List Int) × (List Int))) × ((List Int) × (Int × (Int × Int))))))))))))))))))))))))))))))))))))) : Option (((List Int) × (Int × ((List Int) × ((List Int) × ((List Int) × (Int × (Int × ((List (Int × (Int × (Int × Int)))) × ((List ((List Int) × (List Int))) × ((List Int) × (Int × (Int × (Int × (Int × ((List (Int × (Int × (Int × Int)))) × ((List ((List Int) × (List Int))) × ((List (Int × (Int × (Int × Int)))) × ((List ((List Int) × (List Int))) × ((List Int) × (Int × (Int × (Int × ((List (Int × (Int × (Int × Int)))) × ((List ((List Int) × (List Int))) × ((List Int) × (Int × (Int × (Int × (Int × ((List (Int × (Int × (Int × Int)))) × ((List ((List Int) × (List Int))) × ((List (Int × (Int × (Int × Int)))) × ((List ((List Int) × (List Int))) × ((List Int) × (Int × (Int × Int)))))))))))))))))))))))))))))))))))) ⊕ Bool) :=
  bif (decide (x.2.2.2.2.2.2.1 < x.2.2.2.2.2.1)) then
    ((nthI x.2.2.2.2.1 x.2.2.2.2.2.2.1)).bind fun y0 =>
    ((iscii_Encoder_Put fu ((w64 ((2325 : Int) + (w64 (Int.tmod y0 (20 : Int))))), (x.2.2.2.2.2.2.2.2.2.2.2.2.2.2.2.2.2.2.2.1, (x.2.2.2.2.2.2.2.2.2.2.2.2.2.2.2.2.2.2.2.2.1, (x.2.2.2.2.2.2.2.2.2.2.2.2.2.2.2.2.2.2.2.2.2.1, (x.2.2.2.2.2.2.2.2.2.2.2.2.1, (x.2.2.2.2.2.2.2.2.2.2.2.2.2.1, (x.2.2.2.2.2.2.2.2.2.2.2.2.2.2.1, (x.2.2.2.2.2.2.2.2.2.2.2.2.2.2.2.1, (x.2.2.2.2.2.2.2.2.2.2.2.2.2.2.2.2.1, (x.2.2.2.2.2.2.2.2.2.2.2.2.2.2.2.2.2.1, (x.2.2.2.2.2.2.2.2.2.2.2.2.2.2.2.2.2.2.1, (x.2.2.2.2.2.2.2.1, (x.2.2.2.2.2.2.2.2.1, (x.2.2.2.2.2.2.2.2.2.1, (x.2.2.2.2.2.2.2.2.2.2.1, x.2.2.2.2.2.2.2.2.2.2.2.1))))))))))))))))).bind fun y1 =>
    ((lontarlaw18_IsciiScripts_1 fu (x.2.2.1, y1.1))).bind fun y2 =>
    ((iscii_Encoder_Put fu ((w64 ((w64 ((2325 : Int) + (w64 ((128 : Int) * x.2.1)))) + (w64 (Int.tmod y0 (20 : Int))))), (x.2.2.2.2.2.2.2.2.2.2.2.2.2.2.2.2.2.2.2.2.2.2.2.2.2.2.2.2.2.2.2.2.2.2.1, (x.2.2.2.2.2.2.2.2.2.2.2.2.2.2.2.2.2.2.2.2.2.2.2.2.2.2.2.2.2.2.2.2.2.2.2.1, (x.2.2.2.2.2.2.2.2.2.2.2.2.2.2.2.2.2.2.2.2.2.2.2.2.2.2.2.2.2.2.2.2.2.2.2.2, (x.2.2.2.2.2.2.2.2.2.2.2.2.2.2.2.2.2.2.2.2.2.2.2.2.2.2.2.1, (x.2.2.2.2.2.2.2.2.2.2.2.2.2.2.2.2.2.2.2.2.2.2.2.2.2.2.2.2.1, (x.2.2.2.2.2.2.2.2.2.2.2.2.2.2.2.2.2.2.2.2.2.2.2.2.2.2.2.2.2.1, (x.2.2.2.2.2.2.2.2.2.2.2.2.2.2.2.2.2.2.2.2.2.2.2.2.2.2.2.2.2.2.1, (x.2.2.2.2.2.2.2.2.2.2.2.2.2.2.2.2.2.2.2.2.2.2.2.2.2.2.2.2.2.2.2.1, (x.2.2.2.2.2.2.2.2.2.2.2.2.2.2.2.2.2.2.2.2.2.2.2.2.2.2.2.2.2.2.2.2.1, (x.2.2.2.2.2.2.2.2.2.2.2.2.2.2.2.2.2.2.2.2.2.2.2.2.2.2.2.2.2.2.2.2.2.1, (x.2.2.2.2.2.2.2.2.2.2.2.2.2.2.2.2.2.2.2.2.2.2.1, (x.2.2.2.2.2.2.2.2.2.2.2.2.2.2.2.2.2.2.2.2.2.2.2.1, (x.2.2.2.2.2.2.2.2.2.2.2.2.2.2.2.2.2.2.2.2.2.2.2.2.1, (x.2.2.2.2.2.2.2.2.2.2.2.2.2.2.2.2.2.2.2.2.2.2.2.2.2.1, x.2.2.2.2.2.2.2.2.2.2.2.2.2.2.2.2.2.2.2.2.2.2.2.2.2.2.1))))))))))))))))).bind fun y3 =>
    ((lontarlaw18_IsciiScripts_1 fu (x.2.2.2.1, y3.1))).bind fun y4 =>
    some (Sum.inl (x.1, (x.2.1, (y2, (y4, (x.2.2.2.2.1, (x.2.2.2.2.2.1, ((w64 (x.2.2.2.2.2.2.1 + (1 : Int))), (y1.2.2.2.2.2.2.2.2.2.2.2.1, (y1.2.2.2.2.2.2.2.2.2.2.2.2.1, (y1.2.2.2.2.2.2.2.2.2.2.2.2.2.1, (y1.2.2.2.2.2.2.2.2.2.2.2.2.2.2.1, (y1.2.2.2.2.2.2.2.2.2.2.2.2.2.2.2, (y1.2.2.2.2.1, (y1.2.2.2.2.2.1, (y1.2.2.2.2.2.2.1, (y1.2.2.2.2.2.2.2.1, (y1.2.2.2.2.2.2.2.2.1, (y1.2.2.2.2.2.2.2.2.2.1, (y1.2.2.2.2.2.2.2.2.2.2.1, (y1.2.1, (y1.2.2.1, (y1.2.2.2.1, (y3.2.2.2.2.2.2.2.2.2.2.2.1, (y3.2.2.2.2.2.2.2.2.2.2.2.2.1, (y3.2.2.2.2.2.2.2.2.2.2.2.2.2.1, (y3.2.2.2.2.2.2.2.2.2.2.2.2.2.2.1, (y3.2.2.2.2.2.2.2.2.2.2.2.2.2.2.2, (y3.2.2.2.2.1, (y3.2.2.2.2.2.1, (y3.2.2.2.2.2.2.1, (y3.2.2.2.2.2.2.2.1, (y3.2.2.2.2.2.2.2.2.1, (y3.2.2.2.2.2.2.2.2.2.1, (y3.2.2.2.2.2.2.2.2.2.2.1, (y3.2.1, (y3.2.2.1, y3.2.2.2.1)))))))))))))))))))))))))))))))))))))
  else
    Option.map Sum.inr (
      ((iscii_Encoder_End fu (x.2.2.2.2.2.2.2.2.2.2.2.2.2.2.2.2.2.2.2.1, (x.2.2.2.2.2.2.2.2.2.2.2.2.2.2.2.2.2.2.2.2.1, (x.2.2.2.2.2.2.2.2.2.2.2.2.2.2.2.2.2.2.2.2.2.1, (x.2.2.2.2.2.2.2.2.2.2.2.2.1, (x.2.2.2.2.2.2.2.2.2.2.2.2.2.1, (x.2.2.2.2.2.2.2.2.2.2.2.2.2.2.1, (x.2.2.2.2.2.2.2.2.2.2.2.2.2.2.2.1, (x.2.2.2.2.2.2.2.2.2.2.2.2.2.2.2.2.1, (x.2.2.2.2.2.2.2.2.2.2.2.2.2.2.2.2.2.1, (x.2.2.2.2.2.2.2.2.2.2.2.2.2.2.2.2.2.2.1, (x.2.2.2.2.2.2.2.1, (x.2.2.2.2.2.2.2.2.1, (x.2.2.2.2.2.2.2.2.2.1, (x.2.2.2.2.2.2.2.2.2.2.1, x.2.2.2.2.2.2.2.2.2.2.2.1)))))))))))))))).bind fun y5 =>
      ((lontarlaw18_IsciiScripts_1 fu (x.2.2.1, y5.1))).bind fun y6 =>
      ((iscii_Encoder_End fu (x.2.2.2.2.2.2.2.2.2.2.2.2.2.2.2.2.2.2.2.2.2.2.2.2.2.2.2.2.2.2.2.2.2.2.1, (x.2.2.2.2.2.2.2.2.2.2.2.2.2.2.2.2.2.2.2.2.2.2.2.2.2.2.2.2.2.2.2.2.2.2.2.1, (x.2.2.2.2.2.2.2.2.2.2.2.2.2.2.2.2.2.2.2.2.2.2.2.2.2.2.2.2.2.2.2.2.2.2.2.2, (x.2.2.2.2.2.2.2.2.2.2.2.2.2.2.2.2.2.2.2.2.2.2.2.2.2.2.2.1, (x.2.2.2.2.2.2.2.2.2.2.2.2.2.2.2.2.2.2.2.2.2.2.2.2.2.2.2.2.1, (x.2.2.2.2.2.2.2.2.2.2.2.2.2.2.2.2.2.2.2.2.2.2.2.2.2.2.2.2.2.1, (x.2.2.2.2.2.2.2.2.2.2.2.2.2.2.2.2.2.2.2.2.2.2.2.2.2.2.2.2.2.2.1, (x.2.2.2.2.2.2.2.2.2.2.2.2.2.2.2.2.2.2.2.2.2.2.2.2.2.2.2.2.2.2.2.1, (x.2.2.2.2.2.2.2.2.2.2.2.2.2.2.2.2.2.2.2.2.2.2.2.2.2.2.2.2.2.2.2.2.1, (x.2.2.2.2.2.2.2.2.2.2.2.2.2.2.2.2.2.2.2.2.2.2.2.2.2.2.2.2.2.2.2.2.2.1, (x.2.2.2.2.2.2.2.2.2.2.2.2.2.2.2.2.2.2.2.2.2.2.1, (x.2.2.2.2.2.2.2.2.2.2.2.2.2.2.2.2.2.2.2.2.2.2.2.1, (x.2.2.2.2.2.2.2.2.2.2.2.2.2.2.2.2.2.2.2.2.2.2.2.2.1, (x.2.2.2.2.2.2.2.2.2.2.2.2.2.2.2.2.2.2.2.2.2.2.2.2.2.1, x.2.2.2.2.2.2.2.2.2.2.2.2.2.2.2.2.2.2.2.2.2.2.2.2.2.2.1)))))))))))))))).bind fun y7 =>
      ((lontarlaw18_IsciiScripts_1 fu (x.2.2.2.1, y7.1))).bind fun y8 =>
      bif (decide (x.2.1 > (0 : Int))) then
        bif (decide ((↑((List.length x.1)) : Int) > (0 : Int))) then
          ((lontarlaw14_Codes fu ())).bind fun y9 =>
          ((nthI y9 x.2.1)).bind fun y10 =>
          ((GetElem?.getElem? y9 (Int.toNat x.2.1))).bind fun y11 =>
          bif (decide ((((List.length [(239 : Int), y11]) + (List.length y6)) * (8 : Nat)) ≤ ((2 : Nat) ^ (46 : Nat)))) then
            ((lontarlaw01_Units fu (([(239 : Int), y11] ++ y6), y8))).bind fun y12 =>
            some y12
          else
            none
        else
          ((lontarlaw01_Units fu (y6, y8))).bind fun y13 =>
          some y13
      else
        ((lontarlaw01_Units fu (y6, y8))).bind fun y14 =>
        some y14)

def lontarlaw18_IsciiScripts (fu : Nat) (x : (Int × (List Int))) : Option Bool :=
  ((lontarlaw18_awake fu ())).bind fun y0 =>
  bif (!y0) then
    some false
  else
    ((iscii_Encode fu ())).bind fun y1 =>
    ((iscii_Encode fu ())).bind fun y2 =>
    ((sliceI x.2 (0 : Int) (if ((60 : Int) < (↑((List.length x.2)) : Int)) then (60 : Int) else (↑((List.length x.2)) : Int)))).bind fun y3 =>
    loopM (lontarlaw18_IsciiScripts_L0 fu) fu (x.2, ((w64 (Int.tmod x.1 (9 : Int))), (([] : List Int), (([] : List Int), (y3, ((↑((List.length y3)) : Int), ((0 : Int), (y1.1, (y1.2.1, (y1.2.2.1, (y1.2.2.2.1, (y1.2.2.2.2.1, (y1.2.2.2.2.2.1, (y1.2.2.2.2.2.2.1, (y1.2.2.2.2.2.2.2.1, (y1.2.2.2.2.2.2.2.2.1, (y1.2.2.2.2.2.2.2.2.2.1, (y1.2.2.2.2.2.2.2.2.2.2.1, (y1.2.2.2.2.2.2.2.2.2.2.2.1, (y1.2.2.2.2.2.2.2.2.2.2.2.2.1, (y1.2.2.2.2.2.2.2.2.2.2.2.2.2.1, (y1.2.2.2.2.2.2.2.2.2.2.2.2.2.2, (y2.1, (y2.2.1, (y2.2.2.1, (y2.2.2.2.1, (y2.2.2.2.2.1, (y2.2.2.2.2.2.1, (y2.2.2.2.2.2.2.1, (y2.2.2.2.2.2.2.2.1, (y2.2.2.2.2.2.2.2.2.1, (y2.2.2.2.2.2.2.2.2.2.1, (y2.2.2.2.2.2.2.2.2.2.2.1, (y2.2.2.2.2.2.2.2.2.2.2.2.1, (y2.2.2.2.2.2.2.2.2.2.2.2.2.1, (y2.2.2.2.2.2.2.2.2.2.2.2.2.2.1, y2.2.2.2.2.2.2.2.2.2.2.2.2.2.2))))))))))))))))))))))))))))))))))))
end Go.AM.M

namespace Go.AM.M
open Go.AM

def lontarlaw16_MachineBoth_L0 (fu : Nat) (x : ((List Int) × ((List Int) × ((List (Int × (Int × ((List Int) × Int)))) × (Int × (Int × ((List Int) × (Int × (Int × ((List (Int × (Int × ((List Int) × Int)))) × (Int × (Int × ((List (Int × (Int × (Int × Int)))) × ((List ((List Int) × (List Int))) × ((List Int) × (Int × (Int × ((List (Int × (Int × (Int × Int)))) × ((List ((List Int) × (List Int))) × ((List Int) × (Int × (Int × (Int × (Int × ((List (Int × (Int × (Int × Int)))) × ((List ((List Int) × (List Int))) × ((List (Int × (Int × (Int × Int)))) × ((List ((List Int) × (List Int))) × ((List Int) × (Int × (Int × ((List Int) × Int)))))))))))))))))))))))))))))))) : Option (((List Int) × ((List Int) × ((List (Int × (Int × ((List Int) × Int)))) × (Int × (Int × ((List Int) × (Int × (Int × ((List (Int × (Int × ((List Int) × Int)))) × (Int × (Int × ((List (Int × (Int × (Int × Int)))) × ((List ((List Int) × (List Int))) × ((List Int) × (Int × (Int × ((List (Int × (Int × (Int × Int)))) × ((List ((List Int) × (List Int))) × ((List Int) × (Int × (Int × (Int × (Int × ((List (Int × (Int × (Int × Int)))) × ((List ((List Int) × (List Int))) × ((List (Int × (Int × (Int × Int)))) × ((List ((List Int) × (List Int))) × ((List Int) × (Int × (Int × ((List Int) × Int))))))))))))))))))))))))))))))) ⊕ (((List Int) × ((List Int) × ((List (Int × (Int × ((List Int) × Int)))) × (Int × (Int × ((List Int) × (Int × (Int × ((List (Int × (Int × (Int × Int)))) × ((List ((List Int) × (List Int))) × ((List Int) × (Int × (Int × ((List (Int × (Int × (Int × Int)))) × ((List ((List Int) × (List Int))) × ((List Int) × (Int × (Int × (Int × (Int × ((List (Int × (Int × (Int × Int)))) × ((List ((List Int) × (List Int))) × ((List (Int × (Int × (Int × Int)))) × ((List ((List Int) × (List Int))) × ((List Int) × (Int × (Int × ((List Int) × Int)))))))))))))))))))))))))))) ⊕ (((List Int) × ((List Int) × ((List (Int × (Int × ((List Int) × Int)))) × (Int × (Int × ((List (Int × (Int × (Int × Int)))) × ((List ((List Int) × (List Int))) × ((List Int) × (Int × (Int × ((List (Int × (Int × (Int × Int)))) × ((List ((List Int) × (List Int))) × ((List Int) × (Int × (Int × (Int × (Int × ((List (Int × (Int × (Int × Int)))) × ((List ((List Int) × (List Int))) × ((List (Int × (Int × (Int × Int)))) × ((List ((List Int) × (List Int))) × (List Int)))))))))))))))))))))) ⊕ Bool))) :=
  bif (decide (x.2.2.2.2.2.2.2.2.2.2.1 < x.2.2.2.2.2.2.2.2.2.1)) then
    ((nthI x.2.2.2.2.2.2.2.2.1 x.2.2.2.2.2.2.2.2.2.2.1)).bind fun y0 =>
    ((GetElem?.getElem? x.2.2.2.2.2.2.2.2.1 (Int.toNat x.2.2.2.2.2.2.2.2.2.2.1))).bind fun y1 =>
    bif (decide ((((List.length x.2.1) + (List.length y1.2.2.1)) * (8 : Nat)) ≤ ((2 : Nat) ^ (46 : Nat)))) then
      some (Sum.inl (x.1, ((x.2.1 ++ y1.2.2.1), (x.2.2.1, (x.2.2.2.1, (x.2.2.2.2.1, (x.2.2.2.2.2.1, (x.2.2.2.2.2.2.1, (x.2.2.2.2.2.2.2.1, (x.2.2.2.2.2.2.2.2.1, (x.2.2.2.2.2.2.2.2.2.1, ((w64 (x.2.2.2.2.2.2.2.2.2.2.1 + (1 : Int))), (x.2.2.2.2.2.2.2.2.2.2.2.1, (x.2.2.2.2.2.2.2.2.2.2.2.2.1, (x.2.2.2.2.2.2.2.2.2.2.2.2.2.1, (x.2.2.2.2.2.2.2.2.2.2.2.2.2.2.1, (x.2.2.2.2.2.2.2.2.2.2.2.2.2.2.2.1, (x.2.2.2.2.2.2.2.2.2.2.2.2.2.2.2.2.1, (x.2.2.2.2.2.2.2.2.2.2.2.2.2.2.2.2.2.1, (x.2.2.2.2.2.2.2.2.2.2.2.2.2.2.2.2.2.2.1, (x.2.2.2.2.2.2.2.2.2.2.2.2.2.2.2.2.2.2.2.1, (x.2.2.2.2.2.2.2.2.2.2.2.2.2.2.2.2.2.2.2.2.1, (x.2.2.2.2.2.2.2.2.2.2.2.2.2.2.2.2.2.2.2.2.2.1, (x.2.2.2.2.2.2.2.2.2.2.2.2.2.2.2.2.2.2.2.2.2.2.1, (x.2.2.2.2.2.2.2.2.2.2.2.2.2.2.2.2.2.2.2.2.2.2.2.1, (x.2.2.2.2.2.2.2.2.2.2.2.2.2.2.2.2.2.2.2.2.2.2.2.2.1, (x.2.2.2.2.2.2.2.2.2.2.2.2.2.2.2.2.2.2.2.2.2.2.2.2.2.1, (x.2.2.2.2.2.2.2.2.2.2.2.2.2.2.2.2.2.2.2.2.2.2.2.2.2.2.1, (x.2.2.2.2.2.2.2.2.2.2.2.2.2.2.2.2.2.2.2.2.2.2.2.2.2.2.2.1, (x.2.2.2.2.2.2.2.2.2.2.2.2.2.2.2.2.2.2.2.2.2.2.2.2.2.2.2.2.1, (x.2.2.2.2.2.2.2.2.2.2.2.2.2.2.2.2.2.2.2.2.2.2.2.2.2.2.2.2.2.1, (x.2.2.2.2.2.2.2.2.2.2.2.2.2.2.2.2.2.2.2.2.2.2.2.2.2.2.2.2.2.2.1, x.2.2.2.2.2.2.2.2.2.2.2.2.2.2.2.2.2.2.2.2.2.2.2.2.2.2.2.2.2.2.2))))))))))))))))))))))))))))))))
    else
      none
  else
    some (Sum.inr (Sum.inl (x.1, (x.2.1, (x.2.2.1, (x.2.2.2.1, (x.2.2.2.2.1, (x.2.2.2.2.2.1, (x.2.2.2.2.2.2.1, ((w64 (x.2.2.2.2.2.2.2.1 + (1 : Int))), (x.2.2.2.2.2.2.2.2.2.2.2.1, (x.2.2.2.2.2.2.2.2.2.2.2.2.1, (x.2.2.2.2.2.2.2.2.2.2.2.2.2.1, (x.2.2.2.2.2.2.2.2.2.2.2.2.2.2.1, (x.2.2.2.2.2.2.2.2.2.2.2.2.2.2.2.1, (x.2.2.2.2.2.2.2.2.2.2.2.2.2.2.2.2.1, (x.2.2.2.2.2.2.2.2.2.2.2.2.2.2.2.2.2.1, (x.2.2.2.2.2.2.2.2.2.2.2.2.2.2.2.2.2.2.1, (x.2.2.2.2.2.2.2.2.2.2.2.2.2.2.2.2.2.2.2.1, (x.2.2.2.2.2.2.2.2.2.2.2.2.2.2.2.2.2.2.2.2.1, (x.2.2.2.2.2.2.2.2.2.2.2.2.2.2.2.2.2.2.2.2.2.1, (x.2.2.2.2.2.2.2.2.2.2.2.2.2.2.2.2.2.2.2.2.2.2.1, (x.2.2.2.2.2.2.2.2.2.2.2.2.2.2.2.2.2.2.2.2.2.2.2.1, (x.2.2.2.2.2.2.2.2.2.2.2.2.2.2.2.2.2.2.2.2.2.2.2.2.1, (x.2.2.2.2.2.2.2.2.2.2.2.2.2.2.2.2.2.2.2.2.2.2.2.2.2.1, (x.2.2.2.2.2.2.2.2.2.2.2.2.2.2.2.2.2.2.2.2.2.2.2.2.2.2.1, (x.2.2.2.2.2.2.2.2.2.2.2.2.2.2.2.2.2.2.2.2.2.2.2.2.2.2.2.1, (x.2.2.2.2.2.2.2.2.2.2.2.2.2.2.2.2.2.2.2.2.2.2.2.2.2.2.2.2.1, (x.2.2.2.2.2.2.2.2.2.2.2.2.2.2.2.2.2.2.2.2.2.2.2.2.2.2.2.2.2.1, (x.2.2.2.2.2.2.2.2.2.2.2.2.2.2.2.2.2.2.2.2.2.2.2.2.2.2.2.2.2.2.1, x.2.2.2.2.2.2.2.2.2.2.2.2.2.2.2.2.2.2.2.2.2.2.2.2.2.2.2.2.2.2.2))))))))))))))))))))))))))))))

def lontarlaw16_MachineBoth_L1 (fu : Nat) (x : ((List Int) × ((List Int) × ((List (Int × (Int × ((List Int) × Int)))) × (Int × (Int × ((List Int) × (Int × (Int × ((List (Int × (Int × (Int × Int)))) × ((List ((List Int) × (List Int))) × ((List Int) × (Int × (Int × ((List (Int × (Int × (Int × Int)))) × ((List ((List Int) × (List Int))) × ((List Int) × (Int × (Int × (Int × (Int × ((List (Int × (Int × (Int × Int)))) × ((List ((List Int) × (List Int))) × ((List (Int × (Int × (Int × Int)))) × ((List ((List Int) × (List Int))) × ((List Int) × (Int × (Int × ((List Int) × Int))))))))))))))))))))))))))))) : Option (((List Int) × ((List Int) × ((List (Int × (Int × ((List Int) × Int)))) × (Int × (Int × ((List Int) × (Int × (Int × ((List (Int × (Int × (Int × Int)))) × ((List ((List Int) × (List Int))) × ((List Int) × (Int × (Int × ((List (Int × (Int × (Int × Int)))) × ((List ((List Int) × (List Int))) × ((List Int) × (Int × (Int × (Int × (Int × ((List (Int × (Int × (Int × Int)))) × ((List ((List Int) × (List Int))) × ((List (Int × (Int × (Int × Int)))) × ((List ((List Int) × (List Int))) × ((List Int) × (Int × (Int × ((List Int) × Int)))))))))))))))))))))))))))) ⊕ (((List Int) × ((List Int) × ((List (Int × (Int × ((List Int) × Int)))) × (Int × (Int × ((List (Int × (Int × (Int × Int)))) × ((List ((List Int) × (List Int))) × ((List Int) × (Int × (Int × ((List (Int × (Int × (Int × Int)))) × ((List ((List Int) × (List Int))) × ((List Int) × (Int × (Int × (Int × (Int × ((List (Int × (Int × (Int × Int)))) × ((List ((List Int) × (List Int))) × ((List (Int × (Int × (Int × Int)))) × ((List ((List Int) × (List Int))) × (List Int)))))))))))))))))))))) ⊕ Bool)) :=
  bif (decide (x.2.2.2.2.2.2.2.1 < x.2.2.2.2.2.2.1)) then
    ((nthI x.2.2.2.2.2.1 x.2.2.2.2.2.2.2.1)).bind fun y0 =>
    ((match_Match_Put fu (y0, (x.2.2.2.2.2.2.2.2.1, (x.2.2.2.2.2.2.2.2.2.1, (x.2.2.2.2.2.2.2.2.2.2.1, (x.2.2.2.2.2.2.2.2.2.2.2.1, x.2.2.2.2.2.2.2.2.2.2.2.2.1))))))).bind fun y1 =>
    loopM (lontarlaw16_MachineBoth_L0 fu) fu (x.1, (x.2.1, (x.2.2.1, (x.2.2.2.1, (x.2.2.2.2.1, (x.2.2.2.2.2.1, (x.2.2.2.2.2.2.1, (x.2.2.2.2.2.2.2.1, (y1.1, ((↑((List.length y1.1)) : Int), ((0 : Int), (y1.2.1, (y1.2.2.1, (y1.2.2.2.1, (y1.2.2.2.2.1, (y1.2.2.2.2.2, (x.2.2.2.2.2.2.2.2.2.2.2.2.2.1, (x.2.2.2.2.2.2.2.2.2.2.2.2.2.2.1, (x.2.2.2.2.2.2.2.2.2.2.2.2.2.2.2.1, (x.2.2.2.2.2.2.2.2.2.2.2.2.2.2.2.2.1, (x.2.2.2.2.2.2.2.2.2.2.2.2.2.2.2.2.2.1, (x.2.2.2.2.2.2.2.2.2.2.2.2.2.2.2.2.2.2.1, (x.2.2.2.2.2.2.2.2.2.2.2.2.2.2.2.2.2.2.2.1, (x.2.2.2.2.2.2.2.2.2.2.2.2.2.2.2.2.2.2.2.2.1, (x.2.2.2.2.2.2.2.2.2.2.2.2.2.2.2.2.2.2.2.2.2.1, (x.2.2.2.2.2.2.2.2.2.2.2.2.2.2.2.2.2.2.2.2.2.2.1, (x.2.2.2.2.2.2.2.2.2.2.2.2.2.2.2.2.2.2.2.2.2.2.2.1, (x.2.2.2.2.2.2.2.2.2.2.2.2.2.2.2.2.2.2.2.2.2.2.2.2.1, (x.2.2.2.2.2.2.2.2.2.2.2.2.2.2.2.2.2.2.2.2.2.2.2.2.2.1, (x.2.2.2.2.2.2.2.2.2.2.2.2.2.2.2.2.2.2.2.2.2.2.2.2.2.2.1, (x.2.2.2.2.2.2.2.2.2.2.2.2.2.2.2.2.2.2.2.2.2.2.2.2.2.2.2.1, x.2.2.2.2.2.2.2.2.2.2.2.2.2.2.2.2.2.2.2.2.2.2.2.2.2.2.2.2)))))))))))))))))))))))))))))))
  else
    some (Sum.inr (Sum.inl (x.1, (x.2.1, (x.2.2.1, (x.2.2.2.1, ((w64 (x.2.2.2.2.1 + (1 : Int))), (x.2.2.2.2.2.2.2.2.1, (x.2.2.2.2.2.2.2.2.2.1, (x.2.2.2.2.2.2.2.2.2.2.1, (x.2.2.2.2.2.2.2.2.2.2.2.1, (x.2.2.2.2.2.2.2.2.2.2.2.2.1, (x.2.2.2.2.2.2.2.2.2.2.2.2.2.1, (x.2.2.2.2.2.2.2.2.2.2.2.2.2.2.1, (x.2.2.2.2.2.2.2.2.2.2.2.2.2.2.2.1, (x.2.2.2.2.2.2.2.2.2.2.2.2.2.2.2.2.1, (x.2.2.2.2.2.2.2.2.2.2.2.2.2.2.2.2.2.1, (x.2.2.2.2.2.2.2.2.2.2.2.2.2.2.2.2.2.2.1, (x.2.2.2.2.2.2.2.2.2.2.2.2.2.2.2.2.2.2.2.1, (x.2.2.2.2.2.2.2.2.2.2.2.2.2.2.2.2.2.2.2.2.1, (x.2.2.2.2.2.2.2.2.2.2.2.2.2.2.2.2.2.2.2.2.2.1, (x.2.2.2.2.2.2.2.2.2.2.2.2.2.2.2.2.2.2.2.2.2.2.1, (x.2.2.2.2.2.2.2.2.2.2.2.2.2.2.2.2.2.2.2.2.2.2.2.1, x.2.2.2.2.2.2.2.2.2.2.2.2.2.2.2.2.2.2.2.2.2.2.2.2.1)))))))))))))))))))))))

def lontarlaw16_MachineBoth_L2 (fu : Nat) (x : ((List Int) × ((List Int) × ((List (Int × (Int × ((List Int) × Int)))) × (Int × (Int × ((List (Int × (Int × (Int × Int)))) × ((List ((List Int) × (List Int))) × ((List Int) × (Int × (Int × ((List (Int × (Int × (Int × Int)))) × ((List ((List Int) × (List Int))) × ((List Int) × (Int × (Int × (Int × (Int × ((List (Int × (Int × (Int × Int)))) × ((List ((List Int) × (List Int))) × ((List (Int × (Int × (Int × Int)))) × ((List ((List Int) × (List Int))) × (List Int))))))))))))))))))))))) : Option (((List Int) × ((List Int) × ((List (Int × (Int × ((List Int) × Int)))) × (Int × (Int × ((List (Int × (Int × (Int × Int)))) × ((List ((List Int) × (List Int))) × ((List Int) × (Int × (Int × ((List (Int × (Int × (Int × Int)))) × ((List ((List Int) × (List Int))) × ((List Int) × (Int × (Int × (Int × (Int × ((List (Int × (Int × (Int × Int)))) × ((List ((List Int) × (List Int))) × ((List (Int × (Int × (Int × Int)))) × ((List ((List Int) × (List Int))) × (List Int)))))))))))))))))))))) ⊕ Bool) :=
  bif (decide (x.2.2.2.2.1 < x.2.2.2.1)) then
    ((nthI x.2.2.1 x.2.2.2.2.1)).bind fun y0 =>
    ((GetElem?.getElem? x.2.2.1 (Int.toNat x.2.2.2.2.1))).bind fun y1 =>
    bif (decide ((((List.length x.2.1) + (List.length y1.2.2.1)) * (8 : Nat)) ≤ ((2 : Nat) ^ (46 : Nat)))) then
      some (Sum.inl (x.1, ((x.2.1 ++ y1.2.2.1), (x.2.2.1, (x.2.2.2.1, ((w64 (x.2.2.2.2.1 + (1 : Int))), (x.2.2.2.2.2.1, (x.2.2.2.2.2.2.1, (x.2.2.2.2.2.2.2.1, (x.2.2.2.2.2.2.2.2.1, (x.2.2.2.2.2.2.2.2.2.1, (x.2.2.2.2.2.2.2.2.2.2.1, (x.2.2.2.2.2.2.2.2.2.2.2.1, (x.2.2.2.2.2.2.2.2.2.2.2.2.1, (x.2.2.2.2.2.2.2.2.2.2.2.2.2.1, (x.2.2.2.2.2.2.2.2.2.2.2.2.2.2.1, (x.2.2.2.2.2.2.2.2.2.2.2.2.2.2.2.1, (x.2.2.2.2.2.2.2.2.2.2.2.2.2.2.2.2.1, (x.2.2.2.2.2.2.2.2.2.2.2.2.2.2.2.2.2.1, (x.2.2.2.2.2.2.2.2.2.2.2.2.2.2.2.2.2.2.1, (x.2.2.2.2.2.2.2.2.2.2.2.2.2.2.2.2.2.2.2.1, (x.2.2.2.2.2.2.2.2.2.2.2.2.2.2.2.2.2.2.2.2.1, x.2.2.2.2.2.2.2.2.2.2.2.2.2.2.2.2.2.2.2.2.2))))))))))))))))))))))
    else
      none
  else
    Option.map Sum.inr (
      ((lontarlaw16_few fu x.1)).bind fun y2 =>
      ((lontarlaw01_Units fu (x.2.1, y2))).bind fun y3 =>
      some y3)

def lontarlaw16_MachineBoth_L3 (fu : Nat) (x : ((List Int) × ((List Int) × ((List (Int × (Int × ((List Int) × Int)))) × (Int × (Int × ((List (Int × (Int × (Int × Int)))) × ((List ((List Int) × (List Int))) × ((List Int) × (Int × (Int × ((List (Int × (Int × (Int × Int)))) × ((List ((List Int) × (List Int))) × ((List Int) × (Int × (Int × (Int × (Int × ((List (Int × (Int × (Int × Int)))) × ((List ((List Int) × (List Int))) × ((List (Int × (Int × (Int × Int)))) × ((List ((List Int) × (List Int))) × (List Int))))))))))))))))))))))) : Option (((List Int) × ((List Int) × ((List (Int × (Int × ((List Int) × Int)))) × (Int × (Int × ((List (Int × (Int × (Int × Int)))) × ((List ((List Int) × (List Int))) × ((List Int) × (Int × (Int × ((List (Int × (Int × (Int × Int)))) × ((List ((List Int) × (List Int))) × ((List Int) × (Int × (Int × (Int × (Int × ((List (Int × (Int × (Int × Int)))) × ((List ((List Int) × (List Int))) × ((List (Int × (Int × (Int × Int)))) × ((List ((List Int) × (List Int))) × (List Int)))))))))))))))))))))) ⊕ Bool) :=
  bif (decide (x.2.2.2.2.1 < x.2.2.2.1)) then
    ((nthI x.2.2.1 x.2.2.2.2.1)).bind fun y0 =>
    ((GetElem?.getElem? x.2.2.1 (Int.toNat x.2.2.2.2.1))).bind fun y1 =>
    bif (y1.2.2.2 != (0 : Int)) then
      some (Sum.inr true)
    else
      loopM (lontarlaw16_MachineBoth_L1 fu) fu (x.1, (x.2.1, (x.2.2.1, (x.2.2.2.1, (x.2.2.2.2.1, (y1.2.2.1, ((↑((List.length y1.2.2.1)) : Int), ((0 : Int), (x.2.2.2.2.2.1, (x.2.2.2.2.2.2.1, (x.2.2.2.2.2.2.2.1, (x.2.2.2.2.2.2.2.2.1, (x.2.2.2.2.2.2.2.2.2.1, (x.2.2.2.2.2.2.2.2.2.2.1, (x.2.2.2.2.2.2.2.2.2.2.2.1, (x.2.2.2.2.2.2.2.2.2.2.2.2.1, (x.2.2.2.2.2.2.2.2.2.2.2.2.2.1, (x.2.2.2.2.2.2.2.2.2.2.2.2.2.2.1, (x.2.2.2.2.2.2.2.2.2.2.2.2.2.2.2.1, (x.2.2.2.2.2.2.2.2.2.2.2.2.2.2.2.2.1, (x.2.2.2.2.2.2.2.2.2.2.2.2.2.2.2.2.2.1, (x.2.2.2.2.2.2.2.2.2.2.2.2.2.2.2.2.2.2.1, (x.2.2.2.2.2.2.2.2.2.2.2.2.2.2.2.2.2.2.2.1, (x.2.2.2.2.2.2.2.2.2.2.2.2.2.2.2.2.2.2.2.2.1, (x.2.2.2.2.2.2.2.2.2.2.2.2.2.2.2.2.2.2.2.2.2, (y1.1, (y1.2.1, (y1.2.2.1, y1.2.2.2))))))))))))))))))))))))))))
  else
    Option.map Sum.inr (
      ((match_Match_End fu (x.2.2.2.2.2.1, (x.2.2.2.2.2.2.1, (x.2.2.2.2.2.2.2.1, (x.2.2.2.2.2.2.2.2.1, x.2.2.2.2.2.2.2.2.2.1)))))).bind fun y2 =>
      loopM (lontarlaw16_MachineBoth_L2 fu) fu (x.1, (x.2.1, (y2.1, ((↑((List.length y2.1)) : Int), ((0 : Int), (y2.2.1, (y2.2.2.1, (y2.2.2.2.1, (y2.2.2.2.2.1, (y2.2.2.2.2.2, (x.2.2.2.2.2.2.2.2.2.2.1, (x.2.2.2.2.2.2.2.2.2.2.2.1, (x.2.2.2.2.2.2.2.2.2.2.2.2.1, (x.2.2.2.2.2.2.2.2.2.2.2.2.2.1, (x.2.2.2.2.2.2.2.2.2.2.2.2.2.2.1, (x.2.2.2.2.2.2.2.2.2.2.2.2.2.2.2.1, (x.2.2.2.2.2.2.2.2.2.2.2.2.2.2.2.2.1, (x.2.2.2.2.2.2.2.2.2.2.2.2.2.2.2.2.2.1, (x.2.2.2.2.2.2.2.2.2.2.2.2.2.2.2.2.2.2.1, (x.2.2.2.2.2.2.2.2.2.2.2.2.2.2.2.2.2.2.2.1, (x.2.2.2.2.2.2.2.2.2.2.2.2.2.2.2.2.2.2.2.2.1, x.2.2.2.2.2.2.2.2.2.2.2.2.2.2.2.2.2.2.2.2.2))))))))))))))))))))))

def lontarlaw16_MachineBoth (fu : Nat) (x : ((List ((List Int) × ((List Int) × (Bool × ((List Int) × (List Int)))))) × (List Int))) : Option Bool :=
  ((lontarlaw16_awake fu ())).bind fun y0 =>
  bif (!y0) then
    some false
  else
    ((lontarlaw15_Rules fu x.1)).bind fun y1 =>
    ((table_Of fu y1)).bind fun y2 =>
    match y2 with
    | .inl y3 =>
      some false
    | .inr y3 =>
      bif (y3.2.2.2.2.2.2 != (0 : Int)) then
        some false
      else
        ((machine_Decode fu (y3.1, (y3.2.1, (y3.2.2.1, (y3.2.2.2.1, (y3.2.2.2.2.1, y3.2.2.2.2.2.1))))))).bind fun y4 =>
        ((machine_Encode fu (y3.1, (y3.2.1, (y3.2.2.1, (y3.2.2.2.1, (y3.2.2.2.2.1, y3.2.2.2.2.2.1))))))).bind fun y5 =>
        ((lontarlaw16_few fu x.2)).bind fun y6 =>
        ((machine_All_enc fu (y6, (y5.2.2.2.2.2.1, (y5.2.2.2.2.2.2.1, (y5.2.2.2.2.2.2.2.1, (y5.2.2.2.2.2.2.2.2.1, (y5.2.2.2.2.2.2.2.2.2.1, (y5.2.2.2.2.2.2.2.2.2.2.1, (y5.2.2.2.2.2.2.2.2.2.2.2, (y5.1, (y5.2.1, (y5.2.2.1, (y5.2.2.2.1, y5.2.2.2.2.1)))))))))))))).bind fun y7 =>
        loopM (lontarlaw16_MachineBoth_L3 fu) fu (x.2, (([] : List Int), (y7.1, ((↑((List.length y7.1)) : Int), ((0 : Int), (y4.1, (y4.2.1, (y4.2.2.1, (y4.2.2.2.1, (y4.2.2.2.2, (y7.2.2.2.2.2.2.2.2.1, (y7.2.2.2.2.2.2.2.2.2.1, (y7.2.2.2.2.2.2.2.2.2.2.1, (y7.2.2.2.2.2.2.2.2.2.2.2.1, (y7.2.2.2.2.2.2.2.2.2.2.2.2, (y7.2.1, (y7.2.2.1, (y7.2.2.2.1, (y7.2.2.2.2.1, (y7.2.2.2.2.2.1, (y7.2.2.2.2.2.2.1, y7.2.2.2.2.2.2.2.1)))))))))))))))))))))
end Go.AM.M
