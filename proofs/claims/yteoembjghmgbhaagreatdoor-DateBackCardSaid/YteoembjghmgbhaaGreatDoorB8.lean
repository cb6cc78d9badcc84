/- The date walks: Dated. -/
import Derived.Test.YteoembjghmgbhaaGreatDoorB7
namespace Go.Proofs.YteoembjghmgbhaaGreatDoor
set_option linter.all false
open Go.RowKit

structure T3 where
  a : Int
  b : Int
  e : Int
def t3v (t : T3) : Value := .tuple #[.int .i64 t.a, .int .i64 t.b, .int .i64 t.e]
def datedD (s : Sp) (rule : Int) : Int := if rule = 2 then s.hi + 1 else s.hi
def DatedR (s : Sp) (rule : Int) : T3 :=
  if spanB s && ruleB rule then
    (if 62 < s.hi - s.lo + 1 then ⟨0, 0, 2⟩ else if dayB (datedD s rule) then ⟨datedD s rule, s.hi - s.lo + 1, 0⟩ else ⟨0, 0, 3⟩)
  else ⟨0, 0, 1⟩
end Go.Proofs.YteoembjghmgbhaaGreatDoor
