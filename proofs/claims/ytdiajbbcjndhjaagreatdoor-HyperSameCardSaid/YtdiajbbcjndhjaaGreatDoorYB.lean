/- The place's own words. -/
import Derived.Test.YtdiajbbcjndhjaaGreatDoorYA
namespace Go.Xa
open Go.RowKit Go.Proofs

def uses : List D := [0, 5, 5, 3, 3, 3, 3, 3, 3, 3, 3, 3, 3, 5, 7, 7, 7, 7, 4, 5, 1, 7, 7, 7, 0].map (.int .i64)
noncomputable def wd : Wd where
  T := fun t => tyTree.find t
  G := fun g => bif Nat.beq g 0 then .pptr uses else .undef
  F := fun f => fnTree.find f
  ow := fun _ => true
  gen := fun f => Nat.testBit 2085924840736899629656755334849758249638209576091843131458103130548437086979595502503195574272 f
end Go.Xa
