/-
  What the document fixes of a box: 'awake' answers true. Conditions: none.
-/
import Derived.Test.YtkdbjeegiiihaaaN20
set_option linter.unusedVariables false
set_option linter.unusedSimpArgs false
namespace Go.Proofs.Ytkdbjeegiiihaaa
open Go.RowKit Go.Shelf

def st1 : St := (outS stA 1 inA toA).1
def st2 : St := (inS st1 2 40000 toA).1
def st3 : St := (inS st2 2 40000 (9, 53)).1
theorem awake_in1 : (inS st1 2 40000 toA).2 = (inA, 0) := by decide +kernel
theorem awake_in2 : (inS st2 2 40000 (9, 53)).2 = ((0, 0), 8) := by decide +kernel
theorem awake_in3 : (inS st3 31 40000 toA).2 = ((0, 0), 8) := by decide +kernel
theorem awake_x : (inS st3 31 40000 toA).1.x = boxL 4 := by rfl

end Go.Proofs.Ytkdbjeegiiihaaa
