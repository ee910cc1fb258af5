/-
  The statements' own box. Conditions: none.
-/
import Derived.Test.YtkdbjeegiiihaaaN19
set_option linter.unusedVariables false
set_option linter.unusedSimpArgs false
namespace Go.Proofs.Ytkdbjeegiiihaaa
open Go.RowKit Go.Shelf

def boxL (c : Int) : Bx := ⟨3405803777, 40000, 40009, c % 3, c / 3 % 3, 30, 12⟩

theorem boxL_may (c : Int) (h0 : 0 ≤ c) : mayX (boxL c) = true := by
  simp [mayX, boxL]; omega

set_option maxRecDepth 100000 in
theorem box13 (c : Int) (h0 : 0 ≤ c) (h1 : c ≤ 255) (w : World) : Calls Try.prog 13 #[.int .u8 c] w fun e w' => e = .returned (argX (boxL c)) ∧ Fr0 w w' := by
  go_enter Try.func13, Try.ntmps13
  go_wp2
  exact bodyPost_ret (results_cell rfl _ _ _ rfl (load27 (x := boxL c) (fun i hi => by rw [cell_of (World.alloc_heap_new w _)]; rfl))) rfl ⟨rfl, Fr.alloc _ _ _⟩

/-- Where the first steps of each statement lead, by the box's own rules. -/
def stA : St := ⟨boxL 4, 0, []⟩
def inA : Ad := (167772161, 5)
def toA : Ad := (134744072, 53)
theorem awake_out : (outS stA 1 inA toA).2 = ((3405803777, 40000), 0) := by decide +kernel

end Go.Proofs.Ytkdbjeegiiihaaa
