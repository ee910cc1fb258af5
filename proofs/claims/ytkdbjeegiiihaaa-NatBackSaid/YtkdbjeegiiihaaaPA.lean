/-
  A binding that was asked for: the plain law. Conditions: the ones each theorem names.
-/
import Derived.Test.YtkdbjeegiiihaaaN21
set_option linter.unusedVariables false
set_option linter.unusedSimpArgs false
namespace Go.Proofs.Ytkdbjeegiiihaaa
open Go.RowKit Go.Shelf

def bA (a : Ad) (u : Int) (seen : List Ad) : Bd := ⟨a, (0, 0), 40005, u, true, seen⟩
def sA (c : Int) (a : Ad) (now u : Int) (seen : List Ad) : St := ⟨boxL c, now, [bA a u seen]⟩

theorem onS_A (c : Int) (a : Ad) (now0 now u : Int) (seen : List Ad) (h : now < u) : onS (sA c a now0 u seen) now = sA c a now u seen := by
  simp [onS, sA, bA, h]
theorem onS_A0 (c : Int) (a : Ad) (now0 now u : Int) (seen : List Ad) (h : u ≤ now) : onS (sA c a now0 u seen) now = ⟨boxL c, now, []⟩ := by
  simp [onS, sA, bA]; omega
theorem askA_bad (s : St) (a : Ad) (now wish u : Int) (h : mayA a = false) : askS s now a wish u = (s, 0, 1) := by
  unfold askS; rw [if_neg (by rw [h]; simp)]
theorem askA_first (c : Int) (a : Ad) (h : mayA a = true) : askS ⟨boxL c, 0, []⟩ 0 a 40005 50 = (sA c a 0 50 [], 40005, 0) := by
  unfold askS
  rw [if_pos ⟨h, by decide, by decide, by simp [onOk]⟩]
  have hp : pick (boxL c) [] 40005 = some 40005 := by
    unfold pick; rw [if_pos (by simp [boxL, freeB])]
  rw [show (onS ⟨boxL c, 0, []⟩ 0).l = [] from rfl]
  simp only [List.findIdx?_nil, hp]
  rw [if_neg (by simp [boxL])]
  rfl
theorem outA_bad (s : St) (a o : Ad) (now : Int) (h : mayA o = false) : outS s now a o = (s, (0, 0), 1) := by
  unfold outS; rw [if_neg (by rw [h]; simp)]
theorem outA_good (c : Int) (a o : Ad) (now0 now u : Int) (seen : List Ad) (ha : mayA a = true) (ho : mayA o = true) (h1 : now0 ≤ now) (h2 : now ≤ 1099511627776) (h3 : now < u) :
    outS (sA c a now0 u seen) now a o = (sA c a now u (seeS seen o), (3405803777, 40005), 0) := by
  unfold outS
  rw [if_pos ⟨ha, ho, by unfold onOk; rw [decide_eq_true_eq]; exact ⟨h1, by omega⟩⟩, onS_A _ _ _ _ _ _ h3]
  have hb : byR (sA c a now0 u seen).x (sA c a now u seen).l a o = some ([bA a u seen], 0) := by
    simp [byR, idxS, sA, bA, askB, List.findIdx?_cons]
  rw [hb]
  simp [sA, bA, touch, boxL]
theorem inA_good (c : Int) (a o : Ad) (now0 now u : Int) (seen : List Ad) (ho : mayA o = true) (h1 : now0 ≤ now) (h2 : now ≤ 1099511627776) (h3 : now < u) :
    inS (sA c a now0 u seen) now 40005 o = (sA c a now u seen, a, 0) := by
  unfold inS
  rw [if_pos ⟨ho, by unfold onOk; rw [decide_eq_true_eq]; exact ⟨h1, by omega⟩⟩, onS_A _ _ _ _ _ _ h3]
  have hf : (sA c a now u seen).l.find? (portB 40005) = some (bA a u seen) := by simp [sA, bA, portB]
  rw [hf]
  simp [letsB, bA]
theorem inA_over (c : Int) (a o : Ad) (now0 now u : Int) (seen : List Ad) (ho : mayA o = true) (h1 : now0 ≤ now) (h2 : now ≤ 1099511627776) (h3 : u ≤ now) :
    inS (sA c a now0 u seen) now 40005 o = (⟨boxL c, now, []⟩, (0, 0), 8) := by
  unfold inS
  rw [if_pos ⟨ho, by unfold onOk; rw [decide_eq_true_eq]; exact ⟨h1, by omega⟩⟩, onS_A0 _ _ _ _ _ _ h3]
  rfl
theorem askA_again (c : Int) (a : Ad) (now0 now u u2 wish : Int) (seen : List Ad) (ha : mayA a = true) (h1 : now0 ≤ now) (h2 : u2 ≤ 1099511627776) (h3 : now < u) (h4 : now < u2) :
    askS (sA c a now0 u seen) now a wish u2 = (sA c a now u2 seen, 40005, 0) := by
  unfold askS
  rw [if_pos ⟨ha, h4, h2, by unfold onOk; rw [decide_eq_true_eq]; exact ⟨h1, by omega⟩⟩, onS_A _ _ _ _ _ _ h3]
  simp [sA, bA, askB, List.findIdx?_cons]

end Go.Proofs.Ytkdbjeegiiihaaa
