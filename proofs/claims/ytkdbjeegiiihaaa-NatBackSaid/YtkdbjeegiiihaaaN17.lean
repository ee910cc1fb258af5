/-
  Two bindings compared by their ports. Conditions: none.
-/
import Derived.Test.YtkdbjeegiiihaaaN16
import Derived.Test.YtkdbjeegiiihaaaSortL
set_option linter.unusedVariables false
set_option linter.unusedSimpArgs false
namespace Go.Proofs.Ytkdbjeegiiihaaa
open Go.RowKit Go.Shelf

def cmpI (x y : Int) : Int := if x < y then -1 else if y < x then 1 else 0

theorem nan101 (x : Int) (w : World) : Calls Try.prog 101 #[.int .i64 x] w fun e w' => e = .returned (.bool false) ∧ w' = w := by
  go_enter Try.func101, Try.ntmps101
  go_wp2
  go_ret
  exact ⟨by simp, rfl⟩

theorem cmp50 (x y : Int) (w : World) : Calls Try.prog 50 #[.int .i64 x, .int .i64 y] w fun e w' => e = .returned (.int .i64 (cmpI x y)) ∧ w' = w := by
  have hn := Lib.hid (fun z W => nan101 z W)
  by_cases h1 : x < y
  · have hc : cmpI x y = -1 := by simp [cmpI, h1]
    rw [hc]
    clear hc
    go_enter Try.func50, Try.ntmps50
    go_wp2_with (go_at_call 101; refine (hn.out _ _).mono ?_; rintro e w1 ⟨rfl, hw⟩; obtain rfl := hw)
    go_ret
    exact ⟨rfl, rfl⟩
  · by_cases h2 : y < x
    · have hc : cmpI x y = 1 := by simp [cmpI, h1, h2]
      rw [hc]
      clear hc
      go_enter Try.func50, Try.ntmps50
      go_wp2_with (go_at_call 101; refine (hn.out _ _).mono ?_; rintro e w1 ⟨rfl, hw⟩; obtain rfl := hw)
      go_ret
      exact ⟨rfl, rfl⟩
    · have hc : cmpI x y = 0 := by simp [cmpI, h1, h2]
      rw [hc]
      clear hc
      go_enter Try.func50, Try.ntmps50
      go_wp2_with (go_at_call 101; refine (hn.out _ _).mono ?_; rintro e w1 ⟨rfl, hw⟩; obtain rfl := hw)
      go_ret
      exact ⟨rfl, rfl⟩

/-- A binding without those who are seen, as it is told. -/
def encQ (b : Bd) : List Value := [.int .u32 b.i.1, .int .i64 b.i.2, .int .u32 b.t.1, .int .i64 b.t.2, .int .i64 b.port, .int .i64 b.unt, .bool b.asked]
theorem encQ_len (b : Bd) : (encQ b).length = 7 := rfl
theorem encQ_one (b : Bd) : ∀ v ∈ encQ b, v.oneCell' = true := by
  intro v hv
  simp [encQ] at hv
  rcases hv with rfl | rfl | rfl | rfl | rfl | rfl | rfl <;> rfl

set_option maxRecDepth 100000 in
theorem all49 (a b : Bd) (w : World) : Calls Try.prog 49 #[.agg (encQ a).toArray, .agg (encQ b).toArray] w fun e w' => e = .returned (.int .i64 (cmpI a.port b.port)) ∧ w' = (w.alloc (Obj.cells (encQ a).toArray 46)).alloc (Obj.cells (encQ b).toArray 46) := by
  have hc := Lib.hid (fun W => cmp50 a.port b.port W)
  unfold encQ
  go_enter Try.func49, Try.ntmps49
  go_wp2_with (go_at_call 50; refine (hc.out _).mono ?_; rintro e w1 ⟨rfl, hw⟩; obtain rfl := hw)
  go_ret
  exact ⟨rfl, rfl⟩

end Go.Proofs.Ytkdbjeegiiihaaa
