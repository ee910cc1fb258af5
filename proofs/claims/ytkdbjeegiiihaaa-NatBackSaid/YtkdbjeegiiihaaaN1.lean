/-
  Boxes and addresses: which may be. Conditions: none.
-/
import Derived.Test.YtkdbjeegiiihaaaL1
set_option linter.unusedVariables false
set_option linter.unusedSimpArgs false
namespace Go.Proofs.Ytkdbjeegiiihaaa
open Go.RowKit

abbrev Ad := Int × Int
/-- How a box is made. -/
structure Bx where
  host : Int
  lo : Int
  hi : Int
  map : Int
  fil : Int
  life : Int
  most : Int
def encX (b : Bx) : List Value := [.int .u32 b.host, .int .i64 b.lo, .int .i64 b.hi, .int .i64 b.map, .int .i64 b.fil, .int .i64 b.life, .int .i64 b.most]
def argX (b : Bx) : Value := .agg #[.int .u32 b.host, .int .i64 b.lo, .int .i64 b.hi, .int .i64 b.map, .int .i64 b.fil, .int .i64 b.life, .int .i64 b.most]

def mayA (a : Ad) : Bool := decide (a.1 ≠ 0 ∧ 1 ≤ a.2 ∧ a.2 ≤ 65535)
def clsB (n : Int) : Bool := decide (0 ≤ n ∧ n ≤ 2)
def mayX (b : Bx) : Bool := decide (b.host ≠ 0 ∧ 1 ≤ b.lo ∧ b.lo ≤ b.hi ∧ b.hi ≤ 65535 ∧ (0 ≤ b.map ∧ b.map ≤ 2) ∧ (0 ≤ b.fil ∧ b.fil ≤ 2) ∧ 1 ≤ b.life ∧ b.life ≤ 1099511627776 ∧ 1 ≤ b.most ∧ b.most ≤ 100)

theorem ret_bool {a b : Bool} (h : a = b) : Ending.returned (.bool a) = .returned (.bool b) := by rw [h]

theorem mayA_any (a : Ad) (w : World) : Calls Try.prog 44 #[argA a] w fun e w' => e = .returned (.bool (mayA a)) ∧ Fr0 w w' := by
  obtain ⟨h, p⟩ := a
  unfold argA
  by_cases h1 : h = 0
  · have hm : mayA (h, p) = false := by simp [mayA, h1]
    rw [hm]
    have hb : (h != 0) = false := by simp [h1]
    clear h1 hm
    go_enter Try.func44, Try.ntmps44
    go_wp2
    go_ret
    exact ⟨rfl, Fr.alloc _ _ _⟩
  · have hb : (h != 0) = true := by simp [h1]
    by_cases h2 : 1 ≤ p
    · by_cases h3 : p ≤ 65535
      · have hm : mayA (h, p) = true := by simp [mayA, h1, h2, h3]
        rw [hm]
        clear h1 hm
        go_enter Try.func44, Try.ntmps44
        go_wp2
        go_ret
        exact ⟨rfl, Fr.alloc _ _ _⟩
      · have hm : mayA (h, p) = false := by simp [mayA, h3]
        rw [hm]
        clear h1 hm
        go_enter Try.func44, Try.ntmps44
        go_wp2
        go_ret
        exact ⟨rfl, Fr.alloc _ _ _⟩
    · have hm : mayA (h, p) = false := by simp [mayA, h2]
      rw [hm]
      clear h1 hm
      go_enter Try.func44, Try.ntmps44
      go_wp2
      go_ret
      exact ⟨rfl, Fr.alloc _ _ _⟩

theorem cls_any (n : Int) (w : World) : Calls Try.prog 92 #[.int .i64 n] w fun e w' => e = .returned (.bool (clsB n)) ∧ w' = w := by
  by_cases h1 : 0 ≤ n
  · by_cases h2 : n ≤ 2
    · have hm : clsB n = true := by simp [clsB, h1, h2]
      rw [hm]
      go_enter Try.func92, Try.ntmps92
      go_wp2
      go_ret
      exact ⟨rfl, rfl⟩
    · have hm : clsB n = false := by simp [clsB, h2]
      rw [hm]
      go_enter Try.func92, Try.ntmps92
      go_wp2
      go_ret
      exact ⟨rfl, rfl⟩
  · have hm : clsB n = false := by simp [clsB, h1]
    rw [hm]
    go_enter Try.func92, Try.ntmps92
    go_wp2
    go_ret
    exact ⟨rfl, rfl⟩

set_option maxRecDepth 100000 in
set_option maxHeartbeats 2000000 in
theorem mayX_any (b : Bx) (w : World) : Calls Try.prog 43 #[argX b] w fun e w' => e = .returned (.bool (mayX b)) ∧ Fr0 w w' := by
  obtain ⟨host, lo, hi, map, fil, life, most⟩ := b
  unfold argX
  dsimp only
  by_cases hp : 1 ≤ lo ∧ lo ≤ hi ∧ hi ≤ 65535
  · obtain ⟨p1, p2, p3⟩ := hp
    have c1 := fun W => cls_any map W
    have c2 := fun W => cls_any fil W
    have C1 := Lib.hid c1
    have C2 := Lib.hid c2
    clear c1 c2
    by_cases h0 : host = 0
    · have hm : mayX ⟨host, lo, hi, map, fil, life, most⟩ = false := by simp [mayX, h0]
      rw [hm]
      have hb : (host != 0) = false := by simp [h0]
      clear h0 hm
      go_enter Try.func43, Try.ntmps43
      go_wp2
      go_ret
      exact ⟨rfl, Fr.alloc _ _ _⟩
    · have hb : (host != 0) = true := by simp [h0]
      cases hc1 : clsB map
      · have hm : mayX ⟨host, lo, hi, map, fil, life, most⟩ = false := by simp [clsB] at hc1; simp [mayX]; omega
        rw [hm]
        rw [hc1] at C1
        clear h0 hm hc1 C2
        go_enter Try.func43, Try.ntmps43
        go_wp2_with (go_at_call 92; refine (C1.out _).mono ?_; rintro e w' ⟨rfl, rfl⟩)
        go_ret
        exact ⟨rfl, Fr.alloc _ _ _⟩
      · rw [hc1] at C1
        have hcm : 0 ≤ map ∧ map ≤ 2 := by simpa [clsB] using hc1
        cases hc2 : clsB fil
        · have hm : mayX ⟨host, lo, hi, map, fil, life, most⟩ = false := by simp [clsB] at hc2; simp [mayX]; omega
          rw [hm]
          rw [hc2] at C2
          clear h0 hm hc1 hc2 hcm
          go_enter Try.func43, Try.ntmps43
          go_wp2_with (first | (go_at_call 92; (with_reducible refine (C1.out _).mono ?_); rintro e w' ⟨rfl, rfl⟩) | (go_at_call 92; (with_reducible refine (C2.out _).mono ?_); rintro e w' ⟨rfl, rfl⟩))
          go_ret
          exact ⟨rfl, Fr.alloc _ _ _⟩
        · have hcf : 0 ≤ fil ∧ fil ≤ 2 := by simpa [clsB] using hc2
          rw [hc2] at C2
          by_cases l1 : 1 ≤ life
          · by_cases l2 : life ≤ 1099511627776
            · by_cases m1 : 1 ≤ most
              · by_cases m2 : most ≤ 100
                · have hm : mayX ⟨host, lo, hi, map, fil, life, most⟩ = true := by simp [mayX]; omega
                  rw [hm]
                  clear h0 hm hc1 hc2 hcm hcf
                  go_enter Try.func43, Try.ntmps43
                  go_wp2_with (first | (go_at_call 92; (with_reducible refine (C1.out _).mono ?_); rintro e w' ⟨rfl, rfl⟩) | (go_at_call 92; (with_reducible refine (C2.out _).mono ?_); rintro e w' ⟨rfl, rfl⟩))
                  go_ret
                  exact ⟨rfl, Fr.alloc _ _ _⟩
                · have hm : mayX ⟨host, lo, hi, map, fil, life, most⟩ = false := by simp [mayX]; omega
                  rw [hm]
                  have hd : decide (most ≤ 100) = false := by simpa using m2
                  clear h0 hm hc1 hc2 hcm hcf
                  go_enter Try.func43, Try.ntmps43
                  go_wp2_with (first | (go_at_call 92; (with_reducible refine (C1.out _).mono ?_); rintro e w' ⟨rfl, rfl⟩) | (go_at_call 92; (with_reducible refine (C2.out _).mono ?_); rintro e w' ⟨rfl, rfl⟩))
                  go_ret
                  exact ⟨rfl, Fr.alloc _ _ _⟩
              · have hm : mayX ⟨host, lo, hi, map, fil, life, most⟩ = false := by simp [mayX]; omega
                rw [hm]
                clear h0 hm hc1 hc2 hcm hcf
                go_enter Try.func43, Try.ntmps43
                go_wp2_with (first | (go_at_call 92; (with_reducible refine (C1.out _).mono ?_); rintro e w' ⟨rfl, rfl⟩) | (go_at_call 92; (with_reducible refine (C2.out _).mono ?_); rintro e w' ⟨rfl, rfl⟩))
                go_ret
                exact ⟨rfl, Fr.alloc _ _ _⟩
            · have hm : mayX ⟨host, lo, hi, map, fil, life, most⟩ = false := by simp [mayX]; omega
              rw [hm]
              clear h0 hm hc1 hc2 hcm hcf
              go_enter Try.func43, Try.ntmps43
              go_wp2_with (first | (go_at_call 92; (with_reducible refine (C1.out _).mono ?_); rintro e w' ⟨rfl, rfl⟩) | (go_at_call 92; (with_reducible refine (C2.out _).mono ?_); rintro e w' ⟨rfl, rfl⟩))
              go_ret
              exact ⟨rfl, Fr.alloc _ _ _⟩
          · have hm : mayX ⟨host, lo, hi, map, fil, life, most⟩ = false := by simp [mayX]; omega
            rw [hm]
            clear h0 hm hc1 hc2 hcm hcf
            go_enter Try.func43, Try.ntmps43
            go_wp2_with (first | (go_at_call 92; (with_reducible refine (C1.out _).mono ?_); rintro e w' ⟨rfl, rfl⟩) | (go_at_call 92; (with_reducible refine (C2.out _).mono ?_); rintro e w' ⟨rfl, rfl⟩))
            go_ret
            exact ⟨rfl, Fr.alloc _ _ _⟩
  · have hm : mayX ⟨host, lo, hi, map, fil, life, most⟩ = false := by simp [mayX]; omega
    rw [hm]
    have hb : (host != 0) = true ∨ (host != 0) = false := by cases (host != 0) <;> simp
    by_cases p1 : 1 ≤ lo
    · by_cases p2 : lo ≤ hi
      · have p3 : ¬ hi ≤ 65535 := fun h => hp ⟨p1, p2, h⟩
        clear hp hm
        rcases hb with hb | hb
        all_goals
          go_enter Try.func43, Try.ntmps43
          go_wp2
          go_ret
          exact ⟨rfl, Fr.alloc _ _ _⟩
      · clear hp hm
        rcases hb with hb | hb
        all_goals
          go_enter Try.func43, Try.ntmps43
          go_wp2
          go_ret
          exact ⟨rfl, Fr.alloc _ _ _⟩
    · clear hp hm
      rcases hb with hb | hb
      all_goals
        go_enter Try.func43, Try.ntmps43
        go_wp2
        go_ret
        exact ⟨rfl, Fr.alloc _ _ _⟩

end Go.Proofs.Ytkdbjeegiiihaaa
