/-
  As many bindings as may be: the plain law. Conditions: the ones each theorem names.
-/
import Derived.Test.YtkdbjeegiiihaaaN21
set_option linter.unusedVariables false
set_option linter.unusedSimpArgs false
namespace Go.Proofs.Ytkdbjeegiiihaaa
open Go.RowKit Go.Shelf

def xF (m p : Int) : Bx := ⟨3405803777, 40000, 40000 + p % 12, 0, 0, 30, 1 + m % 12⟩
def kF (m p : Int) : Nat := (min (1 + m % 12) (p % 12 + 1)).toNat
def bF (to : Ad) (j : Nat) : Bd := ⟨(1 + (j : Int), 9), (0, 0), 40000 + (j : Int), 30, false, [to]⟩
def lF (to : Ad) (i : Nat) : List Bd := (List.range i).map (bF to)
def sF (m p : Int) (to : Ad) (i : Nat) : St := ⟨xF m p, 0, lF to i⟩

theorem xF_may (m p : Int) (h0 : 0 ≤ m) (h1 : 0 ≤ p) : mayX (xF m p) = true := by
  simp [mayX, xF]; omega
theorem lF_len (to : Ad) (i : Nat) : (lF to i).length = i := by simp [lF]
theorem mem_lF {to : Ad} {i : Nat} {b : Bd} (h : b ∈ lF to i) : ∃ j : Nat, j < i ∧ b = bF to j := by
  simp only [lF, List.mem_map, List.mem_range] at h
  obtain ⟨j, hj, rfl⟩ := h
  exact ⟨j, hj, rfl⟩
theorem lF_on (m p : Int) (to : Ad) (i : Nat) : onS (sF m p to i) 0 = sF m p to i := by
  have : (lF to i).filter (fun b => decide ((0 : Int) < b.unt)) = lF to i := by
    rw [List.filter_eq_self]
    intro b hb
    obtain ⟨j, _, rfl⟩ := mem_lF hb
    rfl
  unfold onS sF
  simp only [this]
theorem lF_idx (m p : Int) (to : Ad) (i : Nat) (a t : Ad) (h : ∀ j : Nat, j < i → (1 + (j : Int), (9 : Int)) ≠ a) : idxS (xF m p) (lF to i) a t = none := by
  unfold idxS
  have h1 : (lF to i).findIdx? (askB a) = none := by
    rw [List.findIdx?_eq_none_iff]
    intro b hb
    obtain ⟨j, _, rfl⟩ := mem_lF hb
    simp [askB, bF]
  rw [h1]
  simp only
  rw [List.findIdx?_eq_none_iff]
  intro b hb
  obtain ⟨j, hj, rfl⟩ := mem_lF hb
  have := h j hj
  simp [byB, bF, this]
theorem free_lF (to : Ad) (i : Nat) (q : Int) : freeB (lF to i) q = true ↔ ∀ j : Nat, j < i → 40000 + (j : Int) ≠ q := by
  simp only [freeB, List.all_eq_true, decide_eq_true_eq]
  constructor
  · intro h j hj
    exact h (bF to j) (by simp only [lF, List.mem_map, List.mem_range]; exact ⟨j, hj, rfl⟩)
  · intro h b hb
    obtain ⟨j, hj, rfl⟩ := mem_lF hb
    exact h j hj
theorem pick_lF (m p : Int) (to : Ad) (c : Nat) (h1 : 0 ≤ p) : pick (xF m p) (lF to c) 9 = if (c : Int) < p % 12 + 1 then some (40000 + (c : Int)) else none := by
  unfold pick
  rw [if_neg (by simp [xF])]
  have hp : portsX (xF m p) = (List.range (p % 12 + 1).toNat).map fun (k : Nat) => (40000 : Int) + (k : Int) := by
    unfold portsX xF; simp only; congr 2; omega
  rw [hp]
  split
  · rename_i hc
    rw [List.find?_eq_some_iff_getElem]
    refine ⟨(free_lF to c _).2 (fun j hj => by omega), c, by simp; omega, by simp, fun j hj => ?_⟩
    have : ¬ freeB (lF to c) (40000 + (j : Int)) = true := by
      rw [free_lF]; intro h; exact h j hj rfl
    simpa using this
  · rename_i hc
    rw [List.find?_eq_none]
    intro q hq
    simp only [List.mem_map, List.mem_range] at hq
    obtain ⟨k, hk, rfl⟩ := hq
    rw [free_lF]
    intro h
    exact h k (by omega) rfl

theorem full_step (m p : Int) (h0 : 0 ≤ m) (h1 : 0 ≤ p) (to : Ad) (ht : mayA to = true) (i : Nat) (hi : i < 14) :
    outS (sF m p to (min i (kF m p))) 0 (1 + (i : Int), 9) to = (sF m p to (min (i + 1) (kF m p)), if i < kF m p then ((3405803777, 40000 + (i : Int)), 0) else ((0, 0), 10)) := by
  have hk : (kF m p : Int) = min (1 + m % 12) (p % 12 + 1) := by unfold kF; omega
  have hma : mayA (1 + (i : Int), 9) = true := by simp [mayA]; omega
  unfold outS
  rw [if_pos ⟨hma, ht, by simp [onOk, sF]⟩, lF_on]
  have hx : (sF m p to (min i (kF m p))).x = xF m p := rfl
  have hl : (sF m p to (min i (kF m p))).l = lF to (min i (kF m p)) := rfl
  rw [hx, hl]
  have hidx := lF_idx m p to (min i (kF m p)) (1 + (i : Int), 9) to (fun j hj e => by simp at e; omega)
  have hpk := pick_lF m p to (min i (kF m p)) h1
  have hb : byR (xF m p) (lF to (min i (kF m p))) (1 + (i : Int), 9) to = if i < kF m p then some (lF to i ++ [⟨(1 + (i : Int), 9), (0, 0), 40000 + (i : Int), 0, false, []⟩], i) else none := by
    unfold byR
    rw [hidx]
    simp only
    rw [hpk]
    by_cases hlt : i < kF m p
    · have hm : min i (kF m p) = i := by omega
      rw [hm, if_pos (by omega), if_pos hlt]
      simp only
      rw [if_neg (by rw [lF_len]; unfold xF; simp only; omega), lF_len]
      simp [keyB, xF]
    · have hm : min i (kF m p) = kF m p := by omega
      rw [hm, if_neg hlt]
      split
      · rename_i q hq
        rw [if_pos (by rw [lF_len]; unfold xF; simp only; split at hq <;> (first | omega | cases hq))]
      · rfl
  rw [hb]
  by_cases hlt : i < kF m p
  · have hm : min i (kF m p) = i := by omega
    have hm1 : min (i + 1) (kF m p) = i + 1 := by omega
    rw [if_pos hlt, if_pos hlt, hm, hm1]
    have hg : (lF to i ++ [(⟨(1 + (i : Int), 9), (0, 0), 40000 + (i : Int), 0, false, []⟩ : Bd)])[i]? = some ⟨(1 + (i : Int), 9), (0, 0), 40000 + (i : Int), 0, false, []⟩ := by
      rw [List.getElem?_append_right (by rw [lF_len]; exact Nat.le_refl _), lF_len]; simp
    simp only [hg]
    have hset : (lF to i ++ [(⟨(1 + (i : Int), 9), (0, 0), 40000 + (i : Int), 0, false, []⟩ : Bd)]).set i (touch (xF m p) 0 to ⟨(1 + (i : Int), 9), (0, 0), 40000 + (i : Int), 0, false, []⟩) = lF to (i + 1) := by
      rw [List.set_append_right _ _ (by rw [lF_len]; exact Nat.le_refl _), lF_len]
      simp only [Nat.sub_self, List.set_cons_zero]
      unfold lF
      rw [List.range_succ, List.map_append]
      congr 1
    rw [hset]
    try rfl
  · have hm : min i (kF m p) = kF m p := by omega
    have hm1 : min (i + 1) (kF m p) = kF m p := by omega
    rw [if_neg hlt, if_neg hlt, hm, hm1]
    try rfl

theorem full_bad (s : St) (a to : Ad) (ht : mayA to = false) : outS s 0 a to = (s, (0, 0), 1) := by
  unfold outS
  rw [if_neg (by rw [ht]; simp)]

end Go.Proofs.Ytkdbjeegiiihaaa
