/-
  A slice that came in: its elements' cells. Conditions: the ones each theorem names.
-/
import Derived.Test.YtkdbjeegiiihaaaReads
set_option linter.unusedVariables false
set_option linter.unusedSimpArgs false
namespace Go.Proofs.Ytkdbjeegiiihaaa
open Go.ChangeShapes Go.WideShapes Go.ChangeAt Go.RowKit

variable {H : Type} {enc : TypeId × Value → H} {P : Program} {w : World} {base : Nat} {spare : Nat → Bool} {held : Bool}

/-- A slice that came in: so many elements, their cells. -/
def Arg {α : Type} (W : World) (K : Nat) (enc : α → List Value) (v : Value) (xs : List α) : Prop :=
  ∃ r c, v = .slice r xs.length c ∧ xs.length ≤ maxLen ∧ (xs = [] ∨ ∃ b off, r = some ⟨b, off, none⟩ ∧ b < W.heap.size ∧
    ∀ i x, xs[i]? = some x → ∀ (j : Nat) (u : Value), (enc x)[j]? = some u → W.cell? ⟨b, off + i * K + j, none⟩ = some u)

theorem spot_none {W : World} {a : Addr} {u : Value} (h : W.cell? a = some u) : a = ⟨a.block, a.off, none⟩ := by
  obtain ⟨b, o, s⟩ := a
  cases s with
  | none => rfl
  | some k =>
    exfalso
    unfold World.cell? at h
    simp at h
    split at h <;> simp at h
theorem addr_add (b off n : Nat) : (⟨b, off, none⟩ : Addr).add n = ⟨b, off + n, none⟩ := by
  unfold Addr.add; split <;> simp_all

theorem rows_arg {α : Type} {W : World} {t e : TypeId} {v : Value} {d : DataW H} {p : List MemPlace} {K : Nat} {encx : α → List Value} {R : α → Prop} (ht : P.underlying t = some (.slice e)) (hK : P.cellsOf e = K) (h0 : 0 < K) (hk : ∀ x, (encx x).length = K)
    (h : DataW.Trod enc P W base spare held t v d p) (hv : ∃ a len cap, v = .slice a len cap)
    (hR : ∀ (cs : List Value) (fuel : Nat) (x : DataW H × List MemPlace), DataW.trod enc P W base spare held fuel e cs = some x → ∃ y : α, R y ∧ ∀ (j : Nat) (u : Value), (encx y)[j]? = some u → cs[j]? = some u) :
    ∃ xs : List α, (∀ y ∈ xs, R y) ∧ Arg W K encx v xs := by
  subst hK
  rcases slice_rows ht h hv with rfl | ⟨a, len, cap, rfl, hb, hl, hm, hi⟩
  · exact ⟨[], fun y hy => by simp at hy, none, 0, rfl, Nat.zero_le _, .inl rfl⟩
  · obtain ⟨xs, hxl, hx⟩ := list_of (R := fun i y => R y ∧ ∀ (j : Nat) (u : Value), (encx y)[j]? = some u → W.cell? (a.add (i * P.cellsOf e + j)) = some u) len (fun i hlt => by
      obtain ⟨cs, fuel, x, htr, hc⟩ := hi i hlt
      obtain ⟨y, hy, hj⟩ := hR cs fuel x htr
      refine ⟨y, hy, fun j u hu => hc j u ?_ (hj j u hu)⟩
      have := (List.getElem?_eq_some_iff.1 hu).1
      rwa [hk] at this)
    refine ⟨xs, fun y hy => ?_, some a, cap, by rw [hxl], by omega, ?_⟩
    · obtain ⟨i, hi, rfl⟩ := List.mem_iff_getElem.1 hy
      exact (hx i _ (by simp [hi])).1
    · by_cases hn : xs = []
      · exact .inl hn
      · right
        have hpos : 0 < xs.length := List.length_pos_iff.2 hn
        obtain ⟨u, hu⟩ : ∃ u, (encx xs[0])[0]? = some u := ⟨(encx xs[0])[0]'(by rw [hk]; exact h0), by simp⟩
        have hc0 := (hx 0 xs[0] (by simp [hpos])).2 0 u hu
        have ha0 : a.add (0 * P.cellsOf e + 0) = a := by simp [Addr.add]
        rw [ha0] at hc0
        have hsp := spot_none hc0
        have hblk := World.block_lt_of_cell? W a hc0
        refine ⟨a.block, a.off, by rw [← hsp], hblk, fun i x hxi j u hu => ?_⟩
        have := (hx i x hxi).2 j u hu
        rw [hsp, addr_add] at this
        rwa [← Nat.add_assoc] at this
end Go.Proofs.Ytkdbjeegiiihaaa
