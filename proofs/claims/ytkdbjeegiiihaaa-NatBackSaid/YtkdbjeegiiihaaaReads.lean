/-
  Arguments read: the cells of a value, or of a slice's elements, whatever structs and arrays they are made of. Conditions: the ones each theorem names.
-/
import Derived.Deep.Slices
import Derived.OpenShut
import Derived.ChangeArms
import Derived.WideShapes
import Derived.ProofKit
set_option linter.unusedVariables false
set_option linter.unusedSimpArgs false
namespace Go.Proofs.Ytkdbjeegiiihaaa
open Go.ChangeShapes Go.WideShapes Go.ChangeAt Go.RowKit

variable {H : Type} {enc : TypeId × Value → H} {P : Program} {w : World} {base : Nat} {spare : Nat → Bool} {held : Bool}

/-- The type of the cell with number j of a value of type t. -/
def kindAt (P : Program) : Nat → TypeId → Nat → Option TypeId
  | 0, _, _ => none
  | n + 1, t, j => match P.underlying t with
    | some (.struct fs) => match fs.toList.find? (fun f => decide (f.offset ≤ j) && decide (j < f.offset + P.cellsOf f.type)) with
      | some f => kindAt P n f.type (j - f.offset)
      | none => none
    | some (.array len e) => if j / P.cellsOf e < len then kindAt P n e (j % P.cellsOf e) else none
    | _ => if j = 0 then some t else none

theorem trod_leaf : ∀ (n : Nat) (t u : TypeId) (j fuel : Nat) (cs : List Value) (x : DataW H × List MemPlace), DataW.trod enc P w base spare held fuel t cs = some x → kindAt P n t j = some u →
    ∃ (m : Nat) (y : DataW H × List MemPlace) (cs' : List Value), DataW.trod enc P w base spare held m u cs' = some y ∧ ∀ v, cs'[0]? = some v → cs[j]? = some v
  | 0, _, _, _, _, _, _, _, hk => by simp [kindAt] at hk
  | n + 1, t, u, j, fuel, cs, x, h, hk => by
    unfold kindAt at hk
    split at hk
    · rename_i fs hfs
      obtain ⟨xs, m, _, _, hlen, hxl, hf⟩ := DataW.trod_struct hfs h
      split at hk
      · rename_i f hfind
        obtain ⟨hp, i, hi, hfi, _⟩ := List.find?_eq_some_iff_getElem.1 hfind
        simp only [Bool.and_eq_true, decide_eq_true_eq] at hp
        have hi' : i < fs.size := by simpa using hi
        have hfi' : fs[i]? = some f := by rw [← hfi]; simp [hi']
        have hx := hf i f hfi'
        rw [List.getElem?_eq_getElem (by omega : i < xs.length)] at hx
        obtain ⟨m', y, cs', h1, h2⟩ := trod_leaf n f.type u (j - f.offset) m _ _ hx hk
        refine ⟨m', y, cs', h1, fun v hv => ?_⟩
        have := h2 v hv
        rw [List.getElem?_take_of_lt (by omega), List.getElem?_drop] at this
        rwa [show f.offset + (j - f.offset) = j by omega] at this
      · cases hk
    · rename_i len e hfs
      obtain ⟨xs, m, _, _, hlen, hxl, hf⟩ := DataW.trod_array hfs h
      split at hk
      · rename_i hlt
        have hx := hf (j / P.cellsOf e) hlt
        rw [List.getElem?_eq_getElem (by omega : j / P.cellsOf e < xs.length)] at hx
        obtain ⟨m', y, cs', h1, h2⟩ := trod_leaf n e u (j % P.cellsOf e) m _ _ hx hk
        refine ⟨m', y, cs', h1, fun v hv => ?_⟩
        have := h2 v hv
        by_cases h0 : P.cellsOf e = 0
        · rw [h0] at this
          simp at this
        · rw [List.getElem?_take_of_lt (Nat.mod_lt _ (by omega)), List.getElem?_drop] at this
          rwa [show j / P.cellsOf e * P.cellsOf e + j % P.cellsOf e = j by rw [Nat.mul_comm]; exact Nat.div_add_mod j _] at this
      · cases hk
    · split at hk
      · rename_i hj
        subst hj
        cases hk
        exact ⟨fuel, x, cs, h, fun v hv => hv⟩
      · cases hk

theorem trod_int_at {n : Nat} {t u : TypeId} {j fuel : Nat} {cs : List Value} {x : DataW H × List MemPlace} {k : IntKind} (h : DataW.trod enc P w base spare held fuel t cs = some x) (hk : kindAt P n t j = some u) (hu : P.underlying u = some (.int k)) :
    ∃ z : Int, cs[j]? = some (.int k z) ∧ (Lit.int k z).wf = true := by
  obtain ⟨m, y, cs', h1, h2⟩ := trod_leaf n t u j fuel cs x h hk
  obtain ⟨z, rfl, _, hz⟩ := DataW.trod_int hu h1
  exact ⟨z, h2 _ rfl, hz⟩
theorem trod_bool_at {n : Nat} {t u : TypeId} {j fuel : Nat} {cs : List Value} {x : DataW H × List MemPlace} (h : DataW.trod enc P w base spare held fuel t cs = some x) (hk : kindAt P n t j = some u) (hu : P.underlying u = some .bool) :
    ∃ b : Bool, cs[j]? = some (.bool b) := by
  obtain ⟨m, y, cs', h1, h2⟩ := trod_leaf n t u j fuel cs x h hk
  obtain ⟨z, rfl, _⟩ := DataW.trod_bool hu h1
  exact ⟨z, h2 _ rfl⟩
theorem trod_string_at {n : Nat} {t u : TypeId} {j fuel : Nat} {cs : List Value} {x : DataW H × List MemPlace} (h : DataW.trod enc P w base spare held fuel t cs = some x) (hk : kindAt P n t j = some u) (hu : P.underlying u = some .string) :
    ∃ s : ByteArray, cs[j]? = some (.string s) ∧ s.size ≤ maxLen := by
  obtain ⟨m, y, cs', h1, h2⟩ := trod_leaf n t u j fuel cs x h hk
  obtain ⟨z, rfl, _, hz⟩ := DataW.trod_string hu h1
  exact ⟨z, h2 _ rfl, hz⟩

/-- A slice's elements: each one's cells, and that they read. -/
theorem slice_rows {t e : TypeId} {v : Value} {d : DataW H} {p : List MemPlace} (ht : P.underlying t = some (.slice e)) (h : DataW.Trod enc P w base spare held t v d p) (hv : ∃ a len cap, v = .slice a len cap) :
    v = .slice none 0 0 ∨ ∃ (a : Addr) (len cap : Nat), v = .slice (some a) len cap ∧ base ≤ a.block ∧ len ≤ cap ∧ cap ≤ maxLen ∧
      ∀ i, i < len → ∃ (cs : List Value) (fuel : Nat) (x : DataW H × List MemPlace), DataW.trod enc P w base spare held fuel e cs = some x ∧ ∀ j u, j < P.cellsOf e → cs[j]? = some u → w.cell? (a.add (i * P.cellsOf e + j)) = some u := by
  obtain ⟨a0, l0, c0, rfl⟩ := hv
  obtain ⟨fuel, hf⟩ := h
  rcases Go.Deep.open_slice ht hf with ⟨h0, _⟩ | ⟨a, len, cap, m, n, D, Pl, hcs, hb, hl, hm, hmm, _, hi⟩
  · left
    simpa [Value.cells] using h0
  · right
    simp [Value.cells] at hcs
    obtain ⟨rfl, rfl, rfl⟩ := hcs
    refine ⟨a, l0, c0, rfl, hb, hl, hm, fun i hlt => ?_⟩
    have him : i < m := by rw [hmm]; split <;> omega
    obtain ⟨cs', hc, ht'⟩ := hi i him
    refine ⟨cs', n, _, ht', fun j u hj hu => ?_⟩
    obtain ⟨_, hcl, hat⟩ := World.cells?_some hc
    rw [← Go.Deep.add_add, hat j hj, hu]

theorem list_of {α : Type} {R : Nat → α → Prop} : ∀ n : Nat, (∀ i, i < n → ∃ x, R i x) → ∃ l : List α, l.length = n ∧ ∀ i x, l[i]? = some x → R i x
  | 0, _ => ⟨[], rfl, fun i x h => by simp at h⟩
  | n + 1, h => by
    obtain ⟨l, hl, hr⟩ := list_of n (fun i hi => h i (by omega))
    obtain ⟨x, hx⟩ := h n (by omega)
    refine ⟨l ++ [x], by simp [hl], fun i y hy => ?_⟩
    by_cases hi : i < n
    · rw [List.getElem?_append_left (by omega)] at hy
      exact hr i y hy
    · rw [List.getElem?_append_right (by omega)] at hy
      have h0 : i - l.length = 0 := by
        have := (List.getElem?_eq_some_iff.1 hy).1
        simp at this; omega
      rw [h0] at hy
      simp at hy
      subst hy
      have : i = n := by omega
      subst this
      exact hx

/-- A value made of ints alone, by its kinds. -/
theorem agg_of {r : Reach} {b0 : Nat} {t : TypeId} {fs : Array Field} {v : Value} (hs : P.underlying t = some (.struct fs)) (hv : Value.okWide P w r b0 t v) : ∃ cs : Array Value, v = .agg cs ∧ cs.size = P.cellsOf t := okWide_struct hs hv
theorem aggA_of {r : Reach} {b0 : Nat} {t e : TypeId} {n : Nat} {v : Value} (hs : P.underlying t = some (.array n e)) (hv : Value.okWide P w r b0 t v) : ∃ cs : Array Value, v = .agg cs ∧ cs.size = P.cellsOf t := by
  unfold Value.okWide at hv
  rw [hs] at hv
  obtain ⟨cs, h1, h2, _⟩ := hv
  exact ⟨cs, h1, h2⟩

/-- An array by its cells. -/
theorem arr_of {cs : Array Value} : ∀ (l : List Value), cs.size = l.length → (∀ (j : Nat) (v : Value), l[j]? = some v → (Value.agg cs).cells.toList[j]? = some v) → cs = l.toArray := by
  intro l hl h
  apply Array.ext'
  apply List.ext_getElem?
  intro j
  by_cases hj : j < l.length
  · have := h j l[j] (by simp [hj])
    simp only [Value.cells] at this
    rw [this]; simp [hj]
  · rw [List.getElem?_eq_none (by simpa [hl] using hj), List.getElem?_eq_none (by simpa using hj)]
theorem at_cons {l : List Value} {v : Value} {vs : List Value} {i : Nat} (h0 : l[i]? = some v) (h : ∀ (j : Nat) (u : Value), vs[j]? = some u → l[i + 1 + j]? = some u) : ∀ (j : Nat) (u : Value), (v :: vs)[j]? = some u → l[i + j]? = some u := by
  intro j u hj
  cases j with
  | zero => simp at hj; subst hj; simpa using h0
  | succ j => rw [show i + (j + 1) = i + 1 + j by omega]; exact h j u (by simpa using hj)
theorem at_nil {l : List Value} {i : Nat} : ∀ (j : Nat) (u : Value), ([] : List Value)[j]? = some u → l[i + j]? = some u := by
  intro j u hj; simp at hj

theorem wf_bounds {k : IntKind} {z : Int} (h : (Lit.int k z).wf = true) : k.min ≤ z ∧ z ≤ k.max := by
  simpa [Lit.wf, IntKind.has] using h

end Go.Proofs.Ytkdbjeegiiihaaa
