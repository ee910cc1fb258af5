/-
  Rows of memory that hold elements of k cells: laws that the seat's own walks use. Conditions: none beyond those that each law names.
-/
import Derived.Test.YtkdbjeegiiihaaaBase
set_option linter.unusedVariables false
set_option linter.unusedSimpArgs false
namespace Go.Proofs.Ytkdbjeegiiihaaa
open Go.RowKit

variable {α : Type}

/-- The slice v owns a row (of type E, elements of k cells) that holds xs. -/
def Owns (W : World) (E k : Nat) (enc : α → List Value) (v : Value) (xs : List α) : Prop := W.ownsRow 0 E k v xs.length (xs.flatMap enc)

theorem flat_get (enc : α → List Value) (k : Nat) (hk : ∀ x, (enc x).length = k) : ∀ (xs : List α) (i j : Nat) (x : α), xs[i]? = some x → j < k → (xs.flatMap enc)[i * k + j]? = (enc x)[j]?
  | [], i, j, x, h, _ => by simp at h
  | y :: ys, 0, j, x, h, hj => by
    simp at h; subst h
    simp only [List.flatMap_cons, Nat.zero_mul, Nat.zero_add]
    rw [List.getElem?_append_left (by rw [hk]; exact hj)]
  | y :: ys, i + 1, j, x, h, hj => by
    simp only [List.flatMap_cons]
    rw [List.getElem?_append_right (by rw [hk, Nat.add_mul]; omega), hk]
    have e : (i + 1) * k + j - k = i * k + j := by rw [Nat.add_mul]; omega
    rw [e]
    exact flat_get enc k hk ys i j x (by simpa using h) hj
theorem flat_len (enc : α → List Value) (k : Nat) (hk : ∀ x, (enc x).length = k) : ∀ xs : List α, (xs.flatMap enc).length = xs.length * k
  | [] => by simp
  | y :: ys => by simp only [List.flatMap_cons, List.length_append, hk, flat_len enc k hk ys, List.length_cons, Nat.add_mul]; omega
theorem flat_take (enc : α → List Value) (k : Nat) (hk : ∀ x, (enc x).length = k) : ∀ (xs : List α) (m : Nat), m ≤ xs.length → (xs.flatMap enc).take (m * k) = (xs.take m).flatMap enc
  | [], m, h => by simp at h; subst h; simp
  | y :: ys, 0, _ => by simp
  | y :: ys, m + 1, h => by
    simp only [List.flatMap_cons, List.take_succ_cons]
    have e : (m + 1) * k = (enc y).length + m * k := by rw [hk, Nat.add_mul]; omega
    rw [e, List.take_length_add_append, flat_take enc k hk ys m (by simpa using h)]

theorem Owns.nil (W : World) (E k : Nat) (enc : α → List Value) : Owns W E k enc (.slice none 0 0) ([] : List α) := World.ownsRow_nil _ _ _ _
theorem Owns.fr {S : Nat → Prop} {A B : World} {E k : Nat} {enc : α → List Value} {v : Value} {xs : List α} (h : Owns A E k enc v xs) (hf : Fr S A B) (hb : ∀ g, v.ownBlock = some g → ¬ S g) : Owns B E k enc v xs := hf.ownsRow h hb
theorem Owns.lt {W : World} {E k : Nat} {enc : α → List Value} {v : Value} {xs : List α} (h : Owns W E k enc v xs) {g : Nat} (hg : v.ownBlock = some g) : g < W.heap.size := (World.ownsRow.lt h g hg).2
theorem Owns.shape {W : World} {E k : Nat} {enc : α → List Value} {v : Value} {xs : List α} (h : Owns W E k enc v xs) : (v = .slice none 0 0 ∧ xs = []) ∨ ∃ g cap, v = .slice (some ⟨g, 0, none⟩) xs.length cap ∧ xs.length ≤ cap ∧ cap ≤ maxLen := by
  rcases h.2 with ⟨h1, h2⟩ | ⟨g, cap, cur, hv, _, _, h3, h4, _⟩
  · exact .inl ⟨h1, List.length_eq_zero_iff.1 h2⟩
  · exact .inr ⟨g, cap, hv, h3, h4⟩
/-- The row's block, written out. -/
theorem Owns.block {W : World} {E k : Nat} {enc : α → List Value} {g n cap : Nat} {xs : List α} (h : Owns W E k enc (.slice (some ⟨g, 0, none⟩) n cap) xs) :
    n = xs.length ∧ xs.length ≤ cap ∧ cap ≤ maxLen ∧ ∃ cur : Array Value, W.heap[g]? = some (.cells cur E (0, 0)) ∧ cur.size = cap * k ∧ cur.toList.take (xs.length * k) = xs.flatMap enc := by
  rcases h.2 with ⟨h1, h2⟩ | ⟨g', cap', cur, hv, _, hh, h3, h4, h5, h6⟩
  · cases h1
  · cases hv
    exact ⟨rfl, h3, h4, cur, hh, h5, h6⟩
theorem Owns.mk {W : World} {E k : Nat} {enc : α → List Value} (hk : ∀ x, (enc x).length = k) {g cap : Nat} {xs : List α} (h3 : xs.length ≤ cap) (h4 : cap ≤ maxLen) {cur : Array Value} (hh : W.heap[g]? = some (.cells cur E (0, 0))) (h5 : cur.size = cap * k)
    (h6 : cur.toList.take (xs.length * k) = xs.flatMap enc) : Owns W E k enc (.slice (some ⟨g, 0, none⟩) xs.length cap) xs :=
  ⟨flat_len enc k hk xs, .inr ⟨g, cap, cur, rfl, Nat.zero_le _, hh, h3, h4, h5, h6⟩⟩
theorem Owns.frozen {W : World} {E k : Nat} {enc : α → List Value} {g n cap : Nat} {xs : List α} (h : Owns W E k enc (.slice (some ⟨g, 0, none⟩) n cap) xs) (i : Nat) : W.frozen? ⟨g, i, none⟩ = false := by
  obtain ⟨_, _, _, cur, hh, _⟩ := h.block
  simp [World.frozen?, hh]
theorem Owns.cellAt {W : World} {E k : Nat} {enc : α → List Value} (hk : ∀ x, (enc x).length = k) {g n cap : Nat} {xs : List α} (h : Owns W E k enc (.slice (some ⟨g, 0, none⟩) n cap) xs) {i j : Nat} {x : α} (hx : xs[i]? = some x) (hj : j < k) :
    W.cell? ⟨g, i * k + j, none⟩ = (enc x)[j]? := by
  obtain ⟨_, _, _, cur, hh, _, ht⟩ := h.block
  have hi : i < xs.length := (List.getElem?_eq_some_iff.1 hx).1
  have hlt : i * k + j < xs.length * k := by
    have : (i + 1) * k ≤ xs.length * k := Nat.mul_le_mul_right _ hi
    rw [Nat.add_mul] at this; omega
  have h1 : W.cell? ⟨g, i * k + j, none⟩ = cur[i * k + j]? := by simp [World.cell?, hh]
  rw [h1, ← flat_get enc k hk xs i j x hx hj, ← ht, List.getElem?_take_of_lt hlt, Array.getElem?_toList]
/-- A cell past the elements in use is there too. -/
theorem Owns.cellAny {W : World} {E k : Nat} {enc : α → List Value} {g n cap : Nat} {xs : List α} (h : Owns W E k enc (.slice (some ⟨g, 0, none⟩) n cap) xs) {i : Nat} (hi : i < cap * k) : ∃ u, W.cell? ⟨g, i, none⟩ = some u := by
  obtain ⟨_, _, _, cur, hh, hs, _⟩ := h.block
  exact ⟨cur[i]'(by omega), by simp [World.cell?, hh, hs, hi]⟩
theorem Owns.cut {W : World} {E k : Nat} {enc : α → List Value} (hk : ∀ x, (enc x).length = k) {g n cap m : Nat} {xs : List α} (h : Owns W E k enc (.slice (some ⟨g, 0, none⟩) n cap) xs) (hm : m ≤ xs.length) : Owns W E k enc (.slice (some ⟨g, 0, none⟩) m cap) (xs.take m) := by
  obtain ⟨_, h3, h4, cur, hh, h5, h6⟩ := h.block
  have hl : (xs.take m).length = m := by simp [hm]
  have := Owns.mk (W := W) (E := E) hk (g := g) (cap := cap) (xs := xs.take m) (by omega) h4 hh h5 (by
    rw [hl, ← flat_take enc k hk xs m hm, ← h6, List.take_take]
    congr 1
    have := Nat.mul_le_mul_right k hm
    omega)
  rwa [hl] at this

theorem setCell_heap {W : World} {g o : Nat} {v : Value} {cur : Array Value} {E : TypeId} {fr : Nat × Nat} (h : W.heap[g]? = some (.cells cur E fr)) : (W.setCell ⟨g, o, none⟩ v).heap[g]? = some (.cells (cur.setIfInBounds o v) E fr) := by
  obtain ⟨hlt, hk⟩ := Array.getElem?_eq_some_iff.1 h
  show (W.heap.modify g _)[g]? = _
  rw [Array.getElem?_eq_getElem (by rw [Array.size_modify]; exact hlt), Array.getElem_modify_self, hk]
  rfl

/-- Some cells of a row written one behind the other. -/
def splice (cur : Array Value) (o : Nat) : List Value → Array Value
  | [] => cur
  | v :: vs => splice (cur.setIfInBounds o v) (o + 1) vs
def setsAt (W : World) (g o : Nat) : List Value → World
  | [] => W
  | v :: vs => setsAt (W.setCell ⟨g, o, none⟩ v) g (o + 1) vs
theorem setsAt_heap {g : Nat} {E : TypeId} {fr : Nat × Nat} : ∀ (vs : List Value) (W : World) (o : Nat) (cur : Array Value), W.heap[g]? = some (.cells cur E fr) → (setsAt W g o vs).heap[g]? = some (.cells (splice cur o vs) E fr)
  | [], _, _, _, h => h
  | v :: vs, W, o, cur, h => setsAt_heap vs _ _ _ (setCell_heap h)
theorem setsAt_fr {g : Nat} : ∀ (vs : List Value) (W : World) (o : Nat), Fr (fun b => b = g) W (setsAt W g o vs)
  | [], W, _ => Fr.refl _ _
  | v :: vs, W, o => (Fr.setCell (S := fun b => b = g) W ⟨g, o, none⟩ v rfl).then (setsAt_fr vs _ _)
theorem splice_size : ∀ (vs : List Value) (cur : Array Value) (o : Nat), (splice cur o vs).size = cur.size
  | [], _, _ => rfl
  | v :: vs, cur, o => by simp [splice, splice_size vs]
theorem splice_get : ∀ (vs : List Value) (cur : Array Value) (o t : Nat), o + vs.length ≤ cur.size → (splice cur o vs)[t]? = if o ≤ t ∧ t < o + vs.length then vs[t - o]? else cur[t]?
  | [], cur, o, t, _ => by simp only [splice, List.length_nil, Nat.add_zero]; rw [if_neg (by omega)]
  | v :: vs, cur, o, t, h => by
    simp only [List.length_cons] at h
    simp only [splice]
    rw [splice_get vs _ (o + 1) t (by simp; omega)]
    by_cases h1 : o + 1 ≤ t ∧ t < o + 1 + vs.length
    · rw [if_pos h1, if_pos (by simp only [List.length_cons]; omega)]
      have e : t - o = (t - (o + 1)) + 1 := by omega
      rw [e, List.getElem?_cons_succ]
    · rw [if_neg h1]
      by_cases h2 : t = o
      · subst h2
        rw [if_pos (by simp only [List.length_cons]; omega)]
        simp only [Nat.sub_self, List.getElem?_cons_zero]
        rw [Array.getElem?_setIfInBounds_self_of_lt (by omega)]
      · rw [if_neg (by simp only [List.length_cons]; omega), Array.getElem?_setIfInBounds_ne (Ne.symm h2)]

/-- An element of a row written. -/
theorem Owns.put {W : World} {E k : Nat} {enc : α → List Value} (hk : ∀ x, (enc x).length = k) {g n cap : Nat} {xs : List α} (h : Owns W E k enc (.slice (some ⟨g, 0, none⟩) n cap) xs) {i : Nat} (hi : i < xs.length) (x : α) :
    Owns (setsAt W g (i * k) (enc x)) E k enc (.slice (some ⟨g, 0, none⟩) n cap) (xs.set i x) := by
  obtain ⟨hn, h3, h4, cur, hh, h5, h6⟩ := h.block
  have hik : (i + 1) * k ≤ xs.length * k := Nat.mul_le_mul_right _ hi
  rw [Nat.add_mul] at hik
  have hck : xs.length * k ≤ cap * k := Nat.mul_le_mul_right _ h3
  have hl : (xs.set i x).length = n := by simp [hn]
  rw [← hl]
  refine Owns.mk hk (by simp; exact h3) h4 (setsAt_heap _ _ _ _ hh) (by rw [splice_size]; exact h5) ?_
  apply List.ext_getElem?
  intro t
  rw [List.length_set]
  by_cases ht : t < xs.length * k
  · rw [List.getElem?_take_of_lt ht, Array.getElem?_toList, splice_get _ _ _ _ (by rw [hk]; omega), hk]
    have hk0 : 0 < k := Nat.pos_of_ne_zero (fun e => by subst e; simp at ht)
    have hdm : t = t / k * k + t % k := by rw [Nat.mul_comm]; exact (Nat.div_add_mod t k).symm
    have hm : t % k < k := Nat.mod_lt _ hk0
    have hq : t / k < xs.length := Nat.div_lt_of_lt_mul (by rw [Nat.mul_comm]; exact ht)
    have hR : ∀ y, (xs.set i x)[t / k]? = some y → ((xs.set i x).flatMap enc)[t]? = (enc y)[t % k]? := fun y hy => by
      conv => lhs; rw [hdm]
      exact flat_get enc k hk _ _ _ y hy hm
    have hO : ∀ y, xs[t / k]? = some y → (xs.flatMap enc)[t]? = (enc y)[t % k]? := fun y hy => by
      conv => lhs; rw [hdm]
      exact flat_get enc k hk _ _ _ y hy hm
    by_cases hc : i * k ≤ t ∧ t < i * k + k
    · have e : t / k = i := by
        apply Nat.div_eq_of_lt_le
        · exact hc.1
        · rw [Nat.add_mul]; omega
      rw [if_pos hc, hR x (by rw [e]; simp [hi])]
      congr 1
      rw [e] at hdm; omega
    · have e : t / k ≠ i := fun e => by rw [e] at hdm; omega
      rw [if_neg hc]
      obtain ⟨y, hy⟩ : ∃ y, xs[t / k]? = some y := ⟨xs[t / k], by simp [hq]⟩
      rw [hR y (by rw [List.getElem?_set_ne (Ne.symm e)]; exact hy), ← hO y hy, ← h6, List.getElem?_take_of_lt ht, Array.getElem?_toList]
  · rw [List.getElem?_eq_none (by rw [List.length_take]; omega), List.getElem?_eq_none (by rw [flat_len enc k hk]; simp; omega)]

/-- What lies behind the elements in use may be written. -/
theorem Owns.behind {W : World} {E k : Nat} {enc : α → List Value} (hk : ∀ x, (enc x).length = k) {g n cap : Nat} {xs : List α} (h : Owns W E k enc (.slice (some ⟨g, 0, none⟩) n cap) xs) {o : Nat} (vs : List Value) (ho : xs.length * k ≤ o) (hv : o + vs.length ≤ cap * k) :
    Owns (setsAt W g o vs) E k enc (.slice (some ⟨g, 0, none⟩) n cap) xs := by
  obtain ⟨hn, h3, h4, cur, hh, h5, h6⟩ := h.block
  subst hn
  refine Owns.mk hk h3 h4 (setsAt_heap _ _ _ _ hh) (by rw [splice_size]; exact h5) ?_
  rw [← h6]
  apply List.ext_getElem?
  intro t
  by_cases ht : t < xs.length * k
  · rw [List.getElem?_take_of_lt ht, List.getElem?_take_of_lt ht, Array.getElem?_toList, Array.getElem?_toList, splice_get _ _ _ _ (by omega), if_neg (by omega)]
  · rw [List.getElem?_eq_none (by rw [List.length_take]; omega), List.getElem?_eq_none (by rw [List.length_take]; omega)]

theorem setsAt_eq : ∀ (vs : List Value) (W : World) (g o : Nat), setsAt W g o vs = W.setCells g o vs
  | [], _, _, _ => rfl
  | v :: vs, W, g, o => setsAt_eq vs _ _ _

/-- 'clear' on a piece of a row. -/
theorem run_clearK {P : Program} (w : World) (t e ty : TypeId) (z : Value) (ht : P.underlying t = some (.slice e)) (hv : ∀ w, (zeroValue e).run P w = .ok z w) (h1 : ∀ u ∈ z.cells.toList, u.oneCell' = true) (g o m c : Nat) (hm : 0 < m) {cur : Array Value} {E : TypeId}
    (hh : w.heap[g]? = some (.cells cur E (0, 0))) (hs : o + m * z.cells.size ≤ cur.size) :
    (Builtin.clear_ #[t] ty #[.slice (some ⟨g, o, none⟩) m c]).run P w = .ok (.tuple #[]) (setsAt w g o (Builtin.zeroCells z.cells m).toList) := by
  have hl : (Builtin.zeroCells z.cells m).toList.length = m * z.cells.size := by simp [Builtin.zeroCells]
  have hst := run_storeCells_cells (P := P) g o (Builtin.zeroCells z.cells m).toList 0 w
    (fun j hj => by rw [hl] at hj; simp [World.cell?, hh]; omega) (fun j hj => by simp [World.frozen?, hh])
    (by
      intro v hv'
      simp only [Builtin.zeroCells, Array.toList_map, Array.toList_range, List.mem_map, List.mem_range] at hv'
      obtain ⟨i, hi, rfl⟩ := hv'
      have h0 : 0 < z.cells.size := Nat.pos_of_ne_zero (fun e => by rw [e] at hi; simp at hi)
      have hlt : i % z.cells.size < z.cells.size := Nat.mod_lt _ h0
      rw [getElem!_pos z.cells (i % z.cells.size) hlt]
      exact h1 _ (by simp))
  simp only [Nat.add_zero] at hst
  obtain ⟨n, rfl⟩ : ∃ n, m = n + 1 := ⟨m - 1, by omega⟩
  rw [setsAt_eq]
  simp [Builtin.clear_, run_underlying ht, hv, hst]
theorem zeros_len (z : Array Value) (m : Nat) : (Builtin.zeroCells z m).toList.length = m * z.size := by simp [Builtin.zeroCells]

/-- How a search for the first element that something holds of comes out. -/
def IxPost (p : α → Bool) (xs : List α) (J : Nat → World → Prop) (e : Ending) (W : World) : Prop :=
  (∃ (i : Nat) (x : α), xs[i]? = some x ∧ p x = true ∧ (∀ (t : Nat) (y : α), t < i → xs[t]? = some y → p y = false) ∧ e = .returned (.int .i64 (i : Int)) ∧ J (i + 1) W) ∨
  ((∀ y ∈ xs, p y = false) ∧ e = .returned (.int .i64 (-1)) ∧ J xs.length W)

/-- What is asked of a predicate that a library's function calls on element after element: it may keep facts of its own, J, from call to call. -/
structure Pred (P : Program) (gp : Nat) (lb : Array Value) (arg : α → Value) (p : α → Bool) (xs : List α) (S : Nat → Prop) (J : Nat → World → Prop) (g : Nat) : Prop where
  enters : ∀ args w, (callFunc gp args).run P w = .ok (.enter gp args) w
  out : ¬ S g
  stays : ∀ (j : Nat) (A B : World), J j A → Fr (fun b => b = g) A B → J j B
  calls : ∀ (j : Nat) (x : α) (W : World), xs[j]? = some x → J j W → Calls P gp (#[arg x] ++ lb) W fun e w' => e = .returned (.bool (p x)) ∧ J (j + 1) w' ∧ Fr S W w'

theorem first_idx (p : α → Bool) : ∀ xs : List α, (∀ y ∈ xs, p y = false) ∨ ∃ (i : Nat) (x : α), xs[i]? = some x ∧ p x = true ∧ ∀ (t : Nat) (y : α), t < i → xs[t]? = some y → p y = false
  | [] => .inl (fun y hy => by simp at hy)
  | x :: xs => by
    cases hx : p x
    · rcases first_idx p xs with h | ⟨i, z, h1, h2, h3⟩
      · exact .inl (fun y hy => by rcases List.mem_cons.1 hy with rfl | hy; (· exact hx); (· exact h y hy))
      · exact .inr ⟨i + 1, z, by simpa using h1, h2, fun t y ht hy => by
          cases t with
          | zero => simp at hy; subst hy; exact hx
          | succ t => exact h3 t y (by omega) (by simpa using hy)⟩
    · exact .inr ⟨0, x, rfl, hx, fun t y ht => by omega⟩
theorem IxPost.none {p : α → Bool} {xs : List α} {J : Nat → World → Prop} {e : Ending} {W : World} (h : IxPost p xs J e W) (ha : ∀ y ∈ xs, p y = false) : e = .returned (.int .i64 (-1)) ∧ J xs.length W := by
  rcases h with ⟨i, x, h1, h2, _⟩ | ⟨_, h1, h2⟩
  · rw [ha x (List.mem_of_getElem? h1)] at h2; cases h2
  · exact ⟨h1, h2⟩
theorem IxPost.some {p : α → Bool} {xs : List α} {J : Nat → World → Prop} {e : Ending} {W : World} (h : IxPost p xs J e W) {i : Nat} {x : α} (h1 : xs[i]? = some x) (h2 : p x = true) (h3 : ∀ (t : Nat) (y : α), t < i → xs[t]? = some y → p y = false) :
    e = .returned (.int .i64 (i : Int)) ∧ J (i + 1) W := by
  rcases h with ⟨i', x', k1, k2, k3, k4, k5⟩ | ⟨ha, _⟩
  · have : i' = i := by
      rcases Nat.lt_trichotomy i' i with hl | he | hg
      · rw [h3 i' x' hl k1] at k2; cases k2
      · exact he
      · rw [k3 i x hg h1] at h2; cases h2
    subst this
    exact ⟨k4, k5⟩
  · rw [ha x (List.mem_of_getElem? h1)] at h2; cases h2

theorem filter_take_succ (q : α → Bool) (xs : List α) (j : Nat) (x : α) (h : xs[j]? = some x) : (xs.take (j + 1)).filter q = (xs.take j).filter q ++ (if q x then [x] else []) := by
  have hlt := (List.getElem?_eq_some_iff.1 h).1
  have e : xs[j] = x := (List.getElem?_eq_some_iff.1 h).2
  rw [List.take_succ_eq_append_getElem hlt, List.filter_append, e]
  by_cases hq : q x <;> simp [hq]

end Go.Proofs.Ytkdbjeegiiihaaa
