/-
  The library's sort at bindings. Conditions: the ones each theorem names.
-/
import Derived.Test.YtkdbjeegiiihaaaN17
import Derived.Shelf.SlSortCmp.WholeK
set_option linter.unusedVariables false
set_option linter.unusedSimpArgs false
namespace Go.Proofs.Ytkdbjeegiiihaaa
open Go.RowKit Go.Shelf Go.Sort

instance : Inhabited Bd := ⟨⟨(0, 0), (0, 0), 0, 0, false, []⟩⟩

theorem owns_holds {α : Type} [Inhabited α] {W : World} {E k : Nat} {enc : α → List Value} (hk : ∀ x, (enc x).length = k) {g n cap : Nat} {l : List α} (h : Owns W E k enc (.slice (some ⟨g, 0, none⟩) n cap) l) : HoldsK enc k W g 0 l.toArray := by
  intro j hj
  rw [size_flatK] at hj
  have hk0 : 0 < k := Nat.pos_of_ne_zero (fun e => by subst e; simp at hj)
  have hi : j / k < l.length := Nat.div_lt_of_lt_mul (by rw [Nat.mul_comm]; simpa using hj)
  have hm : j % k < k := Nat.mod_lt _ hk0
  have hj' : j = j / k * k + j % k := by rw [Nat.mul_comm]; exact (Nat.div_add_mod j k).symm
  have hx : l[j / k]? = some l[j / k] := by simp [hi]
  refine ⟨?_, h.frozen _⟩
  rw [Nat.zero_add, get_flatK enc k l.toArray j (by simpa using hj)]
  have e1 : l.toArray[j / k]! = l[j / k] := by simp [getElem!_pos, hi]
  rw [e1]
  conv => lhs; rw [hj']
  rw [h.cellAt hk hx hm]
  simp [hk, hm]

theorem cmp_lays (blk off size : Nat) (w : World) : CmpLays Try.prog 49 #[] encQ 7 (fun x y : Bd => cmpI x.port y.port) blk off size w := by
  intro m os dk hs x y
  refine (all49 x y _).mono ?_
  rintro e w' ⟨rfl, hw⟩
  refine ⟨rfl, 0, #[Obj.cells (encQ x).toArray 46, Obj.cells (encQ y).toArray 46], ?_⟩
  rw [hw]
  generalize sortWorldK encQ 7 w blk off m dk os = X
  have e : (#[Obj.cells (encQ x).toArray 46, Obj.cells (encQ y).toArray 46] : Array Obj) = #[Obj.cells (encQ x).toArray 46] ++ #[Obj.cells (encQ y).toArray 46] := rfl
  rw [e, alloc_eq_grow (X.alloc _), alloc_eq_grow X]
  unfold Sort.grow
  rw [← Array.append_assoc]
  rfl

theorem lt_port (x y : Bd) : ltOf (fun x y : Bd => cmpI x.port y.port) x y = decide (x.port < y.port) := by
  unfold ltOf cmpI
  by_cases h1 : x.port < y.port
  · simp [h1]
  · by_cases h2 : y.port < x.port <;> simp [h1, h2]
theorem swo_port : SWO (ltOf fun x y : Bd => cmpI x.port y.port) where
  irrefl x := by rw [lt_port]; simp
  trans x y z h1 h2 := by rw [lt_port] at *; simp at *; omega
  ntrans x y z h1 h2 := by rw [lt_port] at *; simp at *; omega

/-- The row behind the sort: it owns the list laid anew. -/
theorem owns_sorted {α : Type} [Inhabited α] {W : World} {E k : Nat} {enc : α → List Value} (hk : ∀ x, (enc x).length = k) {g n cap : Nat} {l l' : List α} (h : Owns W E k enc (.slice (some ⟨g, 0, none⟩) n cap) l) (hl : l'.length = l.length) (m : Nat) (os : Array Obj) :
    Owns (sortWorldK enc k W g 0 m l'.toArray os) E k enc (.slice (some ⟨g, 0, none⟩) n cap) l' ∧ Fr (fun b => b = g) W (sortWorldK enc k W g 0 m l'.toArray os) := by
  obtain ⟨hn, h3, h4, cur, hh, h5, h6⟩ := h.block
  have hg : g < W.heap.size := lt_of_heap hh
  have hH := holdsK_sortWorldK_c enc k W g 0 l.toArray l'.toArray m os (owns_holds hk h) hg (by simp [hl])
  have hblk : (sortWorldK enc k W g 0 m l'.toArray os).heap[g]? = some (.cells (putCells id 0 (flatK enc k l'.toArray) cur) E (0, 0)) := by
    unfold sortWorldK Sort.grow
    show ((putRowK enc k (Sort.ahead W m) g 0 l'.toArray).heap ++ os)[g]? = _
    rw [Array.getElem?_append_left (by unfold putRowK; simp; exact hg)]
    show ((Sort.ahead W m).heap.modify g (onCells (putCells id 0 (flatK enc k l'.toArray))))[g]? = _
    rw [Array.getElem?_modify, if_pos rfl]
    show (W.heap[g]?).map _ = _
    rw [hh]
    rfl
  refine ⟨?_, ?_⟩
  · rw [hn, ← hl]
    refine Owns.mk hk (by omega) h4 hblk (by simp [putCells, h5]) ?_
    apply List.ext_getElem?
    intro t
    have hck : l'.length * k ≤ cap * k := Nat.mul_le_mul_right _ (by omega)
    by_cases ht : t < l'.length * k
    · rw [List.getElem?_take_of_lt ht, Array.getElem?_toList]
      have hk0 : 0 < k := Nat.pos_of_ne_zero (fun e => by subst e; simp at ht)
      have hi : t / k < l'.length := Nat.div_lt_of_lt_mul (by rw [Nat.mul_comm]; exact ht)
      have hm : t % k < k := Nat.mod_lt _ hk0
      have ht' : t = t / k * k + t % k := by rw [Nat.mul_comm]; exact (Nat.div_add_mod t k).symm
      have hx : l'[t / k]? = some l'[t / k] := by simp [hi]
      have hc := (hH t (by rw [size_flatK]; simpa using ht)).1
      rw [cell_of hblk, Nat.zero_add, get_flatK enc k l'.toArray t (by simpa using ht)] at hc
      have e1 : l'.toArray[t / k]! = l'[t / k] := by simp [getElem!_pos, hi]
      rw [e1] at hc
      rw [hc]
      have hf := flat_get enc k hk l' (t / k) (t % k) _ hx hm
      rw [← ht'] at hf
      rw [hf]
      simp [hk, hm]
    · rw [List.getElem?_eq_none (by rw [List.length_take]; omega), List.getElem?_eq_none (by rw [flat_len enc k hk]; omega)]
  · refine ⟨rfl, rfl, rfl, ?_, fun b hb hS => ?_⟩
    · unfold sortWorldK Sort.grow
      show W.heap.size ≤ ((putRowK enc k (Sort.ahead W m) g 0 l'.toArray).heap ++ os).size
      unfold putRowK
      simp [Sort.ahead]
    · unfold sortWorldK Sort.grow
      show ((putRowK enc k (Sort.ahead W m) g 0 l'.toArray).heap ++ os)[b]? = _
      rw [Array.getElem?_append_left (by unfold putRowK; simp; exact hb)]
      show ((Sort.ahead W m).heap.modify g (onCells (putCells id 0 (flatK enc k l'.toArray))))[b]? = _
      rw [Array.getElem?_modify, if_neg (fun e => hS e.symm)]
      rfl

/-- slices.SortFunc at bindings, by ports. -/
theorem sort48 (g cap : Nat) (l : List Bd) (w : World) (h : Owns w 46 7 encQ (.slice (some ⟨g, 0, none⟩) l.length cap) l) (hlen : l.length ≤ 1000) :
    Calls Try.prog 48 #[.slice (some ⟨g, 0, none⟩) l.length cap, .func (.func 49) #[] #[]] w fun e w' => e = .returned (.tuple #[]) ∧ ∃ l' : List Bd, l'.Perm l ∧ l'.Pairwise (fun x y => x.port ≤ y.port) ∧ Owns w' 46 7 encQ (.slice (some ⟨g, 0, none⟩) l.length cap) l' ∧ Fr (fun b => b = g) w w' := by
  have hcon := AnyQ.slices_SortFunc Try.lsort 7 Try.isAgg46 Try.sizeOf46 encQ encQ_len encQ_one (fun x y : Bd => cmpI x.port y.port) swo_port 49 #[] g 0 cap l.toArray w (enters_of Try.func49 (by kernel_rfl) rfl) (cmp_lays _ _ _ _) (owns_holds encQ_len h) (h.lt rfl) (by simp; omega)
  change Calls Try.prog 48 _ _ _ at hcon
  simp only [List.size_toArray] at hcon
  refine hcon.mono ?_
  rintro e w' ⟨rfl, d', n, os, hp, hs, rfl⟩
  have hsz : d'.toList.length = l.length := by have := hp.1; simpa using this
  obtain ⟨h1, h2⟩ := owns_sorted (l' := d'.toList) encQ_len h hsz n os
  refine ⟨rfl, d'.toList, ?_, ?_, h1, h2⟩
  · have h3 := hp.2.2
    rw [Array.extract_eq_self_of_le (by have := hp.1; simp at this; simp; omega), Array.extract_eq_self_of_le (by simp)] at h3
    simpa using h3
  · rw [List.pairwise_iff_getElem]
    intro i j hi hj hij
    have h3 := hs i j (Nat.zero_le _) hij (by simpa [hsz] using hj)
    rw [lt_port] at h3
    have hj' : j < d'.size := by simpa using hj
    have hi' : i < d'.size := by simpa using hi
    rw [getElem!_pos d' j hj', getElem!_pos d' i hi'] at h3
    simpa using h3

end Go.Proofs.Ytkdbjeegiiihaaa
