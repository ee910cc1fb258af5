/-
  What 'by' comes to, by the box's bindings alone; an entry turned. Conditions: the ones each theorem names.
-/
import Derived.Test.YtkdbjeegiiihaaaN8
set_option linter.unusedVariables false
set_option linter.unusedSimpArgs false
namespace Go.Proofs.Ytkdbjeegiiihaaa
open Go.RowKit Go.Shelf

/-- The binding by which something goes, by the list. -/
def idxS (x : Bx) (l : List Bd) (a to : Ad) : Option Nat := match l.findIdx? (askB a) with | some i => some i | none => l.findIdx? (byB a (keyB x to))
def byR (x : Bx) (l : List Bd) (a to : Ad) : Option (List Bd × Nat) :=
  match idxS x l a to with
  | some i => some (l, i)
  | none => match pick x l a.2 with
    | some p => if x.most ≤ l.length then none else some (l ++ [⟨a, keyB x to, p, 0, false, []⟩], l.length)
    | none => none

theorem idx_map (es : List En) (f : Bd → Bool) : (es.map En.b).findIdx? f = es.findIdx? (fun e => f e.b) := by
  induction es with
  | nil => rfl
  | cons e es ih => simp only [List.map_cons, List.findIdx?_cons, ih]
theorem idx_lt {α : Type} {f : α → Bool} {l : List α} {i : Nat} (h : l.findIdx? f = some i) : i < l.length := by
  rw [List.findIdx?_eq_some_iff_getElem] at h; exact h.1

theorem NatM.upd {w W : World} {n : Nat} {x : Bx} {now : Int} {es : List En} {v : Value} (h : NatM w n x now es v) {i : Nat} {d : En} (hd : es[i]? = some d) {sv : Value} {b : Bd} (he : EnAt W ⟨d.p, sv, b⟩)
    (hf : Fr (fun b => b = d.p ∨ d.sv.ownBlock = some b) w W) (hn : ∀ g, sv.ownBlock = some g → w.heap.size ≤ g ∨ d.sv.ownBlock = some g) : NatM W n x now (es.set i ⟨d.p, sv, b⟩) v := by
  obtain ⟨n1, n2, n3, n4, n5, n6⟩ := h.ne
  have hdm := List.mem_of_getElem? hd
  obtain ⟨hi, hdi⟩ := List.getElem?_eq_some_iff.1 hd
  have hmap : (es.set i ⟨d.p, sv, b⟩).map En.p = es.map En.p := by
    rw [List.map_set]
    apply List.ext_getElem?
    intro t
    by_cases ht : t = i
    · subst ht; rw [List.getElem?_set_self (by simpa using hi)]; simp [hi, hdi]
    · rw [List.getElem?_set_ne (Ne.symm ht)]
  have hrest : ∀ j e, j ≠ i → es[j]? = some e → EnAt W e ∧ Apart e ⟨d.p, sv, b⟩ ∧ Apart ⟨d.p, sv, b⟩ e := by
    intro j e hji hj
    have hem := List.mem_of_getElem? hj
    obtain ⟨hjl, hje⟩ := List.getElem?_eq_some_iff.1 hj
    have hp : e.p ≠ d.p := by
      intro hh
      have hq := h.ndp
      have hq := List.pairwise_iff_getElem.1 hq
      rcases Nat.lt_or_gt_of_ne hji with hlt | hlt
      · exact hq j i (by simpa using hjl) (by simpa using hi) hlt (by simp [hje, hdi, hh])
      · exact hq i j (by simpa using hi) (by simpa using hjl) hlt (by simp [hje, hdi, hh])
    have hs : ∀ g, e.sv.ownBlock = some g → d.sv.ownBlock ≠ some g := by
      intro g hg hg'
      have hq := List.pairwise_iff_getElem.1 h.nds
      rcases Nat.lt_or_gt_of_ne hji with hlt | hlt
      · have := hq j i hjl hi hlt; rw [hje, hdi] at this; exact this g hg hg'
      · have := hq i j hi hjl hlt; rw [hje, hdi] at this; exact this g hg' hg
    refine ⟨(h.ens e hem).fr hf (fun hh => hh.elim hp (fun hh => n6 e hem d hdm _ hh rfl)) (fun g hg hh => hh.elim (n6 d hdm e hem g hg) (fun hh => hs g hg hh)), fun g hg hg' => ?_, fun g hg hg' => ?_⟩
    · rcases hn g hg' with hh | hh
      · have := (h.ens e hem).row.lt hg; omega
      · exact hs g hg hh
    · rcases hn g hg with hh | hh
      · have := (h.ens e hem).row.lt hg'; omega
      · exact hs g hg' hh
  refine ⟨hf.heap h.blk (fun hh => hh.elim (fun hh => n2 d hdm hh.symm) (fun hh => n3 d hdm n hh rfl)), ?_, fun e hem => ?_, by rw [hmap]; exact h.ndp, ?_⟩
  · rw [hmap]
    exact h.row.fr hf (fun g hg hh => hh.elim (fun hh => n4 g hg d hdm hh.symm) (fun hh => n5 g hg d hdm g hh rfl))
  · obtain ⟨j, hj⟩ := List.mem_iff_getElem?.1 hem
    by_cases hji : j = i
    · subst hji; rw [List.getElem?_set_self hi] at hj; cases hj; exact he
    · rw [List.getElem?_set_ne (Ne.symm hji)] at hj; exact (hrest j e hji hj).1
  · rw [List.pairwise_iff_getElem]
    intro s t hs ht hst
    have hq := List.pairwise_iff_getElem.1 h.nds
    simp only [List.length_set] at hs ht
    by_cases h1 : s = i
    · subst h1
      rw [List.getElem_set_self, List.getElem_set_ne (by omega)]
      exact (hrest t _ (by omega) (by simp [ht])).2.2
    · by_cases h2 : t = i
      · subst h2
        rw [List.getElem_set_self, List.getElem_set_ne (by omega)]
        exact (hrest s _ (by omega) (by simp [hs])).2.1
      · rw [List.getElem_set_ne (by omega), List.getElem_set_ne (by omega)]
        exact hq s t hs ht hst

theorem foot_upd {w : World} {n : Nat} {es : List En} {v sv : Value} {b : Bd} {i : Nat} {d : En} (hd : es[i]? = some d) (hn : ∀ g, sv.ownBlock = some g → w.heap.size ≤ g ∨ d.sv.ownBlock = some g) {q : Nat} (h : foot n (es.set i ⟨d.p, sv, b⟩) v q) : foot n es v q ∨ w.heap.size ≤ q := by
  rcases h with h | h | ⟨e, he, h⟩
  · exact .inl (.inl h)
  · exact .inl (.inr (.inl h))
  · have hdm := List.mem_of_getElem? hd
    rcases List.mem_or_eq_of_mem_set he with he | rfl
    · exact .inl (.inr (.inr ⟨e, he, h⟩))
    · rcases h with h | h
      · exact .inl (.inr (.inr ⟨d, hdm, .inl h⟩))
      · rcases hn q h with hh | hh
        · exact .inr hh
        · exact .inl (.inr (.inr ⟨d, hdm, .inr hh⟩))
theorem foot_snoc {w : World} {n z : Nat} {es : List En} {v v' : Value} {b : Bd} (hz : w.heap.size ≤ z) (hv : ∀ g, v'.ownBlock = some g → v.ownBlock = some g ∨ w.heap.size ≤ g) {q : Nat} (h : foot n (es ++ [⟨z, .slice none 0 0, b⟩]) v' q) : foot n es v q ∨ w.heap.size ≤ q := by
  rcases h with h | h | ⟨e, he, h⟩
  · exact .inl (.inl h)
  · exact (hv q h).imp (fun h => .inr (.inl h)) id
  · rcases List.mem_append.1 he with he | he
    · exact .inl (.inr (.inr ⟨e, he, h⟩))
    · simp at he; subst he
      rcases h with h | h
      · exact .inr (by rw [h]; exact hz)
      · cases h

theorem by_full (n : Nat) (x : Bx) (now : Int) (es : List En) (v : Value) (a to : Ad) (w : World) (h : NatM w n x now es v) (hx : mayX x = true) (hlen : (es.length : Int) ≤ 100) (hr : byR x (es.map En.b) a to = none) :
    Calls Try.prog 46 #[.pointer (some ⟨n, 0, none⟩), argA a, argA to] w fun e w' => e = .returned (.tuple #[.pointer none, .int .i64 10]) ∧ Fr0 w w' := by
  unfold byR idxS at hr
  rw [idx_map, idx_map] at hr
  cases h1 : es.findIdx? (fun e => askB a e.b) with
  | some i => rw [h1] at hr; cases hr
  | none =>
    rw [h1] at hr
    simp only at hr
    cases h2 : es.findIdx? (fun e => byB a (keyB x to) e.b) with
    | some i => rw [h2] at hr; cases hr
    | none =>
      rw [h2] at hr
      simp only at hr
      have hno : pick x (es.map En.b) a.2 = none ∨ x.most ≤ es.length := by
        cases hp : pick x (es.map En.b) a.2 with
        | none => exact .inl rfl
        | some p =>
          rw [hp] at hr
          simp only [List.length_map] at hr
          by_cases hm : x.most ≤ es.length
          · exact .inr hm
          · rw [if_neg hm] at hr; cases hr
      refine (by_miss n x now es v a to w h h1 (fun W u c A => u = none ∧ c = 10 ∧ Fr0 W A) (fun u c B => u = none ∧ c = 10 ∧ Fr0 w B)
        (fun W hf => (made_none n x now es v a (keyB x to) 0 0 false a.2 W (h.fr0 hf) hx hlen hno).mono (fun e w' ⟨he, hf'⟩ => ⟨none, 10, he, rfl, rfl, hf'⟩))
        (fun W u c A B hf hm hAB => ⟨hm.1, hm.2.1, (hf.then hm.2.2).trans hAB (fun b hb e => by omega)⟩)
        (fun W u c A b o hf hm hb ho => hm.2.2.heap ho (fun h => h))).mono ?_
      rintro e w' (⟨i, d, hd, hb, _⟩ | ⟨_, u, c, rfl, rfl, rfl, hf⟩)
      · rw [List.findIdx?_eq_none_iff] at h2
        rw [h2 d (List.mem_of_getElem? hd)] at hb; cases hb
      · exact ⟨rfl, hf⟩

theorem by_good (n : Nat) (x : Bx) (now : Int) (es : List En) (v : Value) (a to : Ad) (w : World) (h : NatM w n x now es v) (hx : mayX x = true) (hlen : (es.length : Int) ≤ 100) {l2 : List Bd} {i : Nat} (hr : byR x (es.map En.b) a to = some (l2, i)) :
    Calls Try.prog 46 #[.pointer (some ⟨n, 0, none⟩), argA a, argA to] w fun e w' => ∃ es2 v2 d, e = .returned (.tuple #[.pointer (some ⟨d.p, 0, none⟩), .int .i64 0]) ∧ es2.map En.b = l2 ∧ es2[i]? = some d ∧ NatM w' n x now es2 v2 ∧
      Fr (fun b => b = n ∨ v.ownBlock = some b) w w' ∧ (∀ q, foot n es2 v2 q → foot n es v q ∨ w.heap.size ≤ q) := by
  unfold byR idxS at hr
  rw [idx_map, idx_map] at hr
  cases h1 : es.findIdx? (fun e => askB a e.b) with
  | some j =>
    rw [h1] at hr
    simp only [Option.some.injEq, Prod.mk.injEq] at hr
    obtain ⟨rfl, rfl⟩ := hr
    have hj := idx_lt h1
    have hd : es[j]? = some es[j] := by simp [hj]
    exact (by_ask n x now es v a to w h h1 hd).mono (fun e w' ⟨he, hf⟩ => ⟨es, v, _, he, rfl, hd, h.fr0 hf, hf.mono (fun _ _ h => h.elim), fun q hq => .inl hq⟩)
  | none =>
    rw [h1] at hr
    simp only at hr
    cases h2 : es.findIdx? (fun e => byB a (keyB x to) e.b) with
    | some j =>
      rw [h2] at hr
      simp only [Option.some.injEq, Prod.mk.injEq] at hr
      obtain ⟨rfl, rfl⟩ := hr
      refine (by_miss n x now es v a to w h h1 (fun W u c A => ∀ (b : Nat) (o : Obj), w.heap.size ≤ b → W.heap[b]? = some o → A.heap[b]? = some o) (fun _ _ _ => True)
        (fun W hf => ?_) (fun _ _ _ _ _ _ _ _ => trivial) (fun W u c A b o hf hm hb ho => hm b o hb ho)).mono ?_
      · have hlt := fun {q : Nat} (hq : foot n es v q) => h.lt hq
        by_cases hno : pick x (es.map En.b) a.2 = none ∨ x.most ≤ es.length
        · exact (made_none n x now es v a (keyB x to) 0 0 false a.2 W (h.fr0 hf) hx hlen hno).mono (fun e w' ⟨he, hf'⟩ => ⟨none, 10, he, fun b o _ ho => hf'.heap ho (fun h => h)⟩)
        · cases hp : pick x (es.map En.b) a.2 with
          | none => exact absurd (.inl hp) hno
          | some p =>
            exact (made_some n x now es v a (keyB x to) 0 0 false a.2 p W (h.fr0 hf) hx (by have : ¬ x.most ≤ es.length := fun h => hno (.inr h); omega) hp).mono (fun e w' ⟨z, v', he, hz, hv, hM, hF⟩ => ⟨_, 0, he, fun b o hb ho => hF.heap ho (fun hh => by
              rcases hh with hh | hh
              · have := hlt (q := n) (.inl rfl); omega
              · have := hlt (q := b) (.inr (.inl hh)); omega)⟩)
      · rintro e w' (⟨i, d, hd, hb, hbt, rfl, hf⟩ | ⟨ha, _⟩)
        · have hij : i = j := by
            have h3 := h2
            rw [List.findIdx?_eq_some_iff_getElem] at h3
            obtain ⟨hl, hp, hbb⟩ := h3
            rcases Nat.lt_trichotomy i j with hlt | he | hgt
            · have := hbb i hlt
              rw [(List.getElem?_eq_some_iff.1 hd).2, hb] at this; simp at this
            · exact he
            · have := hbt j es[j] hgt (by simp [hl])
              rw [hp] at this; cases this
          subst hij
          exact ⟨es, v, d, rfl, rfl, hd, h.fr0 hf, hf.mono (fun _ _ h => h.elim), fun q hq => .inl hq⟩
        · have h3 := h2
          rw [List.findIdx?_eq_some_iff_getElem] at h3
          obtain ⟨hl, hp, _⟩ := h3
          rw [ha es[j] (by simp)] at hp; cases hp
    | none =>
      rw [h2] at hr
      simp only at hr
      cases hp : pick x (es.map En.b) a.2 with
      | none => rw [hp] at hr; cases hr
      | some p =>
        rw [hp] at hr
        simp only [List.length_map] at hr
        by_cases hm : x.most ≤ es.length
        · rw [if_pos hm] at hr; cases hr
        · rw [if_neg hm] at hr
          simp only [Option.some.injEq, Prod.mk.injEq] at hr
          obtain ⟨rfl, rfl⟩ := hr
          have hlt := fun {q : Nat} (hq : foot n es v q) => h.lt hq
          refine (by_miss n x now es v a to w h h1
            (fun W u c A => ∃ z v', u = some ⟨z, 0, none⟩ ∧ c = 0 ∧ W.heap.size ≤ z ∧ (∀ g, v'.ownBlock = some g → v.ownBlock = some g ∨ W.heap.size ≤ g) ∧ NatM A n x now (es ++ [⟨z, .slice none 0 0, ⟨a, keyB x to, p, 0, false, []⟩⟩]) v' ∧ Fr (fun b => b = n ∨ v.ownBlock = some b) W A)
            (fun u c B => ∃ z v', u = some ⟨z, 0, none⟩ ∧ c = 0 ∧ w.heap.size ≤ z ∧ (∀ g, v'.ownBlock = some g → v.ownBlock = some g ∨ w.heap.size ≤ g) ∧ NatM B n x now (es ++ [⟨z, .slice none 0 0, ⟨a, keyB x to, p, 0, false, []⟩⟩]) v' ∧ Fr (fun b => b = n ∨ v.ownBlock = some b) w B)
            (fun W hf => (made_some n x now es v a (keyB x to) 0 0 false a.2 p W (h.fr0 hf) hx (by omega) hp).mono (fun e w' ⟨z, v', he, hz, hv, hM, hF⟩ => ⟨_, 0, he, z, v', rfl, rfl, hz, hv, hM, hF⟩))
            ?_ (fun W u c A b o hf ⟨z, v', _, _, _, _, _, hF⟩ hb ho => hF.heap ho (fun hh => by
              rcases hh with hh | hh
              · have := hlt (q := n) (.inl rfl); omega
              · have := hlt (q := b) (.inr (.inl hh)); omega))).mono ?_
          · rintro W u c A B hf ⟨z, v', rfl, rfl, hz, hv, hM, hF⟩ hAB
            have hsz := hf.size
            refine ⟨z, v', rfl, rfl, by omega, fun g hg => (hv g hg).imp id (fun e => by omega), hM.fr hAB (fun b hb hS => ?_), ((hf.mono (fun _ _ h => h.elim)).then hF).trans hAB (fun b hb e => by omega)⟩
            rcases foot_snoc (w := W) hz hv hb with hh | hh
            · have := hlt hh; omega
            · omega
          · rintro e w' (⟨i, d, hd, hb, _⟩ | ⟨_, u, c, rfl, z, v', rfl, rfl, hz, hv, hM, hF⟩)
            · rw [List.findIdx?_eq_none_iff] at h2
              rw [h2 d (List.mem_of_getElem? hd)] at hb; cases hb
            · exact ⟨_, v', ⟨z, .slice none 0 0, ⟨a, keyB x to, p, 0, false, []⟩⟩, rfl, by simp, by simp, hM, hF, fun q hq => foot_snoc hz hv hq⟩

end Go.Proofs.Ytkdbjeegiiihaaa
