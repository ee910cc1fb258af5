/-
  What comes back: the plain law. Conditions: the ones each theorem names.
-/
import Derived.Test.YtkdbjeegiiihaaaN21
set_option linter.unusedVariables false
set_option linter.unusedSimpArgs false
namespace Go.Proofs.Ytkdbjeegiiihaaa
open Go.RowKit Go.Shelf

def PortsOk (x : Bx) (l : List Bd) : Prop := (l.map Bd.port).Nodup ∧ ∀ b ∈ l, x.lo ≤ b.port ∧ b.port ≤ x.hi
structure BInv (a0 : Ad) (sent : Prop) (s : St) : Prop where
  now : s.now ≤ 1
  ports : PortsOk s.x s.l
  asked : ∀ b ∈ s.l, b.asked = true → b.i ≠ a0
  seen : ∀ b ∈ s.l, ∀ y ∈ b.seen, y.1 = 77 → sent

theorem PortsOk.filter {x : Bx} {l : List Bd} (h : PortsOk x l) (f : Bd → Bool) : PortsOk x (l.filter f) :=
  ⟨h.1.sublist (List.filter_sublist.map _), fun b hb => h.2 b (List.mem_filter.1 hb).1⟩
theorem pick_some {x : Bx} {l : List Bd} {wish p : Int} (h : pick x l wish = some p) : x.lo ≤ p ∧ p ≤ x.hi ∧ ∀ b ∈ l, b.port ≠ p := by
  unfold pick at h
  have hfree : ∀ q, freeB l q = true → ∀ b ∈ l, b.port ≠ q := fun q hq b hb => by
    simp only [freeB, List.all_eq_true, decide_eq_true_eq] at hq
    exact hq b hb
  split at h
  · rename_i hc
    cases h
    exact ⟨hc.1, hc.2.1, hfree _ hc.2.2⟩
  · have h1 := List.find?_some h
    have h2 := List.mem_of_find?_eq_some h
    simp only [portsX, List.mem_map, List.mem_range] at h2
    obtain ⟨k, hk, rfl⟩ := h2
    exact ⟨by omega, by omega, hfree _ h1⟩
theorem PortsOk.snoc {x : Bx} {l : List Bd} (h : PortsOk x l) {b : Bd} (h1 : x.lo ≤ b.port) (h2 : b.port ≤ x.hi) (h3 : ∀ d ∈ l, d.port ≠ b.port) : PortsOk x (l ++ [b]) := by
  refine ⟨?_, fun d hd => ?_⟩
  · rw [List.map_append, List.nodup_append]
    refine ⟨h.1, by simp, fun p hp q hq => ?_⟩
    simp at hq; subst hq
    obtain ⟨d, hd, rfl⟩ := List.mem_map.1 hp
    exact h3 d hd
  · rcases List.mem_append.1 hd with hd | hd
    · exact h.2 d hd
    · simp at hd; subst hd; exact ⟨h1, h2⟩
theorem PortsOk.set {x : Bx} {l : List Bd} (h : PortsOk x l) {i : Nat} {b b' : Bd} (hi : l[i]? = some b) (hp : b'.port = b.port) : PortsOk x (l.set i b') := by
  have hm : (l.set i b').map Bd.port = l.map Bd.port := by
    rw [List.map_set, hp]
    apply List.ext_getElem?
    intro j
    by_cases hj : j = i
    · subst hj
      have hlt := (List.getElem?_eq_some_iff.1 hi).1
      rw [List.getElem?_set_self (by simpa using hlt)]
      simp [hi]
    · rw [List.getElem?_set_ne (Ne.symm hj)]
  refine ⟨by rw [hm]; exact h.1, fun d hd => ?_⟩
  have : d.port ∈ l.map Bd.port := by rw [← hm]; exact List.mem_map_of_mem hd
  obtain ⟨d', hd', he⟩ := List.mem_map.1 this
  rw [← he]; exact h.2 d' hd'
theorem mem_set_or {α : Type} {l : List α} {i : Nat} {a d : α} (h : d ∈ l.set i a) : d = a ∨ d ∈ l := by
  rcases List.mem_or_eq_of_mem_set h with h | h
  · exact .inr h
  · exact .inl h

/-- What 'by' gives: an old binding, or a new one behind all. -/
theorem byR_form {x : Bx} {l l2 : List Bd} {a to : Ad} {i : Nat} (h : byR x l a to = some (l2, i)) :
    (l2 = l ∧ idxS x l a to = some i) ∨ ∃ p, x.lo ≤ p ∧ p ≤ x.hi ∧ (∀ b ∈ l, b.port ≠ p) ∧ idxS x l a to = none ∧ l2 = l ++ [⟨a, keyB x to, p, 0, false, []⟩] ∧ i = l.length := by
  unfold byR at h
  cases hi : idxS x l a to with
  | some j =>
    rw [hi] at h
    simp only [Option.some.injEq, Prod.mk.injEq] at h
    exact .inl ⟨h.1.symm, by rw [h.2]⟩
  | none =>
    rw [hi] at h
    simp only at h
    split at h
    · rename_i p hp
      split at h
      · cases h
      · simp only [Option.some.injEq, Prod.mk.injEq] at h
        obtain ⟨h1, h2, h3⟩ := pick_some hp
        exact .inr ⟨p, h1, h2, h3, rfl, h.1.symm, h.2.symm⟩
    · cases h
theorem byR_ports {x : Bx} {l l2 : List Bd} {a to : Ad} {i : Nat} (h : byR x l a to = some (l2, i)) (hp : PortsOk x l) : PortsOk x l2 := by
  rcases byR_form h with ⟨rfl, _⟩ | ⟨p, h1, h2, h3, _, rfl, _⟩
  · exact hp
  · exact hp.snoc h1 h2 h3
theorem byR_mem {x : Bx} {l l2 : List Bd} {a to : Ad} {i : Nat} (h : byR x l a to = some (l2, i)) {b : Bd} (hb : b ∈ l2) : b ∈ l ∨ (b.asked = false ∧ b.seen = []) := by
  rcases byR_form h with ⟨rfl, _⟩ | ⟨p, h1, h2, h3, _, rfl, _⟩
  · exact .inl hb
  · rcases List.mem_append.1 hb with hb | hb
    · exact .inl hb
    · simp at hb; subst hb; exact .inr ⟨rfl, rfl⟩
theorem mem_seeS {s : List Ad} {to y : Ad} (h : y ∈ seeS s to) : y ∈ s ∨ y = to := by
  unfold seeS at h
  have := List.mem_of_mem_drop h
  rcases List.mem_append.1 this with h | h
  · exact .inl (List.mem_filter.1 h).1
  · simp at h; exact .inr h
theorem to_mem_seeS (s : List Ad) (to : Ad) : to ∈ seeS s to := by
  unfold seeS
  simp only
  have hl : ((s.filter fun y => !decide (y = to)) ++ [to]).length = (s.filter fun y => !decide (y = to)).length + 1 := by simp
  rw [List.mem_iff_getElem?]
  refine ⟨(s.filter fun y => !decide (y = to)).length - (((s.filter fun y => !decide (y = to)) ++ [to]).length - 16), ?_⟩
  rw [List.getElem?_drop, hl]
  rw [show (s.filter fun y => !decide (y = to)).length + 1 - 16 + ((s.filter fun y => !decide (y = to)).length - ((s.filter fun y => !decide (y = to)).length + 1 - 16)) = (s.filter fun y => !decide (y = to)).length by omega]
  simp

theorem BInv.on {a0 : Ad} {sent : Prop} {s : St} (h : BInv a0 sent s) (now : Int) (hn : now ≤ 1) : BInv a0 sent (onS s now) :=
  ⟨hn, h.ports.filter _, fun b hb => h.asked b (List.mem_filter.1 hb).1, fun b hb => h.seen b (List.mem_filter.1 hb).1⟩
theorem inv_out {a0 : Ad} {sent : Prop} {s : St} (h : BInv a0 sent s) (a to : Ad) (ht : to.1 = 77 → sent) : BInv a0 sent (outS s 1 a to).1 := by
  unfold outS
  split
  · have ho := h.on 1 (by decide)
    cases hr : byR s.x (onS s 1).l a to with
    | none => exact ho
    | some p =>
      obtain ⟨l2, i⟩ := p
      simp only
      cases hb : l2[i]? with
      | none => exact h
      | some b =>
        simp only
        refine ⟨Int.le_refl _, (byR_ports hr ho.ports).set hb rfl, fun d hd hda => ?_, fun d hd y hy hy7 => ?_⟩
        · rcases mem_set_or hd with rfl | hd
          · rcases byR_mem hr (List.mem_of_getElem? hb) with hm | hm
            · exact ho.asked b hm hda
            · have hda' : b.asked = true := hda; rw [hm.1] at hda'; cases hda'
          · rcases byR_mem hr hd with hm | hm
            · exact ho.asked d hm hda
            · exact absurd hda (by rw [hm.1]; simp)
        · rcases mem_set_or hd with rfl | hd
          · rcases mem_seeS hy with hy | rfl
            · rcases byR_mem hr (List.mem_of_getElem? hb) with hm | hm
              · exact ho.seen b hm y hy hy7
              · rw [hm.2] at hy; cases hy
            · exact ht hy7
          · rcases byR_mem hr hd with hm | hm
            · exact ho.seen d hm y hy hy7
            · rw [hm.2] at hy; cases hy
  · exact h
theorem inv_ask {a0 : Ad} {sent : Prop} {s : St} (h : BInv a0 sent s) (a : Ad) (wish u : Int) (ha : a ≠ a0) : BInv a0 sent (askS s 1 a wish u).1 := by
  unfold askS
  split
  · have ho := h.on 1 (by decide)
    split
    · rename_i i hi
      split
      · rename_i b hb
        have hm := List.mem_of_getElem? hb
        refine ⟨Int.le_refl _, ho.ports.set hb rfl, fun d hd hda => ?_, fun d hd y hy hy7 => ?_⟩
        · rcases mem_set_or hd with rfl | hd
          · exact ho.asked b hm hda
          · exact ho.asked d hd hda
        · rcases mem_set_or hd with rfl | hd
          · exact ho.seen b hm y hy hy7
          · exact ho.seen d hd y hy hy7
      · exact h
    · split
      · rename_i p hp
        obtain ⟨h1, h2, h3⟩ := pick_some hp
        split
        · exact ho
        · refine ⟨Int.le_refl _, ho.ports.snoc h1 h2 h3, fun d hd hda => ?_, fun d hd y hy hy7 => ?_⟩
          · rcases List.mem_append.1 hd with hd | hd
            · exact ho.asked d hd hda
            · simp at hd; subst hd; exact ha
          · rcases List.mem_append.1 hd with hd | hd
            · exact ho.seen d hd y hy hy7
            · simp at hd; subst hd; cases hy
      · exact ho
  · exact h

/-- The binding that has a port, by its place among the list. -/
theorem find_port {x : Bx} {l : List Bd} (h : PortsOk x l) {b : Bd} (hb : b ∈ l) : l.find? (portB b.port) = some b := by
  obtain ⟨i, hi, rfl⟩ := List.mem_iff_getElem.1 hb
  rw [List.find?_eq_some_iff_getElem]
  refine ⟨by simp [portB], i, hi, rfl, fun j hj => ?_⟩
  have hne : l[j].port ≠ l[i].port := by
    have := List.nodup_iff_pairwise_ne.1 h.1
    rw [List.pairwise_iff_getElem] at this
    have := this j i (by simp; omega) (by simpa using hi) hj
    simpa using this
  simp [portB, hne]
/-- Something comes by a binding that is there and lets it in. -/
theorem in_hit {s : St} {now : Int} {b : Bd} {fr : Ad} (hp : PortsOk s.x s.l) (hb : b ∈ s.l) (h1 : s.now ≤ now) (h2 : now ≤ 1099511627776) (h3 : now < b.unt) (hf : mayA fr = true) :
    inS s now b.port fr = (onS s now, if letsB s.x fr b = true then b.i else (0, 0), if letsB s.x fr b = true then 0 else 8) ∧ b ∈ (onS s now).l := by
  have hm : b ∈ (onS s now).l := List.mem_filter.2 ⟨hb, by simpa using h3⟩
  refine ⟨?_, hm⟩
  unfold inS
  rw [if_pos ⟨hf, by simp [onOk, h1, h2]⟩, find_port (x := s.x) (l := (onS s now).l) (hp.filter _) hm]
  simp only
  split <;> rfl

/-- What goes out by a binding that nobody asked for, and what then is there. -/
theorem out_hit {a0 : Ad} {sent : Prop} {s : St} (h : BInv a0 sent s) (hl : s.x.life = 30) (to : Ad) (ht : to.1 = 77 → sent) (hc : (outS s 2 a0 to).2.2 = 0) :
    mayA to = true ∧ ∃ b, b ∈ (outS s 2 a0 to).1.l ∧ b.i = a0 ∧ b.asked = false ∧ b.unt = 32 ∧ to ∈ b.seen ∧ (∀ y ∈ b.seen, y.1 = 77 → sent) ∧ (outS s 2 a0 to).2.1 = (s.x.host, b.port) ∧
      PortsOk s.x (outS s 2 a0 to).1.l ∧ (outS s 2 a0 to).1.x = s.x ∧ (outS s 2 a0 to).1.now = 2 := by
  unfold outS at hc ⊢
  by_cases hcc : mayA a0 = true ∧ mayA to = true ∧ onOk s 2 = true
  · rw [if_pos hcc] at hc ⊢
    cases hr : byR s.x (onS s 2).l a0 to with
    | none => rw [hr] at hc; simp at hc
    | some p =>
      obtain ⟨l2, i⟩ := p
      rw [hr] at hc
      simp only at hc ⊢
      cases hb : l2[i]? with
      | none =>
        exfalso
        rcases byR_form hr with ⟨rfl, hi⟩ | ⟨p, _, _, _, _, rfl, rfl⟩
        · have : i < (onS s 2).l.length := by
            unfold idxS at hi
            split at hi
            · rename_i j hj; cases hi; exact idx_lt hj
            · exact idx_lt hi
          rw [List.getElem?_eq_getElem this] at hb; cases hb
        · simp at hb
      | some b =>
        simp only
        have hask : (onS s 2).l.findIdx? (askB a0) = none := by
          rw [List.findIdx?_eq_none_iff]
          intro d hd
          have := h.asked d (List.mem_filter.1 hd).1
          cases hda : d.asked
          · simp [askB, hda]
          · simp [askB, this hda]
        have hform : b.i = a0 ∧ b.asked = false ∧ ∀ y ∈ b.seen, y.1 = 77 → sent := by
          rcases byR_form hr with ⟨rfl, hi⟩ | ⟨p, _, _, _, _, rfl, rfl⟩
          · unfold idxS at hi
            rw [hask] at hi
            simp only at hi
            rw [List.findIdx?_eq_some_iff_getElem] at hi
            obtain ⟨hlt, hby, _⟩ := hi
            have hbe : (onS s 2).l[i] = b := (List.getElem?_eq_some_iff.1 hb).2
            rw [hbe] at hby
            have hbi : b.i = a0 := by simp [byB] at hby; exact hby.1
            have hbm : b ∈ s.l := (List.mem_filter.1 (List.mem_of_getElem? hb)).1
            refine ⟨hbi, ?_, h.seen b hbm⟩
            cases hba : b.asked
            · rfl
            · exact absurd hbi (h.asked b hbm hba)
          · simp at hb
            subst hb
            exact ⟨rfl, rfl, fun y hy => by cases hy⟩
        have hi : i < l2.length := (List.getElem?_eq_some_iff.1 hb).1
        refine ⟨hcc.2.1, touch s.x 2 to b, List.mem_iff_getElem.2 ⟨i, by simpa using hi, by simp⟩, hform.1, hform.2.1, ?_, to_mem_seeS _ _, ?_, rfl, (byR_ports hr (h.ports.filter _)).set hb rfl, rfl, rfl⟩
        · show (if b.asked then b.unt else min (2 + s.x.life) 1099511627776) = 32
          rw [hform.2.1, hl]; rfl
        · intro y hy hy7
          rcases mem_seeS hy with hy | rfl
          · exact hform.2.2 y hy hy7
          · exact ht hy7
  · rw [if_neg hcc] at hc
    simp at hc

theorem out_code (s : St) (now : Int) (a to : Ad) : (outS s now a to).2.2 = 0 ∨ (outS s now a to).2.2 = 1 ∨ (outS s now a to).2.2 = 10 := by
  unfold outS
  split
  · split
    · split
      · exact .inl rfl
      · exact .inl rfl
    · exact .inr (.inr rfl)
  · exact .inr (.inl rfl)
theorem lets_to {x : Bx} {to : Ad} {b : Bd} (h : to ∈ b.seen) : letsB x to b = true := by
  unfold letsB
  have h1 : (b.seen.any fun y => decide (y.1 = to.1)) = true := List.any_eq_true.2 ⟨to, h, by simp⟩
  have h2 : (b.seen.any fun y => decide (y = to)) = true := List.any_eq_true.2 ⟨to, h, by simp⟩
  rw [h1, h2]; simp
theorem lets_no {x : Bx} {p : Int} {b : Bd} (h : ∀ y ∈ b.seen, y.1 ≠ 77) (ha : b.asked = false) : letsB x (77, p) b = decide (x.fil = 0) := by
  unfold letsB
  have h1 : (b.seen.any fun y => decide (y.1 = (77, p).1)) = false := by
    rw [List.any_eq_false]; intro y hy; simpa using h y hy
  have h2 : (b.seen.any fun y => decide (y = (77, p))) = false := by
    rw [List.any_eq_false]; intro y hy; simp only [decide_eq_true_eq]; intro e; exact h y hy (by rw [e])
  rw [h1, h2, ha]; simp

end Go.Proofs.Ytkdbjeegiiihaaa
