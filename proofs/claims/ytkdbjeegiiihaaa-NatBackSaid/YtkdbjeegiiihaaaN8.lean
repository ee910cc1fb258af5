/-
  Those who are seen by a binding. Conditions: the ones each theorem names.
-/
import Derived.Test.YtkdbjeegiiihaaaN7
import Derived.Deep.RegionLaw
import Derived.WalkSpells
set_option linter.unusedVariables false
set_option linter.unusedSimpArgs false
namespace Go.Proofs.Ytkdbjeegiiihaaa
open Go.RowKit Go.Shelf

theorem encA_one : ∀ (xs : List Ad), ∀ u ∈ xs.flatMap encA, u.oneCell' = true := by
  intro xs u hu
  simp only [List.mem_flatMap, encA] at hu
  obtain ⟨a, _, hu⟩ := hu
  simp at hu
  rcases hu with rfl | rfl <;> rfl

set_option maxRecDepth 100000 in
set_option maxHeartbeats 1000000 in
theorem clone98 (g off n c : Nat) (xs : List Ad) (W : World) (hn : xs.length = n) (h0 : 0 < n) (h1 : n ≤ 100) (hc : ∀ j u, (xs.flatMap encA)[j]? = some u → W.cell? ⟨g, off + j, none⟩ = some u) (hg : g < W.heap.size) :
    Calls Try.prog 98 #[.slice (some ⟨g, off, none⟩) n c] W fun e w' => ∃ g2 cap2, e = .returned (.slice (some ⟨g2, 0, none⟩) n cap2) ∧ Owns w' 24 2 encA (.slice (some ⟨g2, 0, none⟩) n cap2) xs ∧ W.heap.size ≤ g2 ∧ Fr0 W w' := by
  have q : ∀ w, (binOp .eql 48 (.slice (some ⟨g, off, none⟩) n c) (.slice none 0 0)).run Try.prog w = .ok (.bool false) w := fun w => by
    have := Lib.run_eql_slice_nil (P := Try.prog) w 48 24 (some ⟨g, off, none⟩) n c 0 0 Try.underlying48
    simpa using this
  have hi : Try.prog.info? 24 = some Try.t24 := by kernel_rfl
  have hz0 : Try.t24.zero = some (.agg #[.int .u32 0, .int .i64 0]) := rfl
  have HT := Lib.hid (⟨hi, hz0⟩ : _ ∧ _)
  have hnew := World.alloc_heap_new W (Obj.cells #[] 24)
  have hown : World.ownsRow (W.alloc (Obj.cells #[] 24)) 0 24 2 (.slice (some ⟨W.heap.size, 0, none⟩) 0 0) 0 [] := ⟨rfl, .inr ⟨W.heap.size, 0, #[], rfl, Nat.zero_le _, hnew, Nat.le_refl _, Nat.zero_le _, rfl, rfl⟩⟩
  have hcs : ∀ j u, (xs.flatMap encA)[j]? = some u → (W.alloc (Obj.cells #[] 24)).cell? ((⟨g, off, none⟩ : Go.Addr).add j) = some u := fun j u hu => by
    have hadd : (⟨g, off, none⟩ : Go.Addr).add j = ⟨g, off + j, none⟩ := by unfold Go.Addr.add; split <;> simp_all
    rw [hadd]
    exact (Fr.alloc (fun _ => False) _ _).cell (hc j u hu) (fun h => h)
  have hl : (xs.flatMap encA).length = n * 2 := by rw [flat_len encA 2 encA_len, hn]
  have hfin : ∀ g2 cap2 w1, World.ownsRow w1 0 24 2 (.slice (some ⟨g2, 0, none⟩) (0 + n) cap2) (0 + n) ([] ++ xs.flatMap encA) → (W.alloc (Obj.cells #[] 24)).grownBy w1 (Value.slice (some ⟨W.heap.size, 0, none⟩) 0 0).ownBlock → ((Value.slice (some ⟨W.heap.size, 0, none⟩) 0 0).ownBlock = some g2 ∨ g2 = W.heap.size + 1) →
      ∀ L, L = n → Owns w1 24 2 encA (.slice (some ⟨g2, 0, none⟩) L cap2) xs ∧ W.heap.size ≤ g2 ∧ Fr0 W w1 := by
    intro g2 cap2 w1 h1 h2 h3 L hL
    subst hL
    refine ⟨?_, ?_, ?_⟩
    · unfold Owns; rw [hn]; simpa using h1
    · rcases h3 with h3 | h3
      · cases h3; exact Nat.le_refl _
      · omega
    · exact (Fr.alloc (fun _ => False) _ _).trans (Fr.of_grownBy h2) (fun b hb e => by cases e; exact absurd hb (Nat.lt_irrefl _))
  have HF := Lib.hid hfin
  have HO := Lib.hid (⟨hown, hcs, hl⟩ : _ ∧ _ ∧ _)
  clear hfin hown hcs hl hnew hc hn hi hz0
  go_enter Try.func98, Try.ntmps98
  go_wp2_with (at_builtin; refine wpList_append_lies _ rfl _ _ 48 rfl 0 24 Try.t24 (.agg #[.int .u32 0, .int .i64 0]) 2 16 Try.underlying48 HT.out.1 HT.out.2 rfl rfl rfl (by decide) _ _ _ rfl HO.out.1 ⟨g, off, none⟩ n c (xs.flatMap encA) rfl HO.out.2.2 HO.out.2.1 (encA_one xs) (by omega) (by simp [maxLen]; omega) (by simp; omega) (Nat.zero_le _) (W.heap.size + 1) (by simp) ?_; intro g2 cap2 w1 hown1 hgrow1 hat1 hlt1; have HE := Lib.hid (HF.out _ _ _ hown1 hgrow1 hat1); clear hown1 hgrow1 hat1 hlt1)
  go_ret
  exact ⟨g2, cap2, by simp, HE.out _ (by simp)⟩

theorem flat_drop {α : Type} (enc : α → List Value) (k : Nat) (hk : ∀ x, (enc x).length = k) : ∀ (xs : List α) (m : Nat), (xs.flatMap enc).drop (m * k) = (xs.drop m).flatMap enc
  | [], m => by simp
  | y :: ys, 0 => by simp
  | y :: ys, m + 1 => by
    simp only [List.flatMap_cons, List.drop_succ_cons]
    have e : (m + 1) * k = (enc y).length + m * k := by rw [hk, Nat.add_mul]; omega
    rw [e, List.drop_length_add_append, flat_drop enc k hk ys m]
theorem Owns.cells {α : Type} {W : World} {E k : Nat} {enc : α → List Value} (hk : ∀ x, (enc x).length = k) {g n cap : Nat} {xs : List α} (h : Owns W E k enc (.slice (some ⟨g, 0, none⟩) n cap) xs) (m j : Nat) (u : Value) (hu : ((xs.drop m).flatMap enc)[j]? = some u) : W.cell? ⟨g, m * k + j, none⟩ = some u := by
  obtain ⟨_, _, _, cur, hh, _, ht⟩ := h.block
  rw [← flat_drop enc k hk, List.getElem?_drop] at hu
  rw [cell_of hh]
  have hlt : m * k + j < xs.length * k := by
    have := (List.getElem?_eq_some_iff.1 hu).1
    rwa [flat_len enc k hk] at this
  rw [← ht, List.getElem?_take_of_lt hlt, Array.getElem?_toList] at hu
  exact hu

/-- Something that is shown later, once for all ways. -/
structure Later (p : Prop) : Prop where
  out : p
theorem later {G : Prop} {T : Prop} (h : Later T → G) (t : T) : G := h ⟨t⟩

/-- Another one seen: it stands last; sixteen are kept. -/
def seeS (s : List Ad) (to : Ad) : List Ad := let l := (s.filter fun y => !decide (y = to)) ++ [to]; l.drop (l.length - 16)

theorem see_pred (to : Ad) (xs : List Ad) (B : Nat) {g : Nat} (hB : B ≠ g) : Pred Try.prog 97 #[.pointer (some ⟨B, 0, none⟩)] argA (fun y => decide (y = to)) xs (fun _ => False) (fun _ W => BoxA W B to) g where
  enters := enters_of Try.func97 (by kernel_rfl) rfl
  out := fun h => h
  stays := fun j A C hJ hf => hJ.fr hf hB
  calls := fun j y W hy hJ => by
    refine (see1_u y to B W (by rw [cell_of hJ]; rfl) (by rw [cell_of hJ]; rfl)).mono ?_
    rintro e w' ⟨rfl, hf⟩
    exact ⟨by rw [eqI_iff], hJ.fr hf (fun h => h), hf⟩

set_option maxRecDepth 100000 in
set_option maxHeartbeats 4000000 in
theorem see_any (p : Nat) (sv : Value) (b : Bd) (to : Ad) (w : World) (h : EnAt w ⟨p, sv, b⟩) (hl : b.seen.length ≤ 16) :
    Calls Try.prog 47 #[.pointer (some ⟨p, 0, none⟩), argA to] w fun e w' => e = .returned (.tuple #[]) ∧ ∃ sv', EnAt w' ⟨p, sv', { b with seen := seeS b.seen to }⟩ ∧ (∀ g, sv'.ownBlock = some g → w.heap.size ≤ g) ∧ Fr (fun b => b = p ∨ sv.ownBlock = some b) w w' := by
  obtain ⟨hb, hrow⟩ := h
  simp only at hb hrow
  have h7 : w.cell? ⟨p, 7, none⟩ = some sv := by rw [cell_of hb]; rfl
  have z7 := frz_of hb 7
  have hlp : p < w.heap.size := lt_of_heap hb
  have hpsv : ∀ g, sv.ownBlock = some g → g ≠ p := fun g hg => by obtain ⟨c, hc⟩ := hrow.blk hg; exact ne_ty hc hb (by decide)
  have hcall : ∀ W, Fr0 w W → BoxA W w.heap.size to → Calls Try.prog 96 #[sv, .func (.func 97) #[] #[.pointer (some ⟨w.heap.size, 0, none⟩)]] W fun e w' => ∃ r m c v', e = .returned (.slice r m c) ∧ Hid (v' = .slice r m c) ∧ v'.ownBlock = sv.ownBlock ∧
      Owns w' 24 2 encA v' (b.seen.filter fun y => !decide (y = to)) ∧ BoxA w' w.heap.size to ∧ w'.heap[p]? = some (.cells (cellsB b sv) 110 (0, 0)) ∧ Fr (fun b => sv.ownBlock = some b) w w' := by
    intro W hf hx
    refine (dlfA_any (S := fun _ => False) (J := fun _ W => BoxA W w.heap.size to) sv 97 _ b.seen (fun y => decide (y = to)) W (fun g hg => see_pred to b.seen w.heap.size (fun e => by have := hrow.lt hg; omega)) (fun _ h => h.elim) hx (hrow.fr hf (fun _ _ h => h))).mono ?_
    rintro e w' ⟨v', rfl, hv, hr, hJ, hf'⟩
    obtain ⟨r, m, c, hs⟩ : ∃ r m c, v' = .slice r m c := by
      rcases hr.shape with ⟨hs, _⟩ | ⟨g, cap, hs, _⟩
      · exact ⟨_, _, _, hs⟩
      · exact ⟨_, _, _, hs⟩
    exact ⟨r, m, c, v', by rw [hs], hs, hv, hr, hJ, hf'.heap (hf.heap hb (fun h => h)) (fun hh => hpsv p (hh.resolve_left id) rfl), (hf.mono (fun _ _ h => h.elim)).then (hf'.mono (fun b _ h => h.resolve_left id))⟩
  have eg : ∀ args w, (callFunc 97 args).run Try.prog w = .ok (.enter 97 args) w := enters_of Try.func97 (by kernel_rfl) rfl
  have HC := Lib.hid hcall
  have HB := Lib.hid (⟨hb, hrow, hpsv, hl⟩ : _ ∧ _ ∧ _ ∧ _)
  clear hcall hb hrow hpsv hl
  unfold argA
  go_enter Try.func47, Try.ntmps47
  go_wp2_with (go_at_call 96; refine (HC.out _ (Fr.alloc _ _ _) (World.alloc_heap_new w _)).mono ?_; rintro e w1 ⟨r, m, c, v1, rfl, HV, hv1, hr1, hx1, hb1, hf1⟩; have k7 : w1.cell? ⟨p, 7, none⟩ = some sv := (by rw [cell_of hb1]; rfl); have kz := frz_of hb1 7; have t0 : w1.cell? ⟨w.heap.size, 0, none⟩ = some (.int .u32 to.1) := (by rw [cell_of hx1]; rfl); have t1 : w1.cell? ⟨w.heap.size, 1, none⟩ = some (.int .i64 to.2) := (by rw [cell_of hx1]; rfl); have HE := Lib.hid (⟨hv1, hr1, hx1, hb1, hf1⟩ : _ ∧ _ ∧ _ ∧ _ ∧ _); clear hv1 hr1 hx1 hb1 hf1)
  obtain ⟨hb, hrow, hpsv, hl⟩ := HB.out
  obtain ⟨hv1, hr1, hx1, hb1, hf1⟩ := HE.out
  have hv := HV.out
  subst hv
  obtain ⟨W1, hW1⟩ : ∃ W1, w1.setCell ⟨p, 7, none⟩ (.slice r m c) = W1 := ⟨_, rfl⟩
  have s1 : Fr (fun b => b = p) w1 W1 := by rw [← hW1]; exact Fr.setCell _ _ _ rfl
  have p1 : W1.heap[p]? = some (.cells (cellsB b (.slice r m c)) 110 (0, 0)) := by rw [← hW1]; exact set_cells hb1 7 _ rfl
  have o1 : Owns W1 24 2 encA (.slice r m c) (b.seen.filter fun y => !decide (y = to)) := hr1.fr s1 (fun g hg e => hpsv g (hv1 ▸ hg) e)
  have x1 := hx1.fr s1 (fun e => by omega)
  have F1 : Fr (fun b => b = p ∨ sv.ownBlock = some b) w W1 := (hf1.mono (fun b _ h => .inr h)).then (s1.mono (fun b _ h => .inl h))
  rw [hW1]
  have hm : m = (b.seen.filter fun y => !decide (y = to)).length := by
    rcases o1.shape with ⟨h1, h2⟩ | ⟨g, cap, h1, _⟩
    · cases h1; rw [h2]; rfl
    · cases h1; rfl
  have hm16 : m ≤ 16 := by rw [hm]; exact Nat.le_trans (List.length_filter_le _ _) hl
  have hs1 : w.heap.size < W1.heap.size := lt_of_heap x1
  clear hW1 k7 kz t0 t1 h7 z7 hb1 hr1 hx1 hf1 s1 HE HV hrow hb
  have k7 : W1.cell? ⟨p, 7, none⟩ = some (.slice r m c) := by rw [cell_of p1]; rfl
  have kz := frz_of p1 7
  have t0 : W1.cell? ⟨w.heap.size, 0, none⟩ = some (.int .u32 to.1) := by rw [cell_of x1]; rfl
  have t1 : W1.cell? ⟨w.heap.size, 1, none⟩ = some (.int .i64 to.2) := by rw [cell_of x1]; rfl
  have hp1 : p < W1.heap.size := by omega
  obtain ⟨fl, hfl⟩ : ∃ fl, fl = (b.seen.filter fun y => !decide (y = to)) := ⟨_, rfl⟩
  rw [← hfl] at hm o1
  have HFL := Lib.hid hfl
  clear hfl
  have hi : Try.prog.info? 24 = some Try.t24 := by kernel_rfl
  have hz0 : Try.t24.zero = some (.agg #[.int .u32 0, .int .i64 0]) := rfl
  have hnews := World.alloc_heap_new W1.drew (Obj.cells #[.int .u32 to.1, .int .i64 to.2] 24)
  have fD : Fr0 W1 (W1.drew.alloc (Obj.cells #[.int .u32 to.1, .int .i64 to.2] 24)) := (Fr.drew _ _).then (Fr.alloc _ _ _)
  have hfin : ∀ g2 cap2 w2, World.ownsRow w2 0 24 2 (.slice (some ⟨g2, 0, none⟩) (fl.length + 1) cap2) (fl.length + 1) (fl.flatMap encA ++ [.int .u32 to.1, .int .i64 to.2]) →
      (W1.drew.alloc (Obj.cells #[.int .u32 to.1, .int .i64 to.2] 24)).grownBy w2 (Value.slice r m c).ownBlock → ((Value.slice r m c).ownBlock = some g2 ∨ g2 = W1.heap.size + 1) →
      w2.cell? ⟨p, 7, none⟩ = some (.slice r m c) ∧ w2.frozen? ⟨p, 7, none⟩ = false ∧ ∀ W L, L = m + 1 → W = w2.setCell ⟨p, 7, none⟩ (.slice (some ⟨g2, 0, none⟩) L cap2) →
        W.heap[p]? = some (.cells (cellsB b (.slice (some ⟨g2, 0, none⟩) L cap2)) 110 (0, 0)) ∧ Owns W 24 2 encA (.slice (some ⟨g2, 0, none⟩) L cap2) (fl ++ [to]) ∧ Fr (fun b => b = p ∨ sv.ownBlock = some b) w W ∧ g2 < W.heap.size := by
    intro g2 cap2 w2 h1 h2 h3
    have f2 := Fr.of_grownBy h2
    have hp2 := f2.heap (fD.heap p1 (fun h => h)) (fun e => hpsv p (hv1 ▸ e.symm) rfl)
    have hg2 : g2 ≠ p := by
      rcases h3 with h3 | h3
      · exact hpsv g2 (hv1 ▸ h3)
      · omega
    refine ⟨by rw [cell_of hp2]; rfl, frz_of hp2 7, ?_⟩
    rintro W L hL rfl
    have f3 : Fr (fun b => b = p) w2 (w2.setCell ⟨p, 7, none⟩ (.slice (some ⟨g2, 0, none⟩) L cap2)) := Fr.setCell _ _ _ rfl
    rw [hm] at hL
    subst hL
    have hO : Owns w2 24 2 encA (.slice (some ⟨g2, 0, none⟩) (fl.length + 1) cap2) (fl ++ [to]) := by
      unfold Owns; simpa [encA] using h1
    refine ⟨set_cells hp2 7 _ rfl, hO.fr f3 (fun g hg e => by cases hg; exact hg2 e), ?_, ?_⟩
    · exact (((F1.then (fD.mono (fun _ _ h => h.elim))).trans f2 (fun b hb e => .inr (hv1 ▸ e.symm))).trans f3 (fun b hb e => .inl e))
    · exact Nat.lt_of_lt_of_le (hO.lt rfl) f3.size
  have HF := Lib.hid hfin
  have HT := Lib.hid (⟨hi, hz0⟩ : _ ∧ _)
  have HO := Lib.hid (⟨o1.fr fD (fun _ _ h => h), hm, hnews, hm16⟩ : _ ∧ _ ∧ _ ∧ _)
  clear hfin hi hz0 hnews fD o1 hm x1 p1 F1 hpsv hl hv1
  apply later
  · intro HT0
    go_region_law (refine step_append_lies _ rfl _ _ 48 rfl 0 24 Try.t24 (.agg #[.int .u32 0, .int .i64 0]) 2 16 Try.underlying48 HT.out.1 HT.out.2 rfl rfl rfl (by decide) _ _ _ rfl HO.out.1 ⟨W1.heap.size, 0, none⟩ 1 1 [.int .u32 to.1, .int .i64 to.2] rfl rfl (fun j u hu => World.news_of_block HO.out.2.2.1 j u hu) (fun u hu => by simp at hu; rcases hu with rfl | rfl <;> rfl) (by decide) (by have := HO.out.2.1; have := HO.out.2.2.2; simp only [maxLen]; omega) (by have := HO.out.2.1; have := HO.out.2.2.2; omega) (Nat.zero_le _) (W1.heap.size + 1) (by simp) ?_; intro g2 cap2 w2 hown2 hgrow2 hat2 hlt2; have H2 := Lib.hid (HF.out _ _ _ hown2 hgrow2 hat2); clear hown2 hgrow2 hat2 hlt2; have k8 := H2.out.1; have k9 := H2.out.2.1)
    all_goals (clear k8 k9; revert g2 cap2 w2 H2)
    all_goals exact HT0.out
  · intro g2 cap2 w2 H2
    have hH2 := H2.out.2.2 _ _ (by rw [HO.out.2.1]) rfl
    obtain ⟨W2, hW2⟩ : ∃ W2, w2.setCell ⟨p, 7, none⟩ (.slice (some ⟨g2, 0, none⟩) (fl.length + 1) cap2) = W2 := ⟨_, rfl⟩
    rw [hW2] at hH2 ⊢
    have HX := Lib.hid hH2
    have HL : fl.length ≤ 16 := by have := HO.out.2.1; have := HO.out.2.2.2; omega
    have m7 : W2.cell? ⟨p, 7, none⟩ = some (.slice (some ⟨g2, 0, none⟩) (fl.length + 1) cap2) := by rw [cell_of hH2.1]; rfl
    have mz := frz_of hH2.1 7
    have hp2 : p < W2.heap.size := lt_of_heap hH2.1
    have hcap : fl.length + 1 ≤ cap2 := by have := hH2.2.1.block; simp at this; exact this.1
    clear hW2 hH2 H2 k7 kz t0 t1 HT HF eg HC HO
    generalize hLf : fl.length = L at *
    have HLf := Lib.hid hLf
    clear hLf
    have hsee : seeS b.seen to = (fl ++ [to]).drop (L + 1 - 16) := by unfold seeS; rw [← HFL.out]; simp [HLf.out]
    have hlen : (fl ++ [to]).length = L + 1 := by simp [HLf.out]
    have hfin3 : ∀ W v, Fr0 W2 W → (∀ g, v.ownBlock = some g → W2.heap.size ≤ g) → Owns W 24 2 encA v (seeS b.seen to) → W.cell? ⟨p, 7, none⟩ = some (.slice (some ⟨g2, 0, none⟩) (L + 1) cap2) ∧ W.frozen? ⟨p, 7, none⟩ = false ∧
        ∀ W', W' = W.setCell ⟨p, 7, none⟩ v → EnAt W' ⟨p, v, { b with seen := seeS b.seen to }⟩ ∧ (∀ g, v.ownBlock = some g → w.heap.size ≤ g) ∧ Fr (fun b => b = p ∨ sv.ownBlock = some b) w W' := by
      intro W v hf hv ho
      obtain ⟨y1, y2, y3, y4⟩ := HX.out
      have yp := hf.heap y1 (fun h => h)
      refine ⟨by rw [cell_of yp]; rfl, frz_of yp 7, ?_⟩
      rintro W' rfl
      have f3 : Fr (fun b => b = p) W (W.setCell ⟨p, 7, none⟩ v) := Fr.setCell _ _ _ rfl
      exact ⟨⟨set_cells yp 7 _ rfl, ho.fr f3 (fun g hg e => by have := hv g hg; omega)⟩, fun g hg => by have := hv g hg; have := y3.size; omega, (y3.then (hf.mono (fun _ _ h => h.elim))).then (f3.mono (fun b _ e => .inl e))⟩
    have H3 := Lib.hid hfin3
    clear hfin3
    by_cases hk : L ≤ 15
    · have hmx : (if 0 < IntKind.i64.wrap ((L : Int) + 1 - 16) then IntKind.i64.wrap ((L : Int) + 1 - 16) else 0) = 0 := by
        have : IntKind.i64.wrap ((L : Int) + 1 - 16) = (L : Int) + 1 - 16 := IntWalk.i64_in _ (by omega)
        rw [this, if_neg (by omega)]
      have hc : ∀ W, Fr0 W2 W → Calls Try.prog 98 #[.slice (some ⟨g2, 0, none⟩) (L + 1) cap2] W fun e w' => ∃ g3 cap3, e = .returned (.slice (some ⟨g3, 0, none⟩) (L + 1) cap3) ∧ Hid (Owns w' 24 2 encA (.slice (some ⟨g3, 0, none⟩) (L + 1) cap3) (seeS b.seen to) ∧ W2.heap.size ≤ g3 ∧ Fr0 W2 w') := fun W hf =>
        (clone98 g2 0 (L + 1) cap2 (fl ++ [to]) W hlen (by omega) (by omega) (fun j u hu => hf.cell (by have := HX.out.2.1.cells encA_len 0 j u (by simpa using hu); simpa using this) (fun h => h)) (Nat.lt_of_lt_of_le HX.out.2.2.2 hf.size)).mono
          (fun e w' ⟨g3, c3, he, ho, hg, hf'⟩ => ⟨g3, c3, he, by rw [hsee, show L + 1 - 16 = 0 by omega]; exact ho, by have := hf.size; omega, hf.then hf'⟩)
      have HC := Lib.hid hc
      clear hc hsee hlen
      go_wp2
      apply later
      · intro HT1
        go_region_with (refine (HC.out _ (Fr.drew _ _)).mono ?_; rintro e w3 ⟨g3, cap3, rfl, HQ⟩; have HR := Lib.hid (H3.out _ _ HQ.out.2.2 (fun g hg => by cases hg; exact HQ.out.2.1) HQ.out.1); have r7 := HR.out.1; have rz := HR.out.2.1)
        all_goals (clear r7 rz; revert g3 cap3 w3 HQ HR)
        all_goals exact HT1.out
      · intro w3 g3 cap3 HQ HR
        go_wp2
        go_end0
        obtain ⟨_, _, hR⟩ := HR.out
        exact ⟨rfl, _, hR _ rfl⟩
    · obtain rfl : L = 16 := by omega
      have hc : ∀ W, Fr0 W2 W → Calls Try.prog 98 #[.slice (some ⟨g2, 2, none⟩) 16 (cap2 - 1)] W fun e w' => ∃ g3 cap3, e = .returned (.slice (some ⟨g3, 0, none⟩) 16 cap3) ∧ Hid (Owns w' 24 2 encA (.slice (some ⟨g3, 0, none⟩) 16 cap3) (seeS b.seen to) ∧ W2.heap.size ≤ g3 ∧ Fr0 W2 w') := fun W hf =>
        (clone98 g2 2 16 (cap2 - 1) ((fl ++ [to]).drop 1) W (by rw [List.length_drop, hlen]) (by omega) (by omega) (fun j u hu => hf.cell (by have := HX.out.2.1.cells encA_len 1 j u hu; simpa using this) (fun h => h)) (Nat.lt_of_lt_of_le HX.out.2.2.2 hf.size)).mono
          (fun e w' ⟨g3, c3, he, ho, hg, hf'⟩ => ⟨g3, c3, he, by rw [hsee]; exact ho, by have := hf.size; omega, hf.then hf'⟩)
      have HC := Lib.hid hc
      clear hc hsee hlen
      go_wp2
      apply later
      · intro HT1
        go_region_with (refine (HC.out _ (Fr.drew _ _)).mono ?_; rintro e w3 ⟨g3, cap3, rfl, HQ⟩; have HR := Lib.hid (H3.out _ _ HQ.out.2.2 (fun g hg => by cases hg; exact HQ.out.2.1) HQ.out.1); have r7 := HR.out.1; have rz := HR.out.2.1)
        all_goals (clear r7 rz; revert g3 cap3 w3 HQ HR)
        all_goals exact HT1.out
      · intro w3 g3 cap3 HQ HR
        go_wp2
        go_end0
        obtain ⟨_, _, hR⟩ := HR.out
        exact ⟨rfl, _, hR _ rfl⟩

end Go.Proofs.Ytkdbjeegiiihaaa
