/-
  What comes: whether a binding lets it in. Conditions: the ones each theorem names.
-/
import Derived.Test.YtkdbjeegiiihaaaN12
set_option linter.unusedVariables false
set_option linter.unusedSimpArgs false
namespace Go.Proofs.Ytkdbjeegiiihaaa
open Go.RowKit Go.Shelf

theorem load27 {W : World} {b : Nat} {x : Bx} (h : ∀ i, i < 7 → W.cell? ⟨b, i, none⟩ = #[Value.int .u32 x.host, .int .i64 x.lo, .int .i64 x.hi, .int .i64 x.map, .int .i64 x.fil, .int .i64 x.life, .int .i64 x.most][i]?) : (loadVar 27 ⟨b, 0, none⟩).run Try.prog W = .ok (argX x) W := by
  have h0 := h 0 (by decide)
  have h1 := h 1 (by decide)
  have h2 := h 2 (by decide)
  have h3 := h 3 (by decide)
  have h4 := h 4 (by decide)
  have h5 := h 5 (by decide)
  have h6 := h 6 (by decide)
  clear h
  simp only [List.getElem?_toArray, List.getElem?_cons_zero, List.getElem?_cons_succ] at h0 h1 h2 h3 h4 h5 h6
  have := Try.isAgg27
  have := Try.sizeOf27
  unfold argX
  go_simp

theorem box_any (n : Nat) (F : Nat → Prop) (s : St) (w : World) (h : NatAt w n F s) : Calls Try.prog 21 #[.pointer (some ⟨n, 0, none⟩)] w fun e w' => e = .returned (argX s.x) ∧ Fr0 w w' := by
  obtain ⟨es, v, hm, hl, hF⟩ := h.mem
  have q0 : w.cell? ⟨n, 0, none⟩ = some (.int .u32 s.x.host) := by rw [cell_of hm.blk]; rfl
  have q1 : w.cell? ⟨n, 1, none⟩ = some (.int .i64 s.x.lo) := by rw [cell_of hm.blk]; rfl
  have q2 : w.cell? ⟨n, 2, none⟩ = some (.int .i64 s.x.hi) := by rw [cell_of hm.blk]; rfl
  have q3 : w.cell? ⟨n, 3, none⟩ = some (.int .i64 s.x.map) := by rw [cell_of hm.blk]; rfl
  have q4 : w.cell? ⟨n, 4, none⟩ = some (.int .i64 s.x.fil) := by rw [cell_of hm.blk]; rfl
  have q5 : w.cell? ⟨n, 5, none⟩ = some (.int .i64 s.x.life) := by rw [cell_of hm.blk]; rfl
  have q6 : w.cell? ⟨n, 6, none⟩ = some (.int .i64 s.x.most) := by rw [cell_of hm.blk]; rfl
  have hl' : n < w.heap.size := lt_of_heap hm.blk
  have hfin : ∀ W, W = w.alloc (Obj.cells #[.int .u32 s.x.host, .int .i64 s.x.lo, .int .i64 s.x.hi, .int .i64 s.x.map, .int .i64 s.x.fil, .int .i64 s.x.life, .int .i64 s.x.most] 27) → (loadVar 27 ⟨w.heap.size, 0, none⟩).run Try.prog W = .ok (argX s.x) W := by
    rintro W rfl
    exact load27 (fun i hi => by rw [cell_of (World.alloc_heap_new w _)])
  have HF := Lib.hid hfin
  clear hfin hm hl hF h
  go_enter Try.func21, Try.ntmps21
  go_wp2
  exact bodyPost_ret (results_cell rfl _ _ _ rfl (HF.out _ rfl)) rfl ⟨rfl, Fr.alloc _ _ _⟩

/-- Does a binding let another one in? -/
def letsB (x : Bx) (from_ : Ad) (b : Bd) : Bool := b.asked || decide (x.fil = 0) || (if x.fil = 1 then b.seen.any fun y => decide (y.1 = from_.1) else b.seen.any fun y => decide (y = from_))

theorem lets1_u (a b : Ad) (B : Nat) (W : World) (h0 : W.cell? ⟨B, 0, none⟩ = some (.int .u32 b.1)) :
    Calls Try.prog 104 #[argA a, .pointer (some ⟨B, 0, none⟩)] W fun e w' => e = .returned (.bool (decide (a.1 = b.1))) ∧ Fr0 W w' := by
  unfold argA
  have hb := cell_lt h0
  by_cases hd : a.1 = b.1
  · have hq : (a.1 == b.1) = true := by simpa using hd
    have hd' : decide (a.1 = b.1) = true := by simpa using hd
    rw [hd']
    clear hd hd'
    go_enter Try.func104, Try.ntmps104
    go_wp2
    go_ret
    exact ⟨rfl, Fr.alloc _ _ _⟩
  · have hq : (a.1 == b.1) = false := by simpa using hd
    have hd' : decide (a.1 = b.1) = false := by simpa using hd
    rw [hd']
    clear hd hd'
    go_enter Try.func104, Try.ntmps104
    go_wp2
    go_ret
    exact ⟨rfl, Fr.alloc _ _ _⟩

theorem lets_pred (to : Ad) (xs : List Ad) (B : Nat) {g : Nat} (hB : B ≠ g) : Pred Try.prog 104 #[.pointer (some ⟨B, 0, none⟩)] argA (fun y => decide (y.1 = to.1)) xs (fun _ => False) (fun _ W => BoxA W B to) g where
  enters := enters_of Try.func104 (by kernel_rfl) rfl
  out := fun h => h
  stays := fun j A C hJ hf => hJ.fr hf hB
  calls := fun j y W hy hJ => by
    refine (lets1_u y to B W (by rw [cell_of hJ]; rfl)).mono ?_
    rintro e w' ⟨rfl, hf⟩
    exact ⟨rfl, hJ.fr hf (fun h => h), hf⟩

set_option maxHeartbeats 1000000 in
theorem has103 (v : Value) (gp : Nat) (lb : Array Value) (xs : List Ad) (p : Ad → Bool) (J : Nat → World → Prop) (w : World) (hp : ∀ g, v.ownBlock = some g → Pred Try.prog gp lb argA p xs (fun _ => False) J g) (h0 : J 0 w) (hrow : Owns w 24 2 encA v xs) :
    Calls Try.prog 103 #[v, .func (.func gp) #[] lb] w fun e w' => e = .returned (.bool (xs.any p)) ∧ Fr0 w w' := by
  have hx : Calls Try.prog 120 #[v, .func (.func gp) #[] lb] w fun e w' => ∃ i : Int, e = .returned (.int .i64 i) ∧ decide (0 ≤ i) = xs.any p ∧ Fr0 w w' := by
    rcases hrow.shape with ⟨rfl, rfl⟩ | ⟨g, cap, rfl, _, _⟩
    · exact (ixfA_nil gp lb w).mono (fun e w' ⟨he, hw⟩ => ⟨-1, he, rfl, hw ▸ Fr.refl _ _⟩)
    · refine (ixfA g _ cap gp lb xs p w (hp g rfl) h0 hrow).mono ?_
      rintro e w' ⟨(⟨i, x, hi, hpx, _, rfl, _⟩ | ⟨ha, rfl, _⟩), hf⟩
      · refine ⟨i, rfl, ?_, hf⟩
        have : xs.any p = true := List.any_eq_true.2 ⟨x, List.mem_of_getElem? hi, hpx⟩
        rw [this]; simp
      · refine ⟨-1, rfl, ?_, hf⟩
        have : xs.any p = false := by rw [List.any_eq_false]; intro y hy; rw [ha y hy]; simp
        rw [this]; rfl
  have HX := Lib.hid hx
  clear hx hp h0
  obtain ⟨r, m, c, hs⟩ : ∃ r m c, v = .slice r m c := by
    rcases hrow.shape with ⟨hs, _⟩ | ⟨g, cap, hs, _⟩
    · exact ⟨_, _, _, hs⟩
    · exact ⟨_, _, _, hs⟩
  subst hs
  clear hrow
  go_enter Try.func103, Try.ntmps103
  go_wp2_with (go_at_call 120; refine HX.out.mono ?_; rintro e w1 ⟨i, rfl, hi, hf⟩; have HF := Lib.hid hf; have HI := Lib.hid hi; clear hf hi)
  go_ret
  exact ⟨by rw [← HI.out]; rfl, HF.out⟩

set_option maxRecDepth 100000 in
set_option maxHeartbeats 1000000 in
theorem index131 (v : Value) (xs : List Ad) (to : Ad) (w : World) (hrow : Owns w 24 2 encA v xs) :
    Calls Try.prog 131 #[v, argA to] w fun e w' => ∃ i : Int, e = .returned (.int .i64 i) ∧ decide (0 ≤ i) = xs.any (fun y => decide (y = to)) ∧ Fr0 w w' := by
  unfold argA
  rcases hrow.shape with ⟨rfl, rfl⟩ | ⟨g, cap, hv, hle, hcap⟩
  · clear hrow
    go_enter Try.func131, Try.ntmps131
    go_wp2
    go_loopw [8] (fun i wr => i = .int .i64 0 ∧ Hid (Fr0 w wr)) (fun i _ => 1 - (intOf i).toNat)
    case atStart => exact ⟨rfl, Fr.alloc _ _ _⟩
    case round =>
      obtain ⟨rfl, HF⟩ := hrel
      go_wp2
      go_ret
      exact ⟨_, rfl, rfl, HF.out⟩
  · obtain ⟨m, hm⟩ : ∃ m, m = xs.length := ⟨_, rfl⟩
    rw [← hm] at hv hle
    subst hv
    unfold maxLen at hcap
    have hmm : m ≤ 9223372036854775807 := by omega
    have hx := World.alloc_heap_new w (Obj.cells #[.int .u32 to.1, .int .i64 to.2] 24)
    have hf0 : Fr0 w (w.alloc (Obj.cells #[.int .u32 to.1, .int .i64 to.2] 24)) := Fr.alloc _ _ _
    have HM := Lib.hid hm
    have HR := Lib.hid (⟨hrow.fr hf0 (fun _ _ h => h), hx, hf0⟩ : _ ∧ _ ∧ _)
    clear hrow hm hx hf0 hle hcap
    go_enter Try.func131, Try.ntmps131
    go_wp2
    go_loopw [8] (fun i wr => ∃ j : Nat, j ≤ m ∧ i = .int .i64 j ∧ Hid ((∀ (t : Nat) (y : Ad), t < j → xs[t]? = some y → y ≠ to) ∧ Fr0 (w.alloc (Obj.cells #[.int .u32 to.1, .int .i64 to.2] 24)) wr)) (fun i _ => m - (intOf i).toNat)
    case atStart => exact ⟨0, Nat.zero_le _, rfl, fun t y ht => by omega, Fr.refl _ _⟩
    case round =>
      obtain ⟨j, hj, rfl, HJ⟩ := hrel
      by_cases hlt : j < m
      · have hltz : (j : Int) < (m : Int) := by omega
        obtain ⟨y, hy⟩ : ∃ y, xs[j]? = some y := ⟨xs[j]'(by rw [← HM.out]; exact hlt), by simp [← HM.out, hlt]⟩
        have hr := HR.out.1.fr HJ.out.2 (fun _ _ h => h)
        have hb : BoxA wr w.heap.size to := HJ.out.2.heap HR.out.2.1 (fun h => h)
        have c0 : wr.cell? ⟨g, j * 2, none⟩ = some (.int .u32 y.1) := by have := hr.cellAt encA_len hy (j := 0) (by omega); simpa [encA] using this
        have c1 : wr.cell? ⟨g, j * 2 + 1, none⟩ = some (.int .i64 y.2) := by have := hr.cellAt encA_len hy (j := 1) (by omega); simpa [encA] using this
        have t0 : wr.cell? ⟨w.heap.size, 0, none⟩ = some (.int .u32 to.1) := by rw [cell_of hb]; rfl
        have t1 : wr.cell? ⟨w.heap.size, 1, none⟩ = some (.int .i64 to.2) := by rw [cell_of hb]; rfl
        have q := eql24
        have HY := Lib.hid hy
        clear hr hb hy
        by_cases hq : to = y
        · have hne : eqI to.1 to.2 y.1 y.2 = true := by rw [eqI_iff]; simpa using hq
          have HQ := Lib.hid hq
          clear hq
          go_wp2_with (go_quiet (fail))
          go_ret
          refine ⟨j, rfl, ?_, HR.out.2.2.then (HJ.out.2.then (Fr.drewN _ _ _))⟩
          have : (xs.any fun z => decide (z = to)) = true := List.any_eq_true.2 ⟨y, List.mem_of_getElem? HY.out, by simpa using HQ.out.symm⟩
          rw [this]; simp
        · have hne : eqI to.1 to.2 y.1 y.2 = false := by rw [eqI_iff]; simpa using hq
          have HQ := Lib.hid hq
          clear hq
          go_wp2_with (go_quiet (fail))
          go_roundw
          case rel => exact ⟨j + 1, by omega, by go_num, fun t z ht hz => by
            by_cases e : t = j
            · subst e; rw [HY.out] at hz; cases hz; exact fun e => HQ.out e.symm
            · exact HJ.out.1 t z (by omega) hz, HJ.out.2.then (Fr.drewN _ _ _)⟩
          case measure => simp [intOf]; omega
      · have hltz : ¬ (j : Int) < (m : Int) := by omega
        have e : j = m := by omega
        subst e
        go_wp2
        go_ret
        refine ⟨-1, rfl, ?_, HR.out.2.2.then HJ.out.2⟩
        have : (xs.any fun z => decide (z = to)) = false := by
          rw [List.any_eq_false]
          intro z hz
          obtain ⟨t, ht, rfl⟩ := List.mem_iff_getElem.1 hz
          simpa using HJ.out.1 t _ (by rw [HM.out]; exact ht) (by simp [ht])
        rw [this]; rfl

theorem has105 (v : Value) (xs : List Ad) (to : Ad) (w : World) (hrow : Owns w 24 2 encA v xs) :
    Calls Try.prog 105 #[v, argA to] w fun e w' => e = .returned (.bool (xs.any fun y => decide (y = to))) ∧ Fr0 w w' := by
  have hx := index131 v xs to (w.alloc (Obj.cells #[.int .u32 to.1, .int .i64 to.2] 24)) (hrow.fr (Fr.alloc (fun _ => False) _ _) (fun _ _ h => h))
  obtain ⟨r, m, c, hs⟩ : ∃ r m c, v = .slice r m c := by
    rcases hrow.shape with ⟨hs, _⟩ | ⟨g, cap, hs, _⟩
    · exact ⟨_, _, _, hs⟩
    · exact ⟨_, _, _, hs⟩
  subst hs
  unfold argA at hx ⊢
  have HX := Lib.hid hx
  clear hx hrow
  go_enter Try.func105, Try.ntmps105
  go_wp2_with (go_at_call 131; refine HX.out.mono ?_; rintro e w1 ⟨i, rfl, hi, hf⟩; have HF := Lib.hid hf; have HI := Lib.hid hi; clear hf hi)
  go_ret
  exact ⟨by rw [← HI.out]; rfl, (Fr.alloc _ _ _).then HF.out⟩

end Go.Proofs.Ytkdbjeegiiihaaa
