/-
  What the document fixes of a box: 'awake' answers true. Conditions: none.
-/
import Derived.Test.YtkdbjeegiiihaaaN21
set_option linter.unusedVariables false
set_option linter.unusedSimpArgs false
namespace Go.Proofs.Ytkdbjeegiiihaaa
open Go.RowKit Go.Shelf

/-- A block that lies outside what was turned lies as it lay. -/
theorem keep {F : Nat → Prop} {w w' : World} (h : Fr F w w') {b : Nat} (hb : b < w.heap.size) (hF : ¬ F b) :
    (∀ o, w'.cell? ⟨b, o, none⟩ = w.cell? ⟨b, o, none⟩) ∧ (∀ o, w'.frozen? ⟨b, o, none⟩ = w.frozen? ⟨b, o, none⟩) ∧ b < w'.heap.size :=
  ⟨fun _ => World.cell?_of_block (h.block b hb hF), fun _ => World.frozen?_of_block (h.block b hb hF), Nat.lt_of_lt_of_le hb h.size⟩
theorem not_grow {F : Nat → Prop} {A B : World} {b : Nat} (h : ¬ F b) (hb : b < A.heap.size) : ¬ grow F A B b := fun k => k.elim h (fun k => by omega)

theorem keepg {F : Nat → Prop} {w w' : World} (h : Fr F w w') {b : Nat} (hb : b < w.heap.size) (hF : ¬ F b) :
    (∀ o, w'.cell? ⟨b, o, none⟩ = w.cell? ⟨b, o, none⟩) ∧ (∀ o, w'.frozen? ⟨b, o, none⟩ = w.frozen? ⟨b, o, none⟩) ∧ b < w'.heap.size ∧ ¬ grow F w w' b :=
  ⟨(keep h hb hF).1, (keep h hb hF).2.1, (keep h hb hF).2.2, not_grow hF hb⟩
/-- The world at a call, under a name. -/
theorem named {P : Program} {f : FuncId} {args : Array Value} {W : World} {Q : Ending → World → Prop} (h : ∀ W', W' = W → Calls P f args W' Q) : Calls P f args W Q := h W rfl

theorem argX4 : argX (boxL 4) = .agg #[.int .u32 3405803777, .int .i64 40000, .int .i64 40009, .int .i64 1, .int .i64 1, .int .i64 30, .int .i64 12] := rfl
theorem eql27_boxL4 (w : World) : (binOp .eql 27 (.agg #[.int .u32 3405803777, .int .i64 40000, .int .i64 40009, .int .i64 1, .int .i64 1, .int .i64 30, .int .i64 12]) (.agg #[.int .u32 3405803777, .int .i64 40000, .int .i64 40009, .int .i64 1, .int .i64 1, .int .i64 30, .int .i64 12])).run Try.prog w = .ok (.bool true) w := by kernel_rfl

set_option maxRecDepth 100000 in
set_option maxHeartbeats 4000000 in
theorem awake_any (w : World) : Calls Try.prog 12 #[] w fun e w' => e = .returned (.bool true) ∧ Below w.heap.size w w' := by
  have hb := fun W => box13 4 (by decide) (by decide) W
  rw [argX4] at hb
  have hn := fun W => new_good (boxL 4) W (boxL_may 4 (by decide))
  rw [argX4] at hn
  have q := eql24
  have q27 := eql27_boxL4
  have HB := Lib.hid hb
  have HN := Lib.hid hn
  clear hb hn
  go_enter Try.func12, Try.ntmps12
  go_wp2_with (first
    | (go_at_call 13; refine (HB.out _).mono ?_; rintro e w1 ⟨rfl, hf⟩; have H1 := Lib.hid hf; clear hf)
    | (go_at_call 14; refine (HN.out _).mono ?_; rintro e w2 ⟨n, rfl, hnw, hN, hf⟩; have H2 := Lib.hid (⟨hnw, hN, hf⟩ : _ ∧ _ ∧ _); clear hnw hN hf)
    | fail)
  obtain ⟨F, hF⟩ : ∃ F : Nat → Prop, F = (fun q => w1.heap.size ≤ q ∧ q < w2.heap.size) := ⟨_, rfl⟩
  rw [← hF] at H2
  have nA : ¬ F w2.heap.size := by rw [hF]; omega
  have nB : ¬ F (w2.heap.size + 1) := by rw [hF]; omega
  have HlF := Lib.hid (show ∀ q, F q → w1.heap.size ≤ q by rw [hF]; intro q hq; exact hq.1)
  clear hF
  have hz1 : w.heap.size ≤ w1.heap.size := H1.out.size
  refine named fun W3 hW3 => ?_
  have f3 : Fr0 w2 W3 := by rw [hW3]; exact (Fr.alloc _ _ _).then (Fr.alloc _ _ _)
  have HG3 := Lib.hid (show Fr (fun b => w.heap.size ≤ b) w W3 from ((H1.out.then H2.out.2.2).then f3).of0)
  have HN3 := Lib.hid (H2.out.2.1.fr0 f3)
  clear f3
  refine (out_any n F stA 1 inA toA W3 HN3.out).mono ?_
  rintro e w4 ⟨rfl, hN4, hf4⟩
  rw [awake_out]
  obtain ⟨ca, za, la, ga⟩ := keepg hf4 (b := w2.heap.size) (by rw [hW3]; simp; omega) nA
  obtain ⟨cb, zb, lb, gb⟩ := keepg hf4 (b := w2.heap.size + 1) (by rw [hW3]; simp) nB
  clear nA nB
  have hlow4 : ∀ q, grow F W3 w4 q → w.heap.size ≤ q := fun q hq => hq.elim (fun k => Nat.le_trans hz1 (HlF.out q k)) (fun k => Nat.le_trans HG3.out.size k.1)
  have HG4 := Lib.hid (HG3.out.then (hf4.mono (fun b _ k => Nat.le_trans hz1 (HlF.out b k))))
  have H4 := Lib.hid hN4
  obtain ⟨F4, hF4⟩ : ∃ F4, F4 = grow F W3 w4 := ⟨_, rfl⟩
  rw [← hF4] at H4 ga gb hlow4
  have nC : ¬ F4 w4.heap.size := fun k => absurd (H4.out.low _ k) (Nat.lt_irrefl _)
  have HL4 := Lib.hid hlow4
  clear hN4 hf4 hF4 hlow4
  unfold argA
  go_wp2_with fail
  refine named fun W5 hW5 => ?_
  have f5 : Fr0 w4 W5 := by rw [hW5]; exact Fr.alloc _ _ _
  have HN5 := Lib.hid (H4.out.fr0 f5)
  have HG5 := Lib.hid (HG4.out.then0 f5)
  clear f5
  refine (in_any n F4 st1 2 40000 toA W5 HN5.out).mono ?_
  rintro e w6 ⟨rfl, hN6, hf6⟩
  rw [awake_in1]
  obtain ⟨ca6, za6, la6⟩ := keep hf6 (b := w2.heap.size) (by rw [hW5]; simp; omega) ga
  obtain ⟨cb6, zb6, lb6⟩ := keep hf6 (b := w2.heap.size + 1) (by rw [hW5]; simp; omega) gb
  obtain ⟨cc6, zc6, lc6⟩ := keep hf6 (b := w4.heap.size) (by rw [hW5]; simp) nC
  have HG6 := Lib.hid (HG5.out.then (hf6.mono (fun b _ k => HL4.out b k)))
  have H6 := Lib.hid hN6
  clear hN6 hf6
  have nD : ¬ F4 w6.heap.size := fun k => absurd (H6.out.low _ k) (Nat.lt_irrefl _)
  unfold argA
  go_wp2_with fail
  refine named fun W7 hW7 => ?_
  have f7 : Fr0 w6 W7 := by rw [hW7]; exact Fr.alloc _ _ _
  have HN7 := Lib.hid (H6.out.fr0 f7)
  have HG7 := Lib.hid (HG6.out.then0 f7)
  clear f7
  refine (in_any n F4 st2 2 40000 (9, 53) W7 HN7.out).mono ?_
  rintro e w8 ⟨rfl, hN8, hf8⟩
  rw [awake_in2]
  obtain ⟨ca8, za8, la8⟩ := keep hf8 (b := w2.heap.size) (by rw [hW7]; simp; omega) ga
  obtain ⟨cb8, zb8, lb8⟩ := keep hf8 (b := w2.heap.size + 1) (by rw [hW7]; simp; omega) gb
  obtain ⟨cc8, zc8, lc8⟩ := keep hf8 (b := w4.heap.size) (by rw [hW7]; simp; omega) nC
  obtain ⟨cd8, zd8, ld8⟩ := keep hf8 (b := w6.heap.size) (by rw [hW7]; simp) nD
  have HG8 := Lib.hid (HG7.out.then (hf8.mono (fun b _ k => HL4.out b k)))
  have H8 := Lib.hid hN8
  clear hN8 hf8
  unfold argA
  go_wp2_with fail
  refine named fun W9 hW9 => ?_
  have f9 : Fr0 w8 W9 := by rw [hW9]; exact Fr.alloc _ _ _
  have HN9 := Lib.hid (H8.out.fr0 f9)
  have HG9 := Lib.hid (HG8.out.then0 f9)
  clear f9
  refine (in_any n F4 st3 31 40000 toA W9 HN9.out).mono ?_
  rintro e wa ⟨rfl, hNa, hfa⟩
  rw [awake_in3]
  obtain ⟨caa, zaa, laa⟩ := keep hfa (b := w2.heap.size) (by rw [hW9]; simp; omega) ga
  obtain ⟨cca, zca, lca⟩ := keep hfa (b := w4.heap.size) (by rw [hW9]; simp; omega) nC
  obtain ⟨cda, zda, lda⟩ := keep hfa (b := w6.heap.size) (by rw [hW9]; simp; omega) nD
  have HGa := Lib.hid (HG9.out.then (hfa.mono (fun b _ k => HL4.out b k)))
  have Ha := Lib.hid hNa
  clear hNa hfa
  unfold argA
  have hq : eqI inA.fst inA.snd 167772161 5 = true := by decide
  go_wp2_with (first
    | (go_at_call 21; refine (box_any n F4 _ _ (Ha.out.fr0 (Fr.alloc _ _ _))).mono ?_; rintro e wb ⟨rfl, hfb⟩; rw [awake_x, argX4]; have HBx := Lib.hid hfb; clear hfb)
    | (go_at_call 13; refine (HB.out _).mono ?_; rintro e wc ⟨rfl, hfc⟩; have HCx := Lib.hid hfc; clear hfc))
  go_ret
  exact ⟨rfl, (((HGa.out.then0 (Fr.alloc _ _ _)).then0 HBx.out).then0 HCx.out).belowN (Nat.le_refl _) (fun b h => h)⟩

end Go.Proofs.Ytkdbjeegiiihaaa
