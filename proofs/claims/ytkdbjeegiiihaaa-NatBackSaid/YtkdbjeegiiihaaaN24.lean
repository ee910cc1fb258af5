/-
  A binding that was asked for: the walk. Conditions: none.
-/
import Derived.Test.YtkdbjeegiiihaaaPA
import Derived.Test.YtkdbjeegiiihaaaN23
import Derived.Test.YtkdbjeegiiihaaaArgs
set_option linter.unusedVariables false
set_option linter.unusedSimpArgs false
namespace Go.Proofs.Ytkdbjeegiiihaaa
open Go.RowKit Go.Shelf

theorem neq24 (a b c d : Int) (w : World) : (binOp .neq 24 (.agg #[.int .u32 a, .int .i64 b]) (.agg #[.int .u32 c, .int .i64 d])).run Try.prog w = .ok (.bool (!eqI a b c d)) w := by
  rw [run_neq_struct, eq24]; rfl
theorem eqI_self (a b : Int) : eqI a b a b = true := by simp [eqI]

/-- What holds between the steps. -/
def AskI (w : World) (n : Nat) (c : Int) (a : Ad) (wr : World) : Prop :=
  Fr (fun b => w.heap.size ≤ b) w wr ∧ (∃ F now seen, NatAt wr n F (sA c a now 50 seen) ∧ now ≤ 1 ∧ ∀ q, F q → w.heap.size + 1 ≤ q) ∧ BoxA wr w.heap.size a
theorem AskI.alloc {w wr : World} {n : Nat} {c : Int} {a : Ad} (h : AskI w n c a wr) (o : Obj) : AskI w n c a (wr.alloc o) := by
  obtain ⟨h1, ⟨F, now, seen, h2, h3, h4⟩, h5⟩ := h
  exact ⟨h1.then0 (Fr.alloc _ _ _), ⟨F, now, seen, h2.fr0 (Fr.alloc _ _ _), h3, h4⟩, h5.fr (Fr.alloc (fun _ => False) _ _) (fun h => h)⟩
theorem AskI.fr0 {w wr W : World} {n : Nat} {c : Int} {a : Ad} (h : AskI w n c a wr) (hf : Fr0 wr W) : AskI w n c a W := by
  obtain ⟨h1, ⟨F, now, seen, h2, h3, h4⟩, h5⟩ := h
  exact ⟨h1.then0 hf, ⟨F, now, seen, h2.fr0 hf, h3, h4⟩, h5.fr hf (fun h => h)⟩

/-- The same, and a variable at B that holds the answer's address. -/
def AskB (w : World) (n : Nat) (c : Int) (a r : Ad) (B : Nat) (wr : World) : Prop :=
  Fr (fun b => w.heap.size ≤ b) w wr ∧ (∃ F now seen, NatAt wr n F (sA c a now 50 seen) ∧ now ≤ 1 ∧ ∀ q, F q → w.heap.size + 1 ≤ q ∧ q ≠ B) ∧ BoxA wr w.heap.size a ∧ BoxA wr B r ∧ w.heap.size < B
theorem AskB.toI {w : World} {n : Nat} {c : Int} {a r : Ad} {B : Nat} {wr : World} (h : AskB w n c a r B wr) : AskI w n c a wr := by
  obtain ⟨h1, ⟨F, now, seen, h2, h3, h4⟩, h5, _⟩ := h
  exact ⟨h1, ⟨F, now, seen, h2, h3, fun q hq => (h4 q hq).1⟩, h5⟩

def outA (o : Ad) : Ad × Int := if mayA o = true then ((3405803777, 40005), 0) else ((0, 0), 1)
theorem ask_out (w wr : World) (n : Nat) (c : Int) (a o : Ad) (hma : mayA a = true) (h : AskI w n c a wr) (W : World) (hf : Fr0 wr W) :
    Calls Try.prog 15 #[.pointer (some ⟨n, 0, none⟩), .int .i64 1, .agg #[.int .u32 a.1, .int .i64 a.2], .agg #[.int .u32 o.1, .int .i64 o.2]] W fun e w' =>
      e = .returned (.tuple #[.agg #[.int .u32 (outA o).1.1, .int .i64 (outA o).1.2], .int .i64 (outA o).2]) ∧
      (wr.heap.size < W.heap.size → ∀ k, w'.cell? ⟨wr.heap.size, k, none⟩ = W.cell? ⟨wr.heap.size, k, none⟩ ∧ w'.frozen? ⟨wr.heap.size, k, none⟩ = W.frozen? ⟨wr.heap.size, k, none⟩) ∧
      Hid ((∀ r, AskB w n c a r w'.heap.size (w'.alloc (Obj.cells #[.int .u32 r.1, .int .i64 r.2] 24))) ∧
        (∀ (r z : Ad), W.heap[wr.heap.size]? = some (.cells #[.int .u32 z.1, .int .i64 z.2] 24 (0, 0)) → wr.heap.size < W.heap.size → AskB w n c a r wr.heap.size ((w'.setCell ⟨wr.heap.size, 0, none⟩ (.int .u32 r.1)).setCell ⟨wr.heap.size, 1, none⟩ (.int .i64 r.2)))) ∧ W.heap.size ≤ w'.heap.size := by
  obtain ⟨hG, ⟨F, now, seen, hN, hnow, hF⟩, hT⟩ := h
  have hlT := lt_of_heap hT
  have nF : ¬ F w.heap.size := fun h => by have := hF _ h; omega
  have key : ∃ seen', (outS (sA c a now 50 seen) 1 a o) = (sA c a (if mayA o = true then 1 else now) 50 seen', (outA o).1, (outA o).2) := by
    cases hmo : mayA o
    · exact ⟨seen, by rw [outA_bad _ _ _ _ hmo]; simp [outA, hmo]⟩
    · exact ⟨seeS seen o, by rw [outA_good c a o now 1 50 seen hma hmo hnow (by decide) (by decide)]; simp [outA, hmo]⟩
  obtain ⟨seen', key⟩ := key
  refine (out_any n F _ 1 a o W (hN.fr0 hf)).mono ?_
  rw [key]
  rintro e w' ⟨rfl, hN5, hf5⟩
  have hsz := hf.size
  have hn1 : (if mayA o = true then (1 : Int) else now) ≤ 1 := by split <;> omega
  have hG5 : Fr (fun b => w.heap.size ≤ b) w w' := hG.then (hf.of0.then (hf5.mono (fun q _ h => by have := hF q h; omega)))
  have hT5 : BoxA w' w.heap.size a := (hT.fr hf (fun h => h)).fr hf5 nF
  have hF5 : ∀ q, grow F W w' q → w.heap.size + 1 ≤ q := fun q hq => hq.elim (hF q) (fun h => by omega)
  refine ⟨rfl, fun hlt k => ?_, ⟨fun r => ?_, fun r z hz hlt => ?_⟩, hf5.size⟩
  · have := keep hf5 hlt (fun h => absurd (hN.low _ h) (Nat.lt_irrefl _))
    exact ⟨this.1 k, this.2.1 k⟩
  · exact ⟨hG5.then0 (Fr.alloc _ _ _), ⟨_, _, seen', hN5.fr0 (Fr.alloc _ _ _), hn1, fun q hq => ⟨hF5 q hq, fun e => absurd (hN5.low q hq) (by omega)⟩⟩, hT5.fr (Fr.alloc (fun _ => False) _ _) (fun h => h), World.alloc_heap_new _ _, by have := hf5.size; omega⟩
  · have hnb : ¬ F wr.heap.size := fun h => absurd (hN.low _ h) (Nat.lt_irrefl _)
    have hB5 : BoxA w' wr.heap.size z := hf5.heap hz hnb
    have hS := boxA_fr (W := w') (b := wr.heap.size) (u := .int .u32 r.1) (v := .int .i64 r.2)
    have hne : ∀ q, grow F W w' q → q ≠ wr.heap.size := fun q hq e => hq.elim (fun h => hnb (e ▸ h)) (fun h => by omega)
    exact ⟨hG5.then (hS.mono (fun b _ e => by omega)), ⟨_, _, seen', hN5.fr hS (fun q hq e => hne q hq e), hn1, fun q hq => ⟨hF5 q hq, hne q hq⟩⟩, hT5.fr hS (fun e => by omega), boxA_set hB5, by omega⟩

set_option maxRecDepth 100000 in
set_option maxHeartbeats 4000000 in
theorem asked_law (c : Int) (c0 : 0 ≤ c) (c1 : c ≤ 255) (a : Ad) (v : Value) (xs : List Ad) (w : World) (hA : Arg w 2 encA v xs) : Calls Try.prog 5 #[.int .u8 c, argA a, v] w fun e w' => e = .returned (.bool true) ∧ Below w.heap.size w w' := by
  obtain ⟨r, cp, rfl, hmax, hcells⟩ := hA
  unfold maxLen at hmax
  obtain ⟨len, hlen⟩ : ∃ len, xs.length = len := ⟨_, rfl⟩
  rw [hlen] at hmax ⊢
  have HL := Lib.hid hlen
  have HX := Lib.hid hcells
  have HA := Lib.hid awake_any
  have HB := Lib.hid (fun W => box13 c c0 c1 W)
  have HN := Lib.hid (fun W => new_good (boxL c) W (boxL_may c c0))
  clear hlen hcells
  have q1 := eql24
  have q2 := neq24
  unfold argA
  by_cases h20 : 20 < len
  · have hd : decide (20 < (len : Int)) = true := by simp; omega
    go_enter Try.func5, Try.ntmps5
    go_wp2_with (first
      | (go_at_call 12; refine (HA.out _).mono ?_; rintro e w1 ⟨rfl, hf⟩; have H1 := Lib.hid hf; clear hf)
      | (go_at_call 13; refine (HB.out _).mono ?_; rintro e w2 ⟨rfl, hf⟩; have H2 := Lib.hid hf; clear hf)
      | (go_at_call 14; refine (HN.out _).mono ?_; rintro e w3 ⟨n, rfl, hnw, hN, hf⟩; have H3 := Lib.hid (⟨hnw, hN, hf⟩ : _ ∧ _ ∧ _); clear hnw hN hf))
    go_ret
    exact ⟨rfl, ((((Fr.alloc (fun b => w.heap.size ≤ b) _ _).then0 (Fr.of_below H1.out)).then0 H2.out).then0 H3.out.2.2).belowN (Nat.le_refl _) (fun b h => h)⟩
  · have hd : decide (20 < (len : Int)) = false := by simp; omega
    go_enter Try.func5, Try.ntmps5
    go_wp2_with (first
      | (go_at_call 12; refine (HA.out _).mono ?_; rintro e w1 ⟨rfl, hf⟩; have H1 := Lib.hid hf; clear hf; obtain ⟨ca1, za1, la1⟩ := keep (Fr.of_below (S := fun _ => False) H1.out) (b := w.heap.size) (by simp) (fun h => h))
      | (go_at_call 13; refine (HB.out _).mono ?_; rintro e w2 ⟨rfl, hf⟩; have H2 := Lib.hid hf; clear hf; obtain ⟨ca2, za2, la2⟩ := keep H2.out (b := w.heap.size) la1 (fun h => h))
      | (go_at_call 14; refine (HN.out _).mono ?_; rintro e w3 ⟨n, rfl, hnw, hN, hf⟩; have H3 := Lib.hid (⟨hnw, hN, hf⟩ : _ ∧ _ ∧ _); clear hnw hN hf; obtain ⟨ca3, za3, la3⟩ := keep H3.out.2.2 (b := w.heap.size) la2 (fun h => h))
      | fail)
    have hG3 : Fr (fun b => w.heap.size ≤ b) w w3 := (((Fr.alloc (fun b => w.heap.size ≤ b) _ _).then0 (Fr.of_below H1.out)).then0 H2.out).then0 H3.out.2.2
    have hT3 : BoxA w3 w.heap.size a := by
      have h0 : BoxA (w.alloc (Obj.cells #[.int .u32 a.1, .int .i64 a.2] 24)) w.heap.size a := World.alloc_heap_new w _
      exact ((h0.fr (Fr.of_below (S := fun _ => False) H1.out) (fun h => h)).fr H2.out (fun h => h)).fr H3.out.2.2 (fun h => h)
    have hz2 : w.heap.size + 1 ≤ w2.heap.size := la2
    cases hma : mayA a
    · refine (ask_any n _ ⟨boxL c, 0, []⟩ 0 a 40005 50 w3 H3.out.2.1).mono ?_
      rw [askA_bad _ _ _ _ _ hma]
      rintro e w4 ⟨rfl, hN4, hf4⟩
      have H4 := Lib.hid (hG3.then (hf4.mono (fun b _ h => by omega)))
      clear hN4 hf4 hG3 hT3
      go_wp2_with fail
      go_ret
      exact ⟨rfl, H4.out.belowN (Nat.le_refl _) (fun b h => h)⟩
    · refine (ask_any n _ ⟨boxL c, 0, []⟩ 0 a 40005 50 w3 H3.out.2.1).mono ?_
      rw [askA_first c a hma]
      rintro e w4 ⟨rfl, hN4, hf4⟩
      have H4 := Lib.hid (show AskI w n c a w4 from ⟨hG3.then (hf4.mono (fun b _ h => by omega)), ⟨_, 0, [], hN4, by decide, fun q hq => hq.elim (fun h => by omega) (fun h => by have := H3.out.2.2.size; omega)⟩, hT3.fr hf4 (fun h => by omega)⟩)
      clear hN4 hf4 hG3 hT3
      have HM := Lib.hid hma
      clear hma
      go_wp2_with fail
      go_loopw [11] (fun i wr => ∃ j : Nat, j ≤ len ∧ i = .int .i64 j ∧ Hid (AskI w n c a wr)) (fun i _ => len - (intOf i).toNat)
      case atStart => exact ⟨0, Nat.zero_le _, rfl, H4⟩
      case round =>
        obtain ⟨j, hj, rfl, HI⟩ := hrel
        by_cases hlt : j < len
        · obtain ⟨o, ho⟩ : ∃ o, xs[j]? = some o := ⟨xs[j]'(by rw [HL.out]; exact hlt), by simp [HL.out, hlt]⟩
          obtain ⟨b, off, hr, hbl, hcs⟩ := HX.out.resolve_left (fun h => by rw [h] at ho; simp at ho)
          subst hr
          obtain ⟨hG, ⟨F, now, seen, hN, hnow, hF⟩, hT⟩ := HI.out
          have o0 : wr.cell? ⟨b, off + j * 2, none⟩ = some (.int .u32 o.1) := hG.cell (hcs j o ho 0 _ rfl) (fun h => by simp at h; omega)
          have o1 : wr.cell? ⟨b, off + j * 2 + 1, none⟩ = some (.int .i64 o.2) := hG.cell (hcs j o ho 1 _ rfl) (fun h => by simp at h; omega)
          have c0' : wr.cell? ⟨w.heap.size, 0, none⟩ = some (.int .u32 a.1) := by rw [cell_of hT]; rfl
          have c1' : wr.cell? ⟨w.heap.size, 1, none⟩ = some (.int .i64 a.2) := by rw [cell_of hT]; rfl
          have hl := lt_of_heap hT
          have hlb : b < wr.heap.size := Nat.lt_of_lt_of_le hbl hG.size
          have HO := Lib.hid (⟨o0, o1⟩ : _ ∧ _)
          have HC := Lib.hid (ask_out w wr n c a o HM.out HI.out)
          have HBl := Lib.hid (show ∀ W, Fr (fun b => w.heap.size ≤ b) w W → W.cell? ⟨b, off + j * 2, none⟩ = some (.int .u32 o.1) ∧ W.cell? ⟨b, off + j * 2 + 1, none⟩ = some (.int .i64 o.2) from fun W hf => ⟨hf.cell (hcs j o ho 0 _ rfl) (fun h => by simp at h; omega), hf.cell (hcs j o ho 1 _ rfl) (fun h => by simp at h; omega)⟩)
          clear hG hN hT hF hnow hcs ho
          go_wp2_with fail
          apply later
          · intro HT
            go_region_with (refine (HC.out _ (by first | exact Fr.drew _ _ | exact (Fr.drew _ _).then (Fr.alloc _ _ _) | exact (Fr.alloc _ _ _).then (Fr.drew _ _))).mono ?_; rintro e w5 ⟨rfl, hk, H5, hz⟩; simp at hk)
            all_goals first
              | (have HP := Lib.hid (H5.out.2 (outA o).1 (0, 0) (by first | exact World.alloc_heap_new wr _ | (have := World.alloc_heap_new wr.drew (Obj.cells #[Value.int .u32 0, Value.int .i64 0] 24); exact this)) (by simp)); generalize wr.heap.size = B at HP ⊢; generalize (w5.setCell ⟨B, 0, none⟩ (.int .u32 (outA o).1.1)).setCell ⟨B, 1, none⟩ (.int .i64 (outA o).1.2) = W' at HP ⊢; clear hk H5 hz; revert B W' HP; exact HT.out)
              | (have HP := Lib.hid (H5.out.1 (outA o).1); generalize w5.heap.size = B at HP ⊢; generalize w5.alloc (Obj.cells #[.int .u32 (outA o).1.1, .int .i64 (outA o).1.2] 24) = W' at HP ⊢; clear hk H5 hz; revert B W' HP; exact HT.out)
          · intro B W' HP
            cases hmo : mayA o
            · have e2 : outA o = ((0, 0), 1) := by simp [outA, hmo]
              rw [e2] at HP ⊢
              dsimp only at HP ⊢
              clear hmo e2
              go_wp2_with fail
              go_roundw
              case rel => exact ⟨j + 1, by omega, by go_num, Lib.hid HP.out.toI⟩
              case measure => simp [intOf]; omega
            · have e2 : outA o = ((3405803777, 40005), 0) := by simp [outA, hmo]
              rw [e2] at HP ⊢
              dsimp only at HP ⊢
              obtain ⟨hG, ⟨F, now, seen, hN, hnow, hF⟩, hT, hB, hwB⟩ := HP.out
              obtain ⟨k0, k1⟩ := HBl.out W' hG
              have nT : ¬ F w.heap.size := fun h => by have := (hF _ h).1; omega
              have nB : ¬ F B := fun h => (hF _ h).2 rfl
              have hlT := lt_of_heap hT
              have hlB := lt_of_heap hB
              have b1 : W'.cell? ⟨B, 1, none⟩ = some (.int .i64 40005) := by rw [cell_of hB]; rfl
              have t0 : W'.cell? ⟨w.heap.size, 0, none⟩ = some (.int .u32 a.1) := by rw [cell_of hT]; rfl
              have t1 : W'.cell? ⟨w.heap.size, 1, none⟩ = some (.int .i64 a.2) := by rw [cell_of hT]; rfl
              have hcall := (in_any n F (sA c a now 50 seen) 1 40005 o W' hN)
              rw [inA_good c a o now 1 50 seen hmo hnow (by decide) (by decide)] at hcall
              have HN' := Lib.hid (⟨hcall, hG, hT, hF⟩ : _ ∧ _ ∧ _ ∧ _)
              have hq := eqI_self a.1 a.2
              clear hcall hN hG hT hB hF hnow hmo e2 HP
              go_wp2_with fail
              refine HN'.out.1.mono ?_
              rintro e w6 ⟨rfl, hN6, hf6⟩
              obtain ⟨cb6, zb6, lb6⟩ := keep hf6 hlB nB
              obtain ⟨ct6, zt6, lt6⟩ := keep hf6 hlT nT
              have H6 := Lib.hid (show AskI w n c a w6 from ⟨HN'.out.2.1.then (hf6.mono (fun q _ h => by have := (HN'.out.2.2.2 q h).1; omega)), ⟨F, 1, seen, hN6, by decide, fun q hq => (HN'.out.2.2.2 q hq).1⟩, HN'.out.2.2.1.fr hf6 nT⟩)
              clear hN6 hf6
              unfold argA
              dsimp only
              go_wp2_with fail
              go_roundw
              case rel => exact ⟨j + 1, by omega, by go_num, Lib.hid (H6.out.alloc _)⟩
              case measure => simp [intOf]; omega
        · obtain rfl : j = len := by omega
          obtain ⟨hG, ⟨F, now, seen, hN, hnow, hF⟩, hT⟩ := HI.out
          have nT : ¬ F w.heap.size := fun h => by have := hF _ h; omega
          have hlT := lt_of_heap hT
          have t0 : wr.cell? ⟨w.heap.size, 0, none⟩ = some (.int .u32 a.1) := by rw [cell_of hT]; rfl
          have t1 : wr.cell? ⟨w.heap.size, 1, none⟩ = some (.int .i64 a.2) := by rw [cell_of hT]; rfl
          have hcall := ask_any n F (sA c a now 50 seen) 2 a 40009 60 wr hN
          rw [askA_again c a now 2 50 60 40009 seen HM.out (by omega) (by decide) (by decide) (by decide)] at hcall
          have HC := Lib.hid (⟨hcall, hG, hF⟩ : _ ∧ _ ∧ _)
          have hq := eqI_self a.1 a.2
          clear hcall hN hG hT hF hnow
          go_wp2_with fail
          refine HC.out.1.mono ?_
          rintro e w5 ⟨rfl, hN5, hf5⟩
          obtain ⟨ct5, zt5, lt5, nT5⟩ := keepg hf5 hlT nT
          obtain ⟨F5, hF5⟩ : ∃ F5, F5 = grow F wr w5 := ⟨_, rfl⟩
          have hlow5 : ∀ q, F5 q → w.heap.size ≤ q := by rw [hF5]; exact fun q hq => hq.elim (fun h => by have := HC.out.2.2 q h; omega) (fun h => by omega)
          rw [← hF5] at hN5 nT5
          have H5 := Lib.hid (⟨hN5, HC.out.2.1.then (hf5.mono (fun q _ h => by have := HC.out.2.2 q h; omega)), hlow5⟩ : _ ∧ (Fr (fun b => w.heap.size ≤ b) w w5) ∧ _)
          clear hN5 hf5 hF5 hlow5
          go_wp2_with fail
          have hcall := in_any n F5 (sA c a 2 60 seen) 59 40005 (5, 5) w5 H5.out.1
          rw [inA_good c a (5, 5) 2 59 60 seen (by decide) (by decide) (by decide) (by decide)] at hcall
          refine hcall.mono ?_
          clear hcall
          rintro e w6 ⟨rfl, hN6, hf6⟩
          obtain ⟨ct6, zt6, lt6⟩ := keep hf6 lt5 nT5
          have H6 := Lib.hid (⟨hN6, H5.out.2.1.then (hf6.mono (fun q _ h => H5.out.2.2 q h))⟩ : _ ∧ Fr (fun b => w.heap.size ≤ b) w w6)
          clear hN6 hf6
          unfold argA
          dsimp only
          go_wp2_with fail
          refine named fun W7 hW7 => ?_
          have f7 : Fr0 w6 W7 := by rw [hW7]; exact Fr.alloc _ _ _
          have nB7 : ¬ F5 w6.heap.size := fun h => absurd (H6.out.1.low _ h) (Nat.lt_irrefl _)
          have hcall := in_any n F5 (sA c a 59 60 seen) 60 40005 (5, 5) W7 (H6.out.1.fr0 f7)
          rw [inA_over c a (5, 5) 59 60 60 seen (by decide) (by decide) (by decide) (by decide)] at hcall
          refine hcall.mono ?_
          clear hcall
          rintro e w8 ⟨rfl, hN8, hf8⟩
          obtain ⟨ct8, zt8, lt8⟩ := keep hf8 (b := w.heap.size) (by rw [hW7]; simp; omega) nT5
          obtain ⟨cb8, zb8, lb8⟩ := keep hf8 (b := w6.heap.size) (by rw [hW7]; simp) nB7
          have H8 := Lib.hid (⟨hN8, (H6.out.2.then0 f7).then (hf8.mono (fun q _ h => H5.out.2.2 q h))⟩ : _ ∧ Fr (fun b => w.heap.size ≤ b) w w8)
          clear hN8 hf8 f7
          unfold argA
          dsimp only
          have hall : ∀ W, Fr0 w8 W → Calls Try.prog 16 #[.pointer (some ⟨n, 0, none⟩), .int .i64 60] W fun e w' => ∃ r c, e = .returned (.slice r 0 c) ∧ Hid (Fr (fun b => w.heap.size ≤ b) w w') := by
            intro W hf
            refine (all_len n F5 ⟨boxL c, 60, []⟩ 60 W (H8.out.1.fr0 hf) (by simp [onOk])).mono ?_
            rintro e w' ⟨r, c, rfl, hN', hf'⟩
            exact ⟨r, c, rfl, (H8.out.2.then0 hf).then (hf'.mono (fun q _ h => H5.out.2.2 q h))⟩
          have HAl := Lib.hid hall
          clear hall
          go_wp2_with (go_at_call 16; refine (HAl.out _ (Fr.alloc _ _ _)).mono ?_; rintro e w9 ⟨r9, c9, rfl, H9⟩)
          go_ret
          exact ⟨rfl, H9.out.belowN (Nat.le_refl _) (fun b h => h)⟩

end Go.Proofs.Ytkdbjeegiiihaaa
