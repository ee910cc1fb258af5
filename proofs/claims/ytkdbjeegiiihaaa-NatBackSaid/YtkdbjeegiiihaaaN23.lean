/-
  As many bindings as may be: the walk. Conditions: none.
-/
import Derived.Test.YtkdbjeegiiihaaaPF
import Derived.Test.YtkdbjeegiiihaaaN22
set_option linter.unusedVariables false
set_option linter.unusedSimpArgs false
namespace Go.Proofs.Ytkdbjeegiiihaaa
open Go.RowKit Go.Shelf

/-- All that is told at a time that may be: so many. -/
theorem all_len (n : Nat) (F : Nat → Prop) (s : St) (now : Int) (w : World) (h : NatAt w n F s) (ho : onOk s now = true) :
    Calls Try.prog 16 #[.pointer (some ⟨n, 0, none⟩), .int .i64 now] w fun e w' => ∃ r c, e = .returned (.slice r (onS s now).l.length c) ∧ NatAt w' n F (onS s now) ∧ Fr F w w' := by
  refine (all_good n F s now w h ho).mono ?_
  rintro e w' ⟨v, l', rfl, hp, _, hO, _, hN, hf⟩
  have hl := hp.length_eq
  rcases hO.shape with ⟨rfl, h2⟩ | ⟨g, cap, rfl, _⟩
  · subst h2
    exact ⟨none, 0, by rw [← hl]; rfl, hN, hf⟩
  · exact ⟨_, _, by rw [hl], hN, hf⟩

/-- What holds between the steps: c bindings are there. -/
def FullI (w : World) (n : Nat) (m p : Int) (to : Ad) (c : Nat) (wr : World) : Prop :=
  Fr (fun b => w.heap.size ≤ b) w wr ∧ (∃ F, NatAt wr n F (sF m p to c) ∧ ∀ q, F q → w.heap.size + 1 ≤ q) ∧ BoxA wr w.heap.size to

set_option maxRecDepth 100000 in
set_option maxHeartbeats 4000000 in
theorem full_any (m p : Int) (m0 : 0 ≤ m) (m1 : m ≤ 255) (p0 : 0 ≤ p) (p1 : p ≤ 255) (to : Ad) (w : World) : Calls Try.prog 3 #[.int .u8 m, .int .u8 p, argA to] w fun e w' => e = .returned (.bool true) ∧ Below w.heap.size w w' := by
  have hb := fun W => box13 0 (by decide) (by decide) W
  rw [show argX (boxL 0) = .agg #[.int .u32 3405803777, .int .i64 40000, .int .i64 40009, .int .i64 0, .int .i64 0, .int .i64 30, .int .i64 12] from rfl] at hb
  have HA := Lib.hid awake_any
  have HB := Lib.hid hb
  clear hb
  unfold argA
  go_enter Try.func3, Try.ntmps3
  go_wp2_with (first
    | (go_at_call 12; refine (HA.out _).mono ?_; rintro e w1 ⟨rfl, hf⟩; have H1 := Lib.hid hf; clear hf)
    | (go_at_call 13; refine (HB.out _).mono ?_; rintro e w2 ⟨rfl, hf⟩; have H2 := Lib.hid hf; clear hf)
    | fail)
  refine named fun W3 hW3 => ?_
  have hz1 : w.heap.size + 1 ≤ w1.heap.size := by have := H1.out.size; simpa using this
  have hz2 := H2.out.size
  have hW3' : Fr (fun b => w.heap.size ≤ b) w W3 := by
    rw [hW3]
    exact (((((Fr.alloc _ _ _).then0 (Fr.of_below H1.out)).then0 H2.out).then0 (Fr.alloc _ _ _)))
  have HG3 := Lib.hid hW3'
  clear hW3'
  refine (new_good (xF m p) W3 (xF_may m p m0 p0)).mono ?_
  rintro e w4 ⟨n, rfl, hn, hN, hf⟩
  have hT : BoxA W3 w.heap.size to := by
    rw [hW3]
    have h0 : BoxA (w.alloc (Obj.cells #[.int .u32 to.1, .int .i64 to.2] 24)) w.heap.size to := World.alloc_heap_new w _
    exact ((h0.fr (Fr.of_below (S := fun _ => False) H1.out) (fun h => h)).fr H2.out (fun h => h)).fr (Fr.alloc (fun _ => False) _ _) (fun h => h)
  have hz3 : W3.heap.size = w2.heap.size + 1 := by rw [hW3]; simp
  obtain ⟨cx, zx, lx⟩ := keep hf (b := w2.heap.size) (by omega) (fun h => h)
  have hlow : ∀ q, (W3.heap.size ≤ q ∧ q < w4.heap.size) → w.heap.size + 1 ≤ q := fun q hq => by omega
  have HS := Lib.hid (⟨HG3.out.then0 hf, ⟨_, hN, fun q hq => hlow q hq⟩, hT.fr hf (fun h => h)⟩ : FullI w n m p to 0 w4)
  clear hN hf hT hn hlow
  go_wp2_with fail
  rw [show min (1 + m % 12) (40000 + p % 12 - 40000 + 1) = ((kF m p : Nat) : Int) from by unfold kF; omega]
  have hk14 : kF m p ≤ 12 := by unfold kF; omega
  generalize hk : kF m p = k at *
  have HK := Lib.hid hk
  clear hk
  go_loopw [11] (fun r wr => ∃ j : Nat, j ≤ 2 ∧ r = .int .i64 j ∧ Hid (FullI w n m p to 0 wr)) (fun r _ => 2 - (intOf r).toNat)
  case atStart => exact ⟨0, by omega, rfl, HS⟩
  case round =>
    obtain ⟨j, hj, rfl, HI⟩ := hrel
    by_cases hlt : j < 2
    · have hjd : decide ((j : Int) < 2) = true := by simp; omega
      go_wp2_with fail
      go_loopw [12] (fun i wr => ∃ t : Nat, t ≤ 14 ∧ i = .int .i64 t ∧ Hid (FullI w n m p to (min t k) wr)) (fun i _ => 14 - (intOf i).toNat)
      case atStart => exact ⟨0, by omega, rfl, by simpa using HI⟩
      case round =>
        obtain ⟨t, ht, rfl, HJ⟩ := hrel
        by_cases hlt2 : t < 14
        · obtain ⟨hG, ⟨F, hN, hF⟩, hT⟩ := HJ.out
          have c0 : wr.cell? ⟨w.heap.size, 0, none⟩ = some (.int .u32 to.1) := by rw [cell_of hT]; rfl
          have c1 : wr.cell? ⟨w.heap.size, 1, none⟩ = some (.int .i64 to.2) := by rw [cell_of hT]; rfl
          have hl := lt_of_heap hT
          have nF : ¬ F w.heap.size := fun h => by have := hF _ h; omega
          have HJ' := Lib.hid (⟨hG, hN, hF, hT⟩ : _ ∧ _ ∧ _ ∧ _)
          clear hG hN hF hT
          go_wp2_with fail
          refine (out_any n F _ 0 (1 + (t : Int), 9) to wr HJ'.out.2.1).mono ?_
          cases hto : mayA to
          · rw [full_bad _ _ to hto]
            rintro e w5 ⟨rfl, hN5, hf5⟩
            have H5 := Lib.hid (HJ'.out.1.then (hf5.mono (fun b _ h => by have := HJ'.out.2.2.1 b h; omega)))
            clear hN5 hf5 hto
            unfold argA
            go_wp2_with fail
            go_ret
            exact ⟨rfl, (H5.out.then0 (Fr.alloc _ _ _)).belowN (Nat.le_refl _) (fun b h => h)⟩
          · have hst := full_step m p m0 p0 to hto t hlt2
            rw [HK.out] at hst
            rw [hst]
            rintro e w5 ⟨rfl, hN5, hf5⟩
            have hI5 : ∀ o, FullI w n m p to (min (t + 1) k) (w5.alloc o) := fun o =>
              ⟨(HJ'.out.1.then (hf5.mono (fun b _ h => by have := HJ'.out.2.2.1 b h; omega))).then0 (Fr.alloc _ _ _), ⟨_, hN5.fr0 (Fr.alloc _ _ _), fun q hq => hq.elim (HJ'.out.2.2.1 q) (fun h => by omega)⟩, (HJ'.out.2.2.2.fr hf5 nF).fr (Fr.alloc (fun _ => False) _ _) (fun h => h)⟩
            have H5 := Lib.hid hI5
            clear hN5 hf5 hst hI5 hto
            unfold argA
            by_cases htk : t < k
            · have htd : decide (t < k) = true := by simpa using htk
              rw [if_pos htk]
              go_wp2_with fail
              go_roundw
              case rel => exact ⟨t + 1, by omega, by go_num, Lib.hid (H5.out _)⟩
              case measure => simp [intOf]; omega
            · have htd : decide (t < k) = false := by simpa using htk
              rw [if_neg htk]
              go_wp2_with fail
              go_roundw
              case rel => exact ⟨t + 1, by omega, by go_num, Lib.hid (H5.out _)⟩
              case measure => simp [intOf]; omega
        · obtain rfl : t = 14 := by omega
          have hcall : Calls Try.prog 16 #[.pointer (some ⟨n, 0, none⟩), .int .i64 0] wr fun e w' => ∃ r c, e = .returned (.slice r k c) ∧ ∃ F, Hid (NatAt w' n F (sF m p to k) ∧ (∀ q, F q → w.heap.size + 1 ≤ q) ∧ Fr (fun b => w.heap.size ≤ b) w w' ∧ BoxA w' w.heap.size to) := by
            obtain ⟨hG, ⟨F, hN, hF⟩, hT⟩ := HJ.out
            rw [show min 14 k = k by omega] at hN
            refine (all_len n F _ 0 wr hN (by simp [onOk, sF])).mono ?_
            rw [lF_on]
            rintro e w' ⟨r, c, rfl, hN', hf'⟩
            have hlen : (sF m p to k).l.length = k := lF_len to k
            rw [hlen]
            exact ⟨r, c, rfl, F, hN', hF, hG.then (hf'.mono (fun b _ h => by have := hF b h; omega)), hT.fr hf' (fun h => by have := hF _ h; omega)⟩
          have HC := Lib.hid hcall
          clear hcall
          have hreb : ∀ F W, NatAt W n F (sF m p to k) → Calls Try.prog 17 #[.pointer (some ⟨n, 0, none⟩)] W fun e w' => e = .returned (.tuple #[]) ∧ NatAt w' n F (sF m p to 0) ∧ Fr F W w' := fun F W h => reboot_any n F _ W h
          have HR := Lib.hid hreb
          clear hreb
          go_wp2_with (first
            | (go_at_call 16; refine HC.out.mono ?_; rintro e w6 ⟨r, c, rfl, F, H6⟩)
            | (go_at_call 17; refine (HR.out F _ H6.out.1).mono ?_; rintro e w7 ⟨rfl, hN7, hf7⟩; have H7 := Lib.hid (show FullI w n m p to 0 w7 from ⟨H6.out.2.2.1.then (hf7.mono (fun b _ h => by have := H6.out.2.1 b h; omega)), ⟨F, hN7, H6.out.2.1⟩, H6.out.2.2.2.fr hf7 (fun h => by have := H6.out.2.1 _ h; omega)⟩); clear hN7 hf7))
          go_roundw
          case rel => exact ⟨j + 1, by omega, by go_num, H7⟩
          case measure => simp [intOf]; omega
    · obtain rfl : j = 2 := by omega
      have hcall : Calls Try.prog 16 #[.pointer (some ⟨n, 0, none⟩), .int .i64 0] wr fun e w' => ∃ r c, e = .returned (.slice r 0 c) ∧ Hid (Fr (fun b => w.heap.size ≤ b) w w') := by
        obtain ⟨hG, ⟨F, hN, hF⟩, hT⟩ := HI.out
        refine (all_len n F _ 0 wr hN (by simp [onOk, sF])).mono ?_
        rw [lF_on]
        rintro e w' ⟨r, c, rfl, hN', hf'⟩
        exact ⟨r, c, rfl, hG.then (hf'.mono (fun b _ h => by have := hF b h; omega))⟩
      have HC := Lib.hid hcall
      clear hcall
      go_wp2_with (go_at_call 16; refine HC.out.mono ?_; rintro e w6 ⟨r, c, rfl, H6⟩)
      go_ret
      exact ⟨rfl, H6.out.belowN (Nat.le_refl _) (fun b h => h)⟩

end Go.Proofs.Ytkdbjeegiiihaaa
