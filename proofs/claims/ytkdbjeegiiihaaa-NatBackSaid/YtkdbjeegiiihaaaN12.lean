/-
  A box made, told, rebooted; what goes out, in one sentence. Conditions: the ones each theorem names.
-/
import Derived.Test.YtkdbjeegiiihaaaN11
set_option linter.unusedVariables false
set_option linter.unusedSimpArgs false
namespace Go.Proofs.Ytkdbjeegiiihaaa
open Go.RowKit Go.Shelf

theorem grow_lt {F : Nat → Prop} {A B : World} (hF : ∀ q, F q → q < A.heap.size) (h : A.heap.size ≤ B.heap.size) : ∀ q, grow F A B q → q < B.heap.size := fun q hq => hq.elim (fun k => Nat.lt_of_lt_of_le (hF q k) h) (fun k => k.2)

theorem out_any (n : Nat) (F : Nat → Prop) (s : St) (now : Int) (a to : Ad) (w : World) (h : NatAt w n F s) :
    Calls Try.prog 15 #[.pointer (some ⟨n, 0, none⟩), .int .i64 now, argA a, argA to] w fun e w' => e = .returned (.tuple #[argA (outS s now a to).2.1, .int .i64 (outS s now a to).2.2]) ∧ NatAt w' n (grow F w w') (outS s now a to).1 ∧ Fr F w w' := by
  unfold outS
  by_cases hc : mayA a = true ∧ mayA to = true ∧ onOk s now = true
  · rw [if_pos hc]
    cases hr : byR s.x (onS s now).l a to with
    | none => exact (out_full n F s now a to w h hc.1 hc.2.1 hc.2.2 hr).mono (fun e w' ⟨he, hN, hf⟩ => ⟨he, hN.grow hf.size, hf⟩)
    | some p =>
      obtain ⟨l2, i⟩ := p
      have hok := onS_ok h.ok hc.2.2
      have hi := (byR_ok hr hok.len hok.seen).2.2
      have hb : l2[i]? = some l2[i] := by simp [hi]
      simp only [hb]
      exact out_good n F s now a to w h hc.1 hc.2.1 hc.2.2 hr hb
  · rw [if_neg hc]
    exact (out_bad n F s now a to w h hc).mono (fun e w' ⟨he, hf⟩ => ⟨he, (h.fr0 hf).grow hf.size, hf.mono (fun _ _ h => h.elim)⟩)

theorem new_bad (x : Bx) (w : World) (hx : mayX x = false) : Calls Try.prog 14 #[argX x] w fun e w' => e = .returned (.tuple #[.pointer none, .int .i64 1]) ∧ Fr0 w w' := by
  have cm := fun W => mayX_any x W
  rw [hx] at cm
  have HC := Lib.hid cm
  clear cm hx
  unfold argX at HC ⊢
  go_enter Try.func14, Try.ntmps14
  go_wp2_with (go_at_call 43; refine (HC.out _).mono ?_; rintro e w1 ⟨rfl, hf⟩; have HF := Lib.hid hf; clear hf)
  go_ret2
  exact ⟨rfl, (Fr.alloc _ _ _).then HF.out⟩

theorem new_good (x : Bx) (w : World) (hx : mayX x = true) : Calls Try.prog 14 #[argX x] w fun e w' => ∃ n, e = .returned (.tuple #[.pointer (some ⟨n, 0, none⟩), .int .i64 0]) ∧ w.heap.size ≤ n ∧ NatAt w' n (fun q => w.heap.size ≤ q ∧ q < w'.heap.size) ⟨x, 0, []⟩ ∧ Fr0 w w' := by
  have cm := fun W => mayX_any x W
  rw [hx] at cm
  have HC := Lib.hid cm
  have hb : ∀ W, Fr0 (w.alloc (Obj.cells #[.int .u32 x.host, .int .i64 x.lo, .int .i64 x.hi, .int .i64 x.map, .int .i64 x.fil, .int .i64 x.life, .int .i64 x.most] 27)) W → (∀ i, i < 7 → W.cell? ⟨w.heap.size, i, none⟩ = #[Value.int .u32 x.host, .int .i64 x.lo, .int .i64 x.hi, .int .i64 x.map, .int .i64 x.fil, .int .i64 x.life, .int .i64 x.most][i]?) := fun W hf i hi => by
    rw [cell_of (hf.heap (World.alloc_heap_new w _) (fun h => h))]
  have HB := Lib.hid hb
  have hfin : ∀ w1 W, Fr0 (w.alloc (Obj.cells #[.int .u32 x.host, .int .i64 x.lo, .int .i64 x.hi, .int .i64 x.map, .int .i64 x.fil, .int .i64 x.life, .int .i64 x.most] 27)) w1 → W = w1.alloc (Obj.cells (cellsN x (.slice none 0 0) 0) 103) → w.heap.size ≤ w1.heap.size ∧ NatAt W w1.heap.size (fun q => w.heap.size ≤ q ∧ q < W.heap.size) ⟨x, 0, []⟩ ∧ Fr0 w W := by
    rintro w1 W hf rfl
    have h1 : Fr0 w w1 := (Fr.alloc _ _ _).then hf
    refine ⟨h1.size, ⟨⟨[], .slice none 0 0, ⟨World.alloc_heap_new w1 _, Owns.nil _ _ _ _, fun e he => (by cases he), List.nodup_nil, List.Pairwise.nil⟩, rfl, fun q hq => ?_⟩, fun q hq => hq.2, ⟨hx, Int.le_refl _, by simp, ?_, fun b hb => (by cases hb)⟩⟩, h1.then (Fr.alloc _ _ _)⟩
    · rcases hq with rfl | hq | ⟨e, he, _⟩
      · exact ⟨h1.size, by simp⟩
      · cases hq
      · cases he
    · have : 1 ≤ x.most := by simp [mayX] at hx; omega
      simp; omega
  have HF := Lib.hid hfin
  clear cm hx hb hfin
  unfold argX at HC ⊢
  go_enter Try.func14, Try.ntmps14
  go_wp2_with (go_at_call 43; refine (HC.out _).mono ?_; rintro e w1 ⟨rfl, hf⟩; have q0 := HB.out _ hf 0 (by decide); have q1 := HB.out _ hf 1 (by decide); have q2 := HB.out _ hf 2 (by decide); have q3 := HB.out _ hf 3 (by decide); have q4 := HB.out _ hf 4 (by decide); have q5 := HB.out _ hf 5 (by decide); have q6 := HB.out _ hf 6 (by decide); simp only [List.getElem?_toArray, List.getElem?_cons_zero, List.getElem?_cons_succ] at q0 q1 q2 q3 q4 q5 q6; have HX := Lib.hid hf; clear hf)
  go_ret2
  obtain ⟨k1, k2, k3⟩ := HF.out _ _ HX.out rfl
  exact ⟨_, rfl, k1, k2, k3⟩

theorem reboot_any (n : Nat) (F : Nat → Prop) (s : St) (w : World) (h : NatAt w n F s) : Calls Try.prog 17 #[.pointer (some ⟨n, 0, none⟩)] w fun e w' => e = .returned (.tuple #[]) ∧ NatAt w' n F ⟨s.x, 0, []⟩ ∧ Fr F w w' := by
  obtain ⟨es, v, hm, hl, hF⟩ := h.mem
  have h7 := hm.at7
  have h8 : w.cell? ⟨n, 8, none⟩ = some (.int .i64 s.now) := by rw [cell_of hm.blk]; rfl
  have z7 := frz_of hm.blk 7
  have z8 := frz_of hm.blk 8
  have hfin : ∀ W, W = (w.setCell ⟨n, 7, none⟩ (.slice none 0 0)).setCell ⟨n, 8, none⟩ (.int .i64 0) → NatAt W n F ⟨s.x, 0, []⟩ ∧ Fr F w W := by
    rintro W rfl
    have hf : Fr (fun q => q = n) w ((w.setCell ⟨n, 7, none⟩ (.slice none 0 0)).setCell ⟨n, 8, none⟩ (.int .i64 0)) := (Fr.setCell (S := fun q => q = n) _ _ _ rfl).then (Fr.setCell _ _ _ rfl)
    have hfF : Fr F w ((w.setCell ⟨n, 7, none⟩ (.slice none 0 0)).setCell ⟨n, 8, none⟩ (.int .i64 0)) := hf.mono (fun b _ e => hF b (.inl e))
    refine ⟨⟨⟨[], .slice none 0 0, ⟨set_cells (set_cells hm.blk 7 _ rfl) 8 _ rfl, Owns.nil _ _ _ _, fun e he => (by cases he), List.nodup_nil, List.Pairwise.nil⟩, rfl, fun q hq => ?_⟩, fun q hq => Nat.lt_of_lt_of_le (h.low q hq) hfF.size, ⟨h.ok.may, Int.le_refl _, by simp, ?_, fun b hb => (by cases hb)⟩⟩, hfF⟩
    · rcases hq with rfl | hq | ⟨e, he, _⟩
      · exact hF _ (.inl rfl)
      · cases hq
      · cases he
    · have := h.ok.len; simp; omega
  have HF := Lib.hid hfin
  clear hfin hm hl hF h
  go_enter Try.func17, Try.ntmps17
  go_wp2
  go_end0
  obtain ⟨k1, k2⟩ := HF.out _ rfl
  exact ⟨rfl, k1, k2⟩

end Go.Proofs.Ytkdbjeegiiihaaa
