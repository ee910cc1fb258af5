/-
  A box's bindings looked through by port; a free port chosen; an address as far as the box maps by it. Conditions: the ones each theorem names.
-/
import Derived.Test.YtkdbjeegiiihaaaN4
import Derived.WalkMore
import Derived.Deep.LoopGhost
set_option linter.unusedVariables false
set_option linter.unusedSimpArgs false
namespace Go.Proofs.Ytkdbjeegiiihaaa
open Go.RowKit Go.Shelf

def portB (p : Int) (b : Bd) : Bool := decide (b.port = p)

theorem NatM.elem {W : World} {n : Nat} {x : Bx} {now : Int} {es : List En} {g m cap : Nat} (h : NatM W n x now es (.slice (some ⟨g, 0, none⟩) m cap)) {j : Nat} {e : En} (he : es[j]? = some e) :
    W.cell? ⟨g, j, none⟩ = some (.pointer (some ⟨e.p, 0, none⟩)) ∧ ∀ i, W.cell? ⟨e.p, i, none⟩ = (cellsB e.b e.sv)[i]? := by
  refine ⟨?_, fun i => cell_of (h.ens e (List.mem_of_getElem? he)).blk i⟩
  have := h.row.cellAt encP_len (i := j) (x := e.p) (by simp [he]) (j := 0) (by omega)
  simpa [encP] using this
/-- The shape of the list's slice. -/
theorem NatM.shape {W : World} {n : Nat} {x : Bx} {now : Int} {es : List En} {v : Value} (h : NatM W n x now es v) :
    (v = .slice none 0 0 ∧ es = []) ∨ ∃ g cap m, v = .slice (some ⟨g, 0, none⟩) m cap ∧ m = es.length ∧ m ≤ cap ∧ cap ≤ 9223372036854775807 := by
  rcases h.row.shape with ⟨h1, h2⟩ | ⟨g, cap, h1, h2, h3⟩
  · exact .inl ⟨h1, by simpa using h2⟩
  · refine .inr ⟨g, cap, _, h1, by simp, h2, ?_⟩
    unfold maxLen at h3; omega
theorem NatM.at7 {W : World} {n : Nat} {x : Bx} {now : Int} {es : List En} {v : Value} (h : NatM W n x now es v) : W.cell? ⟨n, 7, none⟩ = some v := by rw [cell_of h.blk]; rfl

set_option maxRecDepth 100000 in
set_option maxHeartbeats 1000000 in
theorem at_any (n : Nat) (x : Bx) (now : Int) (es : List En) (v : Value) (p : Int) (w : World) (h : NatM w n x now es v) :
    Calls Try.prog 53 #[.pointer (some ⟨n, 0, none⟩), .int .i64 p] w fun e w' => ∃ u, e = .returned u ∧ Found es (portB p) u ∧ w' = w := by
  have h7 := h.at7
  rcases h.shape with ⟨rfl, rfl⟩ | ⟨g, cap, m, rfl, hm, hle, hcap⟩
  · clear h
    go_enter Try.func53, Try.ntmps53
    go_wp2
    go_loop [12] (fun i => i = .int .i64 0) (fun i => 1 - (intOf i).toNat)
    case atStart => rfl
    case round =>
      subst hrel
      go_wp2
      go_ret
      exact ⟨_, rfl, .inr ⟨fun d hd => (by cases hd), rfl⟩, rfl⟩
  · have hmm : m ≤ 9223372036854775807 := by omega
    have HM := Lib.hid hm
    have HH := Lib.hid h
    clear h hm hle hcap
    go_enter Try.func53, Try.ntmps53
    go_wp2
    go_loop [12] (fun i => ∃ j : Nat, j ≤ m ∧ i = .int .i64 j ∧ Hid (∀ t y, t < j → es[t]? = some y → portB p y.b = false)) (fun i => m - (intOf i).toNat)
    case atStart => exact ⟨0, Nat.zero_le _, rfl, fun t y ht => by omega⟩
    case round =>
      obtain ⟨j, hj, rfl, HJ⟩ := hrel
      by_cases hlt : j < m
      · have hltz : (j : Int) < (m : Int) := by omega
        obtain ⟨e0, he0⟩ : ∃ e0, es[j]? = some e0 := ⟨es[j]'(by rw [← HM.out]; exact hlt), by simp [← HM.out, hlt]⟩
        obtain ⟨hc0, hcs⟩ := HH.out.elem he0
        have k4 : w.cell? ⟨e0.p, 4, none⟩ = some (.int .i64 e0.b.port) := by rw [hcs]; rfl
        have HE := Lib.hid he0
        clear hcs he0
        by_cases hp : e0.b.port = p
        · have hpd : (e0.b.port == p) = true := by simpa using hp
          have HP := Lib.hid hp
          clear hp
          go_wp2
          go_ret
          exact ⟨_, rfl, .inl ⟨j, e0, HE.out, by simp [portB, HP.out], HJ.out, rfl⟩, rfl⟩
        · have hpd : (e0.b.port == p) = false := by simpa using hp
          have HP := Lib.hid hp
          clear hp
          go_wp2
          go_round
          case rel => exact ⟨j + 1, by omega, by go_num, fun t y ht hy => by
            by_cases e : t = j
            · subst e; rw [HE.out] at hy; cases hy; simp [portB, HP.out]
            · exact HJ.out t y (by omega) hy⟩
          case measure => simp [intOf]; omega
      · have hltz : ¬ (j : Int) < (m : Int) := by omega
        have e : j = m := by omega
        subst e
        go_wp2
        go_ret
        exact ⟨_, rfl, .inr ⟨fun d hd => by
          obtain ⟨t, ht, rfl⟩ := List.mem_iff_getElem.1 hd
          exact HJ.out t _ (by rw [HM.out]; exact ht) (by simp [ht]), rfl⟩, rfl⟩

/-- Another one, as far as a box maps by that. -/
def keyB (x : Bx) (a : Ad) : Ad := if x.map = 0 then (0, 0) else if x.map = 1 then (a.1, 0) else a

set_option maxHeartbeats 1000000 in
theorem towards_any (n : Nat) (x : Bx) (now : Int) (es : List En) (v : Value) (a : Ad) (w : World) (h : NatM w n x now es v) :
    Calls Try.prog 94 #[.pointer (some ⟨n, 0, none⟩), argA a] w fun e w' => e = .returned (argA (keyB x a)) ∧ Fr0 w w' := by
  have h3 : w.cell? ⟨n, 3, none⟩ = some (.int .i64 x.map) := by rw [cell_of h.blk]; rfl
  have hl := cell_lt h3
  have hl' : n < w.heap.size := hl
  have hl1 : n < w.heap.size + 1 := by omega
  clear h
  unfold argA
  have two24 : ∀ (b : Ad) {tmps : Array Value}, tmps.getD 4 undef = .pointer (some ⟨w.heap.size + 1, 0, none⟩) → bodyPost Try.prog Try.f94 (fun e w' => e = Ending.returned (Value.agg #[Value.int IntKind.u32 b.1, Value.int IntKind.i64 b.2]) ∧ Fr0 w w') Exit.ret { tmps := tmps, defers := [] }
      ((w.alloc (Obj.cells #[Value.int IntKind.u32 a.fst, Value.int IntKind.i64 a.snd] 24)).alloc (Obj.cells #[Value.int IntKind.u32 b.1, Value.int IntKind.i64 b.2] 24)) := by
    intro b tmps ht
    have hn := World.alloc_heap_new (w.alloc (Obj.cells #[Value.int IntKind.u32 a.fst, Value.int IntKind.i64 a.snd] 24)) (Obj.cells #[Value.int IntKind.u32 b.1, Value.int IntKind.i64 b.2] 24)
    rw [World.size_alloc] at hn
    exact bodyPost_ret (results_cell rfl _ _ _ ht (load24 (a := b) (by rw [cell_of hn]; rfl) (by rw [cell_of hn]; rfl))) rfl ⟨rfl, (Fr.alloc _ _ _).then (Fr.alloc _ _ _)⟩
  have H2 := Lib.hid @two24
  clear two24
  by_cases m0 : x.map = 0
  · have hk : keyB x a = (0, 0) := by simp [keyB, m0]
    rw [hk]
    have hd : (x.map == 0) = true := by simpa using m0
    clear m0 hk
    go_enter Try.func94, Try.ntmps94
    go_wp2
    exact H2.out (0, 0) rfl
  · have hd : (x.map == 0) = false := by simpa using m0
    by_cases m1 : x.map = 1
    · have hk : keyB x a = (a.1, 0) := by simp [keyB, m1]
      rw [hk]
      have hd1 : (x.map == 1) = true := by simpa using m1
      clear m0 m1 hk
      go_enter Try.func94, Try.ntmps94
      go_wp2
      exact H2.out (a.1, 0) rfl
    · have hk : keyB x a = a := by simp [keyB, m0, m1]
      rw [hk]
      have hd1 : (x.map == 1) = false := by simpa using m1
      clear m0 m1 hk
      go_enter Try.func94, Try.ntmps94
      go_wp2
      exact H2.out a rfl

/-- What a choice of a port is. -/
def freeP (es : List En) (p : Int) : Prop := ∀ e ∈ es, e.b.port ≠ p
def Choice (x : Bx) (es : List En) (wish : Int) (r : Option Int) : Prop :=
  (x.lo ≤ wish ∧ wish ≤ x.hi ∧ freeP es wish ∧ r = some wish) ∨
  (¬ (x.lo ≤ wish ∧ wish ≤ x.hi ∧ freeP es wish) ∧
    ((∃ p, x.lo ≤ p ∧ p ≤ x.hi ∧ freeP es p ∧ (∀ q, x.lo ≤ q → q < p → ¬ freeP es q) ∧ r = some p) ∨ ((∀ q, x.lo ≤ q → q ≤ x.hi → ¬ freeP es q) ∧ r = none)))

theorem found_free {es : List En} {p : Int} {u : Value} (h : Found es (portB p) u) : (freeP es p ∧ u = .pointer none) ∨ (¬ freeP es p ∧ ∃ b, u = .pointer (some ⟨b, 0, none⟩)) := by
  rcases h with ⟨i, d, hd, hp, _, rfl⟩ | ⟨ha, rfl⟩
  · exact .inr ⟨fun hf => hf d (List.mem_of_getElem? hd) (by simpa [portB] using hp), d.p, rfl⟩
  · exact .inl ⟨fun e he hp => by have := ha e he; simp [portB, hp] at this, rfl⟩

theorem NatM.shape1 {W : World} {n : Nat} {x : Bx} {now : Int} {es : List En} {v : Value} (h : NatM W n x now es v) :
    ∃ r m cap, v = .slice r m cap ∧ m = es.length ∧ m ≤ cap ∧ cap ≤ 9223372036854775807 ∧ (∀ (j : Nat) (e : En), es[j]? = some e → ∃ g, r = some ⟨g, 0, none⟩) := by
  rcases h.shape with ⟨h1, h2⟩ | ⟨g, cap, m, h1, h2, h3, h4⟩
  · exact ⟨none, 0, 0, h1, by rw [h2]; rfl, Nat.le_refl _, by omega, fun j e he => by rw [h2] at he; simp at he⟩
  · exact ⟨_, m, cap, h1, h2, h3, h4, fun _ _ _ => ⟨g, rfl⟩⟩

set_option maxRecDepth 100000 in
set_option maxHeartbeats 4000000 in
theorem choose_any (n : Nat) (x : Bx) (now : Int) (es : List En) (v : Value) (wish : Int) (w : World) (h : NatM w n x now es v) (hx : mayX x = true) :
    Calls Try.prog 102 #[.pointer (some ⟨n, 0, none⟩), .int .i64 wish] w fun e w' => ∃ r, Choice x es wish r ∧ e = .returned (.tuple #[.int .i64 (r.getD 0), .bool r.isSome]) ∧ w' = w := by
  have h7 := h.at7
  have h1 : w.cell? ⟨n, 1, none⟩ = some (.int .i64 x.lo) := by rw [cell_of h.blk]; rfl
  have h2 : w.cell? ⟨n, 2, none⟩ = some (.int .i64 x.hi) := by rw [cell_of h.blk]; rfl
  have hx' : 1 ≤ x.lo ∧ x.lo ≤ x.hi ∧ x.hi ≤ 65535 := by simp [mayX] at hx; omega
  obtain ⟨q1, q2, q3⟩ := hx'
  have hat := fun p => at_any n x now es v p w h
  obtain ⟨r, m, cap, hv, hm, hle, hcap, hg⟩ := h.shape1
  have hmm : m ≤ 9223372036854775807 := by omega
  subst hv
  have HM := Lib.hid hm
  have HG := Lib.hid hg
  have HC := Lib.hid hat
  have HH := Lib.hid h
  clear h hat hx hm hle hcap hg
  have hcase : (x.lo ≤ wish ∧ wish ≤ x.hi ∧ Hid (freeP es wish)) ∨ (Hid (¬ (x.lo ≤ wish ∧ wish ≤ x.hi ∧ freeP es wish)) ∧ ((x.lo ≤ wish ∧ wish ≤ x.hi ∧ Hid (¬ freeP es wish)) ∨ (x.lo ≤ wish ∧ ¬ wish ≤ x.hi) ∨ ¬ x.lo ≤ wish)) := by
    by_cases w1 : x.lo ≤ wish
    · by_cases w2 : wish ≤ x.hi
      · by_cases wf : freeP es wish
        · exact .inl ⟨w1, w2, wf⟩
        · exact .inr ⟨fun hh => wf hh.2.2, .inl ⟨w1, w2, wf⟩⟩
      · exact .inr ⟨fun hh => w2 hh.2.1, .inr (.inl ⟨w1, w2⟩)⟩
    · exact .inr ⟨fun hh => w1 hh.1, .inr (.inr w1)⟩
  rcases hcase with ⟨w1, w2, HF⟩ | ⟨HN, hcase⟩
  · have hc := (HC.out wish).mono (R' := fun e w' => e = .returned (.pointer none) ∧ w' = w) (fun e w' ⟨u, he, hu, hw⟩ => by
      rcases found_free hu with ⟨_, rfl⟩ | ⟨hn, _⟩
      · exact ⟨he, hw⟩
      · exact absurd HF.out hn)
    have HC2 := Lib.hid hc
    clear hc
    go_enter Try.func102, Try.ntmps102
    go_wp2
    go_step3
    go_wp2_with (go_at_call 53; refine HC2.out.mono ?_; rintro e w' ⟨rfl, rfl⟩)
    try rw [Exit.noGoto_ret]
    go_ret2
    exact ⟨some wish, .inl ⟨w1, w2, HF.out, rfl⟩, rfl, rfl⟩
  · rcases hcase with ⟨w1, w2, HF⟩ | ⟨w1, w2⟩ | w1
    · have hc := (HC.out wish).mono (R' := fun e w' => ∃ b, e = .returned (.pointer (some ⟨b, 0, none⟩)) ∧ w' = w) (fun e w' ⟨u, he, hu, hw⟩ => by
        rcases found_free hu with ⟨hn, _⟩ | ⟨_, b, rfl⟩
        · exact absurd hn HF.out
        · exact ⟨b, he, hw⟩)
      have HC2 := Lib.hid hc
      clear hc
      go_enter Try.func102, Try.ntmps102
      go_wp2
      go_step3
      go_wp2_with (go_at_call 53; refine HC2.out.mono ?_; rintro e w2 ⟨b, rfl, hw⟩; obtain rfl : w = w2 := hw.symm)
      go_step3
      go_wp2
      go_loopg [6] ((x.hi + 1 - x.lo).toNat) (fun k i wr => ∃ port : Int, i = .int .i64 port ∧ k = (x.hi + 1 - port).toNat ∧ x.lo ≤ port ∧ port ≤ x.hi + 1 ∧ wr = w ∧ Hid (∀ q, x.lo ≤ q → q < port → ¬ freeP es q))
      case atStart => exact ⟨x.lo, rfl, rfl, Int.le_refl _, by omega, rfl, fun q h1 h2 => by omega⟩
      case round =>
        obtain ⟨port, rfl, hk, hp1, hp2, rfl, HQ⟩ := hrel
        by_cases hpl : port ≤ x.hi
        · go_wp2
          go_loopg [51] m (fun k i wr2 => ∃ j : Nat, j ≤ m ∧ i = .int .i64 j ∧ k = m - j ∧ wr2 = wr ∧ Hid (∀ (t : Nat) (y : En), t < j → es[t]? = some y → y.b.port ≠ port))
          case atStart => exact ⟨0, Nat.zero_le _, rfl, rfl, rfl, fun t y ht => by omega⟩
          case round =>
            obtain ⟨j, hj, rfl, hkj, rfl, HJ⟩ := hrel
            by_cases hlt : j < m
            · have hltz : (j : Int) < (m : Int) := by omega
              obtain ⟨e0, he0⟩ : ∃ e0, es[j]? = some e0 := ⟨es[j]'(by rw [← HM.out]; exact hlt), by simp [← HM.out, hlt]⟩
              obtain ⟨g, rfl⟩ := HG.out j e0 he0
              obtain ⟨hc0, hcs⟩ := HH.out.elem he0
              have k4 : wr.cell? ⟨e0.p, 4, none⟩ = some (.int .i64 e0.b.port) := by rw [hcs]; rfl
              have HE := Lib.hid he0
              clear hcs he0
              by_cases hp : e0.b.port = port
              · have hpd : (e0.b.port == port) = true := by simpa using hp
                have HP := Lib.hid hp
                clear hp
                go_wp2
                go_roundg ((x.hi + 1 - (port + 1)).toNat)
                case rel => exact ⟨port + 1, by go_num, rfl, by omega, by omega, rfl, fun q h1 h2 => by
                  by_cases e : q = port
                  · subst e; exact fun hf => hf e0 (List.mem_of_getElem? HE.out) HP.out
                  · exact HQ.out q h1 (by omega)⟩
                case measure => omega
              · have hpd : (e0.b.port == port) = false := by simpa using hp
                have HP := Lib.hid hp
                clear hp
                go_wp2
                go_roundg (m - (j + 1))
                case rel => exact ⟨j + 1, by omega, by go_num, rfl, rfl, fun t y ht hy => by
                  by_cases e : t = j
                  · subst e; rw [HE.out] at hy; cases hy; exact HP.out
                  · exact HJ.out t y (by omega) hy⟩
                case measure => omega
            · have hltz : ¬ (j : Int) < (m : Int) := by omega
              have e : j = m := by omega
              subst e
              go_wp2
              try rw [Exit.noGoto_ret]
              go_ret2
              exact ⟨some port, .inr ⟨HN.out, .inl ⟨port, hp1, hpl, fun d hd => by
                obtain ⟨t, ht, rfl⟩ := List.mem_iff_getElem.1 hd
                exact HJ.out t _ (by rw [HM.out]; exact ht) (by simp [ht]), HQ.out, rfl⟩⟩, rfl, rfl⟩
        · go_wp2
          try rw [Exit.noGoto_ret]
          go_ret2
          exact ⟨none, .inr ⟨HN.out, .inr ⟨fun q h1 h2 => HQ.out q h1 (by omega), rfl⟩⟩, rfl, rfl⟩
    · go_enter Try.func102, Try.ntmps102
      go_wp2
      go_step3
      go_wp2
      go_step3
      go_wp2
      go_loopg [6] ((x.hi + 1 - x.lo).toNat) (fun k i wr => ∃ port : Int, i = .int .i64 port ∧ k = (x.hi + 1 - port).toNat ∧ x.lo ≤ port ∧ port ≤ x.hi + 1 ∧ wr = w ∧ Hid (∀ q, x.lo ≤ q → q < port → ¬ freeP es q))
      case atStart => exact ⟨x.lo, rfl, rfl, Int.le_refl _, by omega, rfl, fun q h1 h2 => by omega⟩
      case round =>
        obtain ⟨port, rfl, hk, hp1, hp2, rfl, HQ⟩ := hrel
        by_cases hpl : port ≤ x.hi
        · go_wp2
          go_loopg [51] m (fun k i wr2 => ∃ j : Nat, j ≤ m ∧ i = .int .i64 j ∧ k = m - j ∧ wr2 = wr ∧ Hid (∀ (t : Nat) (y : En), t < j → es[t]? = some y → y.b.port ≠ port))
          case atStart => exact ⟨0, Nat.zero_le _, rfl, rfl, rfl, fun t y ht => by omega⟩
          case round =>
            obtain ⟨j, hj, rfl, hkj, rfl, HJ⟩ := hrel
            by_cases hlt : j < m
            · have hltz : (j : Int) < (m : Int) := by omega
              obtain ⟨e0, he0⟩ : ∃ e0, es[j]? = some e0 := ⟨es[j]'(by rw [← HM.out]; exact hlt), by simp [← HM.out, hlt]⟩
              obtain ⟨g, rfl⟩ := HG.out j e0 he0
              obtain ⟨hc0, hcs⟩ := HH.out.elem he0
              have k4 : wr.cell? ⟨e0.p, 4, none⟩ = some (.int .i64 e0.b.port) := by rw [hcs]; rfl
              have HE := Lib.hid he0
              clear hcs he0
              by_cases hp : e0.b.port = port
              · have hpd : (e0.b.port == port) = true := by simpa using hp
                have HP := Lib.hid hp
                clear hp
                go_wp2
                go_roundg ((x.hi + 1 - (port + 1)).toNat)
                case rel => exact ⟨port + 1, by go_num, rfl, by omega, by omega, rfl, fun q h1 h2 => by
                  by_cases e : q = port
                  · subst e; exact fun hf => hf e0 (List.mem_of_getElem? HE.out) HP.out
                  · exact HQ.out q h1 (by omega)⟩
                case measure => omega
              · have hpd : (e0.b.port == port) = false := by simpa using hp
                have HP := Lib.hid hp
                clear hp
                go_wp2
                go_roundg (m - (j + 1))
                case rel => exact ⟨j + 1, by omega, by go_num, rfl, rfl, fun t y ht hy => by
                  by_cases e : t = j
                  · subst e; rw [HE.out] at hy; cases hy; exact HP.out
                  · exact HJ.out t y (by omega) hy⟩
                case measure => omega
            · have hltz : ¬ (j : Int) < (m : Int) := by omega
              have e : j = m := by omega
              subst e
              go_wp2
              try rw [Exit.noGoto_ret]
              go_ret2
              exact ⟨some port, .inr ⟨HN.out, .inl ⟨port, hp1, hpl, fun d hd => by
                obtain ⟨t, ht, rfl⟩ := List.mem_iff_getElem.1 hd
                exact HJ.out t _ (by rw [HM.out]; exact ht) (by simp [ht]), HQ.out, rfl⟩⟩, rfl, rfl⟩
        · go_wp2
          try rw [Exit.noGoto_ret]
          go_ret2
          exact ⟨none, .inr ⟨HN.out, .inr ⟨fun q h1 h2 => HQ.out q h1 (by omega), rfl⟩⟩, rfl, rfl⟩
    · go_enter Try.func102, Try.ntmps102
      go_wp2
      go_step3
      go_wp2
      go_step3
      go_wp2
      go_loopg [6] ((x.hi + 1 - x.lo).toNat) (fun k i wr => ∃ port : Int, i = .int .i64 port ∧ k = (x.hi + 1 - port).toNat ∧ x.lo ≤ port ∧ port ≤ x.hi + 1 ∧ wr = w ∧ Hid (∀ q, x.lo ≤ q → q < port → ¬ freeP es q))
      case atStart => exact ⟨x.lo, rfl, rfl, Int.le_refl _, by omega, rfl, fun q h1 h2 => by omega⟩
      case round =>
        obtain ⟨port, rfl, hk, hp1, hp2, rfl, HQ⟩ := hrel
        by_cases hpl : port ≤ x.hi
        · go_wp2
          go_loopg [51] m (fun k i wr2 => ∃ j : Nat, j ≤ m ∧ i = .int .i64 j ∧ k = m - j ∧ wr2 = wr ∧ Hid (∀ (t : Nat) (y : En), t < j → es[t]? = some y → y.b.port ≠ port))
          case atStart => exact ⟨0, Nat.zero_le _, rfl, rfl, rfl, fun t y ht => by omega⟩
          case round =>
            obtain ⟨j, hj, rfl, hkj, rfl, HJ⟩ := hrel
            by_cases hlt : j < m
            · have hltz : (j : Int) < (m : Int) := by omega
              obtain ⟨e0, he0⟩ : ∃ e0, es[j]? = some e0 := ⟨es[j]'(by rw [← HM.out]; exact hlt), by simp [← HM.out, hlt]⟩
              obtain ⟨g, rfl⟩ := HG.out j e0 he0
              obtain ⟨hc0, hcs⟩ := HH.out.elem he0
              have k4 : wr.cell? ⟨e0.p, 4, none⟩ = some (.int .i64 e0.b.port) := by rw [hcs]; rfl
              have HE := Lib.hid he0
              clear hcs he0
              by_cases hp : e0.b.port = port
              · have hpd : (e0.b.port == port) = true := by simpa using hp
                have HP := Lib.hid hp
                clear hp
                go_wp2
                go_roundg ((x.hi + 1 - (port + 1)).toNat)
                case rel => exact ⟨port + 1, by go_num, rfl, by omega, by omega, rfl, fun q h1 h2 => by
                  by_cases e : q = port
                  · subst e; exact fun hf => hf e0 (List.mem_of_getElem? HE.out) HP.out
                  · exact HQ.out q h1 (by omega)⟩
                case measure => omega
              · have hpd : (e0.b.port == port) = false := by simpa using hp
                have HP := Lib.hid hp
                clear hp
                go_wp2
                go_roundg (m - (j + 1))
                case rel => exact ⟨j + 1, by omega, by go_num, rfl, rfl, fun t y ht hy => by
                  by_cases e : t = j
                  · subst e; rw [HE.out] at hy; cases hy; exact HP.out
                  · exact HJ.out t y (by omega) hy⟩
                case measure => omega
            · have hltz : ¬ (j : Int) < (m : Int) := by omega
              have e : j = m := by omega
              subst e
              go_wp2
              try rw [Exit.noGoto_ret]
              go_ret2
              exact ⟨some port, .inr ⟨HN.out, .inl ⟨port, hp1, hpl, fun d hd => by
                obtain ⟨t, ht, rfl⟩ := List.mem_iff_getElem.1 hd
                exact HJ.out t _ (by rw [HM.out]; exact ht) (by simp [ht]), HQ.out, rfl⟩⟩, rfl, rfl⟩
        · go_wp2
          try rw [Exit.noGoto_ret]
          go_ret2
          exact ⟨none, .inr ⟨HN.out, .inr ⟨fun q h1 h2 => HQ.out q h1 (by omega), rfl⟩⟩, rfl, rfl⟩

end Go.Proofs.Ytkdbjeegiiihaaa
