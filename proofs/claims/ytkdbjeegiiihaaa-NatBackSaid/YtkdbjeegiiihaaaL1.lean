/-
  The library's searches and deletions at this program's own element types. Conditions: the ones each theorem names.
-/
import Derived.Test.YtkdbjeegiiihaaaProg
import Derived.Test.YtkdbjeegiiihaaaRowsK
set_option linter.unusedVariables false
set_option linter.unusedSimpArgs false
namespace Go.Proofs.Ytkdbjeegiiihaaa
open Go.RowKit Go.Shelf

/-! ### slices.IndexFunc, slices.DeleteFunc: elements P -/
def encP (x : Nat) : List Value := [.pointer (some ⟨x, 0, none⟩)]
def argP (x : Nat) : Value := .pointer (some ⟨x, 0, none⟩)
theorem encP_len (x : Nat) : (encP x).length = 1 := rfl

set_option maxHeartbeats 1000000 in
theorem ixfP {S : Nat → Prop} {J : Nat → World → Prop} (g n cap gp : Nat) (lb : Array Value) (xs : List Nat) (p : Nat → Bool) (w : World) (hp : Pred Try.prog gp lb argP p xs S J g)
    (h0 : J 0 w) (hrow : Owns w 106 1 encP (.slice (some ⟨g, 0, none⟩) n cap) xs) :
    Calls Try.prog 107 #[.slice (some ⟨g, 0, none⟩) n cap, .func (.func gp) #[] lb] w fun e w' => IxPost p xs J e w' ∧ Fr S w w' := by
  obtain ⟨hn, hcap, hmax, _⟩ := hrow.block
  unfold maxLen at hmax
  have hnm : n ≤ 9223372036854775807 := by omega
  have eg := hp.enters
  have HP := Lib.hid hp
  have HR := Lib.hid hrow
  have HN := Lib.hid hn
  clear hp hrow hn hcap hmax
  go_enter Try.func107, Try.ntmps107
  go_wp2_with fail
  go_loopw [8] (fun i wr => ∃ j : Nat, j ≤ n ∧ i = .int .i64 j ∧ Hid ((∀ t y, t < j → xs[t]? = some y → p y = false) ∧ J j wr ∧ Fr S w wr)) (fun i _ => n - (intOf i).toNat)
  case atStart => exact ⟨0, Nat.zero_le _, rfl, fun t y ht => by omega, h0, Fr.refl _ _⟩
  case round =>
    obtain ⟨j, hj, rfl, HJ⟩ := hrel
    by_cases hlt : j < n
    · have hltz : (j : Int) < (n : Int) := by omega
      obtain ⟨x, hx⟩ : ∃ x, xs[j]? = some x := ⟨xs[j]'(by rw [← HN.out]; exact hlt), by simp [← HN.out, hlt]⟩
      have hr := HR.out.fr HJ.out.2.2 (fun b e => by cases e; exact HP.out.out)
      have hc0 : wr.cell? ⟨g, j, none⟩ = some (.pointer (some ⟨x, 0, none⟩)) := by have := hr.cellAt encP_len hx (j := 0) (by omega); simpa [encP] using this
      have hcall := HP.out.calls j x wr hx HJ.out.2.1
      have HX := Lib.hid hx
      have HC := Lib.hid hcall
      clear hr hcall hx
      unfold argP at HC
      cases hq : p x
      · go_wp2_with (go_at_fn gp; refine HC.out.mono ?_; rintro e w' ⟨rfl, hJ', hf'⟩; simp only [hq]; have HJ' := Lib.hid hJ'; have HF' := Lib.hid hf'; clear hJ' hf')
        go_roundw
        case rel => exact ⟨j + 1, by omega, by go_num, fun t y ht hy => by
          by_cases e : t = j
          · subst e; rw [HX.out] at hy; cases hy; exact hq
          · exact HJ.out.1 t y (by omega) hy, HJ'.out, HJ.out.2.2.then HF'.out⟩
        case measure => simp [intOf]; omega
      · go_wp2_with (go_at_fn gp; refine HC.out.mono ?_; rintro e w' ⟨rfl, hJ', hf'⟩; simp only [hq]; have HJ' := Lib.hid hJ'; have HF' := Lib.hid hf'; clear hJ' hf')
        go_ret
        exact ⟨.inl ⟨j, x, HX.out, hq, HJ.out.1, rfl, HJ'.out⟩, HJ.out.2.2.then HF'.out⟩
    · have hltz : ¬ (j : Int) < (n : Int) := by omega
      have e : j = n := by omega
      subst e
      go_wp2
      go_ret
      refine ⟨.inr ⟨fun y hy => ?_, rfl, by rw [← HN.out]; exact HJ.out.2.1⟩, HJ.out.2.2⟩
      obtain ⟨t, ht, rfl⟩ := List.mem_iff_getElem.1 hy
      exact HJ.out.1 t _ (by rw [HN.out]; exact ht) (by simp [ht])

set_option maxRecDepth 100000 in
set_option maxHeartbeats 2000000 in
theorem dlfP {S : Nat → Prop} {J : Nat → World → Prop} (g n cap gp : Nat) (lb : Array Value) (xs : List Nat) (p : Nat → Bool) (w : World) (hp : Pred Try.prog gp lb argP p xs S J g) (hSl : ∀ b, S b → b < w.heap.size)
    (h0 : J 0 w) (hrow : Owns w 106 1 encP (.slice (some ⟨g, 0, none⟩) n cap) xs) :
    Calls Try.prog 60 #[.slice (some ⟨g, 0, none⟩) n cap, .func (.func gp) #[] lb] w fun e w' =>
      e = .returned (.slice (some ⟨g, 0, none⟩) (xs.filter fun x => !p x).length cap) ∧ Owns w' 106 1 encP (.slice (some ⟨g, 0, none⟩) (xs.filter fun x => !p x).length cap) (xs.filter fun x => !p x) ∧ J xs.length w' ∧ Fr (fun b => S b ∨ b = g) w w' := by
  obtain ⟨hn, hcap, hmax, _⟩ := hrow.block
  unfold maxLen at hmax
  have hnm : n ≤ 9223372036854775807 := by omega
  have hncap : n ≤ cap := by omega
  have hcapm : cap ≤ 9223372036854775807 := by omega
  have eg := hp.enters
  have hI := ixfP g n cap gp lb xs p w hp h0 hrow
  rcases first_idx p xs with hall | ⟨i0, x0, hx0, hp0, hb0⟩
  · have HI := Lib.hid (hI.mono (R' := fun e w' => e = .returned (.int .i64 (-1)) ∧ J xs.length w' ∧ Fr S w w') (fun e w' ⟨h, k⟩ => ⟨(h.none hall).1, (h.none hall).2, k⟩))
    have hfl : (xs.filter fun x => !p x) = xs := List.filter_eq_self.2 (fun y hy => by rw [hall y hy]; rfl)
    have HR := Lib.hid hrow
    have HO := Lib.hid hp.out
    have HN := Lib.hid hn
    clear hI hp hrow h0 hn hall hSl
    rw [hfl]
    clear hfl
    go_enter Try.func60, Try.ntmps60
    go_wp2_with (go_at_call 107; refine HI.out.mono ?_; rintro e w1 ⟨rfl, hJ, hf⟩; have HF := Lib.hid (⟨hJ, hf⟩ : J xs.length w1 ∧ Fr S w w1); clear hJ hf)
    go_ret
    have hr := HR.out.fr HF.out.2 (fun b e => by cases e; exact HO.out)
    rw [HN.out] at hr ⊢
    exact ⟨rfl, hr, HF.out.1, HF.out.2.mono (fun b _ e => .inl e)⟩
  · have HI := Lib.hid (hI.mono (R' := fun e w' => e = .returned (.int .i64 (i0 : Int)) ∧ J (i0 + 1) w' ∧ Fr S w w') (fun e w' ⟨h, k⟩ => ⟨(h.some hx0 hp0 hb0).1, (h.some hx0 hp0 hb0).2, k⟩))
    have hlen0 : i0 < n := by rw [hn]; exact (List.getElem?_eq_some_iff.1 hx0).1
    have hne1 : ((i0 : Int) == -1) = false := beq_eq_false_iff_ne.2 (by omega)
    have h00 : (xs.take i0).filter (fun x => !p x) = xs.take i0 := List.filter_eq_self.2 (fun y hy => by
      obtain ⟨t, ht, rfl⟩ := List.mem_iff_getElem.1 hy
      simp only [List.length_take] at ht
      rw [List.getElem_take, hb0 t _ (by omega) (List.getElem?_eq_getElem (by omega))]; rfl)
    have HA := Lib.hid (⟨hx0, hp0, h00⟩ : xs[i0]? = some x0 ∧ p x0 = true ∧ (xs.take i0).filter (fun x => !p x) = xs.take i0)
    have HP := Lib.hid hp
    have HR := Lib.hid hrow
    have HN := Lib.hid hn
    have HS := Lib.hid hSl
    clear hx0 hp0 hb0 h00 hI hp hrow hn hcap hSl h0
    go_enter Try.func60, Try.ntmps60
    go_wp2_with (go_at_call 107; refine HI.out.mono ?_; rintro e w1 ⟨rfl, hJ0, hf0⟩; have HB := Lib.hid (⟨hJ0, hf0⟩ : J (i0 + 1) w1 ∧ Fr S w w1); clear hJ0 hf0)
    go_loopw [5, 6] (fun a b wr => ∃ (i j : Nat) (ys : List Nat), a = .int .i64 i ∧ b = .int .i64 j ∧ i < j ∧ j ≤ n ∧ Hid (ys.length = n ∧ ys.take i = (xs.take j).filter (fun x => !p x) ∧ (∀ t, j ≤ t → ys[t]? = xs[t]?) ∧ Owns wr 106 1 encP (.slice (some ⟨g, 0, none⟩) n cap) ys ∧ J j wr ∧ Fr (fun b => S b ∨ b = g) w wr)) (fun _ b _ => n - (intOf b).toNat)
    case atStart =>
      obtain ⟨hx0, hp0, h00⟩ := HA.out
      obtain ⟨hJ0, hf0⟩ := HB.out
      refine ⟨i0, i0 + 1, xs, rfl, by go_num, by omega, by omega, HN.out.symm, ?_, fun _ _ => rfl, HR.out.fr hf0 (fun b e => by cases e; exact HP.out.out), hJ0, hf0.mono (fun b _ e => .inl e)⟩
      rw [filter_take_succ _ xs i0 x0 hx0, h00, hp0]; simp
    case round =>
      obtain ⟨i, j, ys, rfl, rfl, hij, hjn, HK⟩ := hrel
      obtain ⟨hyl, hpre, hhigh, hown, hJ, hfr⟩ := HK.out
      by_cases hlt : j < n
      · have hltz : (j : Int) < (n : Int) := by omega
        obtain ⟨x, hx⟩ : ∃ x, xs[j]? = some x := ⟨xs[j]'(by rw [← HN.out]; exact hlt), by simp [← HN.out, hlt]⟩
        have hyx : ys[j]? = some x := by rw [hhigh j (Nat.le_refl _), hx]
        have hc0 : wr.cell? ⟨g, j, none⟩ = some (.pointer (some ⟨x, 0, none⟩)) := by have := hown.cellAt encP_len hyx (j := 0) (by omega); simpa [encP] using this
        have hcall := HP.out.calls j x wr hx (HP.out.stays j _ _ hJ (Fr.refl _ _))
        have hltg : g < wr.heap.size := hown.lt rfl
        have HX := Lib.hid hx
        have HC := Lib.hid hcall
        have HW := Lib.hid (hown.fr (Fr.refl (fun _ => False) wr) (fun _ _ h => h))
        clear hcall hx hyx hown hJ hpre hhigh hyl
        unfold argP at HC
        have HFR := Lib.hid hfr
        clear hfr
        cases hq : p x
        · go_wp2_with (go_at_fn gp; refine HC.out.mono ?_; rintro e w' ⟨rfl, hJ', hf'⟩; simp only [hq]; have hr' := HW.out.fr hf' (fun b e => by cases e; exact HP.out.out); have z0 : ∃ u, w'.cell? ⟨g, i, none⟩ = some u := hr'.cellAny (by have := Nat.mul_le_mul_right 1 (show i + 1 ≤ cap by omega); omega); obtain ⟨u0, z0⟩ := z0; have y0 : w'.frozen? ⟨g, i, none⟩ = false := hr'.frozen _; have HJ' := Lib.hid hJ'; have HF' := Lib.hid hf'; have HR' := Lib.hid hr'; clear hJ' hf' hr')
          go_roundw
          case rel =>
            obtain ⟨hyl, hpre, hhigh, hown, hJ, hfr⟩ := HK.out
            have hfr1 : Fr (fun b => S b ∨ b = g) w w' := (hfr.then0 (Fr.refl (fun _ => False) wr)).trans HF'.out (fun b _ e => .inl e)
            have hsf := setsAt_fr (g := g) (encP x) w' (i)
            have hput := HR'.out.put encP_len (i := i) (by omega) x
            refine ⟨i + 1, j + 1, ys.set i x, by go_num, by go_num, by omega, by omega, by simp [hyl], ?_, ?_, (by have := hput; rw [Nat.mul_one] at this; exact this), HP.out.stays _ _ _ HJ'.out hsf, hfr1.trans hsf (fun b _ e => .inr e)⟩
            · rw [filter_take_succ _ xs j x HX.out, ← hpre, hq, List.take_set, List.take_succ_eq_append_getElem (by omega), List.set_append_right _ _ (by simp; omega)]
              simp [Nat.min_eq_left (show i ≤ ys.length by omega)]
            · intro t ht
              rw [List.getElem?_set_ne (by omega)]
              exact hhigh t (by omega)
          case measure => simp [intOf]; omega
        · go_wp2_with (go_at_fn gp; refine HC.out.mono ?_; rintro e w' ⟨rfl, hJ', hf'⟩; simp only [hq]; have HJ' := Lib.hid hJ'; have HF' := Lib.hid hf'; clear hJ' hf')
          go_roundw
          case rel =>
            obtain ⟨hyl, hpre, hhigh, hown, hJ, hfr⟩ := HK.out
            exact ⟨i, j + 1, ys, rfl, by go_num, by omega, by omega, hyl, by rw [filter_take_succ _ xs j x HX.out, ← hpre, hq]; simp, fun t ht => hhigh t (by omega), HW.out.fr HF'.out (fun b e => by cases e; exact HP.out.out), HJ'.out, (hfr.then0 (Fr.refl (fun _ => False) wr)).trans HF'.out (fun b _ e => .inl e)⟩
          case measure => simp [intOf]; omega
      · obtain rfl : j = n := by omega
        have hltz : ¬ (j : Int) < (j : Int) := by omega
        obtain ⟨hn0, hc1, hc2, cur, hcur, hcs, hct⟩ := hown.block
        clear hn0 hc2 hct
        have hcl := fun ty => run_clearK (P := Try.prog) wr 101 106 ty (.pointer none) Try.underlying101 Try.zeroValue106 (by simp [Value.cells, Value.oneCell']) g (i) (j - i) (cap - i) (by omega) hcur (by have := Nat.mul_le_mul_right 1 hncap; have : (j - i) * 1 = j * 1 - i * 1 := Nat.sub_mul _ _ _; have := Nat.mul_le_mul_right 1 (Nat.le_of_lt hij); simp [Value.cells]; omega)
        obtain ⟨Wc, hWc⟩ : ∃ Wc, setsAt wr g (i) (Builtin.zeroCells (.pointer none : Value).cells (j - i)).toList = Wc := ⟨_, rfl⟩
        rw [hWc] at hcl
        have HWc := Lib.hid hWc
        clear hWc
        have hfil : ys.take i = xs.filter (fun x => !p x) := by rw [hpre, HN.out, List.take_length]
        have hlen : (xs.filter (fun x => !p x)).length = i := by rw [← hfil, List.length_take]; omega
        have HC := Lib.hid (⟨hfil, hlen, hown, hJ, hfr, hyl, hcur, hcs⟩ : ys.take i = xs.filter (fun x => !p x) ∧ (xs.filter (fun x => !p x)).length = i ∧ Owns wr 106 1 encP (.slice (some ⟨g, 0, none⟩) j cap) ys ∧ J j wr ∧ Fr (fun b => S b ∨ b = g) w wr ∧ ys.length = j ∧ wr.heap[g]? = some (.cells cur 106 (0, 0)) ∧ cur.size = cap * 1)
        clear hfil hlen hown hJ hfr hyl hcur hcs hc1 hpre hhigh
        go_wp2
        go_ret
        obtain ⟨hfil, hlen, hown, hJ, hfr, hyl, hcur, hcs⟩ := HC.out
        have hzl : (Builtin.zeroCells (.pointer none : Value).cells (j - i)).toList.length = (j - i) * 1 := by rw [zeros_len]; rfl
        have hcut := hown.cut encP_len (m := i) (by omega)
        have hmul : (j - i) * 1 = j * 1 - i * 1 := Nat.sub_mul _ _ _
        have hle1 := Nat.mul_le_mul_right 1 hncap
        have hle2 := Nat.mul_le_mul_right 1 (Nat.le_of_lt hij)
        have hbeh := hcut.behind encP_len (o := i) (Builtin.zeroCells (.pointer none : Value).cells (j - i)).toList (by simp; omega) (by rw [hzl]; omega)
        rw [HWc.out, hfil] at hbeh
        have hsf := setsAt_fr (g := g) (Builtin.zeroCells (.pointer none : Value).cells (j - i)).toList wr (i)
        rw [HWc.out] at hsf
        rw [hlen]
        exact ⟨rfl, hbeh, by rw [← HN.out]; exact HP.out.stays _ _ _ hJ hsf, hfr.trans hsf (fun b _ e => .inr e)⟩

theorem ixfP_nil (gp : Nat) (lb : Array Value) (w : World) : Calls Try.prog 107 #[.slice none 0 0, .func (.func gp) #[] lb] w fun e w' => e = .returned (.int .i64 (-1)) ∧ w' = w := by
  go_enter Try.func107, Try.ntmps107
  go_wp2_with fail
  go_loopw [8] (fun i wr => i = .int .i64 0 ∧ wr = w) (fun _ _ => 0)
  case atStart => exact ⟨rfl, rfl⟩
  case round =>
    obtain ⟨rfl, rfl⟩ := hrel
    go_wp2
    go_ret
    exact ⟨rfl, rfl⟩
theorem dlfP_nil (gp : Nat) (lb : Array Value) (w : World) : Calls Try.prog 60 #[.slice none 0 0, .func (.func gp) #[] lb] w fun e w' => e = .returned (.slice none 0 0) ∧ w' = w := by
  have HI := Lib.hid (ixfP_nil gp lb w)
  go_enter Try.func60, Try.ntmps60
  go_wp2_with (go_at_call 107; refine HI.out.mono ?_; rintro e w1 ⟨rfl, rfl⟩)
  go_ret
  exact ⟨rfl, rfl⟩
/-- Whatever slice. -/
theorem dlfP_any {S : Nat → Prop} {J : Nat → World → Prop} (v : Value) (gp : Nat) (lb : Array Value) (xs : List Nat) (p : Nat → Bool) (w : World) (hp : ∀ g, v.ownBlock = some g → Pred Try.prog gp lb argP p xs S J g) (hSl : ∀ b, S b → b < w.heap.size)
    (h0 : J 0 w) (hrow : Owns w 106 1 encP v xs) :
    Calls Try.prog 60 #[v, .func (.func gp) #[] lb] w fun e w' => ∃ v', e = .returned v' ∧ v'.ownBlock = v.ownBlock ∧ Owns w' 106 1 encP v' (xs.filter fun x => !p x) ∧ J xs.length w' ∧ Fr (fun b => S b ∨ v.ownBlock = some b) w w' := by
  rcases hrow.shape with ⟨rfl, rfl⟩ | ⟨g, cap, rfl, _, _⟩
  · exact (dlfP_nil gp lb w).mono (fun e w' ⟨he, hw⟩ => ⟨_, he, rfl, by subst hw; exact Owns.nil _ _ _ _, by subst hw; exact h0, by subst hw; exact Fr.refl _ _⟩)
  · exact (dlfP g _ cap gp lb xs p w (hp g rfl) hSl h0 hrow).mono (fun e w' ⟨he, h1, h2, h3⟩ => ⟨_, he, rfl, h1, h2, h3.mono (fun b _ e => e.imp id (fun e => by rw [e]; rfl))⟩)

/-! ### slices.IndexFunc, slices.DeleteFunc: elements A -/
def encA (x : (Int × Int)) : List Value := [.int .u32 x.1, .int .i64 x.2]
def argA (x : (Int × Int)) : Value := .agg #[.int .u32 x.1, .int .i64 x.2]
theorem encA_len (x : (Int × Int)) : (encA x).length = 2 := rfl

set_option maxHeartbeats 1000000 in
theorem ixfA {S : Nat → Prop} {J : Nat → World → Prop} (g n cap gp : Nat) (lb : Array Value) (xs : List (Int × Int)) (p : (Int × Int) → Bool) (w : World) (hp : Pred Try.prog gp lb argA p xs S J g)
    (h0 : J 0 w) (hrow : Owns w 24 2 encA (.slice (some ⟨g, 0, none⟩) n cap) xs) :
    Calls Try.prog 120 #[.slice (some ⟨g, 0, none⟩) n cap, .func (.func gp) #[] lb] w fun e w' => IxPost p xs J e w' ∧ Fr S w w' := by
  obtain ⟨hn, hcap, hmax, _⟩ := hrow.block
  unfold maxLen at hmax
  have hnm : n ≤ 9223372036854775807 := by omega
  have eg := hp.enters
  have HP := Lib.hid hp
  have HR := Lib.hid hrow
  have HN := Lib.hid hn
  clear hp hrow hn hcap hmax
  go_enter Try.func120, Try.ntmps120
  go_wp2_with fail
  go_loopw [8] (fun i wr => ∃ j : Nat, j ≤ n ∧ i = .int .i64 j ∧ Hid ((∀ t y, t < j → xs[t]? = some y → p y = false) ∧ J j wr ∧ Fr S w wr)) (fun i _ => n - (intOf i).toNat)
  case atStart => exact ⟨0, Nat.zero_le _, rfl, fun t y ht => by omega, h0, Fr.refl _ _⟩
  case round =>
    obtain ⟨j, hj, rfl, HJ⟩ := hrel
    by_cases hlt : j < n
    · have hltz : (j : Int) < (n : Int) := by omega
      obtain ⟨x, hx⟩ : ∃ x, xs[j]? = some x := ⟨xs[j]'(by rw [← HN.out]; exact hlt), by simp [← HN.out, hlt]⟩
      have hr := HR.out.fr HJ.out.2.2 (fun b e => by cases e; exact HP.out.out)
      have hc0 : wr.cell? ⟨g, j * 2, none⟩ = some (.int .u32 x.1) := by have := hr.cellAt encA_len hx (j := 0) (by omega); simpa [encA] using this
      have hc1 : wr.cell? ⟨g, j * 2 + 1, none⟩ = some (.int .i64 x.2) := by have := hr.cellAt encA_len hx (j := 1) (by omega); simpa [encA] using this
      have hcall := HP.out.calls j x wr hx HJ.out.2.1
      have HX := Lib.hid hx
      have HC := Lib.hid hcall
      clear hr hcall hx
      unfold argA at HC
      cases hq : p x
      · go_wp2_with (go_at_fn gp; refine HC.out.mono ?_; rintro e w' ⟨rfl, hJ', hf'⟩; simp only [hq]; have HJ' := Lib.hid hJ'; have HF' := Lib.hid hf'; clear hJ' hf')
        go_roundw
        case rel => exact ⟨j + 1, by omega, by go_num, fun t y ht hy => by
          by_cases e : t = j
          · subst e; rw [HX.out] at hy; cases hy; exact hq
          · exact HJ.out.1 t y (by omega) hy, HJ'.out, HJ.out.2.2.then HF'.out⟩
        case measure => simp [intOf]; omega
      · go_wp2_with (go_at_fn gp; refine HC.out.mono ?_; rintro e w' ⟨rfl, hJ', hf'⟩; simp only [hq]; have HJ' := Lib.hid hJ'; have HF' := Lib.hid hf'; clear hJ' hf')
        go_ret
        exact ⟨.inl ⟨j, x, HX.out, hq, HJ.out.1, rfl, HJ'.out⟩, HJ.out.2.2.then HF'.out⟩
    · have hltz : ¬ (j : Int) < (n : Int) := by omega
      have e : j = n := by omega
      subst e
      go_wp2
      go_ret
      refine ⟨.inr ⟨fun y hy => ?_, rfl, by rw [← HN.out]; exact HJ.out.2.1⟩, HJ.out.2.2⟩
      obtain ⟨t, ht, rfl⟩ := List.mem_iff_getElem.1 hy
      exact HJ.out.1 t _ (by rw [HN.out]; exact ht) (by simp [ht])

set_option maxRecDepth 100000 in
set_option maxHeartbeats 2000000 in
theorem dlfA {S : Nat → Prop} {J : Nat → World → Prop} (g n cap gp : Nat) (lb : Array Value) (xs : List (Int × Int)) (p : (Int × Int) → Bool) (w : World) (hp : Pred Try.prog gp lb argA p xs S J g) (hSl : ∀ b, S b → b < w.heap.size)
    (h0 : J 0 w) (hrow : Owns w 24 2 encA (.slice (some ⟨g, 0, none⟩) n cap) xs) :
    Calls Try.prog 96 #[.slice (some ⟨g, 0, none⟩) n cap, .func (.func gp) #[] lb] w fun e w' =>
      e = .returned (.slice (some ⟨g, 0, none⟩) (xs.filter fun x => !p x).length cap) ∧ Owns w' 24 2 encA (.slice (some ⟨g, 0, none⟩) (xs.filter fun x => !p x).length cap) (xs.filter fun x => !p x) ∧ J xs.length w' ∧ Fr (fun b => S b ∨ b = g) w w' := by
  obtain ⟨hn, hcap, hmax, _⟩ := hrow.block
  unfold maxLen at hmax
  have hnm : n ≤ 9223372036854775807 := by omega
  have hncap : n ≤ cap := by omega
  have hcapm : cap ≤ 9223372036854775807 := by omega
  have eg := hp.enters
  have hI := ixfA g n cap gp lb xs p w hp h0 hrow
  rcases first_idx p xs with hall | ⟨i0, x0, hx0, hp0, hb0⟩
  · have HI := Lib.hid (hI.mono (R' := fun e w' => e = .returned (.int .i64 (-1)) ∧ J xs.length w' ∧ Fr S w w') (fun e w' ⟨h, k⟩ => ⟨(h.none hall).1, (h.none hall).2, k⟩))
    have hfl : (xs.filter fun x => !p x) = xs := List.filter_eq_self.2 (fun y hy => by rw [hall y hy]; rfl)
    have HR := Lib.hid hrow
    have HO := Lib.hid hp.out
    have HN := Lib.hid hn
    clear hI hp hrow h0 hn hall hSl
    rw [hfl]
    clear hfl
    go_enter Try.func96, Try.ntmps96
    go_wp2_with (go_at_call 120; refine HI.out.mono ?_; rintro e w1 ⟨rfl, hJ, hf⟩; have HF := Lib.hid (⟨hJ, hf⟩ : J xs.length w1 ∧ Fr S w w1); clear hJ hf)
    go_ret
    have hr := HR.out.fr HF.out.2 (fun b e => by cases e; exact HO.out)
    rw [HN.out] at hr ⊢
    exact ⟨rfl, hr, HF.out.1, HF.out.2.mono (fun b _ e => .inl e)⟩
  · have HI := Lib.hid (hI.mono (R' := fun e w' => e = .returned (.int .i64 (i0 : Int)) ∧ J (i0 + 1) w' ∧ Fr S w w') (fun e w' ⟨h, k⟩ => ⟨(h.some hx0 hp0 hb0).1, (h.some hx0 hp0 hb0).2, k⟩))
    have hlen0 : i0 < n := by rw [hn]; exact (List.getElem?_eq_some_iff.1 hx0).1
    have hne1 : ((i0 : Int) == -1) = false := beq_eq_false_iff_ne.2 (by omega)
    have h00 : (xs.take i0).filter (fun x => !p x) = xs.take i0 := List.filter_eq_self.2 (fun y hy => by
      obtain ⟨t, ht, rfl⟩ := List.mem_iff_getElem.1 hy
      simp only [List.length_take] at ht
      rw [List.getElem_take, hb0 t _ (by omega) (List.getElem?_eq_getElem (by omega))]; rfl)
    have HA := Lib.hid (⟨hx0, hp0, h00⟩ : xs[i0]? = some x0 ∧ p x0 = true ∧ (xs.take i0).filter (fun x => !p x) = xs.take i0)
    have HP := Lib.hid hp
    have HR := Lib.hid hrow
    have HN := Lib.hid hn
    have HS := Lib.hid hSl
    clear hx0 hp0 hb0 h00 hI hp hrow hn hcap hSl h0
    go_enter Try.func96, Try.ntmps96
    go_wp2_with (go_at_call 120; refine HI.out.mono ?_; rintro e w1 ⟨rfl, hJ0, hf0⟩; have HB := Lib.hid (⟨hJ0, hf0⟩ : J (i0 + 1) w1 ∧ Fr S w w1); clear hJ0 hf0)
    go_loopw [5, 6] (fun a b wr => ∃ (i j : Nat) (ys : List (Int × Int)), a = .int .i64 i ∧ b = .int .i64 j ∧ i < j ∧ j ≤ n ∧ Hid (ys.length = n ∧ ys.take i = (xs.take j).filter (fun x => !p x) ∧ (∀ t, j ≤ t → ys[t]? = xs[t]?) ∧ Owns wr 24 2 encA (.slice (some ⟨g, 0, none⟩) n cap) ys ∧ J j wr ∧ Fr (fun b => S b ∨ b = g) w wr)) (fun _ b _ => n - (intOf b).toNat)
    case atStart =>
      obtain ⟨hx0, hp0, h00⟩ := HA.out
      obtain ⟨hJ0, hf0⟩ := HB.out
      refine ⟨i0, i0 + 1, xs, rfl, by go_num, by omega, by omega, HN.out.symm, ?_, fun _ _ => rfl, HR.out.fr hf0 (fun b e => by cases e; exact HP.out.out), hJ0, hf0.mono (fun b _ e => .inl e)⟩
      rw [filter_take_succ _ xs i0 x0 hx0, h00, hp0]; simp
    case round =>
      obtain ⟨i, j, ys, rfl, rfl, hij, hjn, HK⟩ := hrel
      obtain ⟨hyl, hpre, hhigh, hown, hJ, hfr⟩ := HK.out
      by_cases hlt : j < n
      · have hltz : (j : Int) < (n : Int) := by omega
        obtain ⟨x, hx⟩ : ∃ x, xs[j]? = some x := ⟨xs[j]'(by rw [← HN.out]; exact hlt), by simp [← HN.out, hlt]⟩
        have hyx : ys[j]? = some x := by rw [hhigh j (Nat.le_refl _), hx]
        have hc0 : wr.cell? ⟨g, j * 2, none⟩ = some (.int .u32 x.1) := by have := hown.cellAt encA_len hyx (j := 0) (by omega); simpa [encA] using this
        have hc1 : wr.cell? ⟨g, j * 2 + 1, none⟩ = some (.int .i64 x.2) := by have := hown.cellAt encA_len hyx (j := 1) (by omega); simpa [encA] using this
        have hcall := HP.out.calls j x (wr.alloc (.cells #[.int .u32 x.1, .int .i64 x.2] 24)) hx (HP.out.stays j _ _ hJ (Fr.alloc _ _ _))
        have hltg : g < wr.heap.size := hown.lt rfl
        have HX := Lib.hid hx
        have HC := Lib.hid hcall
        have HW := Lib.hid (hown.fr (Fr.alloc (fun _ => False) wr (.cells #[.int .u32 x.1, .int .i64 x.2] 24)) (fun _ _ h => h))
        clear hcall hx hyx hown hJ hpre hhigh hyl
        unfold argA at HC
        have HFR := Lib.hid hfr
        clear hfr
        cases hq : p x
        · go_wp2_with (go_at_fn gp; refine HC.out.mono ?_; rintro e w' ⟨rfl, hJ', hf'⟩; simp only [hq]; have hr' := HW.out.fr hf' (fun b e => by cases e; exact HP.out.out); have z0 : ∃ u, w'.cell? ⟨g, i * 2, none⟩ = some u := hr'.cellAny (by have := Nat.mul_le_mul_right 2 (show i + 1 ≤ cap by omega); omega); obtain ⟨u0, z0⟩ := z0; have y0 : w'.frozen? ⟨g, i * 2, none⟩ = false := hr'.frozen _; have z1 : ∃ u, w'.cell? ⟨g, i * 2 + 1, none⟩ = some u := hr'.cellAny (by have := Nat.mul_le_mul_right 2 (show i + 1 ≤ cap by omega); omega); obtain ⟨u1, z1⟩ := z1; have y1 : w'.frozen? ⟨g, i * 2 + 1, none⟩ = false := hr'.frozen _; have v0 : w'.cell? ⟨wr.heap.size, 0, none⟩ = some (.int .u32 x.1) := hf'.cell (by simp) (fun hb => by have := HS.out _ hb; have := HFR.out.size; simp at *; omega); have v1 : w'.cell? ⟨wr.heap.size, 1, none⟩ = some (.int .i64 x.2) := hf'.cell (by simp) (fun hb => by have := HS.out _ hb; have := HFR.out.size; simp at *; omega); have HJ' := Lib.hid hJ'; have HF' := Lib.hid hf'; have HR' := Lib.hid hr'; clear hJ' hf' hr')
          go_roundw
          case rel =>
            obtain ⟨hyl, hpre, hhigh, hown, hJ, hfr⟩ := HK.out
            have hfr1 : Fr (fun b => S b ∨ b = g) w w' := (hfr.then0 (Fr.alloc (fun _ => False) wr (.cells #[.int .u32 x.1, .int .i64 x.2] 24))).trans HF'.out (fun b _ e => .inl e)
            have hsf := setsAt_fr (g := g) (encA x) w' (i * 2)
            have hput := HR'.out.put encA_len (i := i) (by omega) x
            refine ⟨i + 1, j + 1, ys.set i x, by go_num, by go_num, by omega, by omega, by simp [hyl], ?_, ?_, (by have := hput; exact this), HP.out.stays _ _ _ HJ'.out hsf, hfr1.trans hsf (fun b _ e => .inr e)⟩
            · rw [filter_take_succ _ xs j x HX.out, ← hpre, hq, List.take_set, List.take_succ_eq_append_getElem (by omega), List.set_append_right _ _ (by simp; omega)]
              simp [Nat.min_eq_left (show i ≤ ys.length by omega)]
            · intro t ht
              rw [List.getElem?_set_ne (by omega)]
              exact hhigh t (by omega)
          case measure => simp [intOf]; omega
        · go_wp2_with (go_at_fn gp; refine HC.out.mono ?_; rintro e w' ⟨rfl, hJ', hf'⟩; simp only [hq]; have HJ' := Lib.hid hJ'; have HF' := Lib.hid hf'; clear hJ' hf')
          go_roundw
          case rel =>
            obtain ⟨hyl, hpre, hhigh, hown, hJ, hfr⟩ := HK.out
            exact ⟨i, j + 1, ys, rfl, by go_num, by omega, by omega, hyl, by rw [filter_take_succ _ xs j x HX.out, ← hpre, hq]; simp, fun t ht => hhigh t (by omega), HW.out.fr HF'.out (fun b e => by cases e; exact HP.out.out), HJ'.out, (hfr.then0 (Fr.alloc (fun _ => False) wr (.cells #[.int .u32 x.1, .int .i64 x.2] 24))).trans HF'.out (fun b _ e => .inl e)⟩
          case measure => simp [intOf]; omega
      · obtain rfl : j = n := by omega
        have hltz : ¬ (j : Int) < (j : Int) := by omega
        obtain ⟨hn0, hc1, hc2, cur, hcur, hcs, hct⟩ := hown.block
        clear hn0 hc2 hct
        have hcl := fun ty => run_clearK (P := Try.prog) wr 48 24 ty (.agg #[.int .u32 0, .int .i64 0]) Try.underlying48 Try.zeroValue24 (by simp [Value.cells, Value.oneCell']) g (i * 2) (j - i) (cap - i) (by omega) hcur (by have := Nat.mul_le_mul_right 2 hncap; have : (j - i) * 2 = j * 2 - i * 2 := Nat.sub_mul _ _ _; have := Nat.mul_le_mul_right 2 (Nat.le_of_lt hij); simp [Value.cells]; omega)
        obtain ⟨Wc, hWc⟩ : ∃ Wc, setsAt wr g (i * 2) (Builtin.zeroCells (.agg #[.int .u32 0, .int .i64 0] : Value).cells (j - i)).toList = Wc := ⟨_, rfl⟩
        rw [hWc] at hcl
        have HWc := Lib.hid hWc
        clear hWc
        have hfil : ys.take i = xs.filter (fun x => !p x) := by rw [hpre, HN.out, List.take_length]
        have hlen : (xs.filter (fun x => !p x)).length = i := by rw [← hfil, List.length_take]; omega
        have HC := Lib.hid (⟨hfil, hlen, hown, hJ, hfr, hyl, hcur, hcs⟩ : ys.take i = xs.filter (fun x => !p x) ∧ (xs.filter (fun x => !p x)).length = i ∧ Owns wr 24 2 encA (.slice (some ⟨g, 0, none⟩) j cap) ys ∧ J j wr ∧ Fr (fun b => S b ∨ b = g) w wr ∧ ys.length = j ∧ wr.heap[g]? = some (.cells cur 24 (0, 0)) ∧ cur.size = cap * 2)
        clear hfil hlen hown hJ hfr hyl hcur hcs hc1 hpre hhigh
        go_wp2
        go_ret
        obtain ⟨hfil, hlen, hown, hJ, hfr, hyl, hcur, hcs⟩ := HC.out
        have hzl : (Builtin.zeroCells (.agg #[.int .u32 0, .int .i64 0] : Value).cells (j - i)).toList.length = (j - i) * 2 := by rw [zeros_len]; rfl
        have hcut := hown.cut encA_len (m := i) (by omega)
        have hmul : (j - i) * 2 = j * 2 - i * 2 := Nat.sub_mul _ _ _
        have hle1 := Nat.mul_le_mul_right 2 hncap
        have hle2 := Nat.mul_le_mul_right 2 (Nat.le_of_lt hij)
        have hbeh := hcut.behind encA_len (o := i * 2) (Builtin.zeroCells (.agg #[.int .u32 0, .int .i64 0] : Value).cells (j - i)).toList (by simp; omega) (by rw [hzl]; omega)
        rw [HWc.out, hfil] at hbeh
        have hsf := setsAt_fr (g := g) (Builtin.zeroCells (.agg #[.int .u32 0, .int .i64 0] : Value).cells (j - i)).toList wr (i * 2)
        rw [HWc.out] at hsf
        rw [hlen]
        exact ⟨rfl, hbeh, by rw [← HN.out]; exact HP.out.stays _ _ _ hJ hsf, hfr.trans hsf (fun b _ e => .inr e)⟩

theorem ixfA_nil (gp : Nat) (lb : Array Value) (w : World) : Calls Try.prog 120 #[.slice none 0 0, .func (.func gp) #[] lb] w fun e w' => e = .returned (.int .i64 (-1)) ∧ w' = w := by
  go_enter Try.func120, Try.ntmps120
  go_wp2_with fail
  go_loopw [8] (fun i wr => i = .int .i64 0 ∧ wr = w) (fun _ _ => 0)
  case atStart => exact ⟨rfl, rfl⟩
  case round =>
    obtain ⟨rfl, rfl⟩ := hrel
    go_wp2
    go_ret
    exact ⟨rfl, rfl⟩
theorem dlfA_nil (gp : Nat) (lb : Array Value) (w : World) : Calls Try.prog 96 #[.slice none 0 0, .func (.func gp) #[] lb] w fun e w' => e = .returned (.slice none 0 0) ∧ w' = w := by
  have HI := Lib.hid (ixfA_nil gp lb w)
  go_enter Try.func96, Try.ntmps96
  go_wp2_with (go_at_call 120; refine HI.out.mono ?_; rintro e w1 ⟨rfl, rfl⟩)
  go_ret
  exact ⟨rfl, rfl⟩
/-- Whatever slice. -/
theorem dlfA_any {S : Nat → Prop} {J : Nat → World → Prop} (v : Value) (gp : Nat) (lb : Array Value) (xs : List (Int × Int)) (p : (Int × Int) → Bool) (w : World) (hp : ∀ g, v.ownBlock = some g → Pred Try.prog gp lb argA p xs S J g) (hSl : ∀ b, S b → b < w.heap.size)
    (h0 : J 0 w) (hrow : Owns w 24 2 encA v xs) :
    Calls Try.prog 96 #[v, .func (.func gp) #[] lb] w fun e w' => ∃ v', e = .returned v' ∧ v'.ownBlock = v.ownBlock ∧ Owns w' 24 2 encA v' (xs.filter fun x => !p x) ∧ J xs.length w' ∧ Fr (fun b => S b ∨ v.ownBlock = some b) w w' := by
  rcases hrow.shape with ⟨rfl, rfl⟩ | ⟨g, cap, rfl, _, _⟩
  · exact (dlfA_nil gp lb w).mono (fun e w' ⟨he, hw⟩ => ⟨_, he, rfl, by subst hw; exact Owns.nil _ _ _ _, by subst hw; exact h0, by subst hw; exact Fr.refl _ _⟩)
  · exact (dlfA g _ cap gp lb xs p w (hp g rfl) hSl h0 hrow).mono (fun e w' ⟨he, h1, h2, h3⟩ => ⟨_, he, rfl, h1, h2, h3.mono (fun b _ e => e.imp id (fun e => by rw [e]; rfl))⟩)

end Go.Proofs.Ytkdbjeegiiihaaa
