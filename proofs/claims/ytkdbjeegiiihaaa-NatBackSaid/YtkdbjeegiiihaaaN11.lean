/-
  What goes out, and has a binding. Conditions: the ones each theorem names.
-/
import Derived.Test.YtkdbjeegiiihaaaN10
set_option linter.unusedVariables false
set_option linter.unusedSimpArgs false
namespace Go.Proofs.Ytkdbjeegiiihaaa
open Go.RowKit Go.Shelf

theorem byR_ok {x : Bx} {l l2 : List Bd} {a to : Ad} {i : Nat} (h : byR x l a to = some (l2, i)) (hl : (l.length : Int) ≤ x.most) (hs : ∀ b ∈ l, b.seen.length ≤ 16) : (l2.length : Int) ≤ x.most ∧ (∀ b ∈ l2, b.seen.length ≤ 16) ∧ i < l2.length := by
  unfold byR idxS at h
  have key : ∀ j, (l.findIdx? (askB a) = some j ∨ l.findIdx? (byB a (keyB x to)) = some j) → j < l.length := fun j hj => hj.elim idx_lt idx_lt
  cases h1 : l.findIdx? (askB a) with
  | some j => rw [h1] at h; simp only [Option.some.injEq, Prod.mk.injEq] at h; obtain ⟨rfl, rfl⟩ := h; exact ⟨hl, hs, key _ (.inl h1)⟩
  | none =>
    rw [h1] at h
    simp only at h
    cases h2 : l.findIdx? (byB a (keyB x to)) with
    | some j => rw [h2] at h; simp only [Option.some.injEq, Prod.mk.injEq] at h; obtain ⟨rfl, rfl⟩ := h; exact ⟨hl, hs, key _ (.inr h2)⟩
    | none =>
      rw [h2] at h
      simp only at h
      cases hp : pick x l a.2 with
      | none => rw [hp] at h; cases h
      | some p =>
        rw [hp] at h
        simp only at h
        by_cases hm : x.most ≤ l.length
        · rw [if_pos hm] at h; cases h
        · rw [if_neg hm] at h
          simp only [Option.some.injEq, Prod.mk.injEq] at h
          obtain ⟨rfl, rfl⟩ := h
          refine ⟨by simp; omega, fun b hb => ?_, by simp⟩
          rcases List.mem_append.1 hb with hb | hb
          · exact hs b hb
          · simp at hb; subst hb; simp
theorem seeS_len (s : List Ad) (to : Ad) : (seeS s to).length ≤ 16 := by unfold seeS; simp only [List.length_drop]; omega

/-- The steps behind 'by', in the memory: the end's time set (or left), one more seen. -/
theorem EnAt.unt {W : World} {p : Nat} {sv : Value} {b : Bd} (h : EnAt W ⟨p, sv, b⟩) (u : Int) : EnAt (W.setCell ⟨p, 5, none⟩ (.int .i64 u)) ⟨p, sv, { b with unt := u }⟩ := by
  refine ⟨set_cells h.blk 5 _ rfl, h.row.fr (Fr.setCell (S := fun q => q = p) _ _ _ rfl) (fun g hg e => ?_)⟩
  obtain ⟨c, hc⟩ := h.row.blk hg
  exact ne_ty hc h.blk (by decide) e

set_option maxRecDepth 100000 in
set_option maxHeartbeats 4000000 in
theorem out_good (n : Nat) (F : Nat → Prop) (s : St) (now : Int) (a to : Ad) (w : World) (h : NatAt w n F s) (ha : mayA a = true) (ht : mayA to = true) (ho : onOk s now = true) {l2 : List Bd} {i : Nat} {b0 : Bd} (hr : byR s.x (onS s now).l a to = some (l2, i)) (hb0 : l2[i]? = some b0) :
    Calls Try.prog 15 #[.pointer (some ⟨n, 0, none⟩), .int .i64 now, argA a, argA to] w fun e w' => e = .returned (.tuple #[argA (s.x.host, b0.port), .int .i64 0]) ∧ NatAt w' n (grow F w w') { onS s now with l := l2.set i (touch s.x now to b0) } ∧ Fr F w w' := by
  obtain ⟨WA, hWA, fA, bA, bT, bR, hsA⟩ := out_head w a to
  have ca := fun W => mayA_any a W
  have ct := fun W => mayA_any to W
  rw [ha] at ca
  rw [ht] at ct
  have co := fun W (hf : Fr0 w W) => out_on n F s now W (h.fr0 hf) ho
  have hlowF := h.low
  have hok := onS_ok h.ok ho
  obtain ⟨hb1, hb2, hb3⟩ := byR_ok hr hok.len hok.seen
  have hbs : b0.seen.length ≤ 16 := hb2 b0 (List.mem_of_getElem? hb0)
  have hmay := h.ok.may
  have hlife : 1 ≤ s.x.life ∧ s.x.life ≤ 1099511627776 := by simp [mayX] at hmay; omega
  have hnow : 0 ≤ now ∧ now ≤ 1099511627776 := ⟨hok.lo, hok.hi⟩
  have cb : ∀ W, Fr F WA W → NatAt W n F (onS s now) → Calls Try.prog 46 #[.pointer (some ⟨n, 0, none⟩), argA a, argA to] W fun e w' => ∃ p, e = .returned (.tuple #[.pointer (some ⟨p, 0, none⟩), .int .i64 0]) ∧ ∃ es2 v2 sv, Hid (es2.map En.b = l2 ∧ es2[i]? = some ⟨p, sv, b0⟩ ∧ NatM w' n s.x now es2 v2 ∧ Fr F WA w' ∧ (∀ q, foot n es2 v2 q → F q ∨ WA.heap.size ≤ q)) := by
    intro W hfW hW
    obtain ⟨es, v, hm, hl, hF⟩ := hW.mem
    have hk := hW.ok.len
    have hmo : s.x.most ≤ 100 := by simp [mayX] at hmay; omega
    rw [← hl, List.length_map] at hk
    refine (by_good n s.x now es v a to W hm hmay (by have : (onS s now).x = s.x := rfl; rw [this] at hk; omega) (by rw [hl]; exact hr)).mono ?_
    rintro e w' ⟨es2, v2, d, rfl, hl2, hd, hm2, hf, hft⟩
    have hdb : d.b = b0 := by
      have : (es2.map En.b)[i]? = some d.b := by rw [List.getElem?_map, hd]; rfl
      rw [hl2, hb0] at this; cases this; rfl
    refine ⟨d.p, rfl, es2, v2, d.sv, hl2, by rw [hd, ← hdb], hm2, hfW.then (hf.mono (fun b _ e => hF b (e.elim .inl (fun e => .inr (.inl e))))), fun q hq => (hft q hq).imp (hF q) (fun e => Nat.le_trans hfW.size e)⟩
  unfold argA at ca ct cb
  have HA := Lib.hid (⟨hWA, fA, bA, bT, bR, hsA⟩ : _ ∧ _ ∧ _ ∧ _ ∧ _ ∧ _)
  have hmid : ∀ W, Fr F WA W → W.cell? ⟨w.heap.size, 0, none⟩ = some (.int .u32 a.1) ∧ W.cell? ⟨w.heap.size, 1, none⟩ = some (.int .i64 a.2) ∧ W.cell? ⟨w.heap.size + 1, 0, none⟩ = some (.int .u32 to.1) ∧ W.cell? ⟨w.heap.size + 1, 1, none⟩ = some (.int .i64 to.2) := by
    intro W hf
    have h1 := bA.fr hf (fun hq => by have := hlowF _ hq; omega)
    have h2 := bT.fr hf (fun hq => by have := hlowF _ hq; omega)
    exact ⟨by rw [cell_of h1]; rfl, by rw [cell_of h1]; rfl, by rw [cell_of h2]; rfl, by rw [cell_of h2]; rfl⟩
  /- behind 'by': w4; behind the end's time: w5; behind 'see': w6 -/
  have htail : ∀ w4 p es2 v2 sv w5, Hid (es2.map En.b = l2 ∧ es2[i]? = some ⟨p, sv, b0⟩ ∧ NatM w4 n s.x now es2 v2 ∧ Fr F WA w4 ∧ (∀ q, foot n es2 v2 q → F q ∨ WA.heap.size ≤ q)) →
      (b0.asked = true ∧ w5 = w4 ∨ b0.asked = false ∧ w5 = w4.setCell ⟨p, 5, none⟩ (.int .i64 (min (now + s.x.life) 1099511627776))) →
      w5.cell? ⟨w.heap.size + 1, 0, none⟩ = some (.int .u32 to.1) ∧ w5.cell? ⟨w.heap.size + 1, 1, none⟩ = some (.int .i64 to.2) ∧
      Calls Try.prog 47 #[.pointer (some ⟨p, 0, none⟩), argA to] w5 fun e w6 => e = .returned (.tuple #[]) ∧ w6.cell? ⟨n, 0, none⟩ = some (.int .u32 s.x.host) ∧ w6.cell? ⟨p, 4, none⟩ = some (.int .i64 b0.port) ∧
        w6.cell? ⟨w.heap.size + 1 + 1, 0, none⟩ = some (.int .u32 0) ∧ w6.cell? ⟨w.heap.size + 1 + 1, 1, none⟩ = some (.int .i64 0) ∧ w6.frozen? ⟨w.heap.size + 1 + 1, 0, none⟩ = false ∧ w6.frozen? ⟨w.heap.size + 1 + 1, 1, none⟩ = false ∧
        Hid (∀ W', W' = ((w6.setCell ⟨w.heap.size + 1 + 1, 0, none⟩ (.int .u32 s.x.host)).setCell ⟨w.heap.size + 1 + 1, 1, none⟩ (.int .i64 b0.port)).drew → (loadVar 24 ⟨w.heap.size + 1 + 1, 0, none⟩).run Try.prog W' = .ok (argA (s.x.host, b0.port)) W' ∧ NatAt W' n (grow F w W') { onS s now with l := l2.set i (touch s.x now to b0) } ∧ Fr F w W') := by
    intro w4 p es2 v2 sv w5 HX hu
    obtain ⟨hl2, hd, hm, hf, hft⟩ := HX.out
    have hdm := List.mem_of_getElem? hd
    have hen := hm.ens _ hdm
    obtain ⟨u, hu1, he5, hf5⟩ : ∃ u, u = (if b0.asked then b0.unt else min (now + s.x.life) 1099511627776) ∧ EnAt w5 ⟨p, sv, { b0 with unt := u }⟩ ∧ Fr (fun q => q = p) w4 w5 := by
      rcases hu with ⟨hk, rfl⟩ | ⟨hk, rfl⟩
      · exact ⟨b0.unt, by rw [hk]; rfl, hen, Fr.refl _ _⟩
      · exact ⟨_, by rw [hk]; rfl, hen.unt _, Fr.setCell _ _ _ rfl⟩
    have hpf : foot n es2 v2 p := .inr (.inr ⟨_, hdm, .inl rfl⟩)
    have hsf : ∀ g, sv.ownBlock = some g → foot n es2 v2 g := fun g hg => .inr (.inr ⟨_, hdm, .inr hg⟩)
    have hout : ∀ k, k < 3 → ¬ foot n es2 v2 (w.heap.size + k) := fun k hk hh => by
      rcases hft _ hh with e | e
      · have := hlowF _ e; omega
      · omega
    have hpn : ∀ k, k < 3 → w.heap.size + k ≠ p := fun k hk e => hout k hk (e ▸ hpf)
    have bT5 := (bT.fr hf (fun hq => by have := hlowF _ hq; omega)).fr hf5 (hpn 1 (by omega))
    have bR4 := (bR.fr hf (fun hq => by have := hlowF _ hq; omega))
    refine ⟨by rw [cell_of bT5]; rfl, by rw [cell_of bT5]; rfl, ?_⟩
    refine (see_any p sv { b0 with unt := u } to w5 he5 hbs).mono ?_
    rintro e w6 ⟨rfl, sv', he6, hfresh, hf6⟩
    have h46 : Fr (fun q => q = p ∨ sv.ownBlock = some q) w4 w6 := (hf5.mono (fun b _ e => .inl e)).then hf6
    have hupd := hm.upd hd he6 h46 (fun g hg => .inl (Nat.le_trans hf5.size (hfresh g hg)))
    have bR6 := bR4.fr h46 (fun e => e.elim (hpn 2 (by omega)) (fun e => hout 2 (by omega) (hsf _ e)))
    refine ⟨rfl, by rw [cell_of hupd.blk]; rfl, by rw [cell_of he6.blk]; rfl, by rw [cell_of bR6]; rfl, by rw [cell_of bR6]; rfl, frz_of bR6 0, frz_of bR6 1, ?_⟩
    rintro W' rfl
    have hS : Fr (fun q => q = w.heap.size + 2) w6 ((w6.setCell ⟨w.heap.size + 1 + 1, 0, none⟩ (.int .u32 s.x.host)).setCell ⟨w.heap.size + 1 + 1, 1, none⟩ (.int .i64 b0.port)).drew := boxA_fr.then (Fr.drew _ _)
    have hB : BoxA ((w6.setCell ⟨w.heap.size + 1 + 1, 0, none⟩ (.int .u32 s.x.host)).setCell ⟨w.heap.size + 1 + 1, 1, none⟩ (.int .i64 b0.port)).drew (w.heap.size + 2) (s.x.host, b0.port) := (boxA_set (c := (s.x.host, b0.port)) bR6).fr (Fr.drew (fun _ => False) _) (fun h => h)
    have hfoot6 : ∀ q, foot n (es2.set i ⟨p, sv', { b0 with unt := u, seen := seeS b0.seen to }⟩) v2 q → F q ∨ WA.heap.size ≤ q := fun q hq => by
      rcases foot_upd (w := w4) hd (fun g hg => .inl (Nat.le_trans hf5.size (hfresh g hg))) hq with e | e
      · exact hft q e
      · exact .inr (Nat.le_trans hf.size e)
    have hm7 := hupd.fr hS (fun q hq e => by
      rcases hfoot6 q hq with k | k
      · have := hlowF q k; omega
      · omega)
    have hFr : Fr F w ((w6.setCell ⟨w.heap.size + 1 + 1, 0, none⟩ (.int .u32 s.x.host)).setCell ⟨w.heap.size + 1 + 1, 1, none⟩ (.int .i64 b0.port)).drew :=
      ((((fA.mono (fun _ _ h => h.elim)).then hf).trans h46 (fun b hb e => by
        have hfb : foot n es2 v2 b := e.elim (fun e => e ▸ hpf) (hsf b)
        rcases hft b hfb with k | k
        · exact k
        · omega)).trans hS (fun b hb e => by omega))
    have hsz : w.heap.size ≤ ((w6.setCell ⟨w.heap.size + 1 + 1, 0, none⟩ (.int .u32 s.x.host)).setCell ⟨w.heap.size + 1 + 1, 1, none⟩ (.int .i64 b0.port)).drew.heap.size := hFr.size
    refine ⟨load24 (a := (s.x.host, b0.port)) (by rw [cell_of hB]; rfl) (by rw [cell_of hB]; rfl), ⟨⟨_, v2, hm7, ?_, fun q hq => ?_⟩, fun q hq => ?_, ⟨hmay, hok.lo, hok.hi, ?_, fun b hb => ?_⟩⟩, hFr⟩
    · rw [List.map_set, hl2]
      simp only [touch, hu1]
    · rcases hfoot6 q hq with k | k
      · exact .inl k
      · exact .inr ⟨by omega, hm7.lt hq⟩
    · rcases hq with k | k
      · exact Nat.lt_of_lt_of_le (hlowF q k) hsz
      · exact k.2
    · simp only [List.length_set]; exact hb1
    · rcases List.mem_or_eq_of_mem_set hb with hb | rfl
      · exact hb2 b hb
      · exact seeS_len _ _
  unfold argA at htail
  have HTl := Lib.hid htail
  have HMid := Lib.hid hmid
  have HCO := Lib.hid co
  have HCA := Lib.hid ca
  have HCT := Lib.hid ct
  have HCB := Lib.hid cb
  clear htail hmid co ca ct cb hWA fA bA bT bR hsA hlowF h hr hb0 hb1 hb2 hb3 hok hmay
  unfold argA
  cases hk : b0.asked
  · by_cases hmn : 1099511627776 < now + s.x.life
    · have hmin : min (now + s.x.life) 1099511627776 = 1099511627776 := by omega
      rw [hmin] at HTl
      clear hmin
      go_enter Try.func15, Try.ntmps15
      go_wp2_with (first
        | (go_at_call 44; (with_reducible refine (HCA.out _).mono ?_); rintro e w1 ⟨rfl, hf1⟩; rw [HA.out.1] at hf1; have t0 : w1.cell? ⟨w.heap.size + 1, 0, none⟩ = some (.int .u32 to.1) := (by rw [cell_of (hf1.heap HA.out.2.2.2.1 (fun h => h))]; rfl); have t1 : w1.cell? ⟨w.heap.size + 1, 1, none⟩ = some (.int .i64 to.2) := (by rw [cell_of (hf1.heap HA.out.2.2.2.1 (fun h => h))]; rfl); have HF1 := Lib.hid hf1; clear hf1)
        | (go_at_call 44; (with_reducible refine (HCT.out _).mono ?_); rintro e w2 ⟨rfl, hf2⟩; have HF2 := Lib.hid hf2; clear hf2)
        | (go_at_call 45; refine (HCO.out _ ((HA.out.2.1.then HF1.out).then HF2.out)).mono ?_; rintro e w3 ⟨rfl, hN3, hf3⟩; have HF3 := Lib.hid (⟨hN3, ((HF1.out.then HF2.out).mono (fun _ _ h => h.elim)).then hf3⟩ : NatAt w3 n F (onS s now) ∧ Fr F WA w3); clear hN3 hf3; obtain ⟨a0, a1, b0c, b1c⟩ := HMid.out _ HF3.out.2)
        | (go_at_call 46; refine (HCB.out _ HF3.out.2 HF3.out.1).mono ?_; rintro e w4 ⟨p, rfl, es2, v2, sv, HX⟩; have hen := (HX.out.2.2.1.ens _ (List.mem_of_getElem? HX.out.2.1)).blk; have c6 : w4.cell? ⟨p, 6, none⟩ = some (.bool b0.asked) := (by rw [cell_of hen]; rfl); have c5 : w4.cell? ⟨p, 5, none⟩ = some (.int .i64 b0.unt) := (by rw [cell_of hen]; rfl); have z5 := frz_of hen 5; have k5 : w4.cell? ⟨n, 5, none⟩ = some (.int .i64 s.x.life) := (by rw [cell_of HX.out.2.2.1.blk]; rfl); rw [hk] at c6; have HS := Lib.hid (HTl.out w4 p es2 v2 sv (w4.setCell ⟨p, 5, none⟩ (.int .i64 1099511627776)) HX (.inr ⟨hk, rfl⟩)); obtain ⟨u0, u1, _⟩ := HS.out; clear hen)
        | (go_at_call 47; refine HS.out.2.2.mono ?_; rintro e w6 ⟨rfl, d0, d4, r0, r1, y0, y1, HR⟩; clear HS))
      go_region
      all_goals
        go_wp2
        obtain ⟨g1, g2, g3⟩ := HR.out _ rfl
        exact bodyPost_ret (results_cell_tmp rfl _ _ _ rfl g1) rfl ⟨rfl, g2, g3⟩
    · have hmin : min (now + s.x.life) 1099511627776 = now + s.x.life := by omega
      rw [hmin] at HTl
      clear hmin
      go_enter Try.func15, Try.ntmps15
      go_wp2_with (first
        | (go_at_call 44; (with_reducible refine (HCA.out _).mono ?_); rintro e w1 ⟨rfl, hf1⟩; rw [HA.out.1] at hf1; have t0 : w1.cell? ⟨w.heap.size + 1, 0, none⟩ = some (.int .u32 to.1) := (by rw [cell_of (hf1.heap HA.out.2.2.2.1 (fun h => h))]; rfl); have t1 : w1.cell? ⟨w.heap.size + 1, 1, none⟩ = some (.int .i64 to.2) := (by rw [cell_of (hf1.heap HA.out.2.2.2.1 (fun h => h))]; rfl); have HF1 := Lib.hid hf1; clear hf1)
        | (go_at_call 44; (with_reducible refine (HCT.out _).mono ?_); rintro e w2 ⟨rfl, hf2⟩; have HF2 := Lib.hid hf2; clear hf2)
        | (go_at_call 45; refine (HCO.out _ ((HA.out.2.1.then HF1.out).then HF2.out)).mono ?_; rintro e w3 ⟨rfl, hN3, hf3⟩; have HF3 := Lib.hid (⟨hN3, ((HF1.out.then HF2.out).mono (fun _ _ h => h.elim)).then hf3⟩ : NatAt w3 n F (onS s now) ∧ Fr F WA w3); clear hN3 hf3; obtain ⟨a0, a1, b0c, b1c⟩ := HMid.out _ HF3.out.2)
        | (go_at_call 46; refine (HCB.out _ HF3.out.2 HF3.out.1).mono ?_; rintro e w4 ⟨p, rfl, es2, v2, sv, HX⟩; have hen := (HX.out.2.2.1.ens _ (List.mem_of_getElem? HX.out.2.1)).blk; have c6 : w4.cell? ⟨p, 6, none⟩ = some (.bool b0.asked) := (by rw [cell_of hen]; rfl); have c5 : w4.cell? ⟨p, 5, none⟩ = some (.int .i64 b0.unt) := (by rw [cell_of hen]; rfl); have z5 := frz_of hen 5; have k5 : w4.cell? ⟨n, 5, none⟩ = some (.int .i64 s.x.life) := (by rw [cell_of HX.out.2.2.1.blk]; rfl); rw [hk] at c6; have HS := Lib.hid (HTl.out w4 p es2 v2 sv (w4.setCell ⟨p, 5, none⟩ (.int .i64 (now + s.x.life))) HX (.inr ⟨hk, rfl⟩)); obtain ⟨u0, u1, _⟩ := HS.out; clear hen)
        | (go_at_call 47; refine HS.out.2.2.mono ?_; rintro e w6 ⟨rfl, d0, d4, r0, r1, y0, y1, HR⟩; clear HS))
      go_region
      all_goals
        go_wp2
        obtain ⟨g1, g2, g3⟩ := HR.out _ rfl
        exact bodyPost_ret (results_cell_tmp rfl _ _ _ rfl g1) rfl ⟨rfl, g2, g3⟩
  · clear hlife
    go_enter Try.func15, Try.ntmps15
    go_wp2_with (first
      | (go_at_call 44; (with_reducible refine (HCA.out _).mono ?_); rintro e w1 ⟨rfl, hf1⟩; rw [HA.out.1] at hf1; have t0 : w1.cell? ⟨w.heap.size + 1, 0, none⟩ = some (.int .u32 to.1) := (by rw [cell_of (hf1.heap HA.out.2.2.2.1 (fun h => h))]; rfl); have t1 : w1.cell? ⟨w.heap.size + 1, 1, none⟩ = some (.int .i64 to.2) := (by rw [cell_of (hf1.heap HA.out.2.2.2.1 (fun h => h))]; rfl); have HF1 := Lib.hid hf1; clear hf1)
      | (go_at_call 44; (with_reducible refine (HCT.out _).mono ?_); rintro e w2 ⟨rfl, hf2⟩; have HF2 := Lib.hid hf2; clear hf2)
      | (go_at_call 45; refine (HCO.out _ ((HA.out.2.1.then HF1.out).then HF2.out)).mono ?_; rintro e w3 ⟨rfl, hN3, hf3⟩; have HF3 := Lib.hid (⟨hN3, ((HF1.out.then HF2.out).mono (fun _ _ h => h.elim)).then hf3⟩ : NatAt w3 n F (onS s now) ∧ Fr F WA w3); clear hN3 hf3; obtain ⟨a0, a1, b0c, b1c⟩ := HMid.out _ HF3.out.2)
      | (go_at_call 46; refine (HCB.out _ HF3.out.2 HF3.out.1).mono ?_; rintro e w4 ⟨p, rfl, es2, v2, sv, HX⟩; have hen := (HX.out.2.2.1.ens _ (List.mem_of_getElem? HX.out.2.1)).blk; have c6 : w4.cell? ⟨p, 6, none⟩ = some (.bool b0.asked) := (by rw [cell_of hen]; rfl); have c5 : w4.cell? ⟨p, 5, none⟩ = some (.int .i64 b0.unt) := (by rw [cell_of hen]; rfl); have z5 := frz_of hen 5; have k5 : w4.cell? ⟨n, 5, none⟩ = some (.int .i64 s.x.life) := (by rw [cell_of HX.out.2.2.1.blk]; rfl); rw [hk] at c6; have HS := Lib.hid (HTl.out w4 p es2 v2 sv (w4) HX (.inl ⟨hk, rfl⟩)); obtain ⟨u0, u1, _⟩ := HS.out; clear hen)
      | (go_at_call 47; refine HS.out.2.2.mono ?_; rintro e w6 ⟨rfl, d0, d4, r0, r1, y0, y1, HR⟩; clear HS))
    go_region
    all_goals
      go_wp2
      obtain ⟨g1, g2, g3⟩ := HR.out _ rfl
      exact bodyPost_ret (results_cell_tmp rfl _ _ _ rfl g1) rfl ⟨rfl, g2, g3⟩

end Go.Proofs.Ytkdbjeegiiihaaa
