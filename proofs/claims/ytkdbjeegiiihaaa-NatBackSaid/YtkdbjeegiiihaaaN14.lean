/-
  What comes in. Conditions: the ones each theorem names.
-/
import Derived.Test.YtkdbjeegiiihaaaN13
set_option linter.unusedVariables false
set_option linter.unusedSimpArgs false
namespace Go.Proofs.Ytkdbjeegiiihaaa
open Go.RowKit Go.Shelf

set_option maxRecDepth 100000 in
set_option maxHeartbeats 1000000 in
theorem lets_any (n : Nat) (x : Bx) (now : Int) (es : List En) (v : Value) (i : Nat) (d : En) (fr : Ad) (w : World) (h : NatM w n x now es v) (hd : es[i]? = some d) :
    Calls Try.prog 54 #[.pointer (some ⟨n, 0, none⟩), .pointer (some ⟨d.p, 0, none⟩), argA fr] w fun e w' => e = .returned (.bool (letsB x fr d.b)) ∧ Fr0 w w' := by
  have hen := h.ens d (List.mem_of_getElem? hd)
  have c6 : w.cell? ⟨d.p, 6, none⟩ = some (.bool d.b.asked) := by rw [cell_of hen.blk]; rfl
  have c7 : w.cell? ⟨d.p, 7, none⟩ = some d.sv := by rw [cell_of hen.blk]; rfl
  have c4 : w.cell? ⟨n, 4, none⟩ = some (.int .i64 x.fil) := by rw [cell_of h.blk]; rfl
  have hn : n < w.heap.size := lt_of_heap h.blk
  have hp : d.p < w.heap.size := lt_of_heap hen.blk
  have hx := World.alloc_heap_new w (Obj.cells #[.int .u32 fr.1, .int .i64 fr.2] 24)
  have hf0 : Fr0 w (w.alloc (Obj.cells #[.int .u32 fr.1, .int .i64 fr.2] 24)) := Fr.alloc _ _ _
  have hlt : ∀ g, d.sv.ownBlock = some g → w.heap.size ≠ g := fun g hg e => by have := hen.row.lt hg; omega
  have hc1 := has103 d.sv 104 #[.pointer (some ⟨w.heap.size, 0, none⟩)] d.b.seen (fun y => decide (y.1 = fr.1)) (fun _ W => BoxA W w.heap.size fr) (w.alloc (Obj.cells #[.int .u32 fr.1, .int .i64 fr.2] 24)) (fun g hg => lets_pred fr d.b.seen w.heap.size (hlt g hg)) hx (hen.row.fr hf0 (fun _ _ h => h))
  have hc2 := fun W (hf : Fr0 w W) => has105 d.sv d.b.seen fr W (hen.row.fr hf (fun _ _ h => h))
  have hb2 : ∀ W, Fr0 (w.alloc (Obj.cells #[.int .u32 fr.1, .int .i64 fr.2] 24)) W → W.cell? ⟨w.heap.size, 0, none⟩ = some (.int .u32 fr.1) ∧ W.cell? ⟨w.heap.size, 1, none⟩ = some (.int .i64 fr.2) := fun W hf => by
    have := hf.heap hx (fun h => h)
    exact ⟨by rw [cell_of this]; rfl, by rw [cell_of this]; rfl⟩
  unfold argA at hc2
  have H1 := Lib.hid hc1
  have H2 := Lib.hid hc2
  clear hc1 hc2 hb2 hx hf0 hlt hen h hd
  unfold argA
  cases ha : d.b.asked
  · rw [ha] at c6
    by_cases f0 : x.fil = 0
    · have hq : (x.fil == 0) = true := by simpa using f0
      have hr : letsB x fr d.b = true := by simp [letsB, f0]
      rw [hr]
      clear f0 hr ha H1 H2
      go_enter Try.func54, Try.ntmps54
      go_wp2
      go_ret
      exact ⟨rfl, Fr.alloc _ _ _⟩
    · have hq : (x.fil == 0) = false := by simpa using f0
      by_cases f1 : x.fil = 1
      · have hq1 : (x.fil == 1) = true := by simpa using f1
        have hr : letsB x fr d.b = d.b.seen.any fun y => decide (y.1 = fr.1) := by simp [letsB, f1, ha]
        rw [hr]
        clear f0 f1 hr ha H2
        go_enter Try.func54, Try.ntmps54
        go_wp2_with (go_at_call 103; refine H1.out.mono ?_; rintro e w1 ⟨rfl, hf⟩; have HF := Lib.hid hf; clear hf)
        go_ret
        exact ⟨rfl, (Fr.alloc _ _ _).then HF.out⟩
      · have hq1 : (x.fil == 1) = false := by simpa using f1
        have hr : letsB x fr d.b = d.b.seen.any fun y => decide (y = fr) := by simp [letsB, f0, f1, ha]
        rw [hr]
        clear f0 f1 hr ha H1
        go_enter Try.func54, Try.ntmps54
        go_wp2
        go_region_with (refine (H2.out _ ((Fr.alloc _ _ _).then (Fr.drew _ _))).mono ?_; rintro e w1 ⟨rfl, hf⟩; have HF := Lib.hid hf; clear hf)
        all_goals
          go_wp2
          go_ret
          exact ⟨rfl, ((Fr.alloc _ _ _).then (Fr.drew _ _)).then HF.out⟩
  · rw [ha] at c6
    have hr : letsB x fr d.b = true := by simp [letsB, ha]
    rw [hr]
    clear hr ha H1 H2
    go_enter Try.func54, Try.ntmps54
    go_wp2
    go_ret
    exact ⟨rfl, Fr.alloc _ _ _⟩

/-- What comes in: the box's state behind it, and the answer. -/
def inS (s : St) (now port : Int) (fr : Ad) : St × Ad × Int :=
  if mayA fr = true ∧ onOk s now = true then
    match (onS s now).l.find? (portB port) with
    | some b => if letsB s.x fr b = true then (onS s now, b.i, 0) else (onS s now, (0, 0), 8)
    | none => (onS s now, (0, 0), 8)
  else (s, (0, 0), 1)

theorem in_head (w : World) (a : Ad) : ∃ WA, ((w.alloc (Obj.cells #[.int .u32 a.1, .int .i64 a.2] 24)).alloc (Obj.cells #[.int .u32 0, .int .i64 0] 24)) = WA ∧
    Fr0 w WA ∧ BoxA WA w.heap.size a ∧ BoxA WA (w.heap.size + 1) (0, 0) ∧ WA.heap.size = w.heap.size + 2 := by
  refine ⟨_, rfl, (Fr.alloc _ _ _).then (Fr.alloc _ _ _), ?_, ?_, by simp⟩
  · have := World.alloc_heap_new w (Obj.cells #[.int .u32 a.1, .int .i64 a.2] 24)
    exact (Fr.alloc (fun _ => False) _ _).heap this (fun h => h)
  · have := World.alloc_heap_new (w.alloc (Obj.cells #[.int .u32 a.1, .int .i64 a.2] 24)) (Obj.cells #[.int .u32 0, .int .i64 0] 24)
    rw [World.size_alloc] at this
    exact this

theorem find_none {es : List En} {f : Bd → Bool} {u : Value} (h : Found es f u) (hi : (es.map En.b).find? f = none) : u = .pointer none := by
  rw [List.find?_eq_none] at hi
  rcases h with ⟨j, y, hj, hy, _, rfl⟩ | ⟨_, rfl⟩
  · exact absurd hy (by have := hi y.b (List.mem_map_of_mem (List.mem_of_getElem? hj)); simpa using this)
  · rfl
theorem find_some {es : List En} {f : Bd → Bool} {u : Value} {b : Bd} (h : Found es f u) (hi : (es.map En.b).find? f = some b) : ∃ (i : Nat) (d : En), es[i]? = some d ∧ d.b = b ∧ u = .pointer (some ⟨d.p, 0, none⟩) := by
  rw [List.find?_eq_some_iff_getElem] at hi
  obtain ⟨hb, k, hk, hkb, hlt⟩ := hi
  have hk' : k < es.length := by simpa using hk
  rcases h with ⟨j, y, hj, hy, hbj, rfl⟩ | ⟨ha, _⟩
  · have hjl := (List.getElem?_eq_some_iff.1 hj)
    have hjk : j = k := by
      rcases Nat.lt_trichotomy j k with hl | he | hg
      · have := hlt j hl
        simp only [List.getElem_map] at this
        rw [hjl.2, hy] at this; simp at this
      · exact he
      · have := hbj k es[k] hg (by simp [hk'])
        simp only [List.getElem_map] at hkb
        rw [hkb, hb] at this; cases this
    subst hjk
    refine ⟨j, y, hj, ?_, rfl⟩
    simp only [List.getElem_map] at hkb
    rw [← hkb, hjl.2]
  · have := ha es[k] (by simp)
    simp only [List.getElem_map] at hkb
    rw [hkb, hb] at this; cases this

set_option maxRecDepth 100000 in
set_option maxHeartbeats 2000000 in
theorem in_bad (n : Nat) (F : Nat → Prop) (s : St) (now port : Int) (a : Ad) (w : World) (h : NatAt w n F s) (hb : ¬ (mayA a = true ∧ onOk s now = true)) :
    Calls Try.prog 19 #[.pointer (some ⟨n, 0, none⟩), .int .i64 now, .int .i64 port, argA a] w fun e w' => e = .returned (.tuple #[argA (0, 0), .int .i64 1]) ∧ Fr0 w w' := by
  obtain ⟨WA, hWA, fA, bA, bR, hsA⟩ := in_head w a
  obtain ⟨es, v, hm, hl, hF⟩ := h.mem
  have ca := fun W => mayA_any a W
  have h8 : w.cell? ⟨n, 8, none⟩ = some (.int .i64 s.now) := by rw [cell_of hm.blk]; rfl
  have co := fun (hbad : now < s.now ∨ 1099511627776 < now) W (hf : Fr0 w W) => on_bad n s.now now W (hf.cell h8 (fun h => h)) hbad
  unfold argA at ca
  have HA := Lib.hid (⟨hWA, fA, bA, bR, hsA⟩ : _ ∧ _ ∧ _ ∧ _ ∧ _)
  have hfin : ∀ W, Fr0 WA W → W.cell? ⟨w.heap.size + 1, 0, none⟩ = some (.int .u32 0) ∧ W.cell? ⟨w.heap.size + 1, 1, none⟩ = some (.int .i64 0) ∧ W.frozen? ⟨w.heap.size + 1, 0, none⟩ = false ∧ W.frozen? ⟨w.heap.size + 1, 1, none⟩ = false ∧
      ∀ W', W' = (W.setCell ⟨w.heap.size + 1, 0, none⟩ (.int .u32 0)).setCell ⟨w.heap.size + 1, 1, none⟩ (.int .i64 0) → (loadVar 24 ⟨w.heap.size + 1, 0, none⟩).run Try.prog W' = .ok (argA (0, 0)) W' ∧ Fr0 w W' := by
    intro W hf
    have hb := bR.fr hf (fun h => h)
    refine ⟨by rw [cell_of hb]; rfl, by rw [cell_of hb]; rfl, frz_of hb 0, frz_of hb 1, ?_⟩
    rintro W' rfl
    have h2 := boxA_set (c := (0, 0)) hb
    exact ⟨load24 (a := (0, 0)) (by rw [cell_of h2]; rfl) (by rw [cell_of h2]; rfl), (fA.then hf).trans boxA_fr (fun b hb e => by omega)⟩
  have HF := Lib.hid hfin
  have HCO := Lib.hid co
  clear hfin co hWA fA bA bR hsA hm hl hF h8 h
  unfold argA
  cases ha : mayA a
  · rw [ha] at ca
    have HCA := Lib.hid ca
    clear ca hb ha
    go_enter Try.func19, Try.ntmps19
    go_wp2_with (go_at_call 44; refine (HCA.out _).mono ?_; rintro e w1 ⟨rfl, hf1⟩; rw [HA.out.1] at hf1; obtain ⟨c0, c1, z0, z1, hR⟩ := HF.out _ hf1; have HR := Lib.hid hR; clear hR hf1)
    obtain ⟨r1, r2⟩ := HR.out _ rfl
    exact bodyPost_ret (results_cell_tmp rfl _ _ _ rfl r1) rfl ⟨rfl, r2⟩
  · rw [ha] at ca
    have HCA := Lib.hid ca
    have hon : now < s.now ∨ 1099511627776 < now := by
      have : ¬ onOk s now = true := fun hh => hb ⟨ha, hh⟩
      simp [onOk] at this
      omega
    have HCO2 := Lib.hid (HCO.out hon)
    clear ca hb ha HCO hon
    go_enter Try.func19, Try.ntmps19
    go_wp2_with (first
      | (go_at_call 44; refine (HCA.out _).mono ?_; rintro e w1 ⟨rfl, hf1⟩; rw [HA.out.1] at hf1; have HF1 := Lib.hid hf1; clear hf1)
      | (go_at_call 45; refine (HCO2.out _ (HA.out.2.1.then HF1.out)).mono ?_; rintro e w3 ⟨rfl, hf3⟩; obtain ⟨c0, c1, z0, z1, hR⟩ := HF.out _ (HF1.out.then hf3); have HR := Lib.hid hR; clear hR hf3))
    obtain ⟨r1, r2⟩ := HR.out _ rfl
    exact bodyPost_ret (results_cell_tmp rfl _ _ _ rfl r1) rfl ⟨rfl, r2⟩

set_option maxRecDepth 100000 in
set_option maxHeartbeats 2000000 in
theorem in_good (n : Nat) (F : Nat → Prop) (s : St) (now port : Int) (a : Ad) (w : World) (h : NatAt w n F s) (ha : mayA a = true) (ho : onOk s now = true) :
    Calls Try.prog 19 #[.pointer (some ⟨n, 0, none⟩), .int .i64 now, .int .i64 port, argA a] w fun e w' => e = .returned (.tuple #[argA (inS s now port a).2.1, .int .i64 (inS s now port a).2.2]) ∧ NatAt w' n F (onS s now) ∧ Fr F w w' := by
  obtain ⟨WA, hWA, fA, bA, bR, hsA⟩ := in_head w a
  have ca := fun W => mayA_any a W
  rw [ha] at ca
  have co := fun W (hf : Fr0 w W) => out_on n F s now W (h.fr0 hf) ho
  have hlowF := h.low
  have HA := Lib.hid (⟨hWA, fA, bA, bR, hsA⟩ : _ ∧ _ ∧ _ ∧ _ ∧ _)
  have hfin : ∀ (c : Ad) W, Fr F WA W → NatAt W n F (onS s now) → W.cell? ⟨w.heap.size + 1, 0, none⟩ = some (.int .u32 0) ∧ W.cell? ⟨w.heap.size + 1, 1, none⟩ = some (.int .i64 0) ∧ W.frozen? ⟨w.heap.size + 1, 0, none⟩ = false ∧ W.frozen? ⟨w.heap.size + 1, 1, none⟩ = false ∧
      ∀ W', W' = (W.setCell ⟨w.heap.size + 1, 0, none⟩ (.int .u32 c.1)).setCell ⟨w.heap.size + 1, 1, none⟩ (.int .i64 c.2) → (loadVar 24 ⟨w.heap.size + 1, 0, none⟩).run Try.prog W' = .ok (argA c) W' ∧ NatAt W' n F (onS s now) ∧ Fr F w W' := by
    intro c W hf hN
    have hb := bR.fr hf (fun hq => by have := hlowF _ hq; omega)
    refine ⟨by rw [cell_of hb]; rfl, by rw [cell_of hb]; rfl, frz_of hb 0, frz_of hb 1, ?_⟩
    rintro W' rfl
    have h2 := boxA_set (c := c) hb
    have hS := boxA_fr (W := W) (b := w.heap.size + 1) (u := .int .u32 c.1) (v := .int .i64 c.2)
    exact ⟨load24 (a := c) (by rw [cell_of h2]; rfl) (by rw [cell_of h2]; rfl), hN.fr hS (fun q hq e => by have := hlowF q hq; omega), ((fA.mono (fun _ _ h => h.elim)).then hf).trans hS (fun b hb e => by omega)⟩
  have hmid : ∀ W, Fr F WA W → W.cell? ⟨w.heap.size, 0, none⟩ = some (.int .u32 a.1) ∧ W.cell? ⟨w.heap.size, 1, none⟩ = some (.int .i64 a.2) := by
    intro W hf
    have h1 := bA.fr hf (fun hq => by have := hlowF _ hq; omega)
    exact ⟨by rw [cell_of h1]; rfl, by rw [cell_of h1]; rfl⟩
  have HF := Lib.hid hfin
  have HMid := Lib.hid hmid
  have HCO := Lib.hid co
  have hres : inS s now port a = (match (onS s now).l.find? (portB port) with | some b => if letsB s.x a b = true then (onS s now, b.i, 0) else (onS s now, (0, 0), 8) | none => (onS s now, (0, 0), 8)) := by
    unfold inS; rw [if_pos ⟨ha, ho⟩]
  unfold argA at ca
  have HCA := Lib.hid ca
  clear hfin hmid co ca hWA fA bA bR hsA hlowF
  cases hfd : (onS s now).l.find? (portB port) with
  | none =>
    have cat : ∀ W, NatAt W n F (onS s now) → Calls Try.prog 53 #[.pointer (some ⟨n, 0, none⟩), .int .i64 port] W fun e w' => e = .returned (.pointer none) ∧ w' = W := by
      intro W hW
      obtain ⟨es, v, hm, hl, hF⟩ := hW.mem
      exact (at_any n _ _ es v port W hm).mono (fun e w' ⟨u, he, hu, hw⟩ => ⟨by rw [he, find_none hu (by rw [hl]; exact hfd)], hw⟩)
    have HT := Lib.hid cat
    rw [hfd] at hres
    rw [hres]
    clear cat hfd h ha ho hres
    unfold argA
    go_enter Try.func19, Try.ntmps19
    go_wp2_with (first
      | (go_at_call 44; refine (HCA.out _).mono ?_; rintro e w1 ⟨rfl, hf1⟩; rw [HA.out.1] at hf1; have HF1 := Lib.hid hf1; clear hf1)
      | (go_at_call 45; refine (HCO.out _ (HA.out.2.1.then HF1.out)).mono ?_; rintro e w3 ⟨rfl, hN3, hf3⟩; have HF3 := Lib.hid (⟨hN3, (HF1.out.mono (fun _ _ h => h.elim)).then hf3⟩ : NatAt w3 n F (onS s now) ∧ Fr F WA w3); clear hN3 hf3)
      | (go_at_call 53; refine (HT.out _ HF3.out.1).mono ?_; rintro e w4 ⟨rfl, hw4⟩; obtain rfl : w3 = w4 := hw4.symm; obtain ⟨c0, c1, z0, z1, hR⟩ := HF.out (0, 0) _ HF3.out.2 HF3.out.1; have HR := Lib.hid hR; clear hR))
    obtain ⟨r1, r2, r3⟩ := HR.out _ rfl
    exact bodyPost_ret (results_cell_tmp rfl _ _ _ rfl r1) rfl ⟨rfl, r2, r3⟩
  | some b0 =>
    have cat : ∀ W, NatAt W n F (onS s now) → Calls Try.prog 53 #[.pointer (some ⟨n, 0, none⟩), .int .i64 port] W fun e w' => ∃ p, e = .returned (.pointer (some ⟨p, 0, none⟩)) ∧ w' = W ∧
        Hid ((∀ i, i < 2 → W.cell? ⟨p, i, none⟩ = #[Value.int .u32 b0.i.1, .int .i64 b0.i.2][i]?) ∧ p < W.heap.size ∧ ∀ W', Fr0 W W' → W'.cell? ⟨p, 0, none⟩ = some (.int .u32 b0.i.1) ∧ W'.cell? ⟨p, 1, none⟩ = some (.int .i64 b0.i.2)) ∧
        Hid (Calls Try.prog 54 #[.pointer (some ⟨n, 0, none⟩), .pointer (some ⟨p, 0, none⟩), argA a] W fun e w' => e = .returned (.bool (letsB s.x a b0)) ∧ Fr0 W w') := by
      intro W hW
      obtain ⟨es, v, hm, hl, hF⟩ := hW.mem
      refine (at_any n _ _ es v port W hm).mono ?_
      rintro e w' ⟨u, rfl, hu, rfl⟩
      obtain ⟨i, d, hd, hdb, rfl⟩ := find_some hu (by rw [hl]; exact hfd)
      have hen := (hm.ens d (List.mem_of_getElem? hd)).blk
      refine ⟨d.p, rfl, rfl, ⟨fun i hi => ?_, lt_of_heap hen, fun W' hf => ?_⟩, ?_⟩
      · rw [cell_of hen, ← hdb]
        have : i = 0 ∨ i = 1 := by omega
        rcases this with rfl | rfl <;> rfl
      · have := hf.heap hen (fun h => h)
        rw [← hdb]
        exact ⟨by rw [cell_of this]; rfl, by rw [cell_of this]; rfl⟩
      · rw [← hdb]
        exact lets_any n _ _ es v i d a w' hm hd
    unfold argA at cat
    have HT := Lib.hid cat
    rw [hfd] at hres
    replace hres : inS s now port a = if letsB s.x a b0 = true then (onS s now, b0.i, 0) else (onS s now, (0, 0), 8) := hres
    clear cat hfd h ha ho
    cases hlt : letsB s.x a b0
    · rw [hlt] at HT
      rw [hlt, if_neg (by decide)] at hres
      rw [hres]
      unfold argA
      clear hlt hres
      go_enter Try.func19, Try.ntmps19
      go_wp2_with (first
        | (go_at_call 44; refine (HCA.out _).mono ?_; rintro e w1 ⟨rfl, hf1⟩; rw [HA.out.1] at hf1; have HF1 := Lib.hid hf1; clear hf1)
        | (go_at_call 45; refine (HCO.out _ (HA.out.2.1.then HF1.out)).mono ?_; rintro e w3 ⟨rfl, hN3, hf3⟩; have HF3 := Lib.hid (⟨hN3, (HF1.out.mono (fun _ _ h => h.elim)).then hf3⟩ : NatAt w3 n F (onS s now) ∧ Fr F WA w3); clear hN3 hf3; obtain ⟨a0, a1⟩ := HMid.out _ HF3.out.2)
        | (go_at_call 53; refine (HT.out _ HF3.out.1).mono ?_; rintro e w4 ⟨p, rfl, hw4, HP, HL⟩; obtain rfl : w3 = w4 := hw4.symm)
        | (go_at_call 54; refine HL.out.mono ?_; rintro e w5 ⟨rfl, hf5⟩; obtain ⟨c0, c1, z0, z1, hR⟩ := HF.out (0, 0) _ (HF3.out.2.then (hf5.mono (fun _ _ h => h.elim))) (HF3.out.1.fr0 hf5); have HR := Lib.hid hR; clear hR hf5))
      obtain ⟨r1, r2, r3⟩ := HR.out _ rfl
      exact bodyPost_ret (results_cell_tmp rfl _ _ _ rfl r1) rfl ⟨rfl, r2, r3⟩
    · rw [hlt] at HT
      rw [hlt, if_pos rfl] at hres
      rw [hres]
      unfold argA
      clear hlt hres
      go_enter Try.func19, Try.ntmps19
      go_wp2_with (first
        | (go_at_call 44; refine (HCA.out _).mono ?_; rintro e w1 ⟨rfl, hf1⟩; rw [HA.out.1] at hf1; have HF1 := Lib.hid hf1; clear hf1)
        | (go_at_call 45; refine (HCO.out _ (HA.out.2.1.then HF1.out)).mono ?_; rintro e w3 ⟨rfl, hN3, hf3⟩; have HF3 := Lib.hid (⟨hN3, (HF1.out.mono (fun _ _ h => h.elim)).then hf3⟩ : NatAt w3 n F (onS s now) ∧ Fr F WA w3); clear hN3 hf3; obtain ⟨a0, a1⟩ := HMid.out _ HF3.out.2)
        | (go_at_call 53; refine (HT.out _ HF3.out.1).mono ?_; rintro e w4 ⟨p, rfl, hw4, HP, HL⟩; obtain rfl : w3 = w4 := hw4.symm)
        | (go_at_call 54; refine HL.out.mono ?_; rintro e w5 ⟨rfl, hf5⟩; obtain ⟨p0, p1⟩ := HP.out.2.2 _ hf5; obtain ⟨c0, c1, z0, z1, hR⟩ := HF.out b0.i _ (HF3.out.2.then (hf5.mono (fun _ _ h => h.elim))) (HF3.out.1.fr0 hf5); have HR := Lib.hid hR; clear hR hf5))
      obtain ⟨r1, r2, r3⟩ := HR.out _ rfl
      exact bodyPost_ret (results_cell_tmp rfl _ _ _ rfl r1) rfl ⟨rfl, r2, r3⟩

theorem in_any (n : Nat) (F : Nat → Prop) (s : St) (now port : Int) (a : Ad) (w : World) (h : NatAt w n F s) :
    Calls Try.prog 19 #[.pointer (some ⟨n, 0, none⟩), .int .i64 now, .int .i64 port, argA a] w fun e w' => e = .returned (.tuple #[argA (inS s now port a).2.1, .int .i64 (inS s now port a).2.2]) ∧ NatAt w' n F (inS s now port a).1 ∧ Fr F w w' := by
  by_cases hc : mayA a = true ∧ onOk s now = true
  · have hst : (inS s now port a).1 = onS s now := by
      unfold inS
      rw [if_pos hc]
      cases (onS s now).l.find? (portB port) with
      | none => rfl
      | some b => simp only; split <;> rfl
    rw [hst]
    exact in_good n F s now port a w h hc.1 hc.2
  · unfold inS
    rw [if_neg hc]
    exact (in_bad n F s now port a w h hc).mono (fun e w' ⟨he, hf⟩ => ⟨he, h.fr0 hf, hf.mono (fun _ _ h => h.elim)⟩)

end Go.Proofs.Ytkdbjeegiiihaaa
