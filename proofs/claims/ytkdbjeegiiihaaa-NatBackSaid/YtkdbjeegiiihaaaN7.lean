/-
  The binding by which something goes. Conditions: the ones each theorem names.
-/
import Derived.Test.YtkdbjeegiiihaaaN6
set_option linter.unusedVariables false
set_option linter.unusedSimpArgs false
namespace Go.Proofs.Ytkdbjeegiiihaaa
open Go.RowKit Go.Shelf

attribute [local go_sem] Oper.semAt_some

theorem found_some {es : List En} {f : Bd → Bool} {u : Value} (h : Found es f u) {i : Nat} {d : En} (hi : es.findIdx? (fun e => f e.b) = some i) (hd : es[i]? = some d) : u = .pointer (some ⟨d.p, 0, none⟩) := by
  rw [List.findIdx?_eq_some_iff_getElem] at hi
  obtain ⟨hl, hp, hb⟩ := hi
  rcases h with ⟨j, y, hj, hy, hbj, rfl⟩ | ⟨ha, _⟩
  · have hji : j = i := by
      rcases Nat.lt_trichotomy j i with hlt | he | hgt
      · have := hb j hlt
        have hjl := (List.getElem?_eq_some_iff.1 hj).2
        rw [hjl] at this
        rw [hy] at this; simp at this
      · exact he
      · have := hbj i d hgt hd
        have hil := (List.getElem?_eq_some_iff.1 hd).2
        rw [hil, this] at hp; cases hp
    subst hji
    rw [hj] at hd; cases hd; rfl
  · have hil := (List.getElem?_eq_some_iff.1 hd).2
    rw [hil, ha d (List.mem_of_getElem? hd)] at hp; cases hp
theorem found_none {es : List En} {f : Bd → Bool} {u : Value} (h : Found es f u) (hi : es.findIdx? (fun e => f e.b) = none) : u = .pointer none := by
  rw [List.findIdx?_eq_none_iff] at hi
  rcases h with ⟨j, y, hj, hy, _, rfl⟩ | ⟨_, rfl⟩
  · have := hi y (List.mem_of_getElem? hj)
    rw [hy] at this; cases this
  · rfl

theorem asked_hit (n : Nat) (x : Bx) (now : Int) (es : List En) (v : Value) (a : Ad) (w : World) (h : NatM w n x now es v) {i : Nat} {d : En} (hi : es.findIdx? (fun e => askB a e.b) = some i) (hd : es[i]? = some d) :
    Calls Try.prog 51 #[.pointer (some ⟨n, 0, none⟩), argA a] w fun e w' => e = .returned (.pointer (some ⟨d.p, 0, none⟩)) ∧ Fr0 w w' :=
  (asked_any n x now es v a w h).mono (fun e w' ⟨u, he, hu, hf⟩ => ⟨by rw [he, found_some hu hi hd], hf⟩)
theorem asked_miss (n : Nat) (x : Bx) (now : Int) (es : List En) (v : Value) (a : Ad) (w : World) (h : NatM w n x now es v) (hi : es.findIdx? (fun e => askB a e.b) = none) :
    Calls Try.prog 51 #[.pointer (some ⟨n, 0, none⟩), argA a] w fun e w' => e = .returned (.pointer none) ∧ Fr0 w w' :=
  (asked_any n x now es v a w h).mono (fun e w' ⟨u, he, hu, hf⟩ => ⟨by rw [he, found_none hu hi], hf⟩)

def byB (a key : Ad) (b : Bd) : Bool := decide (b.i = a) && decide (b.t = key)

/-- The four variables of 'by' behind its head. -/
theorem by_head (w : World) (a to : Ad) : ∃ WA, ((((w.alloc (Obj.cells #[.int .u32 a.1, .int .i64 a.2] 24)).alloc (Obj.cells #[.int .u32 to.1, .int .i64 to.2] 24)).alloc (Obj.cells #[.pointer none] 106)).alloc (Obj.cells #[.int .i64 0] 30)) = WA ∧
    Fr0 w WA ∧ BoxA WA w.heap.size a ∧ BoxA WA (w.heap.size + 1) to ∧ Boxed WA (w.heap.size + 2) 106 (.pointer none) ∧ Boxed WA (w.heap.size + 3) 30 (.int .i64 0) ∧ WA.heap.size = w.heap.size + 4 := by
  refine ⟨_, rfl, (((Fr.alloc _ _ _).then (Fr.alloc _ _ _)).then (Fr.alloc _ _ _)).then (Fr.alloc _ _ _), ?_, ?_, ?_, ?_, by simp⟩
  · have := World.alloc_heap_new w (Obj.cells #[.int .u32 a.1, .int .i64 a.2] 24)
    exact (((Fr.alloc (fun _ => False) _ _).then (Fr.alloc _ _ _)).then (Fr.alloc _ _ _)).heap this (fun h => h)
  · have := World.alloc_heap_new (w.alloc (Obj.cells #[.int .u32 a.1, .int .i64 a.2] 24)) (Obj.cells #[.int .u32 to.1, .int .i64 to.2] 24)
    rw [World.size_alloc] at this
    exact ((Fr.alloc (fun _ => False) _ _).then (Fr.alloc _ _ _)).heap this (fun h => h)
  · have := World.alloc_heap_new ((w.alloc (Obj.cells #[.int .u32 a.1, .int .i64 a.2] 24)).alloc (Obj.cells #[.int .u32 to.1, .int .i64 to.2] 24)) (Obj.cells #[.pointer none] 106)
    rw [World.size_alloc, World.size_alloc] at this
    exact (Fr.alloc (fun _ => False) _ _).heap this (fun h => h)
  · have := World.alloc_heap_new (((w.alloc (Obj.cells #[.int .u32 a.1, .int .i64 a.2] 24)).alloc (Obj.cells #[.int .u32 to.1, .int .i64 to.2] 24)).alloc (Obj.cells #[.pointer none] 106)) (Obj.cells #[.int .i64 0] 30)
    rw [World.size_alloc, World.size_alloc, World.size_alloc] at this
    exact this

set_option maxRecDepth 100000 in
set_option maxHeartbeats 1000000 in
/-- It has one that was asked for. -/
theorem by_ask (n : Nat) (x : Bx) (now : Int) (es : List En) (v : Value) (a to : Ad) (w : World) (h : NatM w n x now es v) {i : Nat} {d : En} (hi : es.findIdx? (fun e => askB a e.b) = some i) (hd : es[i]? = some d) :
    Calls Try.prog 46 #[.pointer (some ⟨n, 0, none⟩), argA a, argA to] w fun e w' => e = .returned (.tuple #[.pointer (some ⟨d.p, 0, none⟩), .int .i64 0]) ∧ Fr0 w w' := by
  obtain ⟨WA, hWA, fA, bA, bT, bR, bC, hsA⟩ := by_head w a to
  have hc := fun W (hf : Fr0 w W) => asked_hit n x now es v a W (h.fr0 hf) hi hd
  unfold argA at hc
  have HC := Lib.hid hc
  have HA := Lib.hid (⟨hWA, fA, bR, bC⟩ : _ ∧ _ ∧ _ ∧ _)
  unfold argA
  clear hc h hi hd hWA fA bA bT bR bC
  go_enter Try.func46, Try.ntmps46
  go_wp2_with (go_at_call 51; refine (HC.out _ ((((Fr.alloc _ _ _).then (Fr.alloc _ _ _)).then (Fr.alloc _ _ _)).then (Fr.alloc _ _ _))).mono ?_; rintro e w1 ⟨rfl, hf1⟩; rw [HA.out.1] at hf1; have e6 : w1.cell? ⟨w.heap.size + 1 + 1, 0, none⟩ = some (.pointer none) := (hf1.boxed HA.out.2.2.1 (fun h => h)).cell; have e7 : w1.cell? ⟨w.heap.size + 1 + 1 + 1, 0, none⟩ = some (.int .i64 0) := (hf1.boxed HA.out.2.2.2 (fun h => h)).cell; have z6 : w1.frozen? ⟨w.heap.size + 1 + 1, 0, none⟩ = false := (hf1.boxed HA.out.2.2.1 (fun h => h)).frozen; have z7 : w1.frozen? ⟨w.heap.size + 1 + 1 + 1, 0, none⟩ = false := (hf1.boxed HA.out.2.2.2 (fun h => h)).frozen; have HF := Lib.hid hf1; clear hf1)
  obtain ⟨_, fA, bR, bC⟩ := HA.out
  have b6 := HF.out.boxed bR (fun h => h)
  have b7 := HF.out.boxed bC (fun h => h)
  have s6 : Fr (fun b => b = w.heap.size + 2) w1 (w1.setCell ⟨w.heap.size + 2, 0, none⟩ (.pointer (some ⟨d.p, 0, none⟩))) := Fr.setCell _ _ _ rfl
  have s7 : Fr (fun b => b = w.heap.size + 3) (w1.setCell ⟨w.heap.size + 2, 0, none⟩ (.pointer (some ⟨d.p, 0, none⟩))) ((w1.setCell ⟨w.heap.size + 2, 0, none⟩ (.pointer (some ⟨d.p, 0, none⟩))).setCell ⟨w.heap.size + 3, 0, none⟩ (.int .i64 0)) := Fr.setCell _ _ _ rfl
  exact bodyPost_ret (results_cell2 rfl _ _ _ rfl rfl (load106 (s7.boxed (b6.set _) (by omega)).cell) (load30 ((s6.boxed b7 (by omega)).set _).cell)) rfl ⟨rfl, ((fA.then HF.out).trans s6 (fun b hb e => by omega)).trans s7 (fun b hb e => by omega)⟩

/-- Behind the look: the world as it was ahead of the loop, but for what the loop's own machinery does. -/
def BI (W3 : World) (es : List En) (f : Bd → Bool) (s : Nat) (W : World) : Prop := (∀ t d, t < s → es[t]? = some d → f d.b = false) ∧ Fr0 W3 W

set_option maxRecDepth 100000 in
set_option maxHeartbeats 2000000 in
theorem by_miss (n : Nat) (x : Bx) (now : Int) (es : List En) (v : Value) (a to : Ad) (w : World) (h : NatM w n x now es v) (hi : es.findIdx? (fun e => askB a e.b) = none)
    (M : World → Option Go.Addr → Int → World → Prop) (M' : Option Go.Addr → Int → World → Prop)
    (hmade : ∀ W, Fr0 w W → Calls Try.prog 52 #[.pointer (some ⟨n, 0, none⟩), argB a (keyB x to) 0 0 false, .int .i64 a.2] W fun e w' => ∃ u c, e = .returned (.tuple #[.pointer u, .int .i64 c]) ∧ M W u c w')
    (hM : ∀ W u c A B, Fr0 w W → M W u c A → Fr (fun b => w.heap.size ≤ b ∧ b < W.heap.size) A B → M' u c B)
    (hMo : ∀ W u c A b o, Fr0 w W → M W u c A → w.heap.size ≤ b → W.heap[b]? = some o → A.heap[b]? = some o) :
    Calls Try.prog 46 #[.pointer (some ⟨n, 0, none⟩), argA a, argA to] w fun e w' =>
      (∃ (i : Nat) (d : En), es[i]? = some d ∧ byB a (keyB x to) d.b = true ∧ (∀ (t : Nat) (y : En), t < i → es[t]? = some y → byB a (keyB x to) y.b = false) ∧ e = .returned (.tuple #[.pointer (some ⟨d.p, 0, none⟩), .int .i64 0]) ∧ Fr0 w w') ∨
      ((∀ d ∈ es, byB a (keyB x to) d.b = false) ∧ ∃ u c, e = .returned (.tuple #[.pointer u, .int .i64 c]) ∧ M' u c w') := by
  obtain ⟨WA, hWA, fA, bA, bT, bR, bC, hsA⟩ := by_head w a to
  have hc := fun W (hf : Fr0 w W) => asked_miss n x now es v a W (h.fr0 hf) hi
  have ht := fun W (hf : Fr0 w W) => towards_any n x now es v to W (h.fr0 hf)
  have ho := fun W => of_any n a W
  unfold argA at hc ht ho
  have HC := Lib.hid hc
  have HT := Lib.hid ht
  have HO := Lib.hid ho
  have HA := Lib.hid (⟨hWA, fA, bA, bT, bR, bC, hsA⟩ : _ ∧ _ ∧ _ ∧ _ ∧ _ ∧ _ ∧ _)
  have HH := Lib.hid h
  have HMd := Lib.hid hmade
  have HM := Lib.hid hM
  have hMb : ∀ W u c A b t z, Fr0 w W → M W u c A → w.heap.size ≤ b → Boxed W b t z → Boxed A b t z := fun W u c A b t z h1 h2 h3 h4 => hMo W u c A b _ h1 h2 h3 h4
  have HMB := Lib.hid hMb
  have HMO := Lib.hid hMo
  unfold argA
  have aw : w.heap.size < w.heap.size + 1 := by omega
  clear hc ht ho h hi hWA fA bA bT bR bC hsA hmade hM hMb hMo
  refine (callsIn_wide (n := 0)).1 ?_
  refine callsIn_of_wp_marks Try.func46 rfl trivial ?_ rfl
  simp only [Try.ntmps46, List.size_toArray, List.length_cons, List.length_nil, Nat.reduceAdd, Nat.reduceSub, Array.replicate_succ, Array.replicate_zero, List.push_toArray, List.append_toArray, List.nil_append, List.cons_append]
  have wf : ∀ k, Fence.wide.fn k := fun _ => trivial
  have wd : Fence.wide.depth = none := rfl
  generalize hkk : keyB x to = key at HT HMd ⊢
  gi_wp2_with (first
    | (gi_at_call 51; refine (callsIn_wide.2 (HC.out _ ((((Fr.alloc _ _ _).then (Fr.alloc _ _ _)).then (Fr.alloc _ _ _)).then (Fr.alloc _ _ _)))).mono ?_; rintro e w1 ⟨rfl, hf1⟩; rw [HA.out.1] at hf1; have a0 : w1.cell? ⟨w.heap.size, 0, none⟩ = some (.int .u32 a.1) := (by rw [cell_of (hf1.heap HA.out.2.2.1 (fun h => h))]; rfl); have a1 : w1.cell? ⟨w.heap.size, 1, none⟩ = some (.int .i64 a.2) := (by rw [cell_of (hf1.heap HA.out.2.2.1 (fun h => h))]; rfl); have t0 : w1.cell? ⟨w.heap.size + 1, 0, none⟩ = some (.int .u32 to.1) := (by rw [cell_of (hf1.heap HA.out.2.2.2.1 (fun h => h))]; rfl); have t1 : w1.cell? ⟨w.heap.size + 1, 1, none⟩ = some (.int .i64 to.2) := (by rw [cell_of (hf1.heap HA.out.2.2.2.1 (fun h => h))]; rfl); have HF1 := Lib.hid hf1; clear hf1)
    | (gi_at_call 94; refine (callsIn_wide.2 (HT.out _ (HA.out.2.1.then HF1.out))).mono ?_; rintro e w2 ⟨rfl, hf2⟩; have a2 : w2.cell? ⟨w.heap.size, 0, none⟩ = some (.int .u32 a.1) := (by rw [cell_of ((HF1.out.then hf2).heap HA.out.2.2.1 (fun h => h))]; rfl); have a3 : w2.cell? ⟨w.heap.size, 1, none⟩ = some (.int .i64 a.2) := (by rw [cell_of ((HF1.out.then hf2).heap HA.out.2.2.1 (fun h => h))]; rfl); have hlt : w.heap.size < w2.heap.size := (by have := (HF1.out.then hf2).size; have := HA.out.2.2.2.2.2.2; omega); have HF2 := Lib.hid hf2; clear hf2)
    | (gi_at_call 95; refine (callsIn_wide.2 (HO.out _)).mono ?_; rintro e w3 ⟨rfl, hw3⟩; have HW3 := Lib.hid hw3; clear hw3))
  obtain ⟨hWA, fA, bA, bT, bR, bC, hsA⟩ := HA.out
  have f2 : Fr0 WA w2 := HF1.out.then HF2.out
  have hw3 := HW3.out
  have f3 : Fr0 w2 w3 := by rw [hw3]; exact ((Fr.alloc _ _ _).then (Fr.alloc _ _ _)).then (Fr.alloc _ _ _)
  have g9 : BoxA w3 w2.heap.size key := by rw [hw3]; exact ((Fr.alloc (fun _ => False) _ _).then (Fr.alloc _ _ _)).heap (World.alloc_heap_new w2 _) (fun h => h)
  have g1 : Boxed w3 (w2.heap.size + 1) 29 (.pointer (some ⟨n, 0, none⟩)) := by
    rw [hw3]
    have := World.alloc_heap_new (w2.alloc (Obj.cells #[.int .u32 key.1, .int .i64 key.2] 24)) (Obj.cells #[.pointer (some ⟨n, 0, none⟩)] 29)
    rw [World.size_alloc] at this
    exact (Fr.alloc (fun _ => False) _ _).heap this (fun h => h)
  have g2 : BoxA w3 (w2.heap.size + 2) a := by
    rw [hw3]
    have := World.alloc_heap_new ((w2.alloc (Obj.cells #[.int .u32 key.1, .int .i64 key.2] 24)).alloc (Obj.cells #[.pointer (some ⟨n, 0, none⟩)] 29)) (Obj.cells #[.int .u32 a.1, .int .i64 a.2] 24)
    rw [World.size_alloc, World.size_alloc] at this
    exact this
  have hs3 : w3.heap.size = w2.heap.size + 3 := by rw [hw3]; simp
  have hsw : w.heap.size + 4 ≤ w2.heap.size := by have := f2.size; omega
  have q6 := (f2.then f3).boxed bR (fun h => h)
  have q7 := (f2.then f3).boxed bC (fun h => h)
  have qa := (bA.fr (f2.then f3) (fun h => h))
  have F3 : Fr0 w w3 := (fA.then f2).then f3
  have hm3 := HH.out.fr0 F3
  have HG := Lib.hid (⟨g9, q6, q7, qa, F3, hsw, hs3, hm3⟩ : _ ∧ _ ∧ _ ∧ _ ∧ _ ∧ _ ∧ _ ∧ _)
  clear hWA fA bA bT bR bC hsA f2 hw3 f3 a0 a1 a2 a3 t0 t1 hlt
  refine wp_iter (gf := 119) (lb := #[.pointer (some ⟨w2.heap.size + 1, 0, none⟩), .pointer (some ⟨w2.heap.size + 1 + 1, 0, none⟩)]) rfl (enters_of Try.func119 (by kernel_rfl) rfl)
    (fun W1 hf => of1_iter n x now es v a (w2.heap.size + 1) (w2.heap.size + 2) W1) (fun _ => rfl)
    (BI w3 es (byB a key)) (fun c W => c = .ret ∧ ∃ (i : Nat) (d : En), es[i]? = some d ∧ byB a key d.b = true ∧ (∀ (t : Nat) (y : En), t < i → es[t]? = some y → byB a key y.b = false) ∧ Boxed W (w.heap.size + 2) 106 (.pointer (some ⟨d.p, 0, none⟩)) ∧ Boxed W (w.heap.size + 3) 30 (.int .i64 0) ∧ Fr0 w W)
    (fun s A B hi hf => ⟨hi.1, hi.2.trans hf (fun b hb e => e.elim id (fun e => by omega))⟩)
    (fun c A B hix hf => by
      obtain ⟨h1, i, d, h2, h3, h4, h5, h6, h7⟩ := hix
      exact ⟨h1, i, d, h2, h3, h4, hf.boxed h5 (fun e => not_misc_boxed h5 e.1.misc), hf.boxed h6 (fun e => not_misc_boxed h6 e.1.misc), h7.trans hf (fun b hb e => by have := e.2; omega)⟩)
    (fun s A B hq hf => hq.fr hf (fun b e => .inl e.1.misc) (fun b e hb => hq.2.2.notMisc hb e.1.misc))
    (fun _ h => h.elim) ⟨fun t d ht => by omega, Fr.refl _ _⟩ ⟨g1, g2, hm3⟩ ?round ?done ?stop
  case stop =>
    clear g9 g1 g2 q6 q7 qa F3 hm3
    intro K c W hK hix hk
    have HE := Lib.hid (⟨hix, hk, hK⟩ : _ ∧ _ ∧ _)
    obtain rfl := hix.1
    clear hix hk hK
    gi_wp2
    obtain ⟨⟨_, i, d, h2, h3, h4, h5, h6, h7⟩, hk, hK⟩ := HE.out
    refine ⟨by simp, .inl ⟨K, _, rfl, run_takeDeferred hk, ?_⟩⟩
    have hp : Fr (fun b => b = K) W (W.putObj K (.deferred none)) := Fr.putObj _ _ _ rfl
    exact ⟨_, results_cell2 rfl _ _ _ rfl rfl (load106 (hp.boxed h5 (fun e => by omega)).cell) (load30 (hp.boxed h6 (fun e => by omega)).cell), .inl ⟨i, d, h2, h3, h4, rfl, h7.trans hp (fun b hb e => by omega)⟩⟩
  case round =>
    clear g9 g1 g2 q6 q7 qa F3 hm3
    intro l K s e s' W hl hi hq hem
    gi_wp2
    refine ⟨KeepM.refl _, fun W₂ hf2 hl1 hl2 => ?_⟩
    replace hi : BI w3 es (byB a key) s W₂ := ⟨hi.1, hi.2.trans hf2 (fun b hb e => by omega)⟩
    replace hq := hq.fr hf2 (fun b e => .inl (e ▸ hl1.misc)) (fun b e hb => hq.2.2.notMisc hb (e ▸ hl1.misc))
    obtain ⟨k, hk, he, hei, hbet, rfl⟩ := hem
    have hen := (hq.2.2.ens e (List.mem_of_getElem? he)).blk
    have c2 : W₂.cell? ⟨e.p, 2, none⟩ = some (.int .u32 e.b.t.1) := by rw [cell_of hen]; rfl
    have c3 : W₂.cell? ⟨e.p, 3, none⟩ = some (.int .i64 e.b.t.2) := by rw [cell_of hen]; rfl
    have k9 := HG.out.1.fr hi.2 (fun h => h)
    have k0 : W₂.cell? ⟨w2.heap.size, 0, none⟩ = some (.int .u32 key.1) := by rw [cell_of k9]; rfl
    have k1 : W₂.cell? ⟨w2.heap.size, 1, none⟩ = some (.int .i64 key.2) := by rw [cell_of k9]; rfl
    have e6 : W₂.cell? ⟨w.heap.size + 1 + 1, 0, none⟩ = some (.pointer none) := (hi.2.boxed HG.out.2.1 (fun h => h)).cell
    have e7 : W₂.cell? ⟨w.heap.size + 1 + 1 + 1, 0, none⟩ = some (.int .i64 0) := (hi.2.boxed HG.out.2.2.1 (fun h => h)).cell
    have z6 : W₂.frozen? ⟨w.heap.size + 1 + 1, 0, none⟩ = false := (hi.2.boxed HG.out.2.1 (fun h => h)).frozen
    have z7 : W₂.frozen? ⟨w.heap.size + 1 + 1 + 1, 0, none⟩ = false := (hi.2.boxed HG.out.2.2.1 (fun h => h)).frozen
    have wf' : ∀ k, (Fence.wide.inRound l).fn k := fun _ => trivial
    have wd' : (Fence.wide.inRound l).depth = none := rfl
    have HA := Lib.hid (⟨hi, hq, hk, he, hei, hbet⟩ : _ ∧ _ ∧ _ ∧ _ ∧ _ ∧ _)
    clear hi hq hk he hei hbet hen hl1 hl2 hf2 k9
    have q := eql24
    unfold argP
    by_cases hb : e.b.t = key
    · have hne : eqI e.b.t.1 e.b.t.2 key.1 key.2 = true := by rw [eqI_iff]; simpa using hb
      have HB := Lib.hid hb
      have hend : ∀ ac, bpost (fun s W => BI w3 es (byB a key) s W ∧ OQ n x now es v a (w2.heap.size + 1) (w2.heap.size + 2) s W) (fun c W => c = .ret ∧ ∃ (i : Nat) (d : En), es[i]? = some d ∧ byB a key d.b = true ∧ (∀ (t : Nat) (y : En), t < i → es[t]? = some y → byB a key y.b = false) ∧ Boxed W (w.heap.size + 2) 106 (.pointer (some ⟨d.p, 0, none⟩)) ∧ Boxed W (w.heap.size + 3) 30 (.int .i64 0) ∧ Fr0 w W)
          (k + 1) W₂ .ret ac ((W₂.setCell ⟨w.heap.size + 1 + 1, 0, none⟩ (.pointer (some ⟨e.p, 0, none⟩))).setCell ⟨w.heap.size + 1 + 1 + 1, 0, none⟩ (.int .i64 0)).drew := by
        intro ac
        obtain ⟨hi, hq, hk, he, hei, hbet⟩ := HA.out
        have b6 := hi.2.boxed HG.out.2.1 (fun h => h)
        have b7 := hi.2.boxed HG.out.2.2.1 (fun h => h)
        have s6 : Fr (fun b => b = w.heap.size + 2) W₂ (W₂.setCell ⟨w.heap.size + 2, 0, none⟩ (.pointer (some ⟨e.p, 0, none⟩))) := Fr.setCell _ _ _ rfl
        have s7 : Fr (fun b => b = w.heap.size + 3) (W₂.setCell ⟨w.heap.size + 2, 0, none⟩ (.pointer (some ⟨e.p, 0, none⟩))) ((W₂.setCell ⟨w.heap.size + 2, 0, none⟩ (.pointer (some ⟨e.p, 0, none⟩))).setCell ⟨w.heap.size + 3, 0, none⟩ (.int .i64 0)).drew := (Fr.setCell (S := fun b => b = w.heap.size + 3) _ _ _ rfl).then (Fr.drew _ _)
        have b7' := s6.boxed b7 (by omega)
        refine ⟨(s6.keepM (fun b e => e ▸ not_misc_boxed b6)).trans (s7.keepM (fun b e => e ▸ not_misc_boxed b7')), rfl, k, e, he, by simp [byB, hei, HB.out], fun t y ht hy => ?_, s7.boxed (b6.set _) (by omega), b7'.set _, (((HG.out.2.2.2.2.1.then hi.2).trans s6 (fun b hb e => by omega)).trans s7 (fun b hb e => by omega))⟩
        by_cases h1 : t < s
        · exact hi.1 t y h1 hy
        · simp [byB, hbet t y (by omega) ht hy]
      have HS := Lib.hid hend
      clear hb hend
      gi_wp2
      gi_region
      all_goals
        gi_wp2
        exact HS.out _
    · have hne : eqI e.b.t.1 e.b.t.2 key.1 key.2 = false := by rw [eqI_iff]; simpa using hb
      have HB := Lib.hid hb
      have hend : ∀ ac, bpost (fun s W => BI w3 es (byB a key) s W ∧ OQ n x now es v a (w2.heap.size + 1) (w2.heap.size + 2) s W) (fun c W => c = .ret ∧ ∃ (i : Nat) (d : En), es[i]? = some d ∧ byB a key d.b = true ∧ (∀ (t : Nat) (y : En), t < i → es[t]? = some y → byB a key y.b = false) ∧ Boxed W (w.heap.size + 2) 106 (.pointer (some ⟨d.p, 0, none⟩)) ∧ Boxed W (w.heap.size + 3) 30 (.int .i64 0) ∧ Fr0 w W)
          (k + 1) W₂ .normal ac W₂.drew := by
        intro ac
        obtain ⟨hi, hq, hk, he, hei, hbet⟩ := HA.out
        have hd : Fr0 W₂ W₂.drew := Fr.drew _ _
        refine ⟨hd.keepM0, ⟨fun t y ht hy => ?_, hi.2.then hd⟩, hq.1, hq.2.1, hq.2.2.fr0 hd⟩
        by_cases h1 : t < s
        · exact hi.1 t y h1 hy
        · by_cases h2 : t = k
          · subst h2; rw [he] at hy; cases hy; simp [byB, HB.out]
          · simp [byB, hbet t y (by omega) (by omega) hy]
      have HS := Lib.hid hend
      clear hb hend
      gi_wp2
      gi_region
      all_goals
        gi_wp2
        exact HS.out _
  case done =>
    clear g9 g1 g2 q6 q7 qa F3 hm3
    intro K s W hK hF hi hq hk
    obtain ⟨g9, q6, q7, qa, F3, hsw, hs3, hm3⟩ := HG.out
    have e6 : W.cell? ⟨w.heap.size + 1 + 1, 0, none⟩ = some (.pointer none) := (hi.2.boxed q6 (fun h => h)).cell
    have k9 := g9.fr hi.2 (fun h => h)
    have ka := qa.fr hi.2 (fun h => h)
    have k0 : W.cell? ⟨w2.heap.size, 0, none⟩ = some (.int .u32 key.1) := by rw [cell_of k9]; rfl
    have k1 : W.cell? ⟨w2.heap.size, 1, none⟩ = some (.int .i64 key.2) := by rw [cell_of k9]; rfl
    have a0 : W.cell? ⟨w.heap.size, 0, none⟩ = some (.int .u32 a.1) := by rw [cell_of ka]; rfl
    have a1 : W.cell? ⟨w.heap.size, 1, none⟩ = some (.int .i64 a.2) := by rw [cell_of ka]; rfl
    have hfW := F3.then hi.2
    have hmd := HMd.out W hfW
    unfold argB at hmd
    have HD := Lib.hid hmd
    have HE := Lib.hid (⟨hF, hi, hk, hK, hfW⟩ : _ ∧ _ ∧ _ ∧ _ ∧ _)
    clear hF hi hq hk hK k9 ka g9 q6 q7 qa F3 hsw hs3 hm3 hfW hmd
    gi_wp2_with (gi_at_call 52; refine (callsIn_wide.2 HD.out).mono ?_; rintro e w5 ⟨u, c, rfl, hm5⟩; have e6 : w5.cell? ⟨w.heap.size + 1 + 1, 0, none⟩ = some (.pointer none) := (HMB.out _ _ _ _ _ _ _ HE.out.2.2.2.2 hm5 (by omega) (HE.out.2.1.2.boxed HG.out.2.1 (fun h => h))).cell; have z6 : w5.frozen? ⟨w.heap.size + 1 + 1, 0, none⟩ = false := (HMB.out _ _ _ _ _ _ _ HE.out.2.2.2.2 hm5 (by omega) (HE.out.2.1.2.boxed HG.out.2.1 (fun h => h))).frozen; have e7 : w5.cell? ⟨w.heap.size + 1 + 1 + 1, 0, none⟩ = some (.int .i64 0) := (HMB.out _ _ _ _ _ _ _ HE.out.2.2.2.2 hm5 (by omega) (HE.out.2.1.2.boxed HG.out.2.2.1 (fun h => h))).cell; have z7 : w5.frozen? ⟨w.heap.size + 1 + 1 + 1, 0, none⟩ = false := (HMB.out _ _ _ _ _ _ _ HE.out.2.2.2.2 hm5 (by omega) (HE.out.2.1.2.boxed HG.out.2.2.1 (fun h => h))).frozen; have H5 := Lib.hid hm5; clear hm5)
    obtain ⟨hF, hi, hk, hK, hfW⟩ := HE.out
    obtain ⟨g9, q6, q7, qa, F3, hsw, hs3, hm3⟩ := HG.out
    have b6 := HMB.out _ _ _ _ _ _ _ hfW H5.out (by omega) (hi.2.boxed q6 (fun h => h))
    have b7 := HMB.out _ _ _ _ _ _ _ hfW H5.out (by omega) (hi.2.boxed q7 (fun h => h))
    have bK := HMO.out _ _ _ _ K _ hfW H5.out (by omega) hk
    have s6 : Fr (fun b => b = w.heap.size + 2) w5 (w5.setCell ⟨w.heap.size + 2, 0, none⟩ (.pointer u)) := Fr.setCell _ _ _ rfl
    have s7 : Fr (fun b => b = w.heap.size + 3) (w5.setCell ⟨w.heap.size + 2, 0, none⟩ (.pointer u)) ((w5.setCell ⟨w.heap.size + 2, 0, none⟩ (.pointer u)).setCell ⟨w.heap.size + 3, 0, none⟩ (.int .i64 c)) := Fr.setCell _ _ _ rfl
    have hk2 := s7.heap (s6.heap bK (fun e => by omega)) (fun e => by omega)
    refine ⟨by simp, .inl ⟨K, _, rfl, run_takeDeferred hk2, ?_⟩⟩
    have hp : Fr (fun b => b = K) ((w5.setCell ⟨w.heap.size + 2, 0, none⟩ (.pointer u)).setCell ⟨w.heap.size + 3, 0, none⟩ (.int .i64 c)) (((w5.setCell ⟨w.heap.size + 2, 0, none⟩ (.pointer u)).setCell ⟨w.heap.size + 3, 0, none⟩ (.int .i64 c)).putObj K (.deferred none)) := Fr.putObj _ _ _ rfl
    have hKl : K < W.heap.size := lt_of_heap hk
    refine ⟨_, results_cell2 rfl _ _ _ rfl rfl (load106 (hp.boxed (s7.boxed (b6.set _) (by omega)) (fun e => by omega)).cell) (load30 (hp.boxed ((s6.boxed b7 (by omega)).set _) (fun e => by omega)).cell), .inr ⟨fun d hd => ?_, u, c, rfl, ?_⟩⟩
    · obtain ⟨t, ht, rfl⟩ := List.mem_iff_getElem.1 hd
      by_cases h1 : t < s
      · exact hi.1 t _ h1 (by simp [ht])
      · simp [byB, hF t es[t] (by omega) (by simp [ht])]
    · refine HM.out _ _ _ _ _ hfW H5.out (((s6.mono (T := fun b => w.heap.size ≤ b ∧ b < W.heap.size) (fun b _ e => ?_)).then (s7.mono (fun b _ e => ?_))).then (hp.mono (fun b _ e => ?_)))
      · have := hi.2.size; omega
      · have := hi.2.size; omega
      · have := hi.2.size; omega

end Go.Proofs.Ytkdbjeegiiihaaa
