/-
  A box as a whole: its state, and what goes out. Conditions: the ones each theorem names.
-/
import Derived.Test.YtkdbjeegiiihaaaN9
set_option linter.unusedVariables false
set_option linter.unusedSimpArgs false
namespace Go.Proofs.Ytkdbjeegiiihaaa
open Go.RowKit Go.Shelf

structure St where
  x : Bx
  now : Int
  l : List Bd
structure Ok (s : St) : Prop where
  may : mayX s.x = true
  lo : 0 ≤ s.now
  hi : s.now ≤ 1099511627776
  len : (s.l.length : Int) ≤ s.x.most
  seen : ∀ b ∈ s.l, b.seen.length ≤ 16
/-- The box at n is in state s; all that it owns lies within F. -/
structure NatAt (W : World) (n : Nat) (F : Nat → Prop) (s : St) : Prop where
  mem : ∃ es v, NatM W n s.x s.now es v ∧ es.map En.b = s.l ∧ ∀ q, foot n es v q → F q
  low : ∀ q, F q → q < W.heap.size
  ok : Ok s

theorem NatAt.fr {S : Nat → Prop} {A B : World} {n : Nat} {F : Nat → Prop} {s : St} (h : NatAt A n F s) (hf : Fr S A B) (hS : ∀ q, F q → ¬ S q) : NatAt B n F s := by
  obtain ⟨es, v, hm, hl, hF⟩ := h.mem
  exact ⟨⟨es, v, hm.fr hf (fun b hb => hS b (hF b hb)), hl, hF⟩, fun q hq => Nat.lt_of_lt_of_le (h.low q hq) hf.size, h.ok⟩
theorem NatAt.fr0 {A B : World} {n : Nat} {F : Nat → Prop} {s : St} (h : NatAt A n F s) (hf : Fr0 A B) : NatAt B n F s := h.fr hf (fun _ _ h => h)
theorem NatAt.mono {W : World} {n : Nat} {F G : Nat → Prop} {s : St} (h : NatAt W n F s) (hFG : ∀ q, F q → G q) (hG : ∀ q, G q → q < W.heap.size) : NatAt W n G s := by
  obtain ⟨es, v, hm, hl, hF⟩ := h.mem
  exact ⟨⟨es, v, hm, hl, fun q hq => hFG q (hF q hq)⟩, hG, h.ok⟩
/-- F, and what was made between two worlds. -/
def grow (F : Nat → Prop) (A B : World) (q : Nat) : Prop := F q ∨ A.heap.size ≤ q ∧ q < B.heap.size
theorem NatAt.grow {A B : World} {n : Nat} {F : Nat → Prop} {s : St} (h : NatAt B n F s) (hs : A.heap.size ≤ B.heap.size) : NatAt B n (grow F A B) s :=
  h.mono (fun q hq => .inl hq) (fun q hq => hq.elim (h.low q) (fun e => e.2))

def onOk (s : St) (now : Int) : Bool := decide (s.now ≤ now ∧ now ≤ 1099511627776)
def onS (s : St) (now : Int) : St := { s with now := now, l := s.l.filter fun b => decide (now < b.unt) }
def touch (x : Bx) (now : Int) (to : Ad) (b : Bd) : Bd := { b with unt := if b.asked then b.unt else min (now + x.life) 1099511627776, seen := seeS b.seen to }
/-- What goes out: the box's state behind it, and the answer. -/
def outS (s : St) (now : Int) (a to : Ad) : St × Ad × Int :=
  if mayA a = true ∧ mayA to = true ∧ onOk s now = true then
    match byR s.x (onS s now).l a to with
    | some (l2, i) => match l2[i]? with
      | some b => ({ onS s now with l := l2.set i (touch s.x now to b) }, (s.x.host, b.port), 0)
      | none => (s, (0, 0), 0)
    | none => (onS s now, (0, 0), 10)
  else (s, (0, 0), 1)

theorem results_cell_tmp {fn : Func} {t u : Tmp} {ty : TypeId} (h : fn.results = #[.cell t ty, .tmp u]) (tmps : Array Value) (P : Program) (w : World) {a : Addr} {v : Value} (ht : tmps.getD t undef = .pointer (some a)) (hv : (loadVar ty a).run P w = .ok v w) :
    (results fn tmps).run P w = .ok (.tuple #[v, tmps.getD u undef]) w := by
  rw [Array.getD_eq_getD_getElem?] at ht
  simp [results, h, ht, hv, asAddr]

theorem onS_ok {s : St} {now : Int} (h : Ok s) (ho : onOk s now = true) : Ok (onS s now) := by
  simp [onOk] at ho
  exact ⟨h.may, by have := h.lo; show 0 ≤ now; omega, ho.2, by have := List.length_filter_le (fun b => decide (now < b.unt)) s.l; have := h.len; show (((s.l.filter fun b => decide (now < b.unt)).length : Nat) : Int) ≤ s.x.most; omega, fun b hb => h.seen b (List.mem_filter.1 hb).1⟩

theorem out_head (w : World) (a to : Ad) : ∃ WA, (((w.alloc (Obj.cells #[.int .u32 a.1, .int .i64 a.2] 24)).alloc (Obj.cells #[.int .u32 to.1, .int .i64 to.2] 24)).alloc (Obj.cells #[.int .u32 0, .int .i64 0] 24)) = WA ∧
    Fr0 w WA ∧ BoxA WA w.heap.size a ∧ BoxA WA (w.heap.size + 1) to ∧ BoxA WA (w.heap.size + 2) (0, 0) ∧ WA.heap.size = w.heap.size + 3 := by
  refine ⟨_, rfl, ((Fr.alloc _ _ _).then (Fr.alloc _ _ _)).then (Fr.alloc _ _ _), ?_, ?_, ?_, by simp⟩
  · have := World.alloc_heap_new w (Obj.cells #[.int .u32 a.1, .int .i64 a.2] 24)
    exact ((Fr.alloc (fun _ => False) _ _).then (Fr.alloc _ _ _)).heap this (fun h => h)
  · have := World.alloc_heap_new (w.alloc (Obj.cells #[.int .u32 a.1, .int .i64 a.2] 24)) (Obj.cells #[.int .u32 to.1, .int .i64 to.2] 24)
    rw [World.size_alloc] at this
    exact (Fr.alloc (fun _ => False) _ _).heap this (fun h => h)
  · have := World.alloc_heap_new ((w.alloc (Obj.cells #[.int .u32 a.1, .int .i64 a.2] 24)).alloc (Obj.cells #[.int .u32 to.1, .int .i64 to.2] 24)) (Obj.cells #[.int .u32 0, .int .i64 0] 24)
    rw [World.size_alloc, World.size_alloc] at this
    exact this

/-- Two cells stored, and the variable is told. -/
theorem boxA_set {W : World} {b : Nat} {a c : Ad} (h : BoxA W b a) : BoxA ((W.setCell ⟨b, 0, none⟩ (.int .u32 c.1)).setCell ⟨b, 1, none⟩ (.int .i64 c.2)) b c := set_cells (set_cells h 0 _ rfl) 1 _ rfl
theorem boxA_fr {W : World} {b : Nat} {u v : Value} : Fr (fun q => q = b) W ((W.setCell ⟨b, 0, none⟩ u).setCell ⟨b, 1, none⟩ v) := (Fr.setCell (S := fun q => q = b) _ _ _ rfl).then (Fr.setCell _ _ _ rfl)

set_option maxRecDepth 100000 in
set_option maxHeartbeats 2000000 in
theorem out_bad (n : Nat) (F : Nat → Prop) (s : St) (now : Int) (a to : Ad) (w : World) (h : NatAt w n F s) (hb : ¬ (mayA a = true ∧ mayA to = true ∧ onOk s now = true)) :
    Calls Try.prog 15 #[.pointer (some ⟨n, 0, none⟩), .int .i64 now, argA a, argA to] w fun e w' => e = .returned (.tuple #[argA (0, 0), .int .i64 1]) ∧ Fr0 w w' := by
  obtain ⟨WA, hWA, fA, bA, bT, bR, hsA⟩ := out_head w a to
  obtain ⟨es, v, hm, hl, hF⟩ := h.mem
  have ca := fun W => mayA_any a W
  have ct := fun W => mayA_any to W
  have h8 : w.cell? ⟨n, 8, none⟩ = some (.int .i64 s.now) := by rw [cell_of hm.blk]; rfl
  have co := fun (hbad : now < s.now ∨ 1099511627776 < now) W (hf : Fr0 w W) => on_bad n s.now now W (hf.cell h8 (fun h => h)) hbad
  unfold argA at ca ct
  have HA := Lib.hid (⟨hWA, fA, bA, bT, bR, hsA⟩ : _ ∧ _ ∧ _ ∧ _ ∧ _ ∧ _)
  have hfin : ∀ W, Fr0 WA W → W.cell? ⟨w.heap.size + 1 + 1, 0, none⟩ = some (.int .u32 0) ∧ W.cell? ⟨w.heap.size + 1 + 1, 1, none⟩ = some (.int .i64 0) ∧ W.frozen? ⟨w.heap.size + 1 + 1, 0, none⟩ = false ∧ W.frozen? ⟨w.heap.size + 1 + 1, 1, none⟩ = false ∧
      ∀ W', W' = (W.setCell ⟨w.heap.size + 1 + 1, 0, none⟩ (.int .u32 0)).setCell ⟨w.heap.size + 1 + 1, 1, none⟩ (.int .i64 0) → (loadVar 24 ⟨w.heap.size + 1 + 1, 0, none⟩).run Try.prog W' = .ok (argA (0, 0)) W' ∧ Fr0 w W' := by
    intro W hf
    have hb := bR.fr hf (fun h => h)
    refine ⟨by rw [cell_of hb]; rfl, by rw [cell_of hb]; rfl, frz_of hb 0, frz_of hb 1, ?_⟩
    rintro W' rfl
    have h2 := boxA_set (c := (0, 0)) hb
    exact ⟨load24 (a := (0, 0)) (by rw [cell_of h2]; rfl) (by rw [cell_of h2]; rfl), (fA.then hf).trans boxA_fr (fun b hb e => by omega)⟩
  have HF := Lib.hid hfin
  have HCO := Lib.hid co
  clear hfin co hWA fA bA bT bR hsA hm hl hF h8 h
  unfold argA
  cases ha : mayA a
  · rw [ha] at ca
    have HCA := Lib.hid ca
    clear ca ct hb ha
    go_enter Try.func15, Try.ntmps15
    go_wp2_with (go_at_call 44; refine (HCA.out _).mono ?_; rintro e w1 ⟨rfl, hf1⟩; rw [HA.out.1] at hf1; obtain ⟨c0, c1, z0, z1, hR⟩ := HF.out _ hf1; have HR := Lib.hid hR; clear hR hf1)
    obtain ⟨r1, r2⟩ := HR.out _ rfl
    exact bodyPost_ret (results_cell_tmp rfl _ _ _ rfl r1) rfl ⟨rfl, r2⟩
  · rw [ha] at ca
    have HCA := Lib.hid ca
    cases ht : mayA to
    · rw [ht] at ct
      have HCT := Lib.hid ct
      clear ca ct hb ha ht
      go_enter Try.func15, Try.ntmps15
      go_wp2_with (first
        | (go_at_call 44; (with_reducible refine (HCA.out _).mono ?_); rintro e w1 ⟨rfl, hf1⟩; rw [HA.out.1] at hf1; have t0 : w1.cell? ⟨w.heap.size + 1, 0, none⟩ = some (.int .u32 to.1) := (by rw [cell_of (hf1.heap HA.out.2.2.2.1 (fun h => h))]; rfl); have t1 : w1.cell? ⟨w.heap.size + 1, 1, none⟩ = some (.int .i64 to.2) := (by rw [cell_of (hf1.heap HA.out.2.2.2.1 (fun h => h))]; rfl); have HF1 := Lib.hid hf1; clear hf1)
        | (go_at_call 44; (with_reducible refine (HCT.out _).mono ?_); rintro e w2 ⟨rfl, hf2⟩; obtain ⟨c0, c1, z0, z1, hR⟩ := HF.out _ (HF1.out.then hf2); have HR := Lib.hid hR; clear hR hf2))
      obtain ⟨r1, r2⟩ := HR.out _ rfl
      exact bodyPost_ret (results_cell_tmp rfl _ _ _ rfl r1) rfl ⟨rfl, r2⟩
    · rw [ht] at ct
      have HCT := Lib.hid ct
      have hon : now < s.now ∨ 1099511627776 < now := by
        have : ¬ onOk s now = true := fun hh => hb ⟨ha, ht, hh⟩
        simp [onOk] at this
        omega
      have HCO2 := Lib.hid (HCO.out hon)
      clear ca ct hb ha ht HCO hon
      go_enter Try.func15, Try.ntmps15
      go_wp2_with (first
        | (go_at_call 44; (with_reducible refine (HCA.out _).mono ?_); rintro e w1 ⟨rfl, hf1⟩; rw [HA.out.1] at hf1; have t0 : w1.cell? ⟨w.heap.size + 1, 0, none⟩ = some (.int .u32 to.1) := (by rw [cell_of (hf1.heap HA.out.2.2.2.1 (fun h => h))]; rfl); have t1 : w1.cell? ⟨w.heap.size + 1, 1, none⟩ = some (.int .i64 to.2) := (by rw [cell_of (hf1.heap HA.out.2.2.2.1 (fun h => h))]; rfl); have HF1 := Lib.hid hf1; clear hf1)
        | (go_at_call 44; (with_reducible refine (HCT.out _).mono ?_); rintro e w2 ⟨rfl, hf2⟩; have HF2 := Lib.hid hf2; clear hf2)
        | (go_at_call 45; refine (HCO2.out _ ((HA.out.2.1.then HF1.out).then HF2.out)).mono ?_; rintro e w3 ⟨rfl, hf3⟩; obtain ⟨c0, c1, z0, z1, hR⟩ := HF.out _ ((HF1.out.then HF2.out).then hf3); have HR := Lib.hid hR; clear hR hf3))
      obtain ⟨r1, r2⟩ := HR.out _ rfl
      exact bodyPost_ret (results_cell_tmp rfl _ _ _ rfl r1) rfl ⟨rfl, r2⟩

/-- Behind the three questions: what is handed on to the rest. -/
theorem out_on (n : Nat) (F : Nat → Prop) (s : St) (now : Int) (w : World) (h : NatAt w n F s) (ho : onOk s now = true) :
    Calls Try.prog 45 #[.pointer (some ⟨n, 0, none⟩), .int .i64 now] w fun e w' => e = .returned (.bool true) ∧ NatAt w' n F (onS s now) ∧ Fr F w w' := by
  obtain ⟨es, v, hm, hl, hF⟩ := h.mem
  simp only [onOk, decide_eq_true_eq] at ho
  refine (on_good n s.x s.now now es v w hm ho.1 ho.2).mono ?_
  rintro e w' ⟨rfl, v', hv, hm', hf⟩
  have hfF : Fr F w w' := hf.mono (fun b _ e => hF b (e.elim .inl (fun e => .inr (.inl e))))
  refine ⟨rfl, ⟨⟨_, v', hm', ?_, fun q hq => hF q (foot_filter _ hv hq)⟩, fun q hq => Nat.lt_of_lt_of_le (h.low q hq) hfF.size, onS_ok h.ok (by simp [onOk, ho])⟩, hfF⟩
  show _ = s.l.filter fun b => decide (now < b.unt)
  rw [← hl, List.filter_map]
  rfl

set_option maxRecDepth 100000 in
set_option maxHeartbeats 2000000 in
/-- There is no room for it. -/
theorem out_full (n : Nat) (F : Nat → Prop) (s : St) (now : Int) (a to : Ad) (w : World) (h : NatAt w n F s) (ha : mayA a = true) (ht : mayA to = true) (ho : onOk s now = true) (hr : byR s.x (onS s now).l a to = none) :
    Calls Try.prog 15 #[.pointer (some ⟨n, 0, none⟩), .int .i64 now, argA a, argA to] w fun e w' => e = .returned (.tuple #[argA (0, 0), .int .i64 10]) ∧ NatAt w' n F (onS s now) ∧ Fr F w w' := by
  obtain ⟨WA, hWA, fA, bA, bT, bR, hsA⟩ := out_head w a to
  have ca := fun W => mayA_any a W
  have ct := fun W => mayA_any to W
  rw [ha] at ca
  rw [ht] at ct
  have co := fun W (hf : Fr0 w W) => out_on n F s now W (h.fr0 hf) ho
  have cb : ∀ W, NatAt W n F (onS s now) → Calls Try.prog 46 #[.pointer (some ⟨n, 0, none⟩), argA a, argA to] W fun e w' => e = .returned (.tuple #[.pointer none, .int .i64 10]) ∧ Fr0 W w' := by
    intro W hW
    obtain ⟨es, v, hm, hl, hF⟩ := hW.mem
    have hk := hW.ok.len
    have hmo : s.x.most ≤ 100 := by have := h.ok.may; simp [mayX] at this; omega
    rw [← hl, List.length_map] at hk
    exact by_full n s.x now es v a to W hm h.ok.may (by have : (onS s now).x = s.x := rfl; rw [this] at hk; omega) (by rw [hl]; exact hr)
  unfold argA at ca ct cb
  have HA := Lib.hid (⟨hWA, fA, bA, bT, bR, hsA⟩ : _ ∧ _ ∧ _ ∧ _ ∧ _ ∧ _)
  have hlowF := h.low
  have hfin : ∀ W, Fr F WA W → NatAt W n F (onS s now) → W.cell? ⟨w.heap.size + 1 + 1, 0, none⟩ = some (.int .u32 0) ∧ W.cell? ⟨w.heap.size + 1 + 1, 1, none⟩ = some (.int .i64 0) ∧ W.frozen? ⟨w.heap.size + 1 + 1, 0, none⟩ = false ∧ W.frozen? ⟨w.heap.size + 1 + 1, 1, none⟩ = false ∧
      ∀ W', W' = (W.setCell ⟨w.heap.size + 1 + 1, 0, none⟩ (.int .u32 0)).setCell ⟨w.heap.size + 1 + 1, 1, none⟩ (.int .i64 0) → (loadVar 24 ⟨w.heap.size + 1 + 1, 0, none⟩).run Try.prog W' = .ok (argA (0, 0)) W' ∧ NatAt W' n F (onS s now) ∧ Fr F w W' := by
    intro W hf hN
    have hb := bR.fr hf (fun hq => by have := hlowF _ hq; omega)
    refine ⟨by rw [cell_of hb]; rfl, by rw [cell_of hb]; rfl, frz_of hb 0, frz_of hb 1, ?_⟩
    rintro W' rfl
    have h2 := boxA_set (c := (0, 0)) hb
    have hS := boxA_fr (W := W) (b := w.heap.size + 1 + 1) (u := .int .u32 0) (v := .int .i64 0)
    exact ⟨load24 (a := (0, 0)) (by rw [cell_of h2]; rfl) (by rw [cell_of h2]; rfl), hN.fr hS (fun q hq e => by have := hlowF q hq; omega), ((fA.mono (fun _ _ h => h.elim)).then hf).trans hS (fun b hb e => by omega)⟩
  have hmid : ∀ W, Fr F WA W → W.cell? ⟨w.heap.size, 0, none⟩ = some (.int .u32 a.1) ∧ W.cell? ⟨w.heap.size, 1, none⟩ = some (.int .i64 a.2) ∧ W.cell? ⟨w.heap.size + 1, 0, none⟩ = some (.int .u32 to.1) ∧ W.cell? ⟨w.heap.size + 1, 1, none⟩ = some (.int .i64 to.2) := by
    intro W hf
    have h1 := bA.fr hf (fun hq => by have := hlowF _ hq; omega)
    have h2 := bT.fr hf (fun hq => by have := hlowF _ hq; omega)
    exact ⟨by rw [cell_of h1]; rfl, by rw [cell_of h1]; rfl, by rw [cell_of h2]; rfl, by rw [cell_of h2]; rfl⟩
  have HF := Lib.hid hfin
  have HMid := Lib.hid hmid
  have HCO := Lib.hid co
  have HCA := Lib.hid ca
  have HCT := Lib.hid ct
  have HCB := Lib.hid cb
  clear hfin hmid co ca ct cb hWA fA bA bT bR hsA hlowF h hr
  unfold argA
  go_enter Try.func15, Try.ntmps15
  go_wp2_with (first
    | (go_at_call 44; (with_reducible refine (HCA.out _).mono ?_); rintro e w1 ⟨rfl, hf1⟩; rw [HA.out.1] at hf1; have t0 : w1.cell? ⟨w.heap.size + 1, 0, none⟩ = some (.int .u32 to.1) := (by rw [cell_of (hf1.heap HA.out.2.2.2.1 (fun h => h))]; rfl); have t1 : w1.cell? ⟨w.heap.size + 1, 1, none⟩ = some (.int .i64 to.2) := (by rw [cell_of (hf1.heap HA.out.2.2.2.1 (fun h => h))]; rfl); have HF1 := Lib.hid hf1; clear hf1)
    | (go_at_call 44; (with_reducible refine (HCT.out _).mono ?_); rintro e w2 ⟨rfl, hf2⟩; have HF2 := Lib.hid hf2; clear hf2)
    | (go_at_call 45; refine (HCO.out _ ((HA.out.2.1.then HF1.out).then HF2.out)).mono ?_; rintro e w3 ⟨rfl, hN3, hf3⟩; have HF3 := Lib.hid (⟨hN3, ((HF1.out.then HF2.out).mono (fun _ _ h => h.elim)).then hf3⟩ : NatAt w3 n F (onS s now) ∧ Fr F WA w3); clear hN3 hf3; obtain ⟨a0, a1, b0, b1⟩ := HMid.out _ HF3.out.2)
    | (go_at_call 46; refine (HCB.out _ HF3.out.1).mono ?_; rintro e w4 ⟨rfl, hf4⟩; obtain ⟨c0, c1, z0, z1, hR⟩ := HF.out _ (HF3.out.2.then (hf4.mono (fun _ _ h => h.elim))) (HF3.out.1.fr0 hf4); have HR := Lib.hid hR; clear hR hf4))
  obtain ⟨r1, r2, r3⟩ := HR.out _ rfl
  exact bodyPost_ret (results_cell_tmp rfl _ _ _ rfl r1) rfl ⟨rfl, r2, r3⟩

end Go.Proofs.Ytkdbjeegiiihaaa
