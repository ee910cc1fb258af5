/-
  A box's bindings: how they lie in memory; the time goes on. Conditions: the ones each theorem names.
-/
import Derived.Test.YtkdbjeegiiihaaaN1
import Derived.Deep.QuietTactic
import Derived.BigQuiet
set_option linter.unusedVariables false
set_option linter.unusedSimpArgs false
namespace Go.Proofs.Ytkdbjeegiiihaaa
open Go.RowKit

/-- A binding, and those who are seen by it. -/
structure Bd where
  i : Ad
  t : Ad
  port : Int
  unt : Int
  asked : Bool
  seen : List Ad
/-- A binding that lies at block p, its row of those who are seen at sv. -/
structure En where
  p : Nat
  sv : Value
  b : Bd
def cellsB (b : Bd) (sv : Value) : Array Value := #[.int .u32 b.i.1, .int .i64 b.i.2, .int .u32 b.t.1, .int .i64 b.t.2, .int .i64 b.port, .int .i64 b.unt, .bool b.asked, sv]
structure EnAt (W : World) (e : En) : Prop where
  blk : W.heap[e.p]? = some (.cells (cellsB e.b e.sv) 110 (0, 0))
  row : Owns W 24 2 encA e.sv e.b.seen
def cellsN (x : Bx) (v : Value) (now : Int) : Array Value := #[.int .u32 x.host, .int .i64 x.lo, .int .i64 x.hi, .int .i64 x.map, .int .i64 x.fil, .int .i64 x.life, .int .i64 x.most, v, .int .i64 now]
/-- Two bindings' rows are two. -/
def Apart (a b : En) : Prop := ∀ g, a.sv.ownBlock = some g → b.sv.ownBlock ≠ some g
structure NatM (W : World) (n : Nat) (x : Bx) (now : Int) (es : List En) (v : Value) : Prop where
  blk : W.heap[n]? = some (.cells (cellsN x v now) 103 (0, 0))
  row : Owns W 106 1 encP v (es.map En.p)
  ens : ∀ e ∈ es, EnAt W e
  ndp : (es.map En.p).Nodup
  nds : es.Pairwise Apart
/-- All that a box owns. -/
def foot (n : Nat) (es : List En) (v : Value) (b : Nat) : Prop := b = n ∨ v.ownBlock = some b ∨ ∃ e ∈ es, b = e.p ∨ e.sv.ownBlock = some b

theorem Owns.blk {α : Type} {W : World} {E k : Nat} {enc : α → List Value} {v : Value} {xs : List α} (h : Owns W E k enc v xs) {g : Nat} (hg : v.ownBlock = some g) : ∃ cur, W.heap[g]? = some (.cells cur E (0, 0)) := by
  rcases h.2 with ⟨h1, _⟩ | ⟨g', cap, cur, hv, _, hh, _⟩
  · rw [h1] at hg; cases hg
  · rw [hv] at hg; cases hg; exact ⟨cur, hh⟩
theorem ne_ty {W : World} {a b : Nat} {ca cb : Array Value} {A B : TypeId} {fa fb : Nat × Nat} (h1 : W.heap[a]? = some (.cells ca A fa)) (h2 : W.heap[b]? = some (.cells cb B fb)) (h : A ≠ B) : a ≠ b := by
  rintro rfl
  have := h1.symm.trans h2
  simp at this
  exact h this.2.1

theorem EnAt.fr {S : Nat → Prop} {A B : World} {e : En} (h : EnAt A e) (hf : Fr S A B) (h1 : ¬ S e.p) (h2 : ∀ g, e.sv.ownBlock = some g → ¬ S g) : EnAt B e :=
  ⟨hf.heap h.blk h1, h.row.fr hf h2⟩
theorem NatM.fr {S : Nat → Prop} {A B : World} {n : Nat} {x : Bx} {now : Int} {es : List En} {v : Value} (h : NatM A n x now es v) (hf : Fr S A B) (hS : ∀ b, foot n es v b → ¬ S b) : NatM B n x now es v :=
  ⟨hf.heap h.blk (hS _ (.inl rfl)), h.row.fr hf (fun g hg => hS g (.inr (.inl hg))), fun e he => (h.ens e he).fr hf (hS _ (.inr (.inr ⟨e, he, .inl rfl⟩))) (fun g hg => hS g (.inr (.inr ⟨e, he, .inr hg⟩))), h.ndp, h.nds⟩
theorem NatM.fr0 {A B : World} {n : Nat} {x : Bx} {now : Int} {es : List En} {v : Value} (h : NatM A n x now es v) (hf : Fr0 A B) : NatM B n x now es v := h.fr hf (fun _ _ h => h)
theorem NatM.lt {W : World} {n : Nat} {x : Bx} {now : Int} {es : List En} {v : Value} (h : NatM W n x now es v) {b : Nat} (hb : foot n es v b) : b < W.heap.size := by
  rcases hb with rfl | hb | ⟨e, he, rfl | hb⟩
  · exact lt_of_heap h.blk
  · exact h.row.lt hb
  · exact lt_of_heap (h.ens e he).blk
  · exact (h.ens e he).row.lt hb
/-- The blocks of a box's own parts are of four kinds. -/
theorem NatM.ne {W : World} {n : Nat} {x : Bx} {now : Int} {es : List En} {v : Value} (h : NatM W n x now es v) :
    (∀ g, v.ownBlock = some g → g ≠ n) ∧ (∀ e ∈ es, e.p ≠ n) ∧ (∀ e ∈ es, ∀ g, e.sv.ownBlock = some g → g ≠ n) ∧
    (∀ g, v.ownBlock = some g → ∀ e ∈ es, e.p ≠ g) ∧ (∀ g, v.ownBlock = some g → ∀ e ∈ es, ∀ g', e.sv.ownBlock = some g' → g' ≠ g) ∧
    (∀ e ∈ es, ∀ e' ∈ es, ∀ g, e'.sv.ownBlock = some g → g ≠ e.p) := by
  refine ⟨fun g hg => ?_, fun e he => ?_, fun e he g hg => ?_, fun g hg e he => ?_, fun g hg e he g' hg' => ?_, fun e he e' he' g hg => ?_⟩
  · obtain ⟨c, hc⟩ := h.row.blk hg; exact ne_ty hc h.blk (by decide)
  · exact ne_ty (h.ens e he).blk h.blk (by decide)
  · obtain ⟨c, hc⟩ := (h.ens e he).row.blk hg; exact ne_ty hc h.blk (by decide)
  · obtain ⟨c, hc⟩ := h.row.blk hg; exact ne_ty (h.ens e he).blk hc (by decide)
  · obtain ⟨c, hc⟩ := h.row.blk hg; obtain ⟨c', hc'⟩ := (h.ens e he).row.blk hg'; exact ne_ty hc' hc (by decide)
  · obtain ⟨c', hc'⟩ := (h.ens e' he').row.blk hg; exact ne_ty hc' (h.ens e he).blk (by decide)
theorem cell_of {W : World} {b : Nat} {c : Array Value} {t : TypeId} {f : Nat × Nat} (h : W.heap[b]? = some (.cells c t f)) (i : Nat) : W.cell? ⟨b, i, none⟩ = c[i]? := by simp [World.cell?, h]
theorem frz_of {W : World} {b : Nat} {c : Array Value} {t : TypeId} (h : W.heap[b]? = some (.cells c t (0, 0))) (i : Nat) : W.frozen? ⟨b, i, none⟩ = false := by simp [World.frozen?, h]

/-- What is asked of a binding, asked of its block. -/
def pB (es : List En) (f : Bd → Bool) (q : Nat) : Bool := match es.find? (fun e => e.p == q) with | some e => f e.b | none => false
theorem pB_eq {es : List En} (f : Bd → Bool) (hn : (es.map En.p).Nodup) {e : En} (he : e ∈ es) : pB es f e.p = f e.b := by
  unfold pB
  have : es.find? (fun d => d.p == e.p) = some e := by
    induction es with
    | nil => cases he
    | cons d ds ih =>
      simp only [List.map_cons, List.nodup_cons] at hn
      rcases List.mem_cons.1 he with rfl | he
      · simp
      · have hne : d.p ≠ e.p := fun hh => hn.1 (by rw [hh]; exact List.mem_map_of_mem he)
        rw [List.find?_cons_of_neg (by simpa using hne)]
        exact ih hn.2 he
  rw [this]
theorem pB_filter (es : List En) (f : Bd → Bool) (hn : (es.map En.p).Nodup) : ((es.map En.p).filter fun q => !pB es f q) = (es.filter fun e => !f e.b).map En.p := by
  have : ∀ l : List En, (∀ e ∈ l, e ∈ es) → ((l.map En.p).filter fun q => !pB es f q) = (l.filter fun e => !f e.b).map En.p := by
    intro l
    induction l with
    | nil => intro _; rfl
    | cons d ds ih =>
      intro hl
      have h1 := pB_eq f hn (hl d (by simp))
      have h2 := ih (fun e he => hl e (by simp [he]))
      simp only [List.map_cons, List.filter_cons, h1]
      cases f d.b <;> simp [h2]
  exact this es (fun _ h => h)
theorem filter_pair {α : Type} {R : α → α → Prop} {l : List α} (h : l.Pairwise R) (f : α → Bool) : (l.filter f).Pairwise R := h.sublist List.filter_sublist

/-- A box without some of its bindings: its row is cut, its own cell says so. -/
theorem NatM.filter {W W' : World} {n : Nat} {x : Bx} {now now' : Int} {es : List En} {v v' : Value} (h : NatM W n x now es v) (f : En → Bool) (hv : v'.ownBlock = v.ownBlock)
    (hrow : Owns W' 106 1 encP v' ((es.filter f).map En.p)) (hb : W'.heap[n]? = some (.cells (cellsN x v' now') 103 (0, 0))) (hf : Fr (fun b => b = n ∨ v.ownBlock = some b) W W') : NatM W' n x now' (es.filter f) v' := by
  obtain ⟨n1, n2, n3, n4, n5, _⟩ := h.ne
  refine ⟨hb, hrow, fun e he => ?_, ?_, filter_pair h.nds f⟩
  · have he' := (List.mem_filter.1 he).1
    exact (h.ens e he').fr hf (fun hs => hs.elim (n2 e he') (fun hs => n4 _ hs e he' rfl)) (fun g hg hs => hs.elim (n3 e he' g hg) (fun hs => n5 _ hs e he' g hg rfl))
  · exact h.ndp.sublist (List.filter_sublist.map _)
theorem foot_filter {n : Nat} {es : List En} {v v' : Value} (f : En → Bool) (hv : v'.ownBlock = v.ownBlock) {b : Nat} (h : foot n (es.filter f) v' b) : foot n es v b := by
  rcases h with h | h | ⟨e, he, h⟩
  · exact .inl h
  · exact .inr (.inl (hv ▸ h))
  · exact .inr (.inr ⟨e, (List.mem_filter.1 he).1, h⟩)

theorem on1_u (q B : Nat) (now u : Int) (W : World) (h5 : W.cell? ⟨q, 5, none⟩ = some (.int .i64 u)) (hB : W.cell? ⟨B, 0, none⟩ = some (.int .i64 now)) :
    Calls Try.prog 93 #[.pointer (some ⟨q, 0, none⟩), .pointer (some ⟨B, 0, none⟩)] W fun e w' => e = .returned (.bool (decide (u ≤ now))) ∧ Fr0 W w' := by
  by_cases hd : u ≤ now
  · have hd' : decide (u ≤ now) = true := by simpa using hd
    rw [hd']
    go_enter Try.func93, Try.ntmps93
    go_wp2_with (go_quiet (fail))
    go_ret
    exact ⟨rfl, Fr.drewN _ _ _⟩
  · have hd' : decide (u ≤ now) = false := by simpa using hd
    rw [hd']
    go_enter Try.func93, Try.ntmps93
    go_wp2_with (go_quiet (fail))
    go_ret
    exact ⟨rfl, Fr.drewN _ _ _⟩

/-- What the test on a binding's time leans on: the bindings as they lie, and the test's own variable. -/
def OnJ (es : List En) (B : Nat) (now : Int) (W : World) : Prop := (∀ e ∈ es, W.heap[e.p]? = some (.cells (cellsB e.b e.sv) 110 (0, 0))) ∧ Boxed W B 3 (.int .i64 now)

theorem on_pred {W : World} {n : Nat} {x : Bx} {now0 now : Int} {es : List En} {v : Value} (h : NatM W n x now0 es v) (B : Nat) {g : Nat} (hg : v.ownBlock = some g) (hB : B ≠ g) :
    Pred Try.prog 93 #[.pointer (some ⟨B, 0, none⟩)] argP (pB es fun b => decide (b.unt ≤ now)) (es.map En.p) (fun _ => False) (fun _ => OnJ es B now) g where
  enters := enters_of Try.func93 (by kernel_rfl) rfl
  out := fun h => h
  stays := fun j A C hJ hf => ⟨fun e he => hf.heap (hJ.1 e he) (fun e' => h.ne.2.2.2.1 g hg e he e'), hf.boxed hJ.2 hB⟩
  calls := fun j q W' hq hJ => by
    obtain ⟨e, he, rfl⟩ := List.mem_map.1 (List.mem_of_getElem? hq)
    rw [pB_eq _ h.ndp he]
    refine (on1_u e.p B now e.b.unt W' (by rw [cell_of (hJ.1 e he)]; rfl) hJ.2.cell).mono ?_
    rintro e' w' ⟨rfl, hf⟩
    exact ⟨rfl, ⟨fun d hd => hf.heap (hJ.1 d hd) (fun h => h), hf.boxed hJ.2 (fun h => h)⟩, hf⟩

set_option maxHeartbeats 1000000 in
theorem on_bad (n : Nat) (now0 now : Int) (w : World) (h8 : w.cell? ⟨n, 8, none⟩ = some (.int .i64 now0)) (hb : now < now0 ∨ 1099511627776 < now) :
    Calls Try.prog 45 #[.pointer (some ⟨n, 0, none⟩), .int .i64 now] w fun e w' => e = .returned (.bool false) ∧ Fr0 w w' := by
  have hl := cell_lt h8
  by_cases h1 : now < now0
  · have hd : decide (now < now0) = true := by simpa using h1
    clear hb
    go_enter Try.func45, Try.ntmps45
    go_wp2_with (go_quiet (fail))
    go_ret
    exact ⟨rfl, (Fr.alloc _ _ _).then (Fr.drewN _ _ _)⟩
  · have h2 : 1099511627776 < now := hb.resolve_left h1
    have hd : decide (now < now0) = false := by simpa using h1
    have hd2 : decide (1099511627776 < now) = true := by simpa using h2
    clear hb
    go_enter Try.func45, Try.ntmps45
    go_wp2_with (go_quiet (fail))
    go_ret
    exact ⟨rfl, (Fr.alloc _ _ _).then (Fr.drewN _ _ _)⟩

theorem set_cells {W : World} {b : Nat} {c : Array Value} {t : TypeId} {f : Nat × Nat} (h : W.heap[b]? = some (.cells c t f)) (i : Nat) (u : Value) {c' : Array Value} (hc : c.setIfInBounds i u = c') : (W.setCell ⟨b, i, none⟩ u).heap[b]? = some (.cells c' t f) := by
  rw [setCell_heap h, hc]

set_option maxRecDepth 100000 in
set_option maxHeartbeats 2000000 in
theorem on_good (n : Nat) (x : Bx) (now0 now : Int) (es : List En) (v : Value) (w : World) (h : NatM w n x now0 es v) (h1 : now0 ≤ now) (h2 : now ≤ 1099511627776) :
    Calls Try.prog 45 #[.pointer (some ⟨n, 0, none⟩), .int .i64 now] w fun e w' => e = .returned (.bool true) ∧ ∃ v', v'.ownBlock = v.ownBlock ∧ NatM w' n x now (es.filter fun e => decide (now < e.b.unt)) v' ∧ Fr (fun b => b = n ∨ v.ownBlock = some b) w w' := by
  have h8 : w.cell? ⟨n, 8, none⟩ = some (.int .i64 now0) := by rw [cell_of h.blk]; rfl
  have h7 : w.cell? ⟨n, 7, none⟩ = some v := by rw [cell_of h.blk]; rfl
  have z8 := frz_of h.blk 8
  have z7 := frz_of h.blk 7
  have hl := cell_lt h8
  have hl' : n < w.heap.size := hl
  have hd : decide (now < now0) = false := by simp; omega
  have hd2 : decide (1099511627776 < now) = false := by simp; omega
  have hcall : ∀ W, Fr (fun b => b = n) w W → W.heap[n]? = some (.cells (cellsN x v now) 103 (0, 0)) → Boxed W w.heap.size 3 (.int .i64 now) →
      Calls Try.prog 60 #[v, .func (.func 93) #[] #[.pointer (some ⟨w.heap.size, 0, none⟩)]] W fun e w' => ∃ r m c v', e = .returned (.slice r m c) ∧ Hid (v' = .slice r m c) ∧ v'.ownBlock = v.ownBlock ∧
        w'.heap[n]? = some (.cells (cellsN x v now) 103 (0, 0)) ∧ (∀ W2, Fr (fun b => b = n) w' W2 → W2.heap[n]? = some (.cells (cellsN x v' now) 103 (0, 0)) → NatM W2 n x now (es.filter fun e => decide (now < e.b.unt)) v' ∧ Fr (fun b => b = n ∨ v.ownBlock = some b) w W2) := by
    intro W hf hb hx
    have hm : NatM W n x now es v := by
      obtain ⟨n1, n2, n3, _⟩ := h.ne
      exact ⟨hb, h.row.fr hf n1, fun e he => (h.ens e he).fr hf (n2 e he) (n3 e he), h.ndp, h.nds⟩
    refine (dlfP_any (S := fun _ => False) (J := fun _ => OnJ es w.heap.size now) v 93 _ (es.map En.p) (pB es fun b => decide (b.unt ≤ now)) W
      (fun g hg => on_pred hm w.heap.size hg (fun e => by have := h.row.lt hg; omega)) (fun _ h => h.elim) ⟨fun e he => (hm.ens e he).blk, hx⟩ hm.row).mono ?_
    rintro e w' ⟨v', rfl, hv, hr, hJ, hf'⟩
    have hfn : ¬ ((fun b => False ∨ v.ownBlock = some b) n) := fun hh => hm.ne.1 n (hh.resolve_left id) rfl
    have he : (es.filter fun e => !decide (e.b.unt ≤ now)) = es.filter fun e => decide (now < e.b.unt) := by
      congr 1; funext e; by_cases hle : e.b.unt ≤ now <;> simp [hle] <;> omega
    rw [pB_filter _ _ h.ndp, he] at hr
    obtain ⟨r, m, c, hs⟩ : ∃ r m c, v' = .slice r m c := by
      rcases hr.shape with ⟨hs, _⟩ | ⟨g, cap, hs, _⟩
      · exact ⟨_, _, _, hs⟩
      · exact ⟨_, _, _, hs⟩
    refine ⟨r, m, c, v', by rw [hs], Lib.hid hs, hv, hf'.heap hb hfn, fun W2 hf2 hb2 => ?_⟩
    have hvn : ∀ g, v'.ownBlock = some g → ¬ g = n := fun g hg => hm.ne.1 g (hv ▸ hg)
    have hFr : Fr (fun b => b = n ∨ v.ownBlock = some b) W W2 := (hf'.mono (fun b _ h => .inr (h.resolve_left id))).then (hf2.mono (fun b _ h => .inl h))
    exact ⟨hm.filter _ hv (hr.fr hf2 hvn) hb2 hFr, (hf.mono (fun b _ h => .inl h)).then hFr⟩
  have HC := Lib.hid hcall
  have HB := Lib.hid h.blk
  have eg : ∀ args w, (callFunc 93 args).run Try.prog w = .ok (.enter 93 args) w := enters_of Try.func93 (by kernel_rfl) rfl
  clear hcall h h1 h2
  go_enter Try.func45, Try.ntmps45
  go_wp2_with (first | go_quiet (fail) | (go_at_call 60; refine (HC.out _ (((Fr.alloc _ _ _).then (Fr.drewN _ _ _)).then (Fr.setCell _ _ _ rfl)) ?_ ?_).mono ?_; (exact set_cells (((Fr.alloc _ _ _).then (Fr.drewN (fun _ => False) _ _)).heap HB.out (fun h => h)) 8 _ rfl); (exact (((Fr.drewN (fun b => b = n) _ _)).then (Fr.setCell _ _ _ rfl)).boxed (Boxed.new w 3 (.int .i64 now)) (fun e => by omega)); rintro e w' ⟨r, m, c, v', rfl, HS, hv, hb, hE⟩; have k7 : w'.cell? ⟨n, 7, none⟩ = some v := (by rw [cell_of hb]; rfl); have kz := frz_of hb 7; have HV := Lib.hid hv; have HH := Lib.hid hb; have HE := Lib.hid hE; clear hv hb hE))
  go_ret
  obtain ⟨h1, h2⟩ := HE.out _ (Fr.setCell _ _ _ rfl) (set_cells HH.out 7 _ (by rw [HS.out]; rfl))
  exact ⟨rfl, v', HV.out, h1, h2⟩

end Go.Proofs.Ytkdbjeegiiihaaa
