/-
  A new binding made. Conditions: the ones each theorem names.
-/
import Derived.Test.YtkdbjeegiiihaaaN5
import Derived.Deep.AppendLies
set_option linter.unusedVariables false
set_option linter.unusedSimpArgs false
namespace Go.Proofs.Ytkdbjeegiiihaaa
open Go.RowKit Go.Shelf

/-- Has no binding a port? -/
def freeB (l : List Bd) (p : Int) : Bool := l.all fun b => decide (b.port ≠ p)
def portsX (x : Bx) : List Int := (List.range (x.hi + 1 - x.lo).toNat).map fun (k : Nat) => x.lo + (k : Int)
/-- The port that is chosen. -/
def pick (x : Bx) (l : List Bd) (wish : Int) : Option Int := if x.lo ≤ wish ∧ wish ≤ x.hi ∧ freeB l wish = true then some wish else (portsX x).find? (freeB l)
theorem freeB_iff (es : List En) (p : Int) : freeB (es.map En.b) p = true ↔ freeP es p := by
  simp [freeB, freeP]
theorem choice_eq {x : Bx} {es : List En} {wish : Int} {r : Option Int} (h : Choice x es wish r) : r = pick x (es.map En.b) wish := by
  unfold pick
  have hf := freeB_iff es wish
  rcases h with ⟨h1, h2, h3, rfl⟩ | ⟨h0, ⟨p, h1, h2, h3, h4, rfl⟩ | ⟨h1, rfl⟩⟩
  · rw [if_pos ⟨h1, h2, hf.2 h3⟩]
  · rw [if_neg (fun hh => h0 ⟨hh.1, hh.2.1, hf.1 hh.2.2⟩)]
    symm
    rw [List.find?_eq_some_iff_getElem]
    refine ⟨(freeB_iff es p).2 h3, (p - x.lo).toNat, by simp [portsX]; omega, by simp [portsX]; omega, fun j hj => ?_⟩
    have := h4 (x.lo + j) (by omega) (by omega)
    rw [← freeB_iff] at this
    simpa [portsX] using this
  · rw [if_neg (fun hh => h0 ⟨hh.1, hh.2.1, hf.1 hh.2.2⟩)]
    symm
    rw [List.find?_eq_none]
    intro q hq
    simp only [portsX, List.mem_map, List.mem_range] at hq
    obtain ⟨k, hk, rfl⟩ := hq
    have := h1 (x.lo + k) (by omega) (by omega)
    rw [← freeB_iff] at this
    exact this
theorem choose_pick (n : Nat) (x : Bx) (now : Int) (es : List En) (v : Value) (wish : Int) (w : World) (h : NatM w n x now es v) (hx : mayX x = true) {r : Option Int} (hr : pick x (es.map En.b) wish = r) :
    Calls Try.prog 102 #[.pointer (some ⟨n, 0, none⟩), .int .i64 wish] w fun e w' => e = .returned (.tuple #[.int .i64 (r.getD 0), .bool r.isSome]) ∧ w' = w :=
  (choose_any n x now es v wish w h hx).mono (fun e w' ⟨r', hc, he, hw⟩ => ⟨by rw [he, choice_eq hc, hr], hw⟩)

/-- A binding as a value. -/
def argB (i t : Ad) (q u : Int) (k : Bool) : Value := .agg #[.int .u32 i.1, .int .i64 i.2, .int .u32 t.1, .int .i64 t.2, .int .i64 q, .int .i64 u, .bool k]

set_option maxRecDepth 100000 in
set_option maxHeartbeats 2000000 in
/-- There is no room. -/
theorem made_none (n : Nat) (x : Bx) (now : Int) (es : List En) (v : Value) (i t : Ad) (q u : Int) (k : Bool) (wish : Int) (w : World) (h : NatM w n x now es v) (hx : mayX x = true) (hlen : (es.length : Int) ≤ 100)
    (hno : pick x (es.map En.b) wish = none ∨ x.most ≤ es.length) :
    Calls Try.prog 52 #[.pointer (some ⟨n, 0, none⟩), argB i t q u k, .int .i64 wish] w fun e w' => e = .returned (.tuple #[.pointer none, .int .i64 10]) ∧ Fr0 w w' := by
  have h7 := h.at7
  have h6 : w.cell? ⟨n, 6, none⟩ = some (.int .i64 x.most) := by rw [cell_of h.blk]; rfl
  have hl := cell_lt h7
  have hl' : n < w.heap.size := hl
  obtain ⟨r0, m, cap, hv, hm, hle, hcap, hg⟩ := h.shape1
  have hmm : m ≤ 9223372036854775807 := by omega
  subst hv
  unfold argB
  obtain ⟨r, hr⟩ : ∃ r, pick x (es.map En.b) wish = r := ⟨_, rfl⟩
  rw [hr] at hno
  have hch : ∀ W, Fr0 w W → Calls Try.prog 102 #[.pointer (some ⟨n, 0, none⟩), .int .i64 wish] W fun e w' => e = .returned (.tuple #[.int .i64 (r.getD 0), .bool r.isSome]) ∧ w' = W := fun W hf => choose_pick n x now es _ wish W (h.fr0 hf) hx hr
  rw [← hm] at hno hlen
  clear h hx hle hcap hg hm hr
  cases r with
  | none =>
    have HC := Lib.hid hch
    clear hch hno
    simp only [Option.getD_none, Option.isSome_none] at HC
    go_enter Try.func52, Try.ntmps52
    go_wp2_with (first | go_quiet (fail) | (go_at_call 102; refine (HC.out _ (Fr.alloc _ _ _)).mono ?_; rintro e w2 ⟨rfl, hw⟩; obtain rfl := hw))
    go_ret2
    exact ⟨rfl, (Fr.alloc _ _ _).then (Fr.drewN _ _ _)⟩
  | some p =>
    have hms : x.most ≤ m := hno.resolve_left (fun h => by cases h)
    have hd : decide (x.most ≤ (m : Int)) = true := by simpa using hms
    have HC := Lib.hid hch
    clear hch hno
    simp only [Option.getD_some, Option.isSome_some] at HC
    go_enter Try.func52, Try.ntmps52
    go_wp2_with (first | go_quiet (fail) | (go_at_call 102; refine (HC.out _ (Fr.alloc _ _ _)).mono ?_; rintro e w2 ⟨rfl, hw⟩; obtain rfl := hw))
    go_ret2
    exact ⟨rfl, (Fr.alloc _ _ _).then (Fr.drewN _ _ _)⟩

theorem NatM.snoc {w W : World} {n : Nat} {x : Bx} {now : Int} {es : List En} {v v' : Value} {e : En} (h : NatM w n x now es v) (hf : Fr (fun b => b = n ∨ v.ownBlock = some b) w W) (hb : W.heap[n]? = some (.cells (cellsN x v' now) 103 (0, 0)))
    (hrow : Owns W 106 1 encP v' ((es ++ [e]).map En.p)) (he : EnAt W e) (hz : w.heap.size ≤ e.p) (hsv : ∀ g, e.sv.ownBlock = some g → w.heap.size ≤ g) : NatM W n x now (es ++ [e]) v' := by
  obtain ⟨n1, n2, n3, n4, n5, _⟩ := h.ne
  refine ⟨hb, hrow, fun d hd => ?_, ?_, ?_⟩
  · rcases List.mem_append.1 hd with hd | hd
    · exact (h.ens d hd).fr hf (fun hs => hs.elim (n2 d hd) (fun hs => n4 _ hs d hd rfl)) (fun g hg hs => hs.elim (n3 d hd g hg) (fun hs => n5 _ hs d hd g hg rfl))
    · simp at hd; subst hd; exact he
  · rw [List.map_append, List.nodup_append]
    refine ⟨h.ndp, by simp, fun a ha b hb' e' => ?_⟩
    simp at hb'; subst hb'
    obtain ⟨d, hd, hda⟩ := List.mem_map.1 ha
    have := lt_of_heap (h.ens d hd).blk
    omega
  · rw [List.pairwise_append]
    refine ⟨h.nds, by simp, fun a ha b hb' => ?_⟩
    simp at hb'; subst hb'
    intro g hg hg'
    have := (h.ens a ha).row.lt hg
    have := hsv g hg'
    omega

set_option maxRecDepth 100000 in
set_option maxHeartbeats 2000000 in
theorem made_some (n : Nat) (x : Bx) (now : Int) (es : List En) (v : Value) (i t : Ad) (q u : Int) (k : Bool) (wish p : Int) (w : World) (h : NatM w n x now es v) (hx : mayX x = true) (hlen : (es.length : Int) < x.most)
    (hr : pick x (es.map En.b) wish = some p) :
    Calls Try.prog 52 #[.pointer (some ⟨n, 0, none⟩), argB i t q u k, .int .i64 wish] w fun e w' => ∃ z v', e = .returned (.tuple #[.pointer (some ⟨z, 0, none⟩), .int .i64 0]) ∧ w.heap.size ≤ z ∧ (∀ g, v'.ownBlock = some g → v.ownBlock = some g ∨ w.heap.size ≤ g) ∧
      NatM w' n x now (es ++ [⟨z, .slice none 0 0, ⟨i, t, p, u, k, []⟩⟩]) v' ∧ Fr (fun b => b = n ∨ v.ownBlock = some b) w w' := by
  have h7 := h.at7
  have h6 : w.cell? ⟨n, 6, none⟩ = some (.int .i64 x.most) := by rw [cell_of h.blk]; rfl
  have hl := cell_lt h7
  have hl' : n < w.heap.size := hl
  have hmo : x.most ≤ 100 := by simp [mayX] at hx; omega
  obtain ⟨r0, m, cap, hv, hm, hle, hcap, hg⟩ := h.shape1
  have hmm : m ≤ 9223372036854775807 := by omega
  have hch : ∀ W, Fr0 w W → Calls Try.prog 102 #[.pointer (some ⟨n, 0, none⟩), .int .i64 wish] W fun e w' => e = .returned (.tuple #[.int .i64 p, .bool true]) ∧ w' = W := fun W hf => choose_pick n x now es _ wish W (h.fr0 hf) hx hr
  subst hv
  unfold argB
  rw [← hm] at hlen
  have hd : decide (x.most ≤ (m : Int)) = false := by simp; omega
  have hW : ∀ nq o1 o2 o3 u, Fr0 w (((((w.alloc o1).drewN nq).setCell ⟨w.heap.size, 4, none⟩ u).alloc o2).alloc o3) := fun nq o1 o2 o3 u => by
    have h1 : Fr0 w ((w.alloc o1).drewN nq) := (Fr.alloc _ _ _).then (Fr.drewN _ _ _)
    have h2 : Fr0 w (((w.alloc o1).drewN nq).setCell ⟨w.heap.size, 4, none⟩ u) := h1.trans (Fr.setCell (S := fun b => b = w.heap.size) _ _ _ rfl) (fun b hb e => by omega)
    exact (h2.then (Fr.alloc _ _ _)).then (Fr.alloc _ _ _)
  have hZ : ∀ nq o1 o2 o3 u, (((((w.alloc o1).drewN nq).setCell ⟨w.heap.size, 4, none⟩ u).alloc o2).alloc o3).heap[w.heap.size + 1]? = some o2 ∧ (((((w.alloc o1).drewN nq).setCell ⟨w.heap.size, 4, none⟩ u).alloc o2).alloc o3).heap.size = w.heap.size + 3 ∧ (((((w.alloc o1).drewN nq).setCell ⟨w.heap.size, 4, none⟩ u).alloc o2).alloc o3).heap[w.heap.size + 2]? = some o3 := fun nq o1 o2 o3 u => by
    refine ⟨?_, by simp [World.setCell], by have := World.alloc_heap_new ((((w.alloc o1).drewN nq).setCell ⟨w.heap.size, 4, none⟩ u).alloc o2) o3; have hs : ((((w.alloc o1).drewN nq).setCell ⟨w.heap.size, 4, none⟩ u).alloc o2).heap.size = w.heap.size + 2 := (by simp [World.setCell]); rwa [hs] at this⟩
    have := World.alloc_heap_new (((w.alloc o1).drewN nq).setCell ⟨w.heap.size, 4, none⟩ u) o2
    have hs : (((w.alloc o1).drewN nq).setCell ⟨w.heap.size, 4, none⟩ u).heap.size = w.heap.size + 1 := by simp [World.setCell]
    rw [hs] at this
    exact (Below.heap_alloc _ _ _ (by rw [World.size_alloc, hs]; omega)).trans this
  have hi : Try.prog.info? 106 = some Try.t106 := by kernel_rfl
  have hz0 : Try.t106.zero = some (.pointer none) := rfl
  have hfin : ∀ nq q o3 g2 cap2 w1, w1.ownsRow 0 106 1 (.slice (some ⟨g2, 0, none⟩) ((es.map En.p).length + 1) cap2) ((es.map En.p).length + 1) ((es.map En.p).flatMap encP ++ [.pointer (some ⟨w.heap.size + 1, 0, none⟩)]) →
      World.grownBy (((((w.alloc (Obj.cells #[.int .u32 i.1, .int .i64 i.2, .int .u32 t.1, .int .i64 t.2, .int .i64 q, .int .i64 u, .bool k] 46)).drewN nq).setCell ⟨w.heap.size, 4, none⟩ (.int .i64 p)).alloc (Obj.cells #[.int .u32 i.1, .int .i64 i.2, .int .u32 t.1, .int .i64 t.2, .int .i64 p, .int .i64 u, .bool k, .slice none 0 0] 110)).alloc o3) w1 (Value.slice r0 m cap).ownBlock →
      ((Value.slice r0 m cap).ownBlock = some g2 ∨ g2 = w.heap.size + 3) →
      w1.cell? ⟨n, 7, none⟩ = some (.slice r0 m cap) ∧ w1.frozen? ⟨n, 7, none⟩ = false ∧ ((Value.slice r0 m cap).ownBlock = some g2 ∨ w.heap.size ≤ g2) ∧ ∀ W L, L = es.length + 1 → W = w1.setCell ⟨n, 7, none⟩ (.slice (some ⟨g2, 0, none⟩) L cap2) →
        NatM W n x now (es ++ [⟨w.heap.size + 1, .slice none 0 0, ⟨i, t, p, u, k, []⟩⟩]) (.slice (some ⟨g2, 0, none⟩) L cap2) ∧ Fr (fun b => b = n ∨ (Value.slice r0 m cap).ownBlock = some b) w W := by
    intro nq q o3 g2 cap2 w1 hown hgrow hat
    have f1 := hW nq (Obj.cells #[.int .u32 i.1, .int .i64 i.2, .int .u32 t.1, .int .i64 t.2, .int .i64 q, .int .i64 u, .bool k] 46) (Obj.cells #[.int .u32 i.1, .int .i64 i.2, .int .u32 t.1, .int .i64 t.2, .int .i64 p, .int .i64 u, .bool k, .slice none 0 0] 110) o3 (.int .i64 p)
    obtain ⟨z1, z2, _⟩ := hZ nq (Obj.cells #[.int .u32 i.1, .int .i64 i.2, .int .u32 t.1, .int .i64 t.2, .int .i64 q, .int .i64 u, .bool k] 46) (Obj.cells #[.int .u32 i.1, .int .i64 i.2, .int .u32 t.1, .int .i64 t.2, .int .i64 p, .int .i64 u, .bool k, .slice none 0 0] 110) o3 (.int .i64 p)
    have f2 : Fr (fun b => some b = (Value.slice r0 m cap).ownBlock) _ w1 := Fr.of_grownBy hgrow
    have hnv := h.ne.1
    have hvlt : ∀ g, (Value.slice r0 m cap).ownBlock = some g → g < w.heap.size := fun g hg => h.row.lt hg
    have hbn : w1.heap[n]? = some (.cells (cellsN x (.slice r0 m cap) now) 103 (0, 0)) := f2.heap (f1.heap h.blk (fun h => h)) (fun e => hnv n e.symm rfl)
    refine ⟨by rw [cell_of hbn]; rfl, frz_of hbn 7, hat.imp id (fun e => by omega), ?_⟩
    rintro W L hL rfl
    obtain rfl : L = (es.map En.p).length + 1 := by rw [hL]; simp
    have f3 : Fr (fun b => b = n) w1 (w1.setCell ⟨n, 7, none⟩ (.slice (some ⟨g2, 0, none⟩) ((es.map En.p).length + 1) cap2)) := Fr.setCell _ _ _ rfl
    have hg2 : g2 ≠ n := by
      rcases hat with e | e
      · exact hnv g2 e
      · omega
    have hF : Fr (fun b => b = n ∨ (Value.slice r0 m cap).ownBlock = some b) w (w1.setCell ⟨n, 7, none⟩ (.slice (some ⟨g2, 0, none⟩) ((es.map En.p).length + 1) cap2)) :=
      ((f1.mono (T := fun b => b = n ∨ (Value.slice r0 m cap).ownBlock = some b) (fun _ _ h => h.elim)).trans f2 (fun b hb e => .inr e.symm)).trans f3 (fun b hb e => .inl e)
    have hz1 : (w1.setCell ⟨n, 7, none⟩ (.slice (some ⟨g2, 0, none⟩) ((es.map En.p).length + 1) cap2)).heap[w.heap.size + 1]? = some (Obj.cells #[.int .u32 i.1, .int .i64 i.2, .int .u32 t.1, .int .i64 t.2, .int .i64 p, .int .i64 u, .bool k, .slice none 0 0] 110) :=
      f3.heap (f2.heap z1 (fun e => by have := hvlt _ e.symm; omega)) (fun e => by omega)
    refine ⟨h.snoc (e := En.mk (w.heap.size + 1) (.slice none 0 0) (Bd.mk i t p u k [])) hF (set_cells hbn 7 _ rfl) ?_ (EnAt.mk hz1 (Owns.nil _ _ _ _)) (Nat.le_succ _) (fun g hg => by simp [Value.ownBlock] at hg), hF⟩
    exact Owns.fr (A := w1) (E := 106) (k := 1) (enc := encP) (v := (.slice (some ⟨g2, 0, none⟩) ((es.map En.p).length + 1) cap2)) (xs := (es ++ [En.mk (w.heap.size + 1) (.slice none 0 0) (Bd.mk i t p u k [])]).map En.p) (by unfold Owns; simpa [encP] using hown) f3 (fun g hg e => by cases hg; exact hg2 e)
  have HF := Lib.hid hfin
  have HT := Lib.hid (⟨hi, hz0⟩ : _ ∧ _)
  have HW := Lib.hid hW
  have HZ := Lib.hid hZ
  have HC := Lib.hid hch
  have HH := Lib.hid h
  have HM := Lib.hid hm
  have HX := Lib.hid (⟨hlen, hmo⟩ : _ ∧ _)
  clear h hx hle hcap hg hm hr hch hW hZ hi hz0 hfin
  go_enter Try.func52, Try.ntmps52
  go_wp2_with (first
    | go_quiet (fail)
    | (go_at_call 102; refine (HC.out _ (Fr.alloc _ _ _)).mono ?_; rintro e w2 ⟨rfl, hw⟩; obtain rfl := hw)
    | (at_builtin; refine wpList_append_lies _ rfl _ _ 101 rfl 0 106 Try.t106 (.pointer none) 1 8 Try.underlying101 HT.out.1 HT.out.2 rfl rfl rfl (by decide) _ _ _ rfl (HH.out.row.fr (HW.out _ _ _ _ _) (fun _ _ h => h)) ⟨w.heap.size + 2, 0, none⟩ 1 1 [.pointer (some ⟨w.heap.size + 1, 0, none⟩)] rfl rfl
        (fun j u hu => World.news_of_block (HZ.out _ _ _ _ _).2.2 j u hu) (fun u hu => by simp at hu; subst hu; rfl) (by decide) (by have := HX.out; have := HM.out; simp [maxLen]; omega) (by have := HX.out; have := HM.out; simp; omega) (Nat.zero_le _) (w.heap.size + 3) (HZ.out _ _ _ _ _).2.1 ?_; intro g2 cap2 w1 hown1 hgrow1 hat1 hlt1;
       have HE := Lib.hid (HF.out _ _ _ _ _ _ hown1 hgrow1 hat1); clear hown1 hgrow1 hat1 hlt1; have k7 := HE.out.1; have kz := HE.out.2.1))
  go_ret2
  obtain ⟨_, _, h3, h4⟩ := HE.out
  obtain ⟨h5, h6⟩ := h4 _ _ rfl rfl
  exact ⟨_, _, rfl, by omega, fun g hg => (by cases hg; exact h3), h5, h6⟩

end Go.Proofs.Ytkdbjeegiiihaaa
