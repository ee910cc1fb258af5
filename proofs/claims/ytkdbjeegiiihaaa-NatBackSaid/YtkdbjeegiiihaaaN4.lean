/-
  A box's bindings looked through: the one that was asked for. Conditions: the ones each theorem names.
-/
import Derived.Test.YtkdbjeegiiihaaaN3
set_option linter.unusedVariables false
set_option linter.unusedSimpArgs false
namespace Go.Proofs.Ytkdbjeegiiihaaa
open Go.RowKit Go.Shelf

attribute [local go_sem] Oper.semAt_some

theorem results_cell {fn : Func} {t : Tmp} {ty : TypeId} (h : fn.results = #[.cell t ty]) (tmps : Array Value) (P : Program) (w : World) {a : Addr} {v : Value} (ht : tmps.getD t undef = .pointer (some a)) (hv : (loadVar ty a).run P w = .ok v w) :
    (results fn tmps).run P w = .ok v w := by
  rw [Array.getD_eq_getD_getElem?] at ht
  simp [results, h, ht, hv, asAddr]
theorem results_cell2 {fn : Func} {t t' : Tmp} {ty ty' : TypeId} (h : fn.results = #[.cell t ty, .cell t' ty']) (tmps : Array Value) (P : Program) (w : World) {a a' : Addr} {v v' : Value} (ht : tmps.getD t undef = .pointer (some a)) (ht' : tmps.getD t' undef = .pointer (some a')) (hv : (loadVar ty a).run P w = .ok v w) (hv' : (loadVar ty' a').run P w = .ok v' w) :
    (results fn tmps).run P w = .ok (.tuple #[v, v']) w := by
  rw [Array.getD_eq_getD_getElem?] at ht ht'
  simp [results, h, ht, hv, ht', hv', asAddr]
theorem load106 {W : World} {b : Nat} {v : Value} (h : W.cell? ⟨b, 0, none⟩ = some v) : (loadVar 106 ⟨b, 0, none⟩).run Try.prog W = .ok v W := by
  have := Try.isAgg106
  have := Try.sizeOf106
  go_simp
theorem load30 {W : World} {b : Nat} {v : Value} (h : W.cell? ⟨b, 0, none⟩ = some v) : (loadVar 30 ⟨b, 0, none⟩).run Try.prog W = .ok v W := by
  have := Try.isAgg30
  have := Try.sizeOf30
  go_simp
theorem load24 {W : World} {b : Nat} {a : Ad} (h : W.cell? ⟨b, 0, none⟩ = some (.int .u32 a.1)) (h1 : W.cell? ⟨b, 1, none⟩ = some (.int .i64 a.2)) : (loadVar 24 ⟨b, 0, none⟩).run Try.prog W = .ok (argA a) W := by
  have := Try.isAgg24
  have := Try.sizeOf24
  unfold argA
  go_simp

/-- The first of the bindings of which something holds, as a pointer; or none. -/
def Found (es : List En) (f : Bd → Bool) (v : Value) : Prop :=
  (∃ (i : Nat) (d : En), es[i]? = some d ∧ f d.b = true ∧ (∀ (t : Nat) (y : En), t < i → es[t]? = some y → f y.b = false) ∧ v = .pointer (some ⟨d.p, 0, none⟩)) ∨
  ((∀ d ∈ es, f d.b = false) ∧ v = .pointer none)
def askB (a : Ad) (b : Bd) : Bool := decide (b.i = a) && b.asked

theorem OQ.fr {n : Nat} {x : Bx} {now : Int} {es : List En} {v : Value} {a : Ad} {B1 B2 s : Nat} {A B : World} {S : Nat → Prop} (h : OQ n x now es v a B1 B2 s A) (hf : Fr S A B) (hS : ∀ b, S b → Misc A b ∨ A.heap.size ≤ b) (hlow : ∀ b, S b → ¬ foot n es v b) : OQ n x now es v a B1 B2 s B := by
  have hl := fun b (hb : S b) => hS b hb
  refine ⟨hf.boxed h.1 (fun e => (hS _ e).elim (fun m => not_misc_boxed h.1 m) (fun k => by have := lt_of_heap h.1; omega)), h.2.1.fr hf (fun e => ?_), h.2.2.fr hf (fun b hb e => hlow b e hb)⟩
  rcases hS _ e with m | k
  · obtain ⟨o, ho, hm⟩ := m
    have := h.2.1
    unfold BoxA at this
    rw [this] at ho; cases ho; cases hm
  · have := lt_of_heap h.2.1; omega
theorem NatM.notMisc {W : World} {n : Nat} {x : Bx} {now : Int} {es : List En} {v : Value} (h : NatM W n x now es v) {b : Nat} (hb : foot n es v b) : ¬ Misc W b := by
  rintro ⟨o, ho, hm⟩
  rcases hb with rfl | hb | ⟨e, he, rfl | hb⟩
  · rw [h.blk] at ho; cases ho; cases hm
  · obtain ⟨c, hc⟩ := h.row.blk hb; rw [hc] at ho; cases ho; cases hm
  · rw [(h.ens e he).blk] at ho; cases ho; cases hm
  · obtain ⟨c, hc⟩ := (h.ens e he).row.blk hb; rw [hc] at ho; cases ho; cases hm

/-- What the look for an asked one has come to: none among those that were passed. -/
def AI (w : World) (es : List En) (f : En → Bool) (R : Nat) (z : Value) (s : Nat) (W : World) : Prop := Boxed W R 106 z ∧ (∀ t d, t < s → es[t]? = some d → f d = false) ∧ Fr0 w W
theorem AI.fr {w : World} {es : List En} {f : En → Bool} {R : Nat} {z : Value} {s : Nat} {A B : World} {S : Nat → Prop} (h : AI w es f R z s A) (hf : Fr S A B) (hS : ∀ b, S b → Misc A b ∧ w.heap.size ≤ b) : AI w es f R z s B :=
  ⟨hf.boxed h.1 (fun e => not_misc_boxed h.1 (hS _ e).1), h.2.1, h.2.2.trans hf (fun b hb e => by have := (hS b e).2; omega)⟩

set_option maxRecDepth 100000 in
set_option maxHeartbeats 1000000 in
theorem asked_any (n : Nat) (x : Bx) (now : Int) (es : List En) (v : Value) (a : Ad) (w : World) (h : NatM w n x now es v) :
    Calls Try.prog 51 #[.pointer (some ⟨n, 0, none⟩), argA a] w fun e w' => ∃ u, e = .returned u ∧ Found es (askB a) u ∧ Fr0 w w' := by
  unfold argA
  refine (callsIn_wide (n := 0)).1 ?_
  refine callsIn_of_wp_marks Try.func51 rfl trivial ?_ rfl
  simp only [Try.ntmps51, List.size_toArray, List.length_cons, List.length_nil, Nat.reduceAdd, Nat.reduceSub, Array.replicate_succ, Array.replicate_zero, List.push_toArray, List.append_toArray, List.nil_append, List.cons_append]
  have wf : ∀ k, Fence.wide.fn k := fun _ => trivial
  have wd : Fence.wide.depth = none := rfl
  have hof := fun W => of_any n a W
  unfold argA at hof
  have HO := Lib.hid hof
  clear hof
  gi_wp2_with (first
    | (gi_at_call 95; refine (callsIn_wide.2 (HO.out _)).mono ?_; rintro e w' ⟨rfl, rfl⟩))
  obtain ⟨W0, hW0⟩ : ∃ W0, ((((w.alloc (Obj.cells #[Value.int IntKind.u32 a.fst, Value.int IntKind.i64 a.snd] 24)).alloc (Obj.cells #[Value.pointer none] 106)).alloc (Obj.cells #[Value.pointer (some { block := n, off := 0 })] 29)).alloc (Obj.cells #[Value.int IntKind.u32 a.fst, Value.int IntKind.i64 a.snd] 24)) = W0 := ⟨_, rfl⟩
  have hs0 : W0.heap.size = w.heap.size + 4 := by rw [← hW0]; simp
  have hf0 : Fr0 w W0 := by rw [← hW0]; exact (((Fr.alloc _ _ _).then (Fr.alloc _ _ _)).then (Fr.alloc _ _ _)).then (Fr.alloc _ _ _)
  have b1 : Boxed W0 (w.heap.size + 1) 106 (.pointer none) := by rw [← hW0]; have := Boxed.new (w.alloc (Obj.cells #[Value.int IntKind.u32 a.fst, Value.int IntKind.i64 a.snd] 24)) 106 (.pointer none); rw [World.size_alloc] at this; exact (this.alloc _).alloc _
  have b2 : Boxed W0 (w.heap.size + 2) 29 (.pointer (some ⟨n, 0, none⟩)) := by rw [← hW0]; have := Boxed.new ((w.alloc (Obj.cells #[Value.int IntKind.u32 a.fst, Value.int IntKind.i64 a.snd] 24)).alloc (Obj.cells #[Value.pointer none] 106)) 29 (.pointer (some ⟨n, 0, none⟩)); rw [World.size_alloc, World.size_alloc] at this; exact this.alloc _
  have b3 : BoxA W0 (w.heap.size + 3) a := by rw [← hW0]; unfold BoxA; have := World.alloc_heap_new (((w.alloc (Obj.cells #[Value.int IntKind.u32 a.fst, Value.int IntKind.i64 a.snd] 24)).alloc (Obj.cells #[Value.pointer none] 106)).alloc (Obj.cells #[Value.pointer (some { block := n, off := 0 })] 29)) (Obj.cells #[Value.int IntKind.u32 a.fst, Value.int IntKind.i64 a.snd] 24); rw [World.size_alloc, World.size_alloc, World.size_alloc] at this; exact this
  rw [hW0]
  clear hW0
  have hm0 := h.fr0 hf0
  refine wp_iter (gf := 119) (lb := #[.pointer (some ⟨w.heap.size + 1 + 1, 0, none⟩), .pointer (some ⟨w.heap.size + 1 + 1 + 1, 0, none⟩)]) rfl (enters_of Try.func119 (by kernel_rfl) rfl)
    (fun W1 hf => of1_iter n x now es v a (w.heap.size + 2) (w.heap.size + 3) W1) (fun _ => rfl)
    (AI w es (fun d => askB a d.b) (w.heap.size + 1) (.pointer none)) (fun c W => c = .ret ∧ ∃ u, Found es (askB a) u ∧ Boxed W (w.heap.size + 1) 106 u ∧ Fr0 w W)
    (fun s A B hi hf => hi.fr hf (fun b e => e.elim False.elim (fun e => ⟨e.1, by omega⟩)))
    (fun c A B hix hf => ⟨hix.1, hix.2.elim fun u hu => ⟨u, hu.1, hf.boxed hu.2.1 (fun e => not_misc_boxed hu.2.1 e.1.misc), hu.2.2.trans hf (fun b hb e => by have := e.2; omega)⟩⟩)
    (fun s A B hq hf => hq.fr hf (fun b e => .inl e.1.misc) (fun b e hb => hq.2.2.notMisc hb e.1.misc))
    (fun _ h => h.elim) ⟨b1, fun t d ht => by omega, hf0⟩ ⟨b2, b3, hm0⟩ ?round ?done ?stop
  case stop =>
    intro K c W hK hix hk
    obtain ⟨rfl, u, hu, hb, hf⟩ := hix
    have HE := Lib.hid (⟨hu, hb, hf, hk, hK⟩ : Found es (askB a) u ∧ Boxed W (w.heap.size + 1) 106 u ∧ Fr0 w W ∧ W.heap[K]? = some (.deferred (some [])) ∧ W0.heap.size ≤ K)
    clear hu hf hk hK hb
    gi_wp2
    obtain ⟨hu, hb, hf, hk, hK⟩ := HE.out
    refine ⟨by simp, .inl ⟨K, _, rfl, run_takeDeferred hk, ?_⟩⟩
    have hp : Fr (fun b => b = K) W (W.putObj K (.deferred none)) := Fr.putObj _ _ _ rfl
    exact ⟨_, results_cell rfl _ _ _ rfl (load106 (hp.boxed hb (fun e => by subst e; rw [hb] at hk; cases hk)).cell), u, rfl, hu, hf.trans hp (fun b hb e => by omega)⟩
  case round =>
    intro l K s e s' W hl hi hq hem
    gi_wp2
    refine ⟨KeepM.refl _, fun W₂ hf2 hl1 hl2 => ?_⟩
    replace hi := hi.fr hf2 (fun b e => by subst e; exact ⟨hl1.misc, by omega⟩)
    replace hq := hq.fr hf2 (fun b e => .inl (e ▸ hl1.misc)) (fun b e hb => hq.2.2.notMisc hb (e ▸ hl1.misc))
    obtain ⟨k, hk, he, hei, hbet, rfl⟩ := hem
    have hen := (hq.2.2.ens e (List.mem_of_getElem? he)).blk
    have c6 : W₂.cell? ⟨e.p, 6, none⟩ = some (.bool e.b.asked) := by rw [cell_of hen]; rfl
    have e1 := hi.1.cell
    have z1 := hi.1.frozen
    have wf' : ∀ k, (Fence.wide.inRound l).fn k := fun _ => trivial
    have wd' : (Fence.wide.inRound l).depth = none := rfl
    have HA := Lib.hid (⟨hi, hq, hk, he, hei, hbet⟩ : _ ∧ _ ∧ _ ∧ _ ∧ _ ∧ _)
    clear hi hq hk he hei hbet hen hl1 hl2 hf2
    unfold argP
    cases hb : e.b.asked
    · rw [hb] at c6
      have HB := Lib.hid hb
      clear hb
      gi_wp2
      obtain ⟨hi, hq, hk, he, hei, hbet⟩ := HA.out
      refine ⟨KeepM.refl _, ⟨hi.1, fun t d ht hd => ?_, hi.2.2⟩, hq⟩
      by_cases h1 : t < s
      · exact hi.2.1 t d h1 hd
      · by_cases h2 : t = k
        · subst h2; rw [he] at hd; cases hd; simp [askB, HB.out]
        · have := hbet t d (by omega) (by omega) hd
          simp [askB, this]
    · rw [hb] at c6
      have HB := Lib.hid hb
      clear hb
      gi_wp2
      obtain ⟨hi, hq, hk, he, hei, hbet⟩ := HA.out
      have hs : Fr (fun b => b = w.heap.size + 1) W₂ (W₂.setCell ⟨w.heap.size + 1, 0, none⟩ (.pointer (some ⟨e.p, 0, none⟩))) := Fr.setCell _ _ _ rfl
      refine ⟨hs.keepM (fun b e => e ▸ not_misc_boxed hi.1), rfl, _, .inl ⟨k, e, he, by simp [askB, HB.out, hei], fun t y ht hy => ?_, rfl⟩, hi.1.set _, hi.2.2.trans hs (fun b hb e => by omega)⟩
      by_cases h1 : t < s
      · exact hi.2.1 t y h1 hy
      · have := hbet t y (by omega) ht hy
        simp [askB, this]
  case done =>
    intro K s W hK hF hi hq hk
    have e1 := hi.1.cell
    have z1 := hi.1.frozen
    have HE := Lib.hid (⟨hF, hi, hk, hK⟩ : _ ∧ _ ∧ _ ∧ _)
    clear hF hi hk hK hq
    gi_wp2
    obtain ⟨hF, hi, hk, hK⟩ := HE.out
    refine ⟨by simp, .inl ⟨K, _, rfl, run_takeDeferred (by refine (Fr.setCell (S := fun b => b = w.heap.size + 1) _ _ _ rfl).heap hk (fun e => by omega)), ?_⟩⟩
    have hp : Fr (fun b => b = K) (W.setCell ⟨w.heap.size + 1, 0, none⟩ (.pointer none)) ((W.setCell ⟨w.heap.size + 1, 0, none⟩ (.pointer none)).putObj K (.deferred none)) := Fr.putObj _ _ _ rfl
    refine ⟨_, results_cell rfl _ _ _ rfl (load106 (hp.boxed (hi.1.set (.pointer none)) (fun e => by omega)).cell), .pointer none, rfl, .inr ⟨fun d hd => ?_, rfl⟩, ?_⟩
    · obtain ⟨t, ht, rfl⟩ := List.mem_iff_getElem.1 hd
      by_cases h1 : t < s
      · exact hi.2.1 t _ h1 (by simp [ht])
      · have := hF t es[t] (by omega) (by simp [ht])
        simp [askB, this]
    · exact (hi.2.2.trans (Fr.setCell (S := fun b => b = w.heap.size + 1) _ _ _ rfl) (fun b hb e => by omega)).trans hp (fun b hb e => by omega)

end Go.Proofs.Ytkdbjeegiiihaaa
