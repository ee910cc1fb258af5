/-
  What lies unturned between two worlds, and a loop over an iterator function, for every program: laws that the seat's own walks use. Conditions: none beyond those that each law names.
-/
import Derived.RangeFuncNested
import Derived.RangeFuncBound
import Derived.RangeFuncCalls
import Derived.RangeFuncLeaves
import Derived.Shelf.Abstract
import Derived.WalkKit
import Derived.OwnWalkIn
import Derived.TacticsInMore
import Derived.LoopNIn
import Derived.LoopIn
import Derived.Deep.Draws
import Derived.Lib.Hide
set_option linter.unusedVariables false
set_option linter.unusedSimpArgs false
namespace Go.Proofs.Ytkdbjeegiiihaaa
open Go.RowKit Go.Shelf

/-- Of the blocks of A those outside S lie in B as they lay. -/
structure Fr (S : Nat → Prop) (A B : World) : Prop where
  os : B.os = A.os
  tape : B.tape = A.tape
  output : B.output = A.output
  size : A.heap.size ≤ B.heap.size
  block : ∀ b, b < A.heap.size → ¬ S b → B.heap[b]? = A.heap[b]?

abbrev Fr0 : World → World → Prop := Fr (fun _ => False)

theorem Fr.refl (S : Nat → Prop) (A : World) : Fr S A A := ⟨rfl, rfl, rfl, Nat.le_refl _, fun _ _ _ => rfl⟩
theorem Fr.mono {S T : Nat → Prop} {A B : World} (h : Fr S A B) (hs : ∀ b, b < A.heap.size → S b → T b) : Fr T A B :=
  ⟨h.os, h.tape, h.output, h.size, fun b hb hT => h.block b hb (fun h => hT (hs b hb h))⟩
/-- What was turned behind may be what is new. -/
theorem Fr.trans {S T : Nat → Prop} {A B C : World} (h : Fr S A B) (k : Fr T B C) (hT : ∀ b, b < A.heap.size → T b → S b) : Fr S A C :=
  ⟨k.os.trans h.os, k.tape.trans h.tape, k.output.trans h.output, Nat.le_trans h.size k.size,
    fun b hb hS => (k.block b (Nat.lt_of_lt_of_le hb h.size) (fun h => hS (hT b hb h))).trans (h.block b hb hS)⟩
theorem Fr.then {S : Nat → Prop} {A B C : World} (h : Fr S A B) (k : Fr S B C) : Fr S A C := h.trans k (fun _ _ h => h)
theorem Fr.then0 {S : Nat → Prop} {A B C : World} (h : Fr S A B) (k : Fr0 B C) : Fr S A C := h.trans k (fun _ _ h => h.elim)
theorem Fr.of0 {S : Nat → Prop} {A B : World} (h : Fr0 A B) : Fr S A B := h.mono (fun _ _ h => h.elim)
theorem Fr.of_below {S : Nat → Prop} {A B : World} (h : Below A.heap.size A B) : Fr S A B := ⟨h.os, h.tape, h.output, h.size, fun b hb _ => h.block b hb⟩
theorem Fr.below {A B : World} (h : Fr0 A B) : Below A.heap.size A B := ⟨h.os, h.tape, h.output, h.size, fun b hb => h.block b hb (fun h => h)⟩
theorem Fr.of_belowN {n : Nat} {A B : World} (h : Below n A B) : Fr (fun b => n ≤ b) A B := ⟨h.os, h.tape, h.output, h.size, fun b _ hn => h.block b (by omega)⟩
theorem Fr.belowN {S : Nat → Prop} {n : Nat} {A B : World} (h : Fr S A B) (hn : n ≤ A.heap.size) (hS : ∀ b, S b → n ≤ b) : Below n A B :=
  ⟨h.os, h.tape, h.output, h.size, fun b hb => h.block b (by omega) (fun h => by have := hS b h; omega)⟩
theorem Fr.of_grownBy {row : Option Nat} {A B : World} (h : A.grownBy B row) : Fr (fun b => some b = row) A B := ⟨h.os, h.tape, h.output, h.size, fun b hb hr => h.block b hb hr⟩
theorem Fr.grownBy {r : Nat} {A B : World} (h : Fr (fun b => b = r) A B) : A.grownBy B (some r) := ⟨h.os, h.tape, h.output, h.size, fun b hb hr => h.block b hb (fun e => hr (by rw [e]))⟩
theorem Fr.grownBy0 {A B : World} (h : Fr0 A B) : A.grownBy B none := ⟨h.os, h.tape, h.output, h.size, fun b hb _ => h.block b hb (fun h => h)⟩
theorem Fr.alloc (S : Nat → Prop) (A : World) (o : Obj) : Fr S A (A.alloc o) := .of0 (.of_below ((Below.refl _ _).alloc (Nat.le_refl _) _))
theorem Fr.drewN (S : Nat → Prop) (A : World) (q : Nat) : Fr S A (A.drewN q) := ⟨rfl, rfl, rfl, Nat.le_refl _, fun _ _ _ => rfl⟩
theorem Fr.drew (S : Nat → Prop) (A : World) : Fr S A A.drew := ⟨rfl, rfl, rfl, Nat.le_refl _, fun _ _ _ => rfl⟩
theorem Fr.setCell {S : Nat → Prop} (A : World) (a : Addr) (v : Value) (h : S a.block) : Fr S A (A.setCell a v) :=
  ⟨rfl, rfl, rfl, by simp [World.setCell], fun b _ hb => Below.heap_setCell _ _ _ _ (fun e => hb (by rw [e]; exact h))⟩
theorem Fr.putObj {S : Nat → Prop} (A : World) (l : Nat) (o : Obj) (h : S l) : Fr S A (A.putObj l o) :=
  ⟨rfl, rfl, rfl, by simp, fun b _ hb => World.putObj_heap_other (fun e => hb (by rw [e]; exact h))⟩

theorem Fr.heap {S : Nat → Prop} {A B : World} (h : Fr S A B) {b : Nat} {o : Obj} (ho : A.heap[b]? = some o) (hb : ¬ S b) : B.heap[b]? = some o :=
  (h.block b (Array.getElem?_eq_some_iff.1 ho).1 hb).trans ho
theorem lt_of_heap {A : World} {b : Nat} {o : Obj} (ho : A.heap[b]? = some o) : b < A.heap.size := (Array.getElem?_eq_some_iff.1 ho).1
theorem cell_lt {A : World} {a : Addr} {v : Value} (h : A.cell? a = some v) : a.block < A.heap.size := World.block_lt_of_cell? A a h
theorem Fr.cell {S : Nat → Prop} {A B : World} (h : Fr S A B) {a : Addr} {v : Value} (hc : A.cell? a = some v) (hb : ¬ S a.block) : B.cell? a = some v :=
  (World.cell?_of_block (h.block a.block (cell_lt hc) hb)).trans hc
theorem Fr.frozen {S : Nat → Prop} {A B : World} (h : Fr S A B) {a : Addr} {v : Value} (hc : A.cell? a = some v) (hb : ¬ S a.block) {z : Bool} (hz : A.frozen? a = z) : B.frozen? a = z :=
  (World.frozen?_of_block (h.block a.block (cell_lt hc) hb)).trans hz
theorem Fr.ownsRow {S : Nat → Prop} {A B : World} (h : Fr S A B) {base : Nat} {e : TypeId} {size n : Nat} {v : Value} {xs : List Value} (ho : A.ownsRow base e size v n xs)
    (hb : ∀ g, v.ownBlock = some g → ¬ S g) : B.ownsRow base e size v n xs := by
  obtain ⟨h1, h2⟩ := ho
  refine ⟨h1, ?_⟩
  rcases h2 with h2 | ⟨g, cap, cur, hv, hg, hh, r⟩
  · exact .inl h2
  · exact .inr ⟨g, cap, cur, hv, hg, h.heap hh (hb g (by rw [hv]; rfl)), r⟩
theorem Fr.ownsMap {S : Nat → Prop} {A B : World} (h : Fr S A B) {H : Type} {P : Program} {k : TypeId} {R : Value → Option (DataW H × List MemPlace)} {b n : Nat} {D : DataW H} (ho : A.ownsMap P k R b n D) (hb : ¬ S b) : B.ownsMap P k R b n D := by
  obtain ⟨es, clock, hh, r⟩ := ho
  exact ⟨es, clock, h.heap hh hb, r⟩
theorem Fr.boxed {S : Nat → Prop} {A B : World} (h : Fr S A B) {b : Nat} {t : TypeId} {v : Value} (hx : Boxed A b t v) (hb : ¬ S b) : Boxed B b t v := h.heap hx hb

/-! ### Objects that are neither cells nor a map -/
def misc : Obj → Bool
  | .cells .. => false
  | .map .. => false
  | _ => true
def Misc (A : World) (b : Nat) : Prop := ∃ o, A.heap[b]? = some o ∧ misc o = true
def LoopLike : Obj → Bool
  | .loop .. => true
  | .deferred .. => true
  | _ => false
def Loops (A : World) (b : Nat) : Prop := ∃ o, A.heap[b]? = some o ∧ LoopLike o = true
theorem Loops.misc {A : World} {b : Nat} (h : Loops A b) : Misc A b := by
  obtain ⟨o, ho, hl⟩ := h
  exact ⟨o, ho, by cases o <;> first | rfl | cases hl⟩
/-- Whatever is neither cells nor a map lies as it lay. -/
def KeepM (A B : World) : Prop := ∀ (b : Nat) (o : Obj), A.heap[b]? = some o → misc o = true → B.heap[b]? = some o
theorem KeepM.refl (A : World) : KeepM A A := fun _ _ h _ => h
theorem KeepM.trans {A B C : World} (h : KeepM A B) (k : KeepM B C) : KeepM A C := fun b o ho hm => k b o (h b o ho hm) hm
theorem Fr.keepM {S : Nat → Prop} {A B : World} (h : Fr S A B) (hS : ∀ b, S b → ¬ Misc A b) : KeepM A B :=
  fun b o ho hm => h.heap ho (fun hs => hS b hs ⟨o, ho, hm⟩)
theorem Fr.keepM0 {A B : World} (h : Fr0 A B) : KeepM A B := Fr.keepM h (fun _ h => h.elim)
theorem not_misc_cell {A : World} {a : Addr} {v : Value} (h : A.cell? a = some v) : ¬ Misc A a.block := by
  rintro ⟨o, ho, hm⟩
  cases o with
  | cells => simp [misc] at hm
  | _ => simp [World.cell?, ho] at h
theorem not_misc_boxed {A : World} {b : Nat} {t : TypeId} {v : Value} (h : Boxed A b t v) : ¬ Misc A b := not_misc_cell h.cell
theorem not_misc_map {A : World} {H : Type} {P : Program} {k : TypeId} {R : Value → Option (DataW H × List MemPlace)} {b n : Nat} {D : DataW H} (ho : A.ownsMap P k R b n D) : ¬ Misc A b := by
  obtain ⟨es, clock, hh, _⟩ := ho
  rintro ⟨o, ho, hm⟩
  rw [hh] at ho; cases ho; cases hm
theorem not_misc_row {A : World} {base : Nat} {e : TypeId} {size n : Nat} {v : Value} {xs : List Value} (ho : A.ownsRow base e size v n xs) : ∀ g, v.ownBlock = some g → ¬ Misc A g := by
  intro g hg
  rcases ho.2 with ⟨rfl, _⟩ | ⟨g', cap, cur, rfl, _, hh, _⟩
  · cases hg
  · cases hg
    rintro ⟨o, ho, hm⟩
    rw [hh] at ho; cases ho; cases hm

/-- Whatever is neither cells nor a map nor a loop's own lies as it lay. -/
def KeepI (A B : World) : Prop := ∀ (b : Nat) (o : Obj), A.heap[b]? = some o → misc o = true → LoopLike o = false → B.heap[b]? = some o

/-! ### A loop over an iterator function -/
/-- How a round's body may be left: on (the state's next), or out by a jump. -/
def bpost {σ : Type} (I : σ → World → Prop) (Ix : Code → World → Prop) (s : σ) (W : World) : Exit → Act → World → Prop
  | .normal, _, W' => KeepM W W' ∧ I s W'
  | .ret, _, W' => KeepM W W' ∧ Ix .ret W'
  | .exit id, _, W' => KeepM W W' ∧ Ix (.exit id) W'
  | .goto t, _, W' => KeepM W W' ∧ Ix (.goto t) W'
  | .panic _, _, _ => False
  | .outgrown, _, _ => False

/-- What an iterator function keeps its word on, entered in W with state s0: whatever I and Ix its caller brings that stand while the iterator's own blocks S and iterators over maps turn. -/
def IterC {σ α : Type} (P : Program) (gf : Nat) (lb : Array Value) (encs : α → Array Value) (S : Nat → Prop) (Q : σ → World → Prop) (Emit : σ → α → σ → Prop) (Fin : σ → Prop) (W : World) (s0 : σ) : Prop :=
  ∀ (l : Nat) (I : σ → World → Prop) (Ix : World → Prop),
    (∀ s A B, I s A → Fr (fun b => S b ∨ Misc A b ∧ ¬ Loops A b ∧ W.heap.size ≤ b) A B → I s B) →
    (∀ s x s' W1, I s W1 → Q s' W1 → Emit s x s' → YieldAt Fence.wide 0 P l (encs x) W1 fun e W' =>
      (e = .returned (.bool true) ∧ I s' W' ∧ Q s' W' ∧ KeepI W1 W') ∨ (e = .returned (.bool false) ∧ Ix W')) →
    I s0 W → Q s0 W →
    Calls P gf (#[.func (.yield l) #[] #[]] ++ lb) W fun e W' => (∃ v, e = .returned v) ∧ ((∃ s, Fin s ∧ I s W' ∧ Q s W') ∨ Ix W')


/-- The record of a loop and what its rounds do with it, for both kinds of loops. -/
theorem iter_core {σ α : Type} {P : Program} {gf : Nat} {lb : Array Value} {encs : α → Array Value} {S : Nat → Prop} {Q : σ → World → Prop} {Emit : σ → α → σ → Prop} {Fin : σ → Prop} {s0 : σ}
    {fn : FuncId} {tmps : Array Value} {ps : Array Tmp} {assign body : Code} {D l : Nat} {W1 : World} {R : Ending → World → Prop}
    (rec : LoopState → Option Code → Loop) (hrec : rec = fun st pe => { state := st, pending := pe, fn, tmps, params := ps, assign, body, defers := D })
    (hseq : IterC P gf lb encs S Q Emit Fin W1 s0) (hps : ∀ x, (encs x).size = ps.size)
    (I : σ → World → Prop) (Ix : Code → World → Prop)
    (hI : ∀ s A B, I s A → Fr (fun b => S b ∨ Misc A b ∧ ¬ Loops A b ∧ W1.heap.size ≤ b) A B → I s B) (hIl : ∀ s A B, I s A → Loops A l → Fr (fun b => b = l) A B → I s B) (hIx : ∀ c A B, Ix c A → Loops A l → Fr (fun b => b = l) A B → Ix c B) (hQ : ∀ s A B, Q s A → Loops A l → Fr (fun b => b = l) A B → Q s B)
    (hSl : ¬ S l)
    (hl : W1.heap[l]? = some (.loop (rec .ready none))) (h0 : I s0 W1) (hq0 : Q s0 W1)
    (hround : ∀ s x s' W, I s W → Q s' W → Emit s x s' → W.heap[l]? = some (.loop (rec .ready none)) →
      assign.wpIn (Fence.wide.inRound l) 0 P (Exit.then (fun a₁ W₁ => KeepM W W₁ ∧ ∀ W₂, Fr (fun b => b = l) W₁ W₂ → Loops W₁ l → (∃ r, W₂.heap[l]? = some (.loop r) ∧ r.defers = D) →
        body.wpIn (Fence.wide.inRound l) 0 P (bpost (fun s W => I s W ∧ Q s W) Ix s' W₂) a₁ W₂) (fun _ _ _ => False)) { tmps := (ps.zip (encs x)).foldl (fun t (p, v) => t.setIfInBounds p v) tmps, defers := [] } W)
    (hdone : ∀ s W W', Fin s → I s W' → Q s W' → (Instr.endLoop l).run P W = .ok none W' → ∀ v, R (.returned v) W)
    (hstop : ∀ c W W', Ix c W' → (Instr.endLoop l).run P W = .ok (some c) W' → ∀ v, R (.returned v) W) :
    Calls P gf (#[.func (.yield l) #[] #[]] ++ lb) W1 R := by
  have loopsL : ∀ {A : World} {r : Loop}, A.heap[l]? = some (.loop r) → Loops A l := fun h => ⟨_, h, rfl⟩
  have put : ∀ (A : World) (o : Obj), Fr (fun b => b = l) A (A.putObj l o) := fun A o => Fr.putObj A l o rfl
  refine (hseq l (fun s W => I s W ∧ W.heap[l]? = some (.loop (rec .ready none))) (fun W => ∃ c, Ix c W ∧ W.heap[l]? = some (.loop (rec .done (some c)))) ?_ ?_ ⟨h0, hl⟩ hq0).mono ?_
  · rintro s A B ⟨hi, hla⟩ hf
    exact ⟨hI s A B hi hf, hf.heap hla (fun h => h.elim hSl (fun h => h.2.1 (loopsL hla)))⟩
  · rintro s x s' W ⟨hi, hla⟩ hq hem
    have hy := run_yield (P := P) (args := encs x) hla (by rw [hrec]; exact hps x)
    have hr := hround s x s' W hi hq hem hla
    rw [hrec] at hy
    refine ⟨fn, _, assign, body, hy, roundIn_of_wpIn trivial (wpIn_mono hr ?_)⟩
    rintro e a₁ W₁ hp
    cases e with
    | normal =>
      obtain ⟨hk, hb⟩ := hp
      have hki : ∀ (A : World) (o' : Obj) (b : Nat) (o : Obj) {r : Loop}, A.heap[l]? = some (.loop r) → A.heap[b]? = some o → misc o = true → LoopLike o = false → (A.putObj l o').heap[b]? = some o := fun A o' b o r hl hb _ hn => by
        refine (World.putObj_heap_other (fun e => ?_)).trans hb
        rw [e, hl] at hb; cases hb; cases hn
      have hl1 := hk l _ hla rfl
      have hlt1 := lt_of_heap hl1
      have hl2 : (W₁.putObj l (.loop { rec .ready none with state := .busy })).heap[l]? = some (.loop { rec .ready none with state := .busy }) := World.putObj_heap_same hlt1
      refine ⟨_, run_beginRound hl1 (by rw [hrec]), wpIn_mono (hb _ (Fr.putObj _ l _ rfl) (loopsL hl1) ⟨_, hl2, by rw [hrec]⟩) ?_⟩
      have fin : ∀ (jump : Option Code) (W3 : World), KeepM (W₁.putObj l (.loop { rec .ready none with state := .busy })) W3 →
          (Instr.endRound l jump).run P W3 = .ok (.bool jump.isNone) (W3.putObj l (.loop (rec (if jump.isNone then .ready else .done) jump))) ∧
          W3.heap[l]? = some (.loop { rec .ready none with state := .busy }) ∧
          (W3.putObj l (.loop (rec (if jump.isNone then .ready else .done) jump))).heap[l]? = some (.loop (rec (if jump.isNone then .ready else .done) jump)) := fun jump W3 hk3 => by
        have hl3 := hk3 l _ hl2 rfl
        have := run_endRound (P := P) jump hl3
        rw [hrec] at this ⊢
        exact ⟨this, by rw [hrec] at hl3; exact hl3, World.putObj_heap_same (lt_of_heap hl3)⟩
      rintro e a3 W3 hp
      cases e with
      | normal =>
        obtain ⟨hk3, hi3, hq3⟩ := hp
        obtain ⟨hr, hl3, hl4⟩ := fin none W3 hk3
        exact ⟨_, _, hr, .inl ⟨rfl, ⟨hIl s' _ _ hi3 (loopsL hl3) (put _ _), hl4⟩, hQ s' _ _ hq3 (loopsL hl3) (put _ _), fun b o ho hm hn =>
          hki _ _ b o hl3 (hk3 b o (hki _ _ b o hl1 (hk b o ho hm) hm hn) hm) hm hn⟩⟩
      | ret =>
        obtain ⟨hk3, hi3⟩ := hp
        obtain ⟨hr, hl3, hl4⟩ := fin (some .ret) W3 hk3
        exact ⟨_, _, hr, .inr ⟨rfl, .ret, hIx _ _ _ hi3 (loopsL hl3) (put _ _), hl4⟩⟩
      | exit id =>
        obtain ⟨hk3, hi3⟩ := hp
        obtain ⟨hr, hl3, hl4⟩ := fin (some (.exit id)) W3 hk3
        exact ⟨_, _, hr, .inr ⟨rfl, .exit id, hIx _ _ _ hi3 (loopsL hl3) (put _ _), hl4⟩⟩
      | goto t =>
        obtain ⟨hk3, hi3⟩ := hp
        obtain ⟨hr, hl3, hl4⟩ := fin (some (.goto t)) W3 hk3
        exact ⟨_, _, hr, .inr ⟨rfl, .goto t, hIx _ _ _ hi3 (loopsL hl3) (put _ _), hl4⟩⟩
      | panic ch => exact hp.elim
      | outgrown => exact hp.elim
    | ret => exact hp.elim
    | exit id => exact hp.elim
    | goto t => exact hp.elim
    | panic ch => exact hp.elim
    | outgrown => exact hp.elim
  · rintro e W2 ⟨⟨v, rfl⟩, (⟨s, hF, ⟨hi, hl2⟩, hq⟩ | ⟨c, hix, hl2⟩)⟩
    · have hfr := put W2 (.loop (rec .exhausted none))
      refine hdone s W2 _ hF (hIl s _ _ hi (loopsL hl2) hfr) (hQ s _ _ hq (loopsL hl2) hfr) ?_ v
      have := run_endLoop (P := P) hl2 (by rw [hrec]; simp); rw [hrec] at this ⊢; exact this
    · have hfr := put W2 (.loop (rec .exhausted (some c)))
      refine hstop c W2 _ (hIx c _ _ hix (loopsL hl2) hfr) ?_ v
      have := run_endLoop (P := P) hl2 (by rw [hrec]; simp); rw [hrec] at this ⊢; exact this

/-- A loop over an iterator that stands in no other. -/
theorem wp_iter {σ α : Type} {P : Program} {g : Operand} {ps : Array Tmp} {assign body : Code} {Qx : Exit → Act → World → Prop} {a : Act} {w : World}
    {gf : Nat} {lb : Array Value} (hg : a.eval g = .func (.func gf) #[] lb) (eg : ∀ args w, (callFunc gf args).run P w = .ok (.enter gf args) w)
    {encs : α → Array Value} {S : Nat → Prop} {Q : σ → World → Prop} {Emit : σ → α → σ → Prop} {Fin : σ → Prop} {s0 : σ}
    (hseq : ∀ W1, Fr0 w W1 → IterC P gf lb encs S Q Emit Fin W1 s0) (hps : ∀ x, (encs x).size = ps.size)
    (I : σ → World → Prop) (Ix : Code → World → Prop)
    (hI : ∀ s A B, I s A → Fr (fun b => S b ∨ Misc A b ∧ w.heap.size ≤ b) A B → I s B) (hIx : ∀ c A B, Ix c A → Fr (fun b => Loops A b ∧ w.heap.size ≤ b) A B → Ix c B) (hQ : ∀ s A B, Q s A → Fr (fun b => Loops A b ∧ w.heap.size ≤ b) A B → Q s B)
    (hS : ∀ b, S b → b < w.heap.size) (h0 : I s0 w) (hq0 : Q s0 w)
    (hround : ∀ l D s x s' W, w.heap.size ≤ l → I s W → Q s' W → Emit s x s' →
      assign.wpIn (Fence.wide.inRound l) 0 P (Exit.then (fun a₁ W₁ => KeepM W W₁ ∧ ∀ W₂, Fr (fun b => b = l) W₁ W₂ → Loops W₁ l → (∃ r, W₂.heap[l]? = some (.loop r) ∧ r.defers = D) →
        body.wpIn (Fence.wide.inRound l) 0 P (bpost (fun s W => I s W ∧ Q s W) Ix s' W₂) a₁ W₂) (fun _ _ _ => False)) { tmps := (ps.zip (encs x)).foldl (fun t (p, v) => t.setIfInBounds p v) a.tmps, defers := [] } W)
    (hdone : ∀ D s W, w.heap.size ≤ D → Fin s → I s W → Q s W → W.heap[D]? = some (.deferred (some [])) → Qx .normal { a with defers := { target := .collected D, args := #[] } :: a.defers } W)
    (hstop : ∀ D c W, w.heap.size ≤ D → Ix c W → W.heap[D]? = some (.deferred (some [])) → c.wpIn Fence.wide 0 P Qx { a with defers := { target := .collected D, args := #[] } :: a.defers } W) :
    (Code.rangeFunc g ps assign body).wpIn Fence.wide 0 P Qx a w := by
  refine wpIn_rangeFunc ?_
  intro fn _
  obtain ⟨rec, hrec⟩ : ∃ rec : LoopState → Option Code → Loop, rec = fun st pe => { state := st, pending := pe, fn, tmps := a.tmps, params := ps, assign, body, defers := w.heap.size } := ⟨_, rfl⟩
  obtain ⟨W1, hW1⟩ : ∃ W1, (w.alloc (.deferred (some []))).alloc (.loop (rec .ready none)) = W1 := ⟨_, rfl⟩
  have hL1 : W1.heap[w.heap.size + 1]? = some (.loop (rec .ready none)) := by
    rw [← hW1]; have := World.alloc_heap_new (w.alloc (.deferred (some []))) (.loop (rec .ready none)); rwa [World.size_alloc] at this
  have hK1 : W1.heap[w.heap.size]? = some (.deferred (some [])) := by
    rw [← hW1]; exact (Below.heap_alloc _ _ _ (by simp)).trans (World.alloc_heap_new w _)
  have hf1 : Fr0 w W1 := by rw [← hW1]; exact (Fr.alloc _ _ _).then (Fr.alloc _ _ _)
  have hnS : ∀ b, w.heap.size ≤ b → ¬ S b := fun b hb h => by have := hS b h; omega
  refine ⟨w.heap.size + 1, [{ target := .collected w.heap.size, args := #[] }], W1, { target := .fn (.func gf) lb, args := #[.func (.yield (w.heap.size + 1)) #[] #[]] }, W1, gf,
    #[.func (.yield (w.heap.size + 1)) #[] #[]] ++ lb, W1, ?_, ?_, ?_, ?_, fun h => absurd h (by simp [Fence.wide]), ?_⟩
  · rw [← hW1, hrec]; exact run_enterLoop_outer _ _ _ _ _
  · simp only [resolve, hg]
    simp [go_sem]
  · intro f' _; trivial
  · simp [invoke, go_sem, eg]
  · have hlK : ∀ {A B : World}, Fr (fun b => b = w.heap.size + 1) A B → A.heap[w.heap.size]? = some (.deferred (some [])) → B.heap[w.heap.size]? = some (.deferred (some [])) := fun h k => h.heap k (by omega)
    have toM : ∀ {A B : World}, Loops A (w.heap.size + 1) → Fr (fun b => b = w.heap.size + 1) A B → Fr (fun b => S b ∨ Misc A b ∧ w.heap.size ≤ b) A B := fun hl h => h.mono (fun b _ e => .inr ⟨e ▸ hl.misc, by omega⟩)
    have toL : ∀ {A B : World}, Loops A (w.heap.size + 1) → Fr (fun b => b = w.heap.size + 1) A B → Fr (fun b => Loops A b ∧ w.heap.size ≤ b) A B := fun hl h => h.mono (fun b _ e => ⟨e ▸ hl, by omega⟩)
    refine callsIn_wide.2 (iter_core rec hrec (hseq W1 hf1) hps (fun s W => I s W ∧ W.heap[w.heap.size]? = some (.deferred (some []))) (fun c W => Ix c W ∧ W.heap[w.heap.size]? = some (.deferred (some [])))
      ?_ (fun s A B h hl hf => ⟨hI s A B h.1 (toM hl hf), hlK hf h.2⟩) (fun c A B h hl hf => ⟨hIx c A B h.1 (toL hl hf), hlK hf h.2⟩) (fun s A B h hl hf => hQ s A B h (toL hl hf)) (hnS _ (by omega)) hL1 ⟨hI s0 _ _ h0 hf1.of0, hK1⟩ (hQ s0 _ _ hq0 hf1.of0) ?_ ?_ ?_)
    · rintro s A B ⟨hi, hk⟩ hf
      exact ⟨hI s A B hi (hf.mono (fun b _ h => h.imp id (fun h => ⟨h.1, Nat.le_trans hf1.size h.2.2⟩))), hf.heap hk (fun h => h.elim (hnS _ (Nat.le_refl _)) (fun h => h.2.1 ⟨_, hk, rfl⟩))⟩
    · rintro s x s' W ⟨hi, hk⟩ hq hem hl
      refine wpIn_mono (hround (w.heap.size + 1) w.heap.size s x s' W (by omega) hi hq hem) ?_
      rintro e a₁ W₁ hp
      cases e with
      | normal =>
        obtain ⟨hk1, hb⟩ := hp
        refine ⟨hk1, fun W₂ hf2 hl1 hl2 => wpIn_mono (hb W₂ hf2 hl1 hl2) ?_⟩
        have hk2 := hlK hf2 (hk1 _ _ hk rfl)
        rintro e a₂ W₃ hp
        cases e with
        | normal => exact ⟨hp.1, ⟨hp.2.1, hp.1 _ _ hk2 rfl⟩, hp.2.2⟩
        | ret => exact ⟨hp.1, hp.2, hp.1 _ _ hk2 rfl⟩
        | exit id => exact ⟨hp.1, hp.2, hp.1 _ _ hk2 rfl⟩
        | goto t => exact ⟨hp.1, hp.2, hp.1 _ _ hk2 rfl⟩
        | panic ch => exact hp
        | outgrown => exact hp
      | _ => exact hp
    · rintro s W W' hF ⟨hi, hk⟩ hq hend v
      exact ⟨none, W', hend, hdone _ s W' (Nat.le_refl _) hF hi hq hk⟩
    · rintro c W W' ⟨hi, hk⟩ hend v
      exact ⟨some c, W', hend, hstop _ c W' (Nat.le_refl _) hi hk⟩

/-- A loop over an iterator within the round of another such loop. -/
theorem wp_iter_in {σ α : Type} {P : Program} {g : Operand} {ps : Array Tmp} {assign body : Code} {Qx : Exit → Act → World → Prop} {a : Act} {w : World} {l₀ : Nat} {r₀ : Loop}
    (hr₀ : w.heap[l₀]? = some (.loop r₀))
    {gf : Nat} {lb : Array Value} (hg : a.eval g = .func (.func gf) #[] lb) (eg : ∀ args w, (callFunc gf args).run P w = .ok (.enter gf args) w)
    {encs : α → Array Value} {S : Nat → Prop} {Q : σ → World → Prop} {Emit : σ → α → σ → Prop} {Fin : σ → Prop} {s0 : σ}
    (hseq : ∀ W1, Fr0 w W1 → IterC P gf lb encs S Q Emit Fin W1 s0) (hps : ∀ x, (encs x).size = ps.size)
    (I : σ → World → Prop) (Ix : Code → World → Prop)
    (hI : ∀ s A B, I s A → Fr (fun b => S b ∨ Misc A b ∧ w.heap.size ≤ b) A B → I s B) (hIx : ∀ c A B, Ix c A → Fr (fun b => Loops A b ∧ w.heap.size ≤ b) A B → Ix c B) (hQ : ∀ s A B, Q s A → Fr (fun b => Loops A b ∧ w.heap.size ≤ b) A B → Q s B)
    (hS : ∀ b, S b → b < w.heap.size) (h0 : I s0 w) (hq0 : Q s0 w)
    (hround : ∀ l s x s' W, w.heap.size ≤ l → I s W → Q s' W → Emit s x s' →
      assign.wpIn (Fence.wide.inRound l) 0 P (Exit.then (fun a₁ W₁ => KeepM W W₁ ∧ ∀ W₂, Fr (fun b => b = l) W₁ W₂ → Loops W₁ l → (∃ r, W₂.heap[l]? = some (.loop r) ∧ r.defers = r₀.defers) →
        body.wpIn (Fence.wide.inRound l) 0 P (bpost (fun s W => I s W ∧ Q s W) Ix s' W₂) a₁ W₂) (fun _ _ _ => False)) { tmps := (ps.zip (encs x)).foldl (fun t (p, v) => t.setIfInBounds p v) a.tmps, defers := [] } W)
    (hdone : ∀ s W, Fin s → I s W → Q s W → Qx .normal a W)
    (hstop : ∀ c W, Ix c W → c.wpIn (Fence.wide.inRound l₀) 0 P Qx a W) :
    (Code.rangeFunc g ps assign body).wpIn (Fence.wide.inRound l₀) 0 P Qx a w := by
  refine wpIn_rangeFunc ?_
  intro fn _
  obtain ⟨rec, hrec⟩ : ∃ rec : LoopState → Option Code → Loop, rec = fun st pe => { state := st, pending := pe, fn, tmps := a.tmps, params := ps, assign, body, defers := r₀.defers } := ⟨_, rfl⟩
  obtain ⟨W1, hW1⟩ : ∃ W1, w.alloc (.loop (rec .ready none)) = W1 := ⟨_, rfl⟩
  have hL1 : W1.heap[w.heap.size]? = some (.loop (rec .ready none)) := by rw [← hW1]; exact World.alloc_heap_new w _
  have hf1 : Fr0 w W1 := by rw [← hW1]; exact Fr.alloc _ _ _
  have hlt := lt_of_heap hr₀
  have hnS : ∀ b, w.heap.size ≤ b → ¬ S b := fun b hb h => by have := hS b h; omega
  have toM : ∀ {A B : World}, Loops A w.heap.size → Fr (fun b => b = w.heap.size) A B → Fr (fun b => S b ∨ Misc A b ∧ w.heap.size ≤ b) A B := fun hl h => h.mono (fun b _ e => .inr ⟨e ▸ hl.misc, by omega⟩)
  have toL : ∀ {A B : World}, Loops A w.heap.size → Fr (fun b => b = w.heap.size) A B → Fr (fun b => Loops A b ∧ w.heap.size ≤ b) A B := fun hl h => h.mono (fun b _ e => ⟨e ▸ hl, by omega⟩)
  refine ⟨w.heap.size, [], W1, { target := .fn (.func gf) lb, args := #[.func (.yield w.heap.size) #[] #[]] }, W1, gf,
    #[.func (.yield w.heap.size) #[] #[]] ++ lb, W1, ?_, ?_, ?_, ?_, fun h => absurd h (by simp [Fence.wide]), ?_⟩
  · rw [← hW1, hrec]; exact run_enterLoop_inner hr₀ _ _ _ _ _
  · simp only [resolve, hg]
    simp [go_sem]
  · intro f' _; trivial
  · simp [invoke, go_sem, eg]
  · refine CallsIn.inRound l₀ (callsIn_wide.2 (iter_core rec hrec (hseq W1 hf1) hps I Ix
      (fun s A B h hf => hI s A B h (hf.mono (fun b _ e => e.imp id (fun e => ⟨e.1, Nat.le_trans hf1.size e.2.2⟩)))) (fun s A B h hl hf => hI s A B h (toM hl hf)) (fun c A B h hl hf => hIx c A B h (toL hl hf)) (fun s A B h hl hf => hQ s A B h (toL hl hf)) (hnS _ (Nat.le_refl _)) hL1 (hI s0 _ _ h0 hf1.of0) (hQ s0 _ _ hq0 hf1.of0) ?_ ?_ ?_))
    · rintro s x s' W hi hq hem hl
      exact hround w.heap.size s x s' W (Nat.le_refl _) hi hq hem
    · rintro s W W' hF hi hq hend v
      exact ⟨none, W', hend, hdone s W' hF hi hq⟩
    · rintro c W W' hi hend v
      exact ⟨some c, W', hend, hstop c W' hi⟩

end Go.Proofs.Ytkdbjeegiiihaaa
