/-
  What comes back: the walk's first part: a script gone through. Conditions: the ones each theorem names.
-/
import Derived.Test.YtkdbjeegiiihaaaPB
import Derived.Test.YtkdbjeegiiihaaaN24
set_option linter.unusedVariables false
set_option linter.unusedSimpArgs false
namespace Go.Proofs.Ytkdbjeegiiihaaa
open Go.RowKit Go.Shelf

/-- A step of a script. -/
structure Dn where
  kind : Int
  wait : Int
  a : Ad
  b : Ad
  port : Int
  unt : Int
def encD (d : Dn) : List Value := [.int .i64 d.kind, .int .i64 d.wait, .int .u32 d.a.1, .int .i64 d.a.2, .int .u32 d.b.1, .int .i64 d.b.2, .int .i64 d.port, .int .i64 d.unt]
/-- Was anything sent to host 77? By the first k steps. -/
def sentB (to : Ad) (xs : List Dn) (k : Nat) : Bool := decide (to.1 = 77) || (xs.take k).any fun d => decide (d.b.1 = 77)

theorem sentB_succ (to : Ad) (xs : List Dn) (k : Nat) (d : Dn) (h : xs[k]? = some d) : sentB to xs (k + 1) = (sentB to xs k || decide (d.b.1 = 77)) := by
  obtain ⟨hlt, rfl⟩ := List.getElem?_eq_some_iff.1 h
  unfold sentB
  rw [List.take_succ_eq_append_getElem hlt, List.any_append]
  simp [Bool.or_assoc]
theorem sentB_to {to : Ad} {xs : List Dn} {k : Nat} (h : to.1 = 77) : sentB to xs k = true := by simp [sentB, h]
theorem sentB_at {to : Ad} {xs : List Dn} {k j : Nat} {d : Dn} (h : xs[j]? = some d) (hj : j < k) (h7 : d.b.1 = 77) : sentB to xs k = true := by
  unfold sentB
  have : ((xs.take k).any fun d => decide (d.b.1 = 77)) = true := List.any_eq_true.2 ⟨d, List.mem_of_getElem? (i := j) (by rw [List.getElem?_take_of_lt hj]; exact h), by simpa using h7⟩
  rw [this]; simp

/-- What holds between the steps: below L all lies as it lay in w3. -/
def BackI (w3 : World) (L n : Nat) (c : Int) (a0 : Ad) (sent : Prop) (wr : World) : Prop :=
  Fr (fun b => L < b) w3 wr ∧ ∃ F s, NatAt wr n F s ∧ BInv a0 sent s ∧ s.x = boxL c ∧ ∀ q, F q → L < q

theorem back_out (w3 wr : World) (L n : Nat) (c : Int) (a0 : Ad) (sent : Prop) (h : BackI w3 L n c a0 sent wr) (hL : L < w3.heap.size) (a b : Ad) (hb : b.1 = 77 → sent) (W : World) (hf : Fr0 wr W) :
    Calls Try.prog 15 #[.pointer (some ⟨n, 0, none⟩), .int .i64 1, .agg #[.int .u32 a.1, .int .i64 a.2], .agg #[.int .u32 b.1, .int .i64 b.2]] W fun e w' => ∃ r1 r2 k, e = .returned (.tuple #[.agg #[.int .u32 r1, .int .i64 r2], .int .i64 k]) ∧ Hid (BackI w3 L n c a0 sent w') := by
  obtain ⟨hF, F, s, hN, hI, hx, hlow⟩ := h
  refine (out_any n F s 1 a b W (hN.fr0 hf)).mono ?_
  rintro e w' ⟨rfl, hN', hf'⟩
  have hx' : (outS s 1 a b).1.x = s.x := by
    unfold outS; split
    · split
      · split <;> rfl
      · rfl
    · rfl
  exact ⟨_, _, _, rfl, (hF.then0 hf).then (hf'.mono (fun q _ h => hlow q h)), _, _, hN', inv_out hI a b hb, by rw [hx', hx], fun q hq => hq.elim (hlow q) (fun h => by have := hF.size; have := hf.size; omega)⟩
theorem back_ask (w3 wr : World) (L n : Nat) (c : Int) (a0 : Ad) (sent : Prop) (h : BackI w3 L n c a0 sent wr) (hL : L < w3.heap.size) (a : Ad) (wish u : Int) (ha : a ≠ a0) (W : World) (hf : Fr0 wr W) :
    Calls Try.prog 18 #[.pointer (some ⟨n, 0, none⟩), .int .i64 1, .agg #[.int .u32 a.1, .int .i64 a.2], .int .i64 wish, .int .i64 u] W fun e w' => ∃ r k, e = .returned (.tuple #[.int .i64 r, .int .i64 k]) ∧ Hid (BackI w3 L n c a0 sent w') := by
  obtain ⟨hF, F, s, hN, hI, hx, hlow⟩ := h
  refine (ask_any n F s 1 a wish u W (hN.fr0 hf)).mono ?_
  rintro e w' ⟨rfl, hN', hf'⟩
  have hx' : (askS s 1 a wish u).1.x = s.x := by
    unfold askS; split
    · split
      · split <;> rfl
      · split
        · split <;> rfl
        · rfl
    · rfl
  exact ⟨_, _, rfl, (hF.then0 hf).then (hf'.mono (fun q _ h => hlow q h)), _, _, hN', inv_ask hI a wish u ha, by rw [hx', hx], fun q hq => hq.elim (hlow q) (fun h => by have := hF.size; have := hf.size; omega)⟩

end Go.Proofs.Ytkdbjeegiiihaaa
