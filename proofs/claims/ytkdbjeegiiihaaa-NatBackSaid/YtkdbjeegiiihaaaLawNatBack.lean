/-
  The law NatBack: whatever the input, it answers true, and the input reads as it did. Conditions: none.
-/
import Derived.Test.YtkdbjeegiiihaaaN26
import Derived.Test.YtkdbjeegiiihaaaArgs
import Derived.Test.YtkdbjeegiiihaaaRows
import Derived.SizedLaws
import Derived.ChangeOld
namespace Go.Proofs.Ytkdbjeegiiihaaa.natBack
open Go.ChangeShapes Go.WideShapes Go.ChangeAt Go.RowKit
open Go.ChangeMaps (open_string shut_string)
set_option linter.unusedVariables false
set_option linter.unusedSimpArgs false
theorem own : ownKnob Try.prog.godebug = none := by kernel_rfl
theorem laidOut : laidOutB Try.prog = true := by kernel_rfl
set_option maxRecDepth 100000 in
set_option maxHeartbeats 1000000 in
theorem lifted (os : Os) (started : os.Started) (H : Type) (enc : TypeId × Value → H) :
    ReturnsInHanded {} Try.checked os 4 .any (Rows.natBackSpec.pre6 enc Try.prog Try.f4 Rows.natBackRow.domain false) (Rows.natBackSpec.post enc Try.prog Try.f4 false true false false) := by
  refine returnsInHanded_of_change_sized (C := Try.checked) own started (by kernel_rfl) Try.func4
    (ChangeSpec.witness6 (enc := enc) (C := Try.checked) false ⟨#[], #[.int .u8 0, .agg #[.int .u32 0, .int .i64 0, .int .u32 0, .int .i64 0], .slice none 0 0], []⟩ 8 (by kernel_rfl) (by kernel_rfl) (by kernel_rfl) (by kernel_rfl)) ?_
  intro W base args ds gs before hval0 hW hcnd hsz0 _
  have hval : ∀ (j : Nat) t v, Try.f4.params[j]? = some t → args[j]? = some v → Value.okWide Try.prog W .any base t v := hval0
  have hW' := hW
  obtain ⟨p, q, hA0, hV, rfl, hfz, hnd⟩ := hW
  have hA : DataW.TrodAll enc Try.prog W 0 (fun _ => true) true Try.f4.params.toList args.toList ds p := hA0
  have hsz : (DataW.weightsEach Try.prog (Try.f4.params.toList ++ Rows.natBackSpec.plain.varTypes Try.prog) (ds ++ gs)).all (· ≤ reachBytes) = true := hsz0
  rw [Try.params4] at hA hval hsz
  obtain ⟨v0, vs0, d0, ds0, p0, q0, hargs, rfl, rfl, h0, r0⟩ := trodAll_cons hA
  obtain ⟨v1, vs1, d1, ds1, p1, q1, rfl, rfl, rfl, h1, r1⟩ := trodAll_cons r0
  obtain ⟨v2, vs2, d2, ds2, p2, q2, rfl, rfl, rfl, h2, r2⟩ := trodAll_cons r1
  obtain ⟨rfl, rfl, rfl⟩ := trodAll_nil r2
  obtain rfl : args = #[v0, v1, v2] := by cases args; simp_all
  obtain ⟨rfl, rfl⟩ := trodVars_none hV
  obtain ⟨a0, rfl, rfl, rfl, w0⟩ := open_int Try.underlying5 (hval 0 5 v0 rfl rfl) h0
  have b0 := wf_bounds w0
  simp only [IntKind.min, IntKind.max] at b0
  have k1 := h1
  have lt1 : ∀ x ∈ p1, x.block < W.heap.size := by obtain ⟨m, hm⟩ := k1; exact DataW.trod_lt m _ _ _ hm
  obtain ⟨cs1, rfl, hs1⟩ := aggA_of Try.underlying38 (hval 1 38 v1 rfl rfl)
  obtain ⟨fu1, hf1⟩ := h1
  obtain ⟨z1x0, e1x0, w1x0⟩ := trod_int_at (n := 8) (j := 0) (u := 22) (k := .u32) hf1 (by kernel_rfl) Try.underlying22
  obtain ⟨z1x1, e1x1, w1x1⟩ := trod_int_at (n := 8) (j := 1) (u := 3) (k := .i64) hf1 (by kernel_rfl) Try.underlying3
  obtain ⟨z1x2, e1x2, w1x2⟩ := trod_int_at (n := 8) (j := 2) (u := 22) (k := .u32) hf1 (by kernel_rfl) Try.underlying22
  obtain ⟨z1x3, e1x3, w1x3⟩ := trod_int_at (n := 8) (j := 3) (u := 3) (k := .i64) hf1 (by kernel_rfl) Try.underlying3
  rw [show Try.prog.cellsOf 38 = 4 by kernel_rfl] at hs1
  have hcs1 : cs1 = #[.int .u32 z1x0, .int .i64 z1x1, .int .u32 z1x2, .int .i64 z1x3] := arr_of [.int .u32 z1x0, .int .i64 z1x1, .int .u32 z1x2, .int .i64 z1x3] hs1 (fun j v hj => by have := (at_cons e1x0 (at_cons e1x1 (at_cons e1x2 (at_cons e1x3 at_nil)))) j v hj; rwa [Nat.zero_add] at this)
  subst hcs1
  have b1x0 := wf_bounds w1x0
  simp only [IntKind.min, IntKind.max] at b1x0
  have b1x1 := wf_bounds w1x1
  simp only [IntKind.min, IntKind.max] at b1x1
  have b1x2 := wf_bounds w1x2
  simp only [IntKind.min, IntKind.max] at b1x2
  have b1x3 := wf_bounds w1x3
  simp only [IntKind.min, IntKind.max] at b1x3
  clear hf1 e1x0 e1x1 e1x2 e1x3
  have k2 := h2
  have lt2 : ∀ x ∈ p2, x.block < W.heap.size := by obtain ⟨m, hm⟩ := k2; exact DataW.trod_lt m _ _ _ hm
  have ra2 := rows_arg (α := Dn) (K := 8) (encx := encD) (R := fun _ => True) Try.underlying39 (by kernel_rfl) (by decide) (fun _ => rfl) h2 (okWide_slice Try.underlying39 (hval 2 39 v2 rfl rfl)) (by
    intro cs fuel x hx
    obtain ⟨z0, e0, w0⟩ := trod_int_at (n := 8) (j := 0) (u := 3) (k := .i64) hx (by kernel_rfl) Try.underlying3
    replace w0 := wf_bounds w0
    simp only [IntKind.min, IntKind.max] at w0
    obtain ⟨z1, e1, w1⟩ := trod_int_at (n := 8) (j := 1) (u := 3) (k := .i64) hx (by kernel_rfl) Try.underlying3
    replace w1 := wf_bounds w1
    simp only [IntKind.min, IntKind.max] at w1
    obtain ⟨z2, e2, w2⟩ := trod_int_at (n := 8) (j := 2) (u := 22) (k := .u32) hx (by kernel_rfl) Try.underlying22
    replace w2 := wf_bounds w2
    simp only [IntKind.min, IntKind.max] at w2
    obtain ⟨z3, e3, w3⟩ := trod_int_at (n := 8) (j := 3) (u := 3) (k := .i64) hx (by kernel_rfl) Try.underlying3
    replace w3 := wf_bounds w3
    simp only [IntKind.min, IntKind.max] at w3
    obtain ⟨z4, e4, w4⟩ := trod_int_at (n := 8) (j := 4) (u := 22) (k := .u32) hx (by kernel_rfl) Try.underlying22
    replace w4 := wf_bounds w4
    simp only [IntKind.min, IntKind.max] at w4
    obtain ⟨z5, e5, w5⟩ := trod_int_at (n := 8) (j := 5) (u := 3) (k := .i64) hx (by kernel_rfl) Try.underlying3
    replace w5 := wf_bounds w5
    simp only [IntKind.min, IntKind.max] at w5
    obtain ⟨z6, e6, w6⟩ := trod_int_at (n := 8) (j := 6) (u := 3) (k := .i64) hx (by kernel_rfl) Try.underlying3
    replace w6 := wf_bounds w6
    simp only [IntKind.min, IntKind.max] at w6
    obtain ⟨z7, e7, w7⟩ := trod_int_at (n := 8) (j := 7) (u := 3) (k := .i64) hx (by kernel_rfl) Try.underlying3
    replace w7 := wf_bounds w7
    simp only [IntKind.min, IntKind.max] at w7
    exact ⟨⟨z0, z1, (z2, z3), (z4, z5), z6, z7⟩, trivial, fun j u hj => by have := (at_cons e0 (at_cons e1 (at_cons e2 (at_cons e3 (at_cons e4 (at_cons e5 (at_cons e6 (at_cons e7 at_nil)))))))) j u hj; rwa [Nat.zero_add] at this⟩)
  obtain ⟨xs2, hR2, hA2⟩ := ra2
  clear hA0 hval0 hsz0
  refine ((back_law a0 b0.1 b0.2 (z1x0, z1x1) (z1x2, z1x3) v2 xs2 W hA2)).mono fun e W' ⟨he, bel⟩ => ?_
  subst he
  exact ⟨_, rfl, _, _, _, [], _, [], hW', trodAll_mk1 (shut_bool Try.underlying4 _), (trodAll_cons_mk (shut_int Try.underlying5 w0) (trodAll_cons_mk (Below.trod laidOut (by kernel_rfl) (of_decide_eq_true (by kernel_rfl)) k1 bel lt1) (trodAll_cons_mk (Below.trod laidOut (by kernel_rfl) (of_decide_eq_true (by kernel_rfl)) k2 bel lt2) trodAll_mk0))), rfl, bel.frame _, fun h => by cases h⟩
theorem over : Rows.natBackRow.holds Try.pinned (OpenSpec.ofChange Rows.natBackSpec) :=
  OpenClaim.holds_of_wide 4 Try.f4 rfl rfl rfl rfl rfl rfl rfl ⟨rfl, rfl, rfl, rfl, rfl⟩ rfl rfl rfl rfl rfl (by kernel_rfl) Try.func4 (by kernel_rfl)
    (of_decide_eq_true (by kernel_rfl)) (by unfold Func.isWrapper; first | (rw [if_pos (by decide +kernel)]; kernel_rfl) | (rw [if_neg (by decide +kernel)]; exact ⟨rfl, rfl⟩))
    (fun os started H enc _ => lifted os started H enc)
theorem proved : Rows.NatBackSaid := over
end Go.Proofs.Ytkdbjeegiiihaaa.natBack
namespace Go.Proofs.Ytkdbjeegiiihaaa
/-- The row, under a short name, for the claim. -/
theorem natBack_holds : Rows.NatBackSaid := natBack.proved
#print axioms natBack_holds
end Go.Proofs.Ytkdbjeegiiihaaa

