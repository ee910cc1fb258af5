/-
  A box's bindings of one, told by an iterator. Conditions: the ones each theorem names.
-/
import Derived.Test.YtkdbjeegiiihaaaN2
import Derived.Laws.StructEq
import Derived.Stop.RegionWithIn
import Derived.Sort.LoopGhostIn
import Derived.Sort.BigQuietIn
set_option linter.unusedVariables false
set_option linter.unusedSimpArgs false
namespace Go.Proofs.Ytkdbjeegiiihaaa
open Go.RowKit Go.Shelf

attribute [local go_sem] Oper.semAt_some

/-- Are two addresses the same? -/
def eqI (a b c d : Int) : Bool := decide (a = c ∧ b = d)
theorem eq24 (a b c d : Int) (w : World) : (Op.equalIn 10000 24 (.agg #[.int .u32 a, .int .i64 b]) (.agg #[.int .u32 c, .int .i64 d])).run Try.prog w = .ok (eqI a b c d) w := by
  have u3 := Try.underlying3
  have a3 := Try.isAgg3
  have z3 := Try.sizeOf3
  have hS : Try.prog.underlying 24 = some (.struct (Try.prog.fieldsOf 24)) := by kernel_rfl
  have hp : Try.prog.stoodInHeld 24 = false := by kernel_rfl
  rw [show (10000 : Nat) = 9999 + 1 from rfl, run_equalIn_agg w 9999 24 _ _ hS hp]
  simp only [Program.fieldsOf, Try.underlying24]
  go_simp
  unfold eqI
  by_cases h1 : a = c <;> by_cases h2 : b = d <;> simp [h1, h2]
theorem eql24 (a b c d : Int) (w : World) : (binOp .eql 24 (.agg #[.int .u32 a, .int .i64 b]) (.agg #[.int .u32 c, .int .i64 d])).run Try.prog w = .ok (.bool (eqI a b c d)) w := by
  rw [run_eql_struct, eq24]; rfl

theorem eqI_iff (a b : Ad) : eqI a.1 a.2 b.1 b.2 = decide (a = b) := by
  unfold eqI; exact decide_eq_decide.2 (by rw [Prod.ext_iff])
theorem see1_u (a b : Ad) (B : Nat) (W : World) (h0 : W.cell? ⟨B, 0, none⟩ = some (.int .u32 b.1)) (h1 : W.cell? ⟨B, 1, none⟩ = some (.int .i64 b.2)) :
    Calls Try.prog 97 #[argA a, .pointer (some ⟨B, 0, none⟩)] W fun e w' => e = .returned (.bool (eqI a.1 a.2 b.1 b.2)) ∧ Fr0 W w' := by
  unfold argA
  have hb := cell_lt h0
  have q := eql24
  go_enter Try.func97, Try.ntmps97
  go_wp2_with (go_quiet (fail))
  go_ret
  exact ⟨rfl, Fr.alloc _ _ _⟩

/-- A variable that holds an address. -/
def BoxA (W : World) (b : Nat) (a : Ad) : Prop := W.heap[b]? = some (.cells #[.int .u32 a.1, .int .i64 a.2] 24 (0, 0))
theorem BoxA.fr {S : Nat → Prop} {A B : World} {b : Nat} {a : Ad} (h : BoxA A b a) (hf : Fr S A B) (hb : ¬ S b) : BoxA B b a := hf.heap h hb

theorem of_any (n : Nat) (a : Ad) (w : World) : Calls Try.prog 95 #[.pointer (some ⟨n, 0, none⟩), argA a] w fun e w' =>
    e = .returned (.func (.func 119) #[] #[.pointer (some ⟨w.heap.size, 0, none⟩), .pointer (some ⟨w.heap.size + 1, 0, none⟩)]) ∧
      w' = (w.alloc (.cells #[.pointer (some ⟨n, 0, none⟩)] 29)).alloc (.cells #[.int .u32 a.1, .int .i64 a.2] 24) := by
  unfold argA
  go_enter Try.func95, Try.ntmps95
  go_wp2
  go_ret
  exact ⟨rfl, rfl⟩

def OQ (n : Nat) (x : Bx) (now : Int) (es : List En) (v : Value) (a : Ad) (B1 B2 : Nat) (_ : Nat) (W : World) : Prop := Boxed W B1 29 (.pointer (some ⟨n, 0, none⟩)) ∧ BoxA W B2 a ∧ NatM W n x now es v
/-- The next binding of that one. -/
def OEmit (es : List En) (a : Ad) (j : Nat) (e : En) (j' : Nat) : Prop := ∃ k, j ≤ k ∧ es[k]? = some e ∧ e.b.i = a ∧ (∀ t d, j ≤ t → t < k → es[t]? = some d → d.b.i ≠ a) ∧ j' = k + 1
def OFin (es : List En) (a : Ad) (j : Nat) : Prop := ∀ t d, j ≤ t → es[t]? = some d → d.b.i ≠ a

set_option maxRecDepth 100000 in
set_option maxHeartbeats 1000000 in
theorem of1_iter (n : Nat) (x : Bx) (now : Int) (es : List En) (v : Value) (a : Ad) (B1 B2 : Nat) (W : World) :
    IterC Try.prog 119 #[.pointer (some ⟨B1, 0, none⟩), .pointer (some ⟨B2, 0, none⟩)] (fun e : En => #[argP e.p]) (fun _ => False) (OQ n x now es v a B1 B2) (OEmit es a) (OFin es a) W 0 := by
  intro l I Ix hI hY h0 hq0
  have hi' : ∀ s A B, I s A → Fr0 A B → I s B := fun s A B hi hf => hI s A B hi (hf.mono (fun b _ e => e.elim))
  have HI := Lib.hid hi'
  have HY := Lib.hid hY
  clear hI hY hi'
  have hb1 := hq0.1.cell
  have h7 : W.cell? ⟨n, 7, none⟩ = some v := by rw [cell_of hq0.2.2.blk]; rfl
  have H0 := Lib.hid h0
  have HQ0 := Lib.hid hq0
  clear h0 hq0
  rcases HQ0.out.2.2.row.shape with ⟨rfl, hnil⟩ | ⟨g, cap, hv, hle, hcap⟩
  · refine (callsIn_wide (n := 0)).1 ?_
    show CallsIn Fence.wide 0 Try.prog 119 #[.func (.yield l) #[] #[], .pointer (some ⟨B1, 0, none⟩), .pointer (some ⟨B2, 0, none⟩)] W _
    refine callsIn_of_wp Try.func119 rfl trivial ?_ rfl
    simp only [Try.ntmps119, List.size_toArray, List.length_cons, List.length_nil, Nat.reduceAdd, Nat.reduceSub, Array.replicate_succ, Array.replicate_zero, List.push_toArray, List.append_toArray, List.nil_append, List.cons_append]
    have wf : ∀ k, Fence.wide.fn k := fun _ => trivial
    have wd : Fence.wide.depth = none := rfl
    gi_wp2
    gi_loopw [11] (fun i wr => i = .int .i64 0 ∧ wr = W) (fun i _ => 1 - (intOf i).toNat)
    case atStart => exact ⟨rfl, rfl⟩
    case round =>
      obtain ⟨rfl, rfl⟩ := hrel
      gi_wp2
      go_end0
      exact ⟨⟨_, rfl⟩, .inl ⟨0, fun t d _ hd => by simp at hnil; rw [hnil] at hd; simp at hd, H0.out, HQ0.out⟩⟩
  · have hm : (es.map En.p).length ≤ 9223372036854775807 := by unfold maxLen at hcap; omega
    obtain ⟨m, hmm⟩ : ∃ m, m = (es.map En.p).length := ⟨_, rfl⟩
    rw [← hmm] at hv hle hm
    subst hv
    have HM := Lib.hid (show m = es.length by rw [hmm]; simp)
    clear hmm
    refine (callsIn_wide (n := 0)).1 ?_
    show CallsIn Fence.wide 0 Try.prog 119 #[.func (.yield l) #[] #[], .pointer (some ⟨B1, 0, none⟩), .pointer (some ⟨B2, 0, none⟩)] W _
    refine callsIn_of_wp Try.func119 rfl trivial ?_ rfl
    simp only [Try.ntmps119, List.size_toArray, List.length_cons, List.length_nil, Nat.reduceAdd, Nat.reduceSub, Array.replicate_succ, Array.replicate_zero, List.push_toArray, List.append_toArray, List.nil_append, List.cons_append]
    have wf : ∀ k, Fence.wide.fn k := fun _ => trivial
    have wd : Fence.wide.depth = none := rfl
    gi_wp2
    gi_loopw [11] (fun i wr => ∃ j s : Nat, j ≤ m ∧ i = .int .i64 j ∧ Hid (s ≤ j ∧ (∀ t d, s ≤ t → t < j → es[t]? = some d → d.b.i ≠ a) ∧ I s wr ∧ OQ n x now es (.slice (some ⟨g, 0, none⟩) m cap) a B1 B2 s wr)) (fun i _ => m - (intOf i).toNat)
    case atStart => exact ⟨0, 0, Nat.zero_le _, rfl, Nat.le_refl _, fun t d _ ht => by omega, H0.out, HQ0.out⟩
    case round =>
      obtain ⟨j, s, hj, rfl, HJ⟩ := hrel
      by_cases hlt : j < m
      · have hltz : (j : Int) < (m : Int) := by omega
        obtain ⟨e0, he0⟩ : ∃ e0, es[j]? = some e0 := ⟨es[j]'(by rw [← HM.out]; exact hlt), by simp [← HM.out, hlt]⟩
        have hq := HJ.out.2.2.2
        have hc0 : wr.cell? ⟨g, j, none⟩ = some (.pointer (some ⟨e0.p, 0, none⟩)) := by have := hq.2.2.row.cellAt encP_len (i := j) (x := e0.p) (by simp [he0]) (j := 0) (by omega); simpa [encP] using this
        have hen := (hq.2.2.ens e0 (List.mem_of_getElem? he0)).blk
        have k0 : wr.cell? ⟨e0.p, 0, none⟩ = some (.int .u32 e0.b.i.1) := by rw [cell_of hen]; rfl
        have k1 : wr.cell? ⟨e0.p, 1, none⟩ = some (.int .i64 e0.b.i.2) := by rw [cell_of hen]; rfl
        have a0 : wr.cell? ⟨B2, 0, none⟩ = some (.int .u32 a.1) := by rw [cell_of hq.2.1]; rfl
        have a1 : wr.cell? ⟨B2, 1, none⟩ = some (.int .i64 a.2) := by rw [cell_of hq.2.1]; rfl
        have HE := Lib.hid he0
        clear hen hq he0
        have q := eql24
        by_cases hea : e0.b.i = a
        · have hne : eqI e0.b.i.1 e0.b.i.2 a.1 a.2 = true := by rw [eqI_iff]; simpa using hea
          have HN := Lib.hid hea
          clear hea
          have hf : Fr0 wr wr.drew := Fr.drew _ _
          obtain ⟨fn, tmps, assign, body, hy, hR⟩ := HY.out s e0 (j + 1) wr.drew (HI.out _ _ _ HJ.out.2.2.1 hf) ⟨HJ.out.2.2.2.1, HJ.out.2.2.2.2.1, HJ.out.2.2.2.2.2.fr0 hf⟩ ⟨j, HJ.out.1, HE.out, HN.out, HJ.out.2.1, rfl⟩
          have hR' := hR.mono (R' := fun e W3 => ∃ b, e = .returned (.bool b) ∧ Hid ((b = true ∧ I (j + 1) W3 ∧ OQ n x now es (.slice (some ⟨g, 0, none⟩) m cap) a B1 B2 (j + 1) W3) ∨ (b = false ∧ Ix W3))) (by
            rintro e W3 (⟨rfl, h1, h2, -⟩ | ⟨rfl, h1⟩)
            · exact ⟨true, rfl, .inl ⟨rfl, h1, h2⟩⟩
            · exact ⟨false, rfl, .inr ⟨rfl, h1⟩⟩)
          have HR := Lib.hid hR'
          clear hR hR' hf
          unfold argP at hy
          gi_wp2
          gi_region_with (refine HR.out.mono ?_; rintro e W3 ⟨b, rfl, HB⟩)
          all_goals
            cases b
            · have hix : Ix W3 := by rcases HB.out with ⟨h, _⟩ | ⟨_, h⟩; (· cases h); (· exact h)
              have HX := Lib.hid hix
              clear hix
              gi_wp2
              refine bodyPost_ret (results_none rfl _ _ _) rfl ?_
              exact ⟨⟨_, rfl⟩, .inr HX.out⟩
            · have hix : I (j + 1) W3 ∧ OQ n x now es (.slice (some ⟨g, 0, none⟩) m cap) a B1 B2 (j + 1) W3 := by rcases HB.out with ⟨_, h⟩ | ⟨h, _⟩; (· exact h); (· cases h)
              have HX := Lib.hid hix
              clear hix
              gi_wp2
              go_roundw
              case rel => exact ⟨j + 1, j + 1, by omega, by go_num, Nat.le_refl _, fun t d h1 h2 hd => by omega, HX.out⟩
              case measure => simp [intOf]; omega
        · have HN := Lib.hid hea
          have hne : eqI e0.b.i.1 e0.b.i.2 a.1 a.2 = false := by rw [eqI_iff]; simpa using hea
          clear hea
          gi_wp2_with (gi_big_quiet_th (fail))
          go_roundw
          case rel => exact ⟨j + 1, s, by omega, by go_num, by have := HJ.out.1; omega, fun t d h1 h2 hd => by
            by_cases e : t = j
            · subst e; rw [HE.out] at hd; cases hd; exact HN.out
            · exact HJ.out.2.1 t d h1 (by omega) hd, HI.out _ _ _ HJ.out.2.2.1 (Fr.drewN _ _ _), ⟨HJ.out.2.2.2.1, HJ.out.2.2.2.2.1, HJ.out.2.2.2.2.2.fr0 (Fr.drewN _ _ _)⟩⟩
          case measure => simp [intOf]; omega
      · have hltz : ¬ (j : Int) < (m : Int) := by omega
        have e : j = m := by omega
        subst e
        gi_wp2
        go_end0
        exact ⟨⟨_, rfl⟩, .inl ⟨s, fun t d h1 hd => HJ.out.2.1 t d h1 (by rw [HM.out]; exact (List.getElem?_eq_some_iff.1 hd).1) hd, HJ.out.2.2.1, HJ.out.2.2.2⟩⟩

end Go.Proofs.Ytkdbjeegiiihaaa
