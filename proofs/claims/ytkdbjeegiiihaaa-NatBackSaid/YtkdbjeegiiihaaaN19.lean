/-
  All bindings told, by rising ports. Conditions: the ones each theorem names.
-/
import Derived.Test.YtkdbjeegiiihaaaN18
set_option linter.unusedVariables false
set_option linter.unusedSimpArgs false
namespace Go.Proofs.Ytkdbjeegiiihaaa
open Go.RowKit Go.Shelf

theorem all_bad (n : Nat) (F : Nat → Prop) (s : St) (now : Int) (w : World) (h : NatAt w n F s) (hb : ¬ onOk s now = true) :
    Calls Try.prog 16 #[.pointer (some ⟨n, 0, none⟩), .int .i64 now] w fun e w' => e = .returned (.slice none 0 0) ∧ Fr0 w w' := by
  obtain ⟨es, v, hm, hl, hF⟩ := h.mem
  have h8 : w.cell? ⟨n, 8, none⟩ = some (.int .i64 s.now) := by rw [cell_of hm.blk]; rfl
  have hon : now < s.now ∨ 1099511627776 < now := by simp [onOk] at hb; omega
  have co := fun W (hf : Fr0 w W) => on_bad n s.now now W (hf.cell h8 (fun h => h)) hon
  have HCO := Lib.hid co
  clear co hm hl hF h8 h hb hon
  go_enter Try.func16, Try.ntmps16
  go_wp2_with (go_at_call 45; refine (HCO.out _ (Fr.refl _ _)).mono ?_; rintro e w3 ⟨rfl, hf3⟩; have HF3 := Lib.hid hf3; clear hf3)
  go_ret
  exact ⟨rfl, HF3.out⟩

theorem none48 (w : World) : Calls Try.prog 48 #[.slice none 0 0, .func (.func 49) #[] #[]] w fun e w' => e = .returned (.tuple #[]) ∧ w' = w := AnyF.slices_SortFunc_none Try.lsort none 0 (.func (.func 49) #[] #[]) w

/-- The library's sort at whatever row of bindings. -/
theorem sort48_any (v : Value) (l : List Bd) (w : World) (h : Owns w 46 7 encQ v l) (hlen : l.length ≤ 1000) :
    Calls Try.prog 48 #[v, .func (.func 49) #[] #[]] w fun e w' => e = .returned (.tuple #[]) ∧ ∃ l' : List Bd, l'.Perm l ∧ l'.Pairwise (fun x y => x.port ≤ y.port) ∧ Owns w' 46 7 encQ v l' ∧ Fr (fun b => v.ownBlock = some b) w w' := by
  rcases h.shape with ⟨rfl, rfl⟩ | ⟨g, cap, rfl, _, _⟩
  · exact (none48 w).mono (fun e w' ⟨he, hw⟩ => ⟨he, [], List.Perm.refl _, List.Pairwise.nil, hw ▸ h, hw ▸ Fr.refl _ _⟩)
  · exact (sort48 g cap l w h hlen).mono (fun e w' ⟨he, l', h1, h2, h3, h4⟩ => ⟨he, l', h1, h2, h3, h4.mono (fun b _ e => by rw [e]; rfl)⟩)

set_option maxRecDepth 100000 in
set_option maxHeartbeats 4000000 in
theorem all_good (n : Nat) (F : Nat → Prop) (s : St) (now : Int) (w : World) (h : NatAt w n F s) (ho : onOk s now = true) :
    Calls Try.prog 16 #[.pointer (some ⟨n, 0, none⟩), .int .i64 now] w fun e w' => ∃ v l', e = .returned v ∧ l'.Perm (onS s now).l ∧ l'.Pairwise (fun x y => x.port ≤ y.port) ∧ Owns w' 46 7 encQ v l' ∧ (∀ g, v.ownBlock = some g → w.heap.size ≤ g) ∧ NatAt w' n F (onS s now) ∧ Fr F w w' := by
  have hlow := h.low
  have hmo : s.x.most ≤ 100 := by have := h.ok.may; simp [mayX] at this; omega
  have co := (out_on n F s now w h ho).mono (R' := fun e w3 => e = .returned (.bool true) ∧ ∃ es r m cap, Hid (NatM w3 n s.x now es (.slice r m cap) ∧ es.map En.b = (onS s now).l ∧ m = es.length ∧ NatAt w3 n F (onS s now) ∧ Fr F w w3 ∧ (∀ (j : Nat) (e : En), es[j]? = some e → ∃ g, r = some ⟨g, 0, none⟩)) ∧ w3.cell? ⟨n, 7, none⟩ = some (.slice r m cap) ∧ m ≤ cap ∧ m ≤ 100 ∧ m ≤ 9223372036854775807) (by
    rintro e w3 ⟨he, hN, hf⟩
    obtain ⟨es, v, hm, hl, hF⟩ := hN.mem
    have hk := hN.ok.len
    rw [← hl, List.length_map] at hk
    obtain ⟨r, m, cap, hv, hmm, hle, hcap, hg⟩ := hm.shape1
    subst hv
    have hx : (onS s now).x = s.x := rfl
    rw [hx] at hk
    exact ⟨he, es, r, m, cap, ⟨hm, hl, hmm, hN, hf, hg⟩, hm.at7, hle, by omega, by omega⟩)
  have HCO := Lib.hid co
  have hi : Try.prog.info? 46 = some Try.t46 := by kernel_rfl
  have hz0 : ∃ z, Try.t46.zero = some z ∧ z.cells.size = 7 := ⟨_, rfl, rfl⟩
  obtain ⟨z0, hz0, hz1⟩ := hz0
  have HT := Lib.hid (⟨hi, hz0, hz1⟩ : _ ∧ _ ∧ _)
  have HL := Lib.hid hlow
  clear co hi hz0 hz1 h ho hlow
  go_enter Try.func16, Try.ntmps16
  go_wp2_with (go_at_call 45; refine HCO.out.mono ?_; rintro e w3 ⟨rfl, es, r, m, cap, HM, h7, hle, h100, hmm⟩)
  go_loopw [5, 17] (fun o i wr => ∃ j : Nat, j ≤ m ∧ i = .int .i64 j ∧ ∃ r2 len2 cap2, o = .slice r2 len2 cap2 ∧ Hid (Owns wr 46 7 encQ (.slice r2 len2 cap2) ((es.take j).map En.b) ∧ (∀ g, (Value.slice r2 len2 cap2).ownBlock = some g → w3.heap.size ≤ g) ∧ Fr0 w3 wr)) (fun _ i _ => m - (intOf i).toNat)
  case atStart => exact ⟨0, Nat.zero_le _, rfl, _, _, _, rfl, by simpa using Owns.nil _ _ _ _, fun g hg => (by cases hg), Fr.refl _ _⟩
  case round =>
    obtain ⟨j, hj, rfl, r2, len2, cap2, rfl, HJ⟩ := hrel
    by_cases hlt : j < m
    · have hltz : (j : Int) < (m : Int) := by omega
      obtain ⟨e0, he0⟩ : ∃ e0, es[j]? = some e0 := ⟨es[j]'(by rw [← HM.out.2.2.1]; exact hlt), by simp [← HM.out.2.2.1, hlt]⟩
      obtain ⟨g, rfl⟩ := HM.out.2.2.2.2.2 j e0 he0
      have hmw := HM.out.1.fr0 HJ.out.2.2
      obtain ⟨hc0, hcs⟩ := hmw.elem he0
      have c0 : wr.cell? ⟨e0.p, 0, none⟩ = some (.int .u32 e0.b.i.1) := by rw [hcs]; rfl
      have c1 : wr.cell? ⟨e0.p, 1, none⟩ = some (.int .i64 e0.b.i.2) := by rw [hcs]; rfl
      have c2 : wr.cell? ⟨e0.p, 2, none⟩ = some (.int .u32 e0.b.t.1) := by rw [hcs]; rfl
      have c3 : wr.cell? ⟨e0.p, 3, none⟩ = some (.int .i64 e0.b.t.2) := by rw [hcs]; rfl
      have c4 : wr.cell? ⟨e0.p, 4, none⟩ = some (.int .i64 e0.b.port) := by rw [hcs]; rfl
      have c5 : wr.cell? ⟨e0.p, 5, none⟩ = some (.int .i64 e0.b.unt) := by rw [hcs]; rfl
      have c6 : wr.cell? ⟨e0.p, 6, none⟩ = some (.bool e0.b.asked) := by rw [hcs]; rfl
      have hnew := World.alloc_heap_new wr (Obj.cells (encQ e0.b).toArray 46)
      have hO := HJ.out.1.fr (Fr.alloc (fun _ => False) wr (Obj.cells (encQ e0.b).toArray 46)) (fun _ _ h => h)
      have HN := Lib.hid (⟨hnew, hO, he0⟩ : _ ∧ _ ∧ _)
      have hlj : ((es.take j).map En.b).length = j := by rw [List.length_map, List.length_take]; have := HM.out.2.2.1; omega
      have HLJ := Lib.hid hlj
      clear hmw hcs hnew hO he0 hlj
      go_wp2_with (at_builtin; refine wpList_append_lies _ rfl _ _ 35 rfl 0 46 Try.t46 z0 7 56 Try.underlying35 HT.out.1 HT.out.2.1 rfl rfl HT.out.2.2 (by decide) _ _ _ rfl HN.out.2.1 ⟨wr.heap.size, 0, none⟩ 1 1 (encQ e0.b) rfl rfl (fun k u hu => World.news_of_block HN.out.1 k u hu) (encQ_one e0.b) (by decide) (by have := HLJ.out; simp only [maxLen]; omega) (by have := HLJ.out; omega) (Nat.zero_le _) (wr.heap.size + 1) (by simp) ?_; intro g3 cap3 w5 hown hgrow hat hlt5; have HE := Lib.hid (⟨hown, hgrow, hat⟩ : _ ∧ _ ∧ _); clear hown hgrow hat hlt5)
      obtain ⟨hown, hgrow, hat⟩ := HE.out
      have hlj := HLJ.out
      have hlm : min j es.length = ((es.take j).map En.b).length := by simp
      have hsn : (es.take (j + 1)).map En.b = (es.take j).map En.b ++ [e0.b] := by
        rw [List.take_succ_eq_append_getElem (List.getElem?_eq_some_iff.1 HN.out.2.2).1, List.map_append]
        have := (List.getElem?_eq_some_iff.1 HN.out.2.2).2
        rw [this]; rfl
      rw [hlm]
      obtain ⟨q1, q2, q3⟩ := HJ.out
      have hf : Fr0 w3 (wr.alloc (Obj.cells (encQ e0.b).toArray 46)) := q3.then (Fr.alloc _ _ _)
      refine ⟨⟨j + 1, by omega, by go_num, _, _, _, rfl, ?_, fun g hg => ?_, hf.trans (Fr.of_grownBy hgrow) (fun b hb e => by have := q2 b e.symm; omega)⟩, by simp [intOf]; omega⟩
      · rw [hsn]
        unfold Owns
        simpa using hown
      · cases hg
        rcases hat with e | e
        · exact q2 _ e
        · have := q3.size; show w3.heap.size ≤ g3; omega
    · have hltz : ¬ (j : Int) < (m : Int) := by omega
      have e : j = m := by omega
      subst e
      have hall : (es.take j).map En.b = (onS s now).l := by rw [HM.out.2.2.1, List.take_length]; exact HM.out.2.1
      have HO := HJ.out
      rw [hall] at HO
      have hlen : (onS s now).l.length ≤ 1000 := by rw [← HM.out.2.1, List.length_map, ← HM.out.2.2.1]; omega
      have HS := Lib.hid (sort48_any _ _ wr HO.1 hlen)
      have HQ := Lib.hid HO
      clear HO hall hlen
      go_wp2_with (go_at_call 48; refine HS.out.mono ?_; rintro e w4 ⟨rfl, l', k1, k2, k3, k4⟩; have HK := Lib.hid (⟨k1, k2, k3, k4⟩ : _ ∧ _ ∧ _ ∧ _); clear k1 k2 k3 k4)
      go_ret
      obtain ⟨k1, k2, k3, k4⟩ := HK.out
      obtain ⟨q1, q2, q3⟩ := HQ.out
      obtain ⟨hm, hl, hmm2, hN, hf, _⟩ := HM.out
      have hf4 : Fr0 w3 w4 := q3.trans k4 (fun b hb e => by have := q2 b e; omega)
      exact ⟨_, l', rfl, k1, k2, k3, fun g hg => Nat.le_trans hf.size (q2 g hg), hN.fr0 hf4, hf.then (hf4.mono (fun _ _ h => h.elim))⟩

end Go.Proofs.Ytkdbjeegiiihaaa
