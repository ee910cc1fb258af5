/-
  A binding that was asked for is dropped. Conditions: the ones each theorem names.
-/
import Derived.Test.YtkdbjeegiiihaaaN15
import Derived.LaidEqlPtr
set_option linter.unusedVariables false
set_option linter.unusedSimpArgs false
namespace Go.Proofs.Ytkdbjeegiiihaaa
open Go.RowKit Go.Shelf

def dropS (s : St) (now : Int) (a : Ad) : St × Bool :=
  if onOk s now = true then
    match (onS s now).l.findIdx? (askB a) with
    | some i => ({ onS s now with l := (onS s now).l.eraseIdx i }, true)
    | none => (onS s now, false)
  else (s, false)

set_option maxRecDepth 100000 in
theorem drop1_u (q : Nat) (u : Option Nat) (B : Nat) (W : World) (hB : W.cell? ⟨B, 0, none⟩ = some (.pointer (u.map fun t => ⟨t, 0, none⟩))) (hq : ∃ c t, W.heap[q]? = some (.cells c t (0, 0))) (ht : ∀ z, u = some z → ∃ c t, W.heap[z]? = some (.cells c t (0, 0))) :
    Calls Try.prog 61 #[.pointer (some ⟨q, 0, none⟩), .pointer (some ⟨B, 0, none⟩)] W fun e w' => e = .returned (.bool (decide (u = some q))) ∧ Fr0 W w' := by
  have hi : Try.prog.info? 110 = some Try.t110 := by kernel_rfl
  cases u with
  | none =>
    simp only [Option.map_none] at hB
    clear hq ht hi
    go_enter Try.func61, Try.ntmps61
    go_wp2
    go_ret
    exact ⟨by simp, Fr.refl _ _⟩
  | some t =>
    simp only [Option.map_some] at hB
    obtain ⟨cq, tq, hq⟩ := hq
    obtain ⟨ct, tt, ht⟩ := ht t rfl
    by_cases e : t = q
    · subst e
      have r := run_eql_ptr_same (P := Try.prog) W ⟨t, 0, none⟩ Try.underlying106 hi
      clear hq ht hi
      go_enter Try.func61, Try.ntmps61
      go_wp2
      go_ret
      exact ⟨by simp, Fr.refl _ _⟩
    · have hr : decide (some t = some q) = false := by simpa using e
      rw [hr]
      have r := run_eql_ptr_other (P := Try.prog) W (a := ⟨q, 0, none⟩) (b := ⟨t, 0, none⟩) Try.underlying106 hi (by decide) (fun h => e (by cases h; rfl)) hq ht
      clear hq ht hi hr
      go_enter Try.func61, Try.ntmps61
      go_wp2
      go_ret
      exact ⟨rfl, Fr.refl _ _⟩

def DropJ (es : List En) (B : Nat) (u : Option Nat) (W : World) : Prop := (∀ e ∈ es, W.heap[e.p]? = some (.cells (cellsB e.b e.sv) 110 (0, 0))) ∧ Boxed W B 106 (.pointer (u.map fun t => ⟨t, 0, none⟩))

theorem drop_pred {W0 : World} {n : Nat} {x : Bx} {now : Int} {es : List En} {v : Value} (h : NatM W0 n x now es v) (u : Option Nat) (hu : ∀ z, u = some z → ∃ d ∈ es, d.p = z) (B : Nat) {g : Nat} (hg : v.ownBlock = some g) (hB : B ≠ g) : Pred Try.prog 61 #[.pointer (some ⟨B, 0, none⟩)] argP (fun q => decide (u = some q)) (es.map En.p) (fun _ => False) (fun _ => DropJ es B u) g where
  enters := enters_of Try.func61 (by kernel_rfl) rfl
  out := fun h => h
  stays := fun j A C hJ hf => ⟨fun e he => hf.heap (hJ.1 e he) (fun e' => h.ne.2.2.2.1 g hg e he e'), hf.boxed hJ.2 hB⟩
  calls := fun j y W hy hJ => by
    obtain ⟨e, he, rfl⟩ := List.mem_map.1 (List.mem_of_getElem? hy)
    refine (drop1_u e.p u B W hJ.2.cell ⟨_, _, hJ.1 e he⟩ (fun z hz => by obtain ⟨d, hd, rfl⟩ := hu z hz; exact ⟨_, _, hJ.1 d hd⟩)).mono ?_
    rintro e' w' ⟨rfl, hf⟩
    exact ⟨rfl, ⟨fun d hd => hf.heap (hJ.1 d hd) (fun h => h), hf.boxed hJ.2 (fun h => h)⟩, hf⟩

theorem filter_erase : ∀ (es : List En) (hn : (es.map En.p).Nodup) (i : Nat) (d : En), es[i]? = some d → es.filter (fun e => !decide (some d.p = some e.p)) = es.eraseIdx i
  | [], _, i, d, h => by simp at h
  | e :: es, hn, 0, d, h => by
    simp at h; subst h
    simp only [List.map_cons, List.nodup_cons] at hn
    rw [List.filter_cons_of_neg (by simp), List.eraseIdx_cons_zero]
    rw [List.filter_eq_self]
    intro c hc
    have : e.p ≠ c.p := fun hh => hn.1 (by rw [hh]; exact List.mem_map_of_mem hc)
    simpa using this
  | e :: es, hn, i + 1, d, h => by
    simp only [List.map_cons, List.nodup_cons] at hn
    have h' : es[i]? = some d := by simpa using h
    have : d.p ≠ e.p := fun hh => hn.1 (by rw [← hh]; exact List.mem_map_of_mem (List.mem_of_getElem? h'))
    rw [List.filter_cons_of_pos (by simpa using this), List.eraseIdx_cons_succ, filter_erase es hn.2 i d h']

set_option maxRecDepth 100000 in
set_option maxHeartbeats 2000000 in
theorem drop_bad (n : Nat) (F : Nat → Prop) (s : St) (now : Int) (a : Ad) (w : World) (h : NatAt w n F s) (hb : ¬ onOk s now = true) :
    Calls Try.prog 25 #[.pointer (some ⟨n, 0, none⟩), .int .i64 now, argA a] w fun e w' => e = .returned (.bool false) ∧ Fr0 w w' := by
  obtain ⟨es, v, hm, hl, hF⟩ := h.mem
  have h8 : w.cell? ⟨n, 8, none⟩ = some (.int .i64 s.now) := by rw [cell_of hm.blk]; rfl
  have hon : now < s.now ∨ 1099511627776 < now := by simp [onOk] at hb; omega
  have co := fun W (hf : Fr0 w W) => on_bad n s.now now W (hf.cell h8 (fun h => h)) hon
  have HCO := Lib.hid co
  clear co hm hl hF h8 h hb hon
  unfold argA
  go_enter Try.func25, Try.ntmps25
  go_wp2_with (go_at_call 45; refine (HCO.out _ (Fr.alloc _ _ _)).mono ?_; rintro e w3 ⟨rfl, hf3⟩; have HF3 := Lib.hid hf3; clear hf3)
  go_ret
  exact ⟨rfl, (Fr.alloc _ _ _).then HF3.out⟩

set_option maxRecDepth 100000 in
set_option maxHeartbeats 4000000 in
theorem drop_good (n : Nat) (F : Nat → Prop) (s : St) (now : Int) (a : Ad) (w : World) (h : NatAt w n F s) (ho : onOk s now = true) :
    Calls Try.prog 25 #[.pointer (some ⟨n, 0, none⟩), .int .i64 now, argA a] w fun e w' => e = .returned (.bool (dropS s now a).2) ∧ NatAt w' n F (dropS s now a).1 ∧ Fr F w w' := by
  have hlow := h.low
  have hok := onS_ok h.ok ho
  have hmay := h.ok.may
  have co := fun W (hf : Fr0 w W) => out_on n F s now W (h.fr0 hf) ho
  have hx := World.alloc_heap_new w (Obj.cells #[.int .u32 a.1, .int .i64 a.2] 24)
  have hF0 : Fr F w (w.alloc (Obj.cells #[.int .u32 a.1, .int .i64 a.2] 24)) := Fr.alloc _ _ _
  have hmid : ∀ W, Fr F (w.alloc (Obj.cells #[.int .u32 a.1, .int .i64 a.2] 24)) W → W.cell? ⟨w.heap.size, 0, none⟩ = some (.int .u32 a.1) ∧ W.cell? ⟨w.heap.size, 1, none⟩ = some (.int .i64 a.2) := by
    intro W hf
    have h1 := hf.heap hx (fun hq => by have := hlow _ hq; omega)
    exact ⟨by rw [cell_of h1]; rfl, by rw [cell_of h1]; rfl⟩
  /- the one that was asked for, and what is left without it -/
  have cat : ∀ W, NatAt W n F (onS s now) → Fr F w W → Calls Try.prog 51 #[.pointer (some ⟨n, 0, none⟩), argA a] W fun e w' => ∃ (u : Option Nat) (v : Value), e = .returned (.pointer (u.map fun t => ⟨t, 0, none⟩)) ∧ Hid (decide (u.isSome) = (dropS s now a).2) ∧ w'.cell? ⟨n, 7, none⟩ = some v ∧ n < w'.heap.size ∧
      ∀ W5, W5 = w'.alloc (Obj.cells #[.pointer (u.map fun t => ⟨t, 0, none⟩)] 106) → Hid (Calls Try.prog 60 #[v, .func (.func 61) #[] #[.pointer (some ⟨w'.heap.size, 0, none⟩)]] W5 fun e w6 => ∃ r m c, e = .returned (.slice r m c) ∧ w6.cell? ⟨n, 7, none⟩ = some v ∧ w6.frozen? ⟨n, 7, none⟩ = false ∧
        w6.cell? ⟨w'.heap.size, 0, none⟩ = some (.pointer (u.map fun t => ⟨t, 0, none⟩)) ∧ n ≠ w'.heap.size ∧ Hid (∀ W', W' = w6.setCell ⟨n, 7, none⟩ (.slice r m c) → NatAt W' n F (dropS s now a).1 ∧ Fr F w W')) := by
    intro W hW hfW
    obtain ⟨es, v, hm, hl, hF⟩ := hW.mem
    have key : ∀ (u : Option Nat) (w' : World), (∀ z, u = some z → ∃ d ∈ es, d.p = z) → Fr0 W w' → (es.filter fun e => !decide (u = some e.p)).map En.b = (dropS s now a).1.l → w'.cell? ⟨n, 7, none⟩ = some v ∧ n < w'.heap.size ∧
      ∀ W5, W5 = w'.alloc (Obj.cells #[.pointer (u.map fun t => ⟨t, 0, none⟩)] 106) → Hid (Calls Try.prog 60 #[v, .func (.func 61) #[] #[.pointer (some ⟨w'.heap.size, 0, none⟩)]] W5 fun e w6 => ∃ r m c, e = .returned (.slice r m c) ∧ w6.cell? ⟨n, 7, none⟩ = some v ∧ w6.frozen? ⟨n, 7, none⟩ = false ∧
        w6.cell? ⟨w'.heap.size, 0, none⟩ = some (.pointer (u.map fun t => ⟨t, 0, none⟩)) ∧ n ≠ w'.heap.size ∧ Hid (∀ W', W' = w6.setCell ⟨n, 7, none⟩ (.slice r m c) → NatAt W' n F (dropS s now a).1 ∧ Fr F w W')) := by
      intro u w' hu hf hdr
      have hm' := hm.fr0 hf
      have hlt : ∀ g, v.ownBlock = some g → g < w'.heap.size := fun g hg => hm'.row.lt hg
      have hn : n < w'.heap.size := lt_of_heap hm'.blk
      refine ⟨hm'.at7, hn, ?_⟩
      rintro W5 rfl
      have f5 : Fr0 w' (w'.alloc (Obj.cells #[.pointer (u.map fun t => ⟨t, 0, none⟩)] 106)) := Fr.alloc _ _ _
      refine (dlfP_any (S := fun _ => False) (J := fun _ => DropJ es w'.heap.size u) v 61 _ (es.map En.p) (fun q => decide (u = some q)) _ (fun g hg => drop_pred hm' u hu w'.heap.size hg (fun e => by have := hlt g hg; omega)) (fun _ h => h.elim) ⟨fun e he => ((hm'.fr0 f5).ens e he).blk, Boxed.new w' 106 _⟩ ((hm'.fr0 f5).row)).mono ?_
      rintro e w6 ⟨v', rfl, hv, hr, hJ, hf6⟩
      obtain ⟨r, m, c, hs⟩ : ∃ r m c, v' = .slice r m c := by
        rcases hr.shape with ⟨hs, _⟩ | ⟨g, cap, hs, _⟩
        · exact ⟨_, _, _, hs⟩
        · exact ⟨_, _, _, hs⟩
      subst hs
      have hvn := hm'.ne.1
      have hb6 := hf6.heap ((hm'.fr0 f5).blk) (fun hh => hvn n (hh.resolve_left id) rfl)
      refine ⟨r, m, c, rfl, by rw [cell_of hb6]; rfl, frz_of hb6 7, hJ.2.cell, by omega, ?_⟩
      rintro W' rfl
      have f7 : Fr (fun q => q = n) w6 (w6.setCell ⟨n, 7, none⟩ (.slice r m c)) := Fr.setCell _ _ _ rfl
      have h56 : Fr (fun b => b = n ∨ v.ownBlock = some b) w' (w6.setCell ⟨n, 7, none⟩ (.slice r m c)) := ((f5.mono (fun _ _ h => h.elim)).then (hf6.mono (fun b _ e => .inr (e.resolve_left id)))).then (f7.mono (fun b _ e => .inl e))
      have hfil : ((es.map En.p).filter fun q => !decide (u = some q)) = (es.filter fun e => !decide (u = some e.p)).map En.p := by rw [List.filter_map]; rfl
      rw [hfil] at hr
      have hnew := hm'.filter (W' := w6.setCell ⟨n, 7, none⟩ (.slice r m c)) (v' := .slice r m c) (now' := (onS s now).now) (fun e => !decide (u = some e.p)) hv (hr.fr f7 (fun g hg e => hvn g (hv ▸ hg) e)) (set_cells hb6 7 _ rfl) h56
      have hfr : Fr F w (w6.setCell ⟨n, 7, none⟩ (.slice r m c)) := (hfW.then (hf.mono (fun _ _ h => h.elim))).then (h56.mono (fun b _ e => hF b (e.elim .inl (fun e => .inr (.inl e)))))
      have hx2 : (dropS s now a).1.x = s.x ∧ (dropS s now a).1.now = now := by
        unfold dropS; rw [if_pos ho]
        cases (onS s now).l.findIdx? (askB a) <;> exact ⟨rfl, rfl⟩
      refine ⟨⟨⟨_, _, by rw [hx2.1, hx2.2]; exact hnew, hdr, fun q hq => hF q (foot_filter _ hv hq)⟩, fun q hq => Nat.lt_of_lt_of_le (hlow q hq) hfr.size, ⟨by rw [hx2.1]; exact hmay, by rw [hx2.2]; exact hok.lo, by rw [hx2.2]; exact hok.hi, ?_, fun b hb => ?_⟩⟩, hfr⟩
      · rw [← hdr, hx2.1, List.length_map]
        have h1 := List.length_filter_le (fun e => !decide (u = some e.p)) es
        have h2 := hW.ok.len
        rw [← hl, List.length_map] at h2
        have : (onS s now).x = s.x := rfl
        rw [this] at h2
        omega
      · rw [← hdr] at hb
        obtain ⟨e, he, rfl⟩ := List.mem_map.1 hb
        exact hok.seen _ (by rw [← hl]; exact List.mem_map_of_mem (List.mem_filter.1 he).1)
    cases hfi : (onS s now).l.findIdx? (askB a) with
    | some i =>
      have hil := idx_lt hfi
      have hie : i < es.length := by rw [← hl, List.length_map] at hil; exact hil
      obtain ⟨d, hd⟩ : ∃ d, es[i]? = some d := ⟨es[i], by simp [hie]⟩
      refine (asked_hit n _ _ es v a W hm (by rw [← idx_map, hl]; exact hfi) hd).mono ?_
      rintro e w' ⟨rfl, hf⟩
      obtain ⟨k1, k2, k3⟩ := key (some d.p) w' (fun z hz => ⟨d, List.mem_of_getElem? hd, by cases hz; rfl⟩) hf (by
        rw [filter_erase es hm.ndp i d hd]
        unfold dropS; rw [if_pos ho, hfi]
        show _ = (onS s now).l.eraseIdx i
        rw [← hl]
        rw [List.eraseIdx_eq_take_drop_succ, List.eraseIdx_eq_take_drop_succ]; simp)
      exact ⟨some d.p, v, rfl, by unfold dropS; rw [if_pos ho, hfi]; rfl, k1, k2, k3⟩
    | none =>
      refine (asked_miss n _ _ es v a W hm (by rw [← idx_map, hl]; exact hfi)).mono ?_
      rintro e w' ⟨rfl, hf⟩
      obtain ⟨k1, k2, k3⟩ := key none w' (fun z hz => by cases hz) hf (by
        have : (es.filter fun e => !decide ((none : Option Nat) = some e.p)) = es := by rw [List.filter_eq_self]; intro e _; simp
        rw [this, hl]
        unfold dropS; rw [if_pos ho, hfi])
      exact ⟨none, v, rfl, by unfold dropS; rw [if_pos ho, hfi]; rfl, k1, k2, k3⟩
  unfold argA at cat
  have HT := Lib.hid cat
  have HMid := Lib.hid hmid
  have HCO := Lib.hid co
  have HL := Lib.hid hF0
  clear cat hmid co hF0 hx hok hmay hlow h ho
  unfold argA
  go_enter Try.func25, Try.ntmps25
  go_wp2_with (first
    | (go_at_call 45; refine (HCO.out _ (Fr.alloc _ _ _)).mono ?_; rintro e w3 ⟨rfl, hN3, hf3⟩; have HF3 := Lib.hid (⟨hN3, hf3⟩ : NatAt w3 n F (onS s now) ∧ Fr F (w.alloc (Obj.cells #[.int .u32 a.1, .int .i64 a.2] 24)) w3); clear hN3 hf3; obtain ⟨a0, a1⟩ := HMid.out _ HF3.out.2)
    | (go_at_call 51; refine (HT.out _ HF3.out.1 (HL.out.then HF3.out.2)).mono ?_; rintro e w4 ⟨u, v, rfl, HU, c7, hn4, hk⟩; have HK := Lib.hid (hk _ rfl); clear hk)
    | (go_at_call 60; refine HK.out.mono ?_; rintro e w6 ⟨r, m, c, rfl, d7, z7, dB, dne, HR⟩))
  go_ret
  obtain ⟨k1, k2⟩ := HR.out _ rfl
  exact ⟨ret_bool (by rw [← HU.out]; simp), k1, k2⟩

theorem drop_any (n : Nat) (F : Nat → Prop) (s : St) (now : Int) (a : Ad) (w : World) (h : NatAt w n F s) :
    Calls Try.prog 25 #[.pointer (some ⟨n, 0, none⟩), .int .i64 now, argA a] w fun e w' => e = .returned (.bool (dropS s now a).2) ∧ NatAt w' n F (dropS s now a).1 ∧ Fr F w w' := by
  by_cases ho : onOk s now = true
  · exact drop_good n F s now a w h ho
  · unfold dropS
    rw [if_neg ho]
    exact (drop_bad n F s now a w h ho).mono (fun e w' ⟨he, hf⟩ => ⟨he, h.fr0 hf, hf.mono (fun _ _ h => h.elim)⟩)

end Go.Proofs.Ytkdbjeegiiihaaa
