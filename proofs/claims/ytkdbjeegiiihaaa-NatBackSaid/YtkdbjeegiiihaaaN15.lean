/-
  A binding that is asked for. Conditions: the ones each theorem names.
-/
import Derived.Test.YtkdbjeegiiihaaaN14
set_option linter.unusedVariables false
set_option linter.unusedSimpArgs false
namespace Go.Proofs.Ytkdbjeegiiihaaa
open Go.RowKit Go.Shelf

/-- What is asked for: the box's state behind it, and the answer. -/
def askS (s : St) (now : Int) (a : Ad) (wish unt : Int) : St × Int × Int :=
  if mayA a = true ∧ now < unt ∧ unt ≤ 1099511627776 ∧ onOk s now = true then
    match (onS s now).l.findIdx? (askB a) with
    | some i => match (onS s now).l[i]? with
      | some b => ({ onS s now with l := (onS s now).l.set i { b with unt := unt } }, b.port, 0)
      | none => (s, 0, 0)
    | none => match pick s.x (onS s now).l wish with
      | some p => if s.x.most ≤ (onS s now).l.length then (onS s now, 0, 10) else ({ onS s now with l := (onS s now).l ++ [⟨a, (0, 0), p, unt, true, []⟩] }, p, 0)
      | none => (onS s now, 0, 10)
  else (s, 0, 1)

set_option maxRecDepth 100000 in
set_option maxHeartbeats 2000000 in
theorem ask_bad (n : Nat) (F : Nat → Prop) (s : St) (now : Int) (a : Ad) (wish unt : Int) (w : World) (h : NatAt w n F s) (hb : ¬ (mayA a = true ∧ now < unt ∧ unt ≤ 1099511627776 ∧ onOk s now = true)) :
    Calls Try.prog 18 #[.pointer (some ⟨n, 0, none⟩), .int .i64 now, argA a, .int .i64 wish, .int .i64 unt] w fun e w' => e = .returned (.tuple #[.int .i64 0, .int .i64 1]) ∧ Fr0 w w' := by
  obtain ⟨es, v, hm, hl, hF⟩ := h.mem
  have ca := fun W => mayA_any a W
  have h8 : w.cell? ⟨n, 8, none⟩ = some (.int .i64 s.now) := by rw [cell_of hm.blk]; rfl
  have co := fun (hbad : now < s.now ∨ 1099511627776 < now) W (hf : Fr0 w W) => on_bad n s.now now W (hf.cell h8 (fun h => h)) hbad
  unfold argA at ca
  have HCO := Lib.hid co
  clear co hm hl hF h8 h
  unfold argA
  cases ha : mayA a
  · rw [ha] at ca
    have HCA := Lib.hid ca
    clear ca hb ha
    go_enter Try.func18, Try.ntmps18
    go_wp2_with (go_at_call 44; refine (HCA.out _).mono ?_; rintro e w1 ⟨rfl, hf1⟩; have HF1 := Lib.hid hf1; clear hf1)
    go_ret2
    exact ⟨rfl, (Fr.alloc _ _ _).then HF1.out⟩
  · rw [ha] at ca
    have HCA := Lib.hid ca
    by_cases h1 : now < unt
    · by_cases h2 : unt ≤ 1099511627776
      · have hon : now < s.now ∨ 1099511627776 < now := by
          have : ¬ onOk s now = true := fun hh => hb ⟨ha, h1, h2, hh⟩
          simp [onOk] at this
          omega
        have HCO2 := Lib.hid (HCO.out hon)
        clear ca hb ha HCO hon
        go_enter Try.func18, Try.ntmps18
        go_wp2_with (first
          | (go_at_call 44; refine (HCA.out _).mono ?_; rintro e w1 ⟨rfl, hf1⟩; have HF1 := Lib.hid hf1; clear hf1)
          | (go_at_call 45; refine (HCO2.out _ ((Fr.alloc _ _ _).then HF1.out)).mono ?_; rintro e w3 ⟨rfl, hf3⟩; have HF3 := Lib.hid hf3; clear hf3))
        go_ret2
        exact ⟨rfl, ((Fr.alloc _ _ _).then HF1.out).then HF3.out⟩
      · clear ca hb ha HCO
        go_enter Try.func18, Try.ntmps18
        go_wp2_with (go_at_call 44; refine (HCA.out _).mono ?_; rintro e w1 ⟨rfl, hf1⟩; have HF1 := Lib.hid hf1; clear hf1)
        go_ret2
        exact ⟨rfl, (Fr.alloc _ _ _).then HF1.out⟩
    · clear ca hb ha HCO
      go_enter Try.func18, Try.ntmps18
      go_wp2_with (go_at_call 44; refine (HCA.out _).mono ?_; rintro e w1 ⟨rfl, hf1⟩; have HF1 := Lib.hid hf1; clear hf1)
      go_ret2
      exact ⟨rfl, (Fr.alloc _ _ _).then HF1.out⟩

set_option maxRecDepth 100000 in
set_option maxHeartbeats 2000000 in
theorem ask_good (n : Nat) (F : Nat → Prop) (s : St) (now : Int) (a : Ad) (wish unt : Int) (w : World) (h : NatAt w n F s) (ha : mayA a = true) (h1 : now < unt) (h2 : unt ≤ 1099511627776) (ho : onOk s now = true) :
    Calls Try.prog 18 #[.pointer (some ⟨n, 0, none⟩), .int .i64 now, argA a, .int .i64 wish, .int .i64 unt] w fun e w' => e = .returned (.tuple #[.int .i64 (askS s now a wish unt).2.1, .int .i64 (askS s now a wish unt).2.2]) ∧ NatAt w' n (grow F w w') (askS s now a wish unt).1 ∧ Fr F w w' := by
  have ca := fun W => mayA_any a W
  rw [ha] at ca
  have hlow := h.low
  have hok := onS_ok h.ok ho
  have hmay := h.ok.may
  have hmo : s.x.most ≤ 100 := by simp [mayX] at hmay; omega
  have co := fun W (hf : Fr0 w W) => out_on n F s now W (h.fr0 hf) ho
  have hx := World.alloc_heap_new w (Obj.cells #[.int .u32 a.1, .int .i64 a.2] 24)
  have hmid : ∀ W, Fr F (w.alloc (Obj.cells #[.int .u32 a.1, .int .i64 a.2] 24)) W → W.cell? ⟨w.heap.size, 0, none⟩ = some (.int .u32 a.1) ∧ W.cell? ⟨w.heap.size, 1, none⟩ = some (.int .i64 a.2) := by
    intro W hf
    have h1 := hf.heap hx (fun hq => by have := hlow _ hq; omega)
    exact ⟨by rw [cell_of h1]; rfl, by rw [cell_of h1]; rfl⟩
  have hF0 : Fr F w (w.alloc (Obj.cells #[.int .u32 a.1, .int .i64 a.2] 24)) := Fr.alloc _ _ _
  /- the end's time is set at an entry: what then lies there -/
  have hset : ∀ W es v i p sv b, NatM W n s.x now es v → es[i]? = some ⟨p, sv, b⟩ → Fr F w W → (∀ q, foot n es v q → F q ∨ w.heap.size ≤ q) → ((es.map En.b).length : Int) ≤ s.x.most → (∀ c ∈ es.map En.b, c.seen.length ≤ 16) →
      W.cell? ⟨p, 5, none⟩ = some (.int .i64 b.unt) ∧ W.frozen? ⟨p, 5, none⟩ = false ∧ W.cell? ⟨p, 4, none⟩ = some (.int .i64 b.port) ∧
        ∀ W', W' = W.setCell ⟨p, 5, none⟩ (.int .i64 unt) → NatAt W' n (grow F w W') { onS s now with l := (es.map En.b).set i { b with unt := unt } } ∧ Fr F w W' := by
    intro W es v i p sv b hm hd hf hft hlen hseen
    have hdm := List.mem_of_getElem? hd
    have hen := hm.ens _ hdm
    refine ⟨by rw [cell_of hen.blk]; rfl, frz_of hen.blk 5, by rw [cell_of hen.blk]; rfl, ?_⟩
    rintro W' rfl
    have hf5 : Fr (fun q => q = p) W (W.setCell ⟨p, 5, none⟩ (.int .i64 unt)) := Fr.setCell _ _ _ rfl
    have hupd := hm.upd hd (hen.unt unt) (hf5.mono (fun b _ e => .inl e)) (fun g hg => .inr hg)
    have hfr : Fr F w (W.setCell ⟨p, 5, none⟩ (.int .i64 unt)) := hf.trans hf5 (fun q hq e => by
      rcases hft q (.inr (.inr ⟨_, hdm, .inl e⟩)) with k | k
      · exact k
      · omega)
    refine ⟨⟨⟨_, v, hupd, by rw [List.map_set], fun q hq => ?_⟩, fun q hq => ?_, ⟨hmay, hok.lo, hok.hi, by have : (onS s now).x = s.x := rfl; rw [List.length_set]; exact hlen, fun c hc => ?_⟩⟩, hfr⟩
    · have hw : foot n es v q := by
        rcases foot_upd (w := W) hd (fun g hg => .inr hg) hq with k | k
        · exact k
        · have := hupd.lt hq
          simp [World.setCell] at this
          omega
      exact (hft q hw).imp id (fun k => ⟨k, hupd.lt hq⟩)
    · exact hq.elim (fun k => Nat.lt_of_lt_of_le (hlow q k) hfr.size) (fun k => k.2)
    · rcases List.mem_or_eq_of_mem_set hc with hc | rfl
      · exact hseen c hc
      · exact hseen b (List.mem_map_of_mem hdm)
  have HSet := Lib.hid hset
  have HMid := Lib.hid hmid
  have HCO := Lib.hid co
  have hres : askS s now a wish unt = (match (onS s now).l.findIdx? (askB a) with
    | some i => match (onS s now).l[i]? with
      | some b => ({ onS s now with l := (onS s now).l.set i { b with unt := unt } }, b.port, 0)
      | none => (s, 0, 0)
    | none => match pick s.x (onS s now).l wish with
      | some p => if s.x.most ≤ (onS s now).l.length then (onS s now, 0, 10) else ({ onS s now with l := (onS s now).l ++ [⟨a, (0, 0), p, unt, true, []⟩] }, p, 0)
      | none => (onS s now, 0, 10)) := by unfold askS; rw [if_pos ⟨ha, h1, h2, ho⟩]
  unfold argA at ca
  have HCA := Lib.hid ca
  have HL := Lib.hid (⟨hF0, hlow, hok⟩ : _ ∧ _ ∧ _)
  clear hset hmid co ca hx hF0
  cases hfi : (onS s now).l.findIdx? (askB a) with
  | some i =>
    have hil := idx_lt hfi
    obtain ⟨b0, hb0⟩ : ∃ b0, (onS s now).l[i]? = some b0 := ⟨_, by simp [hil]; rfl⟩
    rw [hfi] at hres
    simp only [hb0] at hres
    have cat : ∀ W, NatAt W n F (onS s now) → Fr F w W → Calls Try.prog 51 #[.pointer (some ⟨n, 0, none⟩), argA a] W fun e w' => ∃ p, e = .returned (.pointer (some ⟨p, 0, none⟩)) ∧
        w'.cell? ⟨p, 5, none⟩ = some (.int .i64 b0.unt) ∧ w'.frozen? ⟨p, 5, none⟩ = false ∧ w'.cell? ⟨p, 4, none⟩ = some (.int .i64 b0.port) ∧ Hid (∀ W', W' = w'.setCell ⟨p, 5, none⟩ (.int .i64 unt) → NatAt W' n (grow F w W') { onS s now with l := (onS s now).l.set i { b0 with unt := unt } } ∧ Fr F w W') := by
      intro W hW hfW
      obtain ⟨es, v, hm, hl, hF⟩ := hW.mem
      have hie : i < es.length := by rw [← hl, List.length_map] at hil; exact hil
      obtain ⟨d, hd⟩ : ∃ d, es[i]? = some d := ⟨es[i], by simp [hie]⟩
      have hdb : d.b = b0 := by
        have : (es.map En.b)[i]? = some d.b := by rw [List.getElem?_map, hd]; rfl
        rw [hl, hb0] at this; cases this; rfl
      refine (asked_hit n _ _ es v a W hm (by rw [← idx_map, hl]; exact hfi) hd).mono ?_
      rintro e w' ⟨rfl, hf⟩
      obtain ⟨k1, k2, k3, k4⟩ := HSet.out w' es v i d.p d.sv b0 (hm.fr0 hf) (by rw [hd, ← hdb]) (hfW.then (hf.mono (fun _ _ h => h.elim))) (fun q hq => .inl (hF q hq)) (by rw [hl]; exact HL.out.2.2.len) (by rw [hl]; exact HL.out.2.2.seen)
      exact ⟨d.p, rfl, k1, k2, k3, by rw [hl] at k4; exact k4⟩
    unfold argA at cat
    have HT := Lib.hid cat
    rw [hres]
    clear cat hfi hil hb0 hres h ha ho hok hmay hlow
    unfold argA
    go_enter Try.func18, Try.ntmps18
    go_wp2_with (first
      | (go_at_call 44; refine (HCA.out _).mono ?_; rintro e w1 ⟨rfl, hf1⟩; have HF1 := Lib.hid hf1; clear hf1)
      | (go_at_call 45; refine (HCO.out _ ((Fr.alloc _ _ _).then HF1.out)).mono ?_; rintro e w3 ⟨rfl, hN3, hf3⟩; have HF3 := Lib.hid (⟨hN3, (HF1.out.mono (fun _ _ h => h.elim)).then hf3⟩ : NatAt w3 n F (onS s now) ∧ Fr F (w.alloc (Obj.cells #[.int .u32 a.1, .int .i64 a.2] 24)) w3); clear hN3 hf3; obtain ⟨a0, a1⟩ := HMid.out _ HF3.out.2)
      | (go_at_call 51; refine (HT.out _ HF3.out.1 (HL.out.1.then HF3.out.2)).mono ?_; rintro e w4 ⟨p, rfl, c5, z5, c4, HR⟩))
    go_ret2
    obtain ⟨r1, r2⟩ := HR.out _ rfl
    exact ⟨rfl, r1, r2⟩
  | none =>
    rw [hfi] at hres
    simp only at hres
    have cat : ∀ W, NatAt W n F (onS s now) → Calls Try.prog 51 #[.pointer (some ⟨n, 0, none⟩), argA a] W fun e w' => e = .returned (.pointer none) ∧ Fr0 W w' := by
      intro W hW
      obtain ⟨es, v, hm, hl, hF⟩ := hW.mem
      exact asked_miss n _ _ es v a W hm (by rw [← idx_map, hl]; exact hfi)
    have hfull : ∀ (hno : pick s.x (onS s now).l wish = none ∨ s.x.most ≤ (onS s now).l.length) W, NatAt W n F (onS s now) → Calls Try.prog 52 #[.pointer (some ⟨n, 0, none⟩), argB a (0, 0) 0 0 true, .int .i64 wish] W fun e w' => e = .returned (.tuple #[.pointer none, .int .i64 10]) ∧ Fr0 W w' := by
      intro hno W hW
      obtain ⟨es, v, hm, hl, hF⟩ := hW.mem
      have hk := hW.ok.len
      rw [← hl, List.length_map] at hk
      have hno' : pick s.x (es.map En.b) wish = none ∨ s.x.most ≤ es.length := by rw [← hl] at hno; simpa using hno
      exact made_none n s.x _ es v a (0, 0) 0 0 true wish W hm hmay (by have : (onS s now).x = s.x := rfl; rw [this] at hk; omega) hno'
    unfold argA at cat
    unfold argB at hfull
    have HT := Lib.hid cat
    have HFu := Lib.hid hfull
    have fullwalk : (pick s.x (onS s now).l wish = none ∨ s.x.most ≤ (onS s now).l.length) → Calls Try.prog 18 #[.pointer (some ⟨n, 0, none⟩), .int .i64 now, argA a, .int .i64 wish, .int .i64 unt] w fun e w' => e = .returned (.tuple #[.int .i64 0, .int .i64 10]) ∧ NatAt w' n (grow F w w') (onS s now) ∧ Fr F w w' := by
      intro hno
      have HD := Lib.hid (HFu.out hno)
      clear cat hfull hfi hres h ha ho hok hmay hlow hno HFu
      unfold argA
      go_enter Try.func18, Try.ntmps18
      go_wp2_with (first
        | (go_at_call 44; refine (HCA.out _).mono ?_; rintro e w1 ⟨rfl, hf1⟩; have HF1 := Lib.hid hf1; clear hf1)
        | (go_at_call 45; refine (HCO.out _ ((Fr.alloc _ _ _).then HF1.out)).mono ?_; rintro e w3 ⟨rfl, hN3, hf3⟩; have HF3 := Lib.hid (⟨hN3, (HF1.out.mono (fun _ _ h => h.elim)).then hf3⟩ : NatAt w3 n F (onS s now) ∧ Fr F (w.alloc (Obj.cells #[.int .u32 a.1, .int .i64 a.2] 24)) w3); clear hN3 hf3; obtain ⟨a0, a1⟩ := HMid.out _ HF3.out.2)
        | (go_at_call 51; refine (HT.out _ HF3.out.1).mono ?_; rintro e w4 ⟨rfl, hf4⟩; obtain ⟨a2, a3⟩ := HMid.out _ (HF3.out.2.then (hf4.mono (fun _ _ h => h.elim))); have HF4 := Lib.hid hf4; clear hf4)
        | (go_at_call 52; refine (HD.out _ (HF3.out.1.fr0 HF4.out)).mono ?_; rintro e w5 ⟨rfl, hf5⟩; have HF5 := Lib.hid hf5; clear hf5))
      go_ret2
      have hfr : Fr F w w5 := (HL.out.1.then HF3.out.2).then ((HF4.out.then HF5.out).mono (fun _ _ h => h.elim))
      exact ⟨rfl, (HF3.out.1.fr0 (HF4.out.then HF5.out)).grow hfr.size, hfr⟩
    cases hp : pick s.x (onS s now).l wish with
    | none =>
      rw [hp] at hres
      simp only at hres
      rw [hres]
      exact fullwalk (.inl hp)
    | some p0 =>
      rw [hp] at hres
      simp only at hres
      by_cases hms : s.x.most ≤ (onS s now).l.length
      · rw [if_pos hms] at hres
        rw [hres]
        exact fullwalk (.inr hms)
      · rw [if_neg hms] at hres
        rw [hres]
        have cmk : ∀ W, NatAt W n F (onS s now) → Fr F w W → Calls Try.prog 52 #[.pointer (some ⟨n, 0, none⟩), argB a (0, 0) 0 0 true, .int .i64 wish] W fun e w' => ∃ p, e = .returned (.tuple #[.pointer (some ⟨p, 0, none⟩), .int .i64 0]) ∧
            w'.cell? ⟨p, 5, none⟩ = some (.int .i64 0) ∧ w'.frozen? ⟨p, 5, none⟩ = false ∧ w'.cell? ⟨p, 4, none⟩ = some (.int .i64 p0) ∧ Hid (∀ W', W' = w'.setCell ⟨p, 5, none⟩ (.int .i64 unt) → NatAt W' n (grow F w W') { onS s now with l := (onS s now).l ++ [⟨a, (0, 0), p0, unt, true, []⟩] } ∧ Fr F w W') := by
          intro W hW hfW
          obtain ⟨es, v, hm, hl, hF⟩ := hW.mem
          have hlen : (es.length : Int) < s.x.most := by rw [← hl, List.length_map] at hms; omega
          refine (made_some n s.x _ es v a (0, 0) 0 0 true wish p0 W hm hmay hlen (by rw [hl]; exact hp)).mono ?_
          rintro e w' ⟨z, v', rfl, hz, hv, hM, hf⟩
          have hfF : Fr F W w' := hf.mono (fun b _ e => hF b (e.elim .inl (fun e => .inr (.inl e))))
          have hd : (es ++ [⟨z, .slice none 0 0, ⟨a, (0, 0), p0, 0, true, []⟩⟩] : List En)[es.length]? = some ⟨z, .slice none 0 0, ⟨a, (0, 0), p0, 0, true, []⟩⟩ := by simp
          obtain ⟨k1, k2, k3, k4⟩ := HSet.out w' _ v' es.length z (.slice none 0 0) ⟨a, (0, 0), p0, 0, true, []⟩ hM hd (hfW.then hfF) (fun q hq => (foot_snoc hz hv hq).imp (hF q) (fun e => by have := hfW.size; omega)) (by simp; omega) (by
            intro c hc
            simp only [List.map_append, List.map_cons, List.map_nil, List.mem_append, List.mem_singleton] at hc
            rcases hc with hc | rfl
            · rw [hl] at hc; exact HL.out.2.2.seen c hc
            · simp)
          refine ⟨z, rfl, k1, k2, k3, fun W' hW' => ?_⟩
          have := k4 W' hW'
          rw [show (List.map En.b (es ++ [⟨z, .slice none 0 0, ⟨a, (0, 0), p0, 0, true, []⟩⟩])).set es.length ⟨a, (0, 0), p0, unt, true, []⟩ = (onS s now).l ++ [⟨a, (0, 0), p0, unt, true, []⟩] by rw [List.map_append, hl, List.set_append_right _ _ (by rw [← hl]; simp)]; rw [← hl]; simp] at this
          exact this
        unfold argB at cmk
        have HD := Lib.hid cmk
        clear cat hfull hfi hres h ha ho hok hmay hlow HFu cmk fullwalk hp hms
        unfold argA
        go_enter Try.func18, Try.ntmps18
        go_wp2_with (first
          | (go_at_call 44; refine (HCA.out _).mono ?_; rintro e w1 ⟨rfl, hf1⟩; have HF1 := Lib.hid hf1; clear hf1)
          | (go_at_call 45; refine (HCO.out _ ((Fr.alloc _ _ _).then HF1.out)).mono ?_; rintro e w3 ⟨rfl, hN3, hf3⟩; have HF3 := Lib.hid (⟨hN3, (HF1.out.mono (fun _ _ h => h.elim)).then hf3⟩ : NatAt w3 n F (onS s now) ∧ Fr F (w.alloc (Obj.cells #[.int .u32 a.1, .int .i64 a.2] 24)) w3); clear hN3 hf3; obtain ⟨a0, a1⟩ := HMid.out _ HF3.out.2)
          | (go_at_call 51; refine (HT.out _ HF3.out.1).mono ?_; rintro e w4 ⟨rfl, hf4⟩; obtain ⟨a2, a3⟩ := HMid.out _ (HF3.out.2.then (hf4.mono (fun _ _ h => h.elim))); have HF4 := Lib.hid hf4; clear hf4)
          | (go_at_call 52; refine (HD.out _ (HF3.out.1.fr0 HF4.out) ((HL.out.1.then HF3.out.2).then (HF4.out.mono (fun _ _ h => h.elim)))).mono ?_; rintro e w5 ⟨p, rfl, c5, z5, c4, HR⟩))
        go_ret2
        obtain ⟨r1, r2⟩ := HR.out _ rfl
        exact ⟨rfl, r1, r2⟩

theorem ask_any (n : Nat) (F : Nat → Prop) (s : St) (now : Int) (a : Ad) (wish unt : Int) (w : World) (h : NatAt w n F s) :
    Calls Try.prog 18 #[.pointer (some ⟨n, 0, none⟩), .int .i64 now, argA a, .int .i64 wish, .int .i64 unt] w fun e w' => e = .returned (.tuple #[.int .i64 (askS s now a wish unt).2.1, .int .i64 (askS s now a wish unt).2.2]) ∧ NatAt w' n (grow F w w') (askS s now a wish unt).1 ∧ Fr F w w' := by
  by_cases hc : mayA a = true ∧ now < unt ∧ unt ≤ 1099511627776 ∧ onOk s now = true
  · exact ask_good n F s now a wish unt w h hc.1 hc.2.1 hc.2.2.1 hc.2.2.2
  · unfold askS
    rw [if_neg hc]
    exact (ask_bad n F s now a wish unt w h hc).mono (fun e w' ⟨he, hf⟩ => ⟨he, (h.fr0 hf).grow hf.size, hf.mono (fun _ _ h => h.elim)⟩)

end Go.Proofs.Ytkdbjeegiiihaaa
