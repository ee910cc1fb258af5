/-
  What comes back: the walk. Conditions: none.
-/
import Derived.Test.YtkdbjeegiiihaaaN25
import Derived.Test.YtkdbjeegiiihaaaPB2
import Derived.Deep.DeepCutAuto
import Derived.Deep.CutBlock
set_option linter.unusedVariables false
set_option linter.unusedSimpArgs false
namespace Go.Proofs.Ytkdbjeegiiihaaa
open Go.RowKit Go.Shelf

set_option maxRecDepth 100000 in
set_option maxHeartbeats 8000000 in
theorem back_law (c : Int) (c0 : 0 ≤ c) (c1 : c ≤ 255) (i t : Ad) (v : Value) (xs : List Dn) (w : World) (hA : Arg w 8 encD v xs) :
    Calls Try.prog 4 #[.int .u8 c, .agg #[.int .u32 i.1, .int .i64 i.2, .int .u32 t.1, .int .i64 t.2], v] w fun e w' => e = .returned (.bool true) ∧ Below w.heap.size w w' := by
  obtain ⟨r, cp, rfl, hmax, hcells⟩ := hA
  unfold maxLen at hmax
  obtain ⟨len, hlen⟩ : ∃ len, xs.length = len := ⟨_, rfl⟩
  rw [hlen] at hmax ⊢
  have HL := Lib.hid hlen
  have HX := Lib.hid hcells
  have HA := Lib.hid awake_any
  have hb := fun W => box13 c c0 c1 W
  have hn := fun W => new_good (boxL c) W (boxL_may c c0)
  have hx : argX (boxL c) = .agg #[.int .u32 3405803777, .int .i64 40000, .int .i64 40009, .int .i64 (c % 3), .int .i64 (c / 3 % 3), .int .i64 30, .int .i64 12] := rfl
  rw [hx] at hb hn
  have HB := Lib.hid hb
  have HN := Lib.hid hn
  clear hlen hcells hb hn hx
  have q1 := eql24
  have q2 := neq24
  go_enter Try.func4, Try.ntmps4
  go_wp2_with (first
    | (go_at_call 12; refine (HA.out _).mono ?_; rintro e w1 ⟨rfl, hf⟩; have H1 := Lib.hid hf; clear hf; obtain ⟨ca1, za1, la1⟩ := keep (Fr.of_below (S := fun _ => False) H1.out) (b := w.heap.size) (by simp) (fun h => h))
    | (go_at_call 13; refine (HB.out _).mono ?_; rintro e w2 ⟨rfl, hf⟩; have H2 := Lib.hid hf; clear hf)
    | fail)
  refine named fun W3 hW3 => ?_
  have hz2 : w1.heap.size + 2 ≤ w2.heap.size := by have := H2.out.size; simpa using this
  have fa := Fr.alloc (fun b => w.heap.size ≤ b) w (Obj.cells #[.int .u32 i.1, .int .i64 i.2, .int .u32 t.1, .int .i64 t.2] 38)
  have hG3 : Fr (fun b => w.heap.size ≤ b) w W3 := by
    rw [hW3]
    exact ((fa.then0 (Fr.of_below H1.out)).then0 (((Fr.alloc _ _ _).then (Fr.alloc _ _ _)).then H2.out)).then0 (Fr.alloc _ _ _)
  have hI3 : BoxA W3 w1.heap.size i := by
    rw [hW3]
    have h0 : BoxA (w1.alloc (Obj.cells #[.int .u32 i.1, .int .i64 i.2] 24)) w1.heap.size i := World.alloc_heap_new w1 _
    exact ((h0.fr (Fr.alloc (fun _ => False) _ _) (fun h => h)).fr H2.out (fun h => h)).fr (Fr.alloc (fun _ => False) _ _) (fun h => h)
  have hT3 : BoxA W3 (w1.heap.size + 1) t := by
    rw [hW3]
    have h0 : BoxA ((w1.alloc (Obj.cells #[.int .u32 i.1, .int .i64 i.2] 24)).alloc (Obj.cells #[.int .u32 t.1, .int .i64 t.2] 24)) (w1.heap.size + 1) t := by
      have := World.alloc_heap_new (w1.alloc (Obj.cells #[.int .u32 i.1, .int .i64 i.2] 24)) (Obj.cells #[.int .u32 t.1, .int .i64 t.2] 24)
      rwa [World.size_alloc] at this
    exact (h0.fr H2.out (fun h => h)).fr (Fr.alloc (fun _ => False) _ _) (fun h => h)
  have hX3 : W3.heap[w2.heap.size]? = some (.cells #[.int .u32 3405803777, .int .i64 40000, .int .i64 40009, .int .i64 (c % 3), .int .i64 (c / 3 % 3), .int .i64 30, .int .i64 12] 27 (0, 0)) := by
    rw [hW3]; exact World.alloc_heap_new w2 _
  have hz3 : W3.heap.size = w2.heap.size + 1 := by rw [hW3]; simp
  refine (HN.out W3).mono ?_
  rintro e w4 ⟨n, rfl, hnw, hN, hf⟩
  have hI4 : Hid (BackI w4 w2.heap.size n c i (sentB t xs (min len 60) = true) w4) := Lib.hid ⟨Fr.refl _ _, _, _, hN, ⟨(by show (0 : Int) ≤ 1; decide), ⟨by simp, fun b hb => by simp at hb⟩, fun b hb => by simp at hb, fun b hb => by simp at hb⟩, rfl, fun q hq => by omega⟩
  have H4 := Lib.hid (⟨hG3.then0 hf, hI3.fr hf (fun h => h), hT3.fr hf (fun h => h), hf.heap hX3 (fun h => h)⟩ : Fr (fun b => w.heap.size ≤ b) w w4 ∧ _ ∧ _ ∧ w4.heap[w2.heap.size]? = some (.cells #[.int .u32 3405803777, .int .i64 40000, .int .i64 40009, .int .i64 (c % 3), .int .i64 (c / 3 % 3), .int .i64 30, .int .i64 12] 27 (0, 0)))
  have hL4 : w2.heap.size < w4.heap.size := by have := hf.size; omega
  have hz1 : w.heap.size + 1 ≤ w1.heap.size := la1
  clear hnw hN hf hG3 hI3 hT3 hX3 hz3 fa
  go_upto_block 0 with fail
  go_cut [12] (fun _ wx => Hid (BackI w4 w2.heap.size n c i (sentB t xs (min len 60) = true) wx))
  case first =>
    go_wp2_with fail
    go_loopw [12] (fun k wr => ∃ j : Nat, j ≤ len ∧ k = .int .i64 j ∧ Hid (BackI w4 w2.heap.size n c i (sentB t xs (min len 60) = true) wr)) (fun k _ => len - (intOf k).toNat)
    case atStart => exact ⟨0, Nat.zero_le _, rfl, hI4⟩
    case round =>
      obtain ⟨j, hj, rfl, HI⟩ := hrel
      by_cases hlt : j < len ∧ j < 60
      · obtain ⟨hl1, hl2⟩ := hlt
        obtain ⟨d, hd⟩ : ∃ d, xs[j]? = some d := ⟨xs[j]'(by rw [HL.out]; exact hl1), by simp [HL.out, hl1]⟩
        obtain ⟨b, off, hr, hbl, hcs⟩ := HX.out.resolve_left (fun h => by rw [h] at hd; simp at hd)
        subst hr
        have hcell : ∀ k u, (encD d)[k]? = some u → wr.cell? ⟨b, off + j * 8 + k, none⟩ = some u := fun k u hu =>
          HI.out.1.cell (H4.out.1.cell (hcs j d hd k u hu) (fun h => by simp at h; omega)) (fun h => by simp at h; omega)
        have d0 : wr.cell? ⟨b, off + j * 8, none⟩ = some (.int .i64 d.kind) := hcell 0 _ rfl
        have d2 : wr.cell? ⟨b, off + j * 8 + 2, none⟩ = some (.int .u32 d.a.1) := hcell 2 _ rfl
        have d3 : wr.cell? ⟨b, off + j * 8 + 2 + 1, none⟩ = some (.int .i64 d.a.2) := hcell 3 _ rfl
        have d4 : wr.cell? ⟨b, off + j * 8 + 4, none⟩ = some (.int .u32 d.b.1) := hcell 4 _ rfl
        have d5 : wr.cell? ⟨b, off + j * 8 + 4 + 1, none⟩ = some (.int .i64 d.b.2) := hcell 5 _ rfl
        have d6 : wr.cell? ⟨b, off + j * 8 + 6, none⟩ = some (.int .i64 d.port) := hcell 6 _ rfl
        have d7 : wr.cell? ⟨b, off + j * 8 + 7, none⟩ = some (.int .i64 d.unt) := hcell 7 _ rfl
        have hIw := HI.out.1.heap H4.out.2.1 (fun h => by omega)
        have i0 : wr.cell? ⟨w1.heap.size, 0, none⟩ = some (.int .u32 i.1) := by rw [cell_of hIw]; rfl
        have i1 : wr.cell? ⟨w1.heap.size, 1, none⟩ = some (.int .i64 i.2) := by rw [cell_of hIw]; rfl
        have hlb : b < wr.heap.size := by have := H4.out.1.size; have := HI.out.1.size; omega
        have hli : w1.heap.size < wr.heap.size := lt_of_heap hIw
        have h7 : d.b.1 = 77 → sentB t xs (min len 60) = true := fun h => sentB_at hd (by omega) h
        have H7 := Lib.hid h7
        clear hcell hIw h7 hcs hd
        by_cases hk0 : d.kind = 0
        · have e0 : (d.kind == 0) = true := by simp [hk0]
          have HC := Lib.hid (back_out w4 wr w2.heap.size n c i _ HI.out hL4 d.a d.b H7.out)
          clear hk0
          go_wp2_with fail
          apply later
          · intro HT
            go_region_with (refine (HC.out _ (Fr.drew _ _)).mono ?_; rintro e w5 ⟨r1, r2, k, rfl, H5⟩)
            all_goals revert w5 r1 r2 k H5
            all_goals exact HT.out
          · intro w5 r1 r2 k H5
            go_wp2_with fail
            go_roundw
            case rel => exact ⟨j + 1, by omega, by go_num, H5⟩
            case measure => simp [intOf]; omega
        · have e0 : (d.kind == 0) = false := by simp [hk0]
          by_cases hk2 : d.kind = 2
          · have e2 : (d.kind == 2) = true := by simp [hk2]
            clear hk0 hk2
            by_cases ha : d.a = i
            · have hq : eqI d.a.1 d.a.2 i.1 i.2 = true := by rw [eqI_iff]; simpa using ha
              clear ha
              go_wp2_with (go_quiet (fail))
              go_roundw
              case rel => exact ⟨j + 1, by omega, by go_num, Lib.hid ⟨HI.out.1.then0 (Fr.drewN _ _ _), HI.out.2.imp fun F h => h.imp fun s h => ⟨h.1.fr0 (Fr.drewN _ _ _), h.2⟩⟩⟩
              case measure => simp [intOf]; omega
            · have hq : eqI d.a.1 d.a.2 i.1 i.2 = false := by rw [eqI_iff]; simpa using ha
              have HC := Lib.hid (back_ask w4 wr w2.heap.size n c i _ HI.out hL4 d.a d.port d.unt ha)
              clear ha
              go_wp2_with (go_quiet (fail))
              apply later
              · intro HT
                go_region_with (refine (HC.out _ ((Fr.drewN _ _ _).then (Fr.drew _ _))).mono ?_; rintro e w5 ⟨r1, k, rfl, H5⟩)
                all_goals revert w5 r1 k H5
                all_goals exact HT.out
              · intro w5 r1 k H5
                go_wp2_with fail
                go_roundw
                case rel => exact ⟨j + 1, by omega, by go_num, H5⟩
                case measure => simp [intOf]; omega
          · have e2 : (d.kind == 2) = false := by simp [hk2]
            clear hk0 hk2
            go_wp2_with (go_quiet (fail))
            go_roundw
            case rel => exact ⟨j + 1, by omega, by go_num, Lib.hid ⟨HI.out.1.then0 (Fr.drewN _ _ _), HI.out.2.imp fun F h => h.imp fun s h => ⟨h.1.fr0 (Fr.drewN _ _ _), h.2⟩⟩⟩
            case measure => simp [intOf]; omega
      · by_cases hl1 : j < len
        · have hl2 : ¬ j < 60 := fun h => hlt ⟨hl1, h⟩
          clear hlt
          go_wp2_with fail
          go_meet
          exact HI
        · clear hlt
          go_wp2_with fail
          go_meet
          exact HI
  case rest =>
    obtain ⟨hF, F, s, hN, hI, hx, hlow⟩ := hcut.out
    have hIc := hF.heap H4.out.2.1 (fun h => by omega)
    have hTc := hF.heap H4.out.2.2.1 (fun h => by omega)
    have hXc := hF.heap H4.out.2.2.2 (fun h => by omega)
    have i0 : wc.cell? ⟨w1.heap.size, 0, none⟩ = some (.int .u32 i.1) := by rw [cell_of hIc]; rfl
    have i1 : wc.cell? ⟨w1.heap.size, 1, none⟩ = some (.int .i64 i.2) := by rw [cell_of hIc]; rfl
    have t0 : wc.cell? ⟨w1.heap.size + 1, 0, none⟩ = some (.int .u32 t.1) := by rw [cell_of hTc]; rfl
    have t1 : wc.cell? ⟨w1.heap.size + 1, 1, none⟩ = some (.int .i64 t.2) := by rw [cell_of hTc]; rfl
    have x0 : wc.cell? ⟨w2.heap.size, 0, none⟩ = some (.int .u32 3405803777) := by rw [cell_of hXc]; rfl
    have x1 : wc.cell? ⟨w2.heap.size, 1, none⟩ = some (.int .i64 40000) := by rw [cell_of hXc]; rfl
    have x2 : wc.cell? ⟨w2.heap.size, 2, none⟩ = some (.int .i64 40009) := by rw [cell_of hXc]; rfl
    have x4 : wc.cell? ⟨w2.heap.size, 4, none⟩ = some (.int .i64 (c / 3 % 3)) := by rw [cell_of hXc]; rfl
    have lI := lt_of_heap hIc
    have lT := lt_of_heap hTc
    have lX := lt_of_heap hXc
    have nI : ¬ F w1.heap.size := fun h => by have := hlow _ h; omega
    have nT : ¬ F (w1.heap.size + 1) := fun h => by have := hlow _ h; omega
    have nX : ¬ F w2.heap.size := fun h => by have := hlow _ h; omega
    have hGc : Fr (fun b => w.heap.size ≤ b) w wc := H4.out.1.then (hF.mono (fun b _ h => by omega))
    have hout := out_any n F s 2 i t wc hN
    have hlow' : ∀ q, F q → w.heap.size ≤ q := fun q h => by have := hlow q h; omega
    have hsent : t.1 = 77 → sentB t xs (min len 60) = true := fun h => sentB_to h
    by_cases hcode : (outS s 2 i t).2.2 = 0
    · obtain ⟨p, s3, s31, s32, e1, e2, e3, e4, e5, e6, e7, y, k, e8, e9, e10⟩ := back_plain hI hx t hsent hcode
      rw [hcode, e1] at hout
      have HO := Lib.hid hout
      have HG := Lib.hid (⟨hGc, hlow'⟩ : _ ∧ _)
      have HE := Lib.hid (⟨e4, e5, e6, e7, e8, e9, e10⟩ : _ ∧ _ ∧ _ ∧ _ ∧ _ ∧ _ ∧ _)
      clear hout hcut hF hN hI hx hlow hIc hTc hXc hGc hlow' hcode e1 e4 e5 e6 e7 e8 e9 e10 hsent
      go_wp2_with fail
      refine HO.out.mono ?_
      rintro e w5 ⟨rfl, hN5, hf5⟩
      obtain ⟨ci5, zi5, li5, ni5⟩ := keepg hf5 lI nI
      obtain ⟨ct5, zt5, lt5, nt5⟩ := keepg hf5 lT nT
      obtain ⟨cx5, zx5, lx5, nx5⟩ := keepg hf5 lX nX
      obtain ⟨F5, hF5⟩ : ∃ F5, F5 = grow F wc w5 := ⟨_, rfl⟩
      have hlow5 : ∀ q, F5 q → w.heap.size ≤ q := by rw [hF5]; exact fun q hq => hq.elim (HG.out.2 q) (fun h => by omega)
      rw [← hF5] at hN5 ni5 nt5 nx5
      have nr5 : ¬ F5 w5.heap.size := fun h => absurd (hN5.low _ h) (Nat.lt_irrefl _)
      have H5 := Lib.hid (⟨hN5, HG.out.1.then (hf5.mono (fun q _ h => HG.out.2 q h)), hlow5⟩ : _ ∧ (Fr (fun b => w.heap.size ≤ b) w w5) ∧ _)
      clear hN5 hf5 hF5 hlow5
      unfold argA
      dsimp only
      go_wp2_with fail
      refine named fun W5 hW5 => ?_
      have f5 : Fr0 w5 W5 := by rw [hW5]; exact Fr.alloc _ _ _
      have hr5 : W5.cell? ⟨w5.heap.size, 1, none⟩ = some (.int .i64 p) := by rw [hW5]; simp
      have ht5 : W5.cell? ⟨w1.heap.size + 1, 0, none⟩ = some (.int .u32 t.1) := f5.cell (by rw [ct5]; exact t0) (fun h => h)
      have hx5 : W5.cell? ⟨w2.heap.size, 4, none⟩ = some (.int .i64 (c / 3 % 3)) := f5.cell (by rw [cx5]; exact x4) (fun h => h)
      have HC5 := Lib.hid (⟨hr5, ht5, hx5⟩ : _ ∧ _ ∧ _)
      clear hr5 ht5 hx5
      have hin := in_any n F5 (outS s 2 i t).1 3 p t W5 (H5.out.1.fr0 f5)
      rw [HE.out.1] at hin
      refine hin.mono ?_
      clear hin
      rintro e w6 ⟨rfl, hN6, hf6⟩
      obtain ⟨ci6, zi6, li6⟩ := keep hf6 (b := w1.heap.size) (by rw [hW5]; simp; omega) ni5
      obtain ⟨ct6, zt6, lt6⟩ := keep hf6 (b := w1.heap.size + 1) (by rw [hW5]; simp; omega) nt5
      obtain ⟨cx6, zx6, lx6⟩ := keep hf6 (b := w2.heap.size) (by rw [hW5]; simp; omega) nx5
      obtain ⟨cr6, zr6, lr6⟩ := keep hf6 (b := w5.heap.size) (by rw [hW5]; simp) nr5
      have HK6 := Lib.hid hf6
      have nb6 : ¬ F5 w6.heap.size := fun h => absurd (hN6.low _ h) (Nat.lt_irrefl _)
      have H6 := Lib.hid (⟨hN6, (H5.out.2.1.then0 f5).then (hf6.mono (fun q _ h => H5.out.2.2 q h))⟩ : _ ∧ Fr (fun b => w.heap.size ≤ b) w w6)
      clear hN6 hf6 f5
      unfold argA
      dsimp only
      go_wp2_with fail
      refine named fun W7 hW7 => ?_
      have f7 : Fr0 w6 W7 := by rw [hW7]; exact Fr.alloc _ _ _
      have hin := in_any n F5 s3 31 p t W7 (H6.out.1.fr0 f7)
      rw [HE.out.2.1] at hin
      refine hin.mono ?_
      clear hin
      rintro e w8 ⟨rfl, hN8, hf8⟩
      obtain ⟨ci8, zi8, li8⟩ := keep hf8 (b := w1.heap.size) (by rw [hW7]; simp; omega) ni5
      obtain ⟨ct8, zt8, lt8⟩ := keep hf8 (b := w1.heap.size + 1) (by rw [hW7]; simp; omega) nt5
      obtain ⟨cx8, zx8, lx8⟩ := keep hf8 (b := w2.heap.size) (by rw [hW7]; simp; omega) nx5
      obtain ⟨cr8, zr8, lr8⟩ := keep hf8 (b := w5.heap.size) (by rw [hW7]; simp; omega) nr5
      obtain ⟨cb8, zb8, lb8⟩ := keep hf8 (b := w6.heap.size) (by rw [hW7]; simp) nb6
      have HK8 := Lib.hid ((HK6.out.then0 f7).then hf8)
      have H8 := Lib.hid (⟨hN8, (H6.out.2.then0 f7).then (hf8.mono (fun q _ h => H5.out.2.2 q h))⟩ : _ ∧ Fr (fun b => w.heap.size ≤ b) w w8)
      clear hN8 hf8 f7
      unfold argA
      dsimp only
      have hq := eqI_self i.1 i.2
      go_wp2_with fail
      refine named fun W9 hW9 => ?_
      have f9 : Fr0 w8 W9 := by rw [hW9]; exact Fr.alloc _ _ _
      refine (all_good n F5 s31 31 W9 (H8.out.1.fr0 f9) HE.out.2.2.1).mono ?_
      rintro e wA ⟨v, l', rfl, hperm, hsort, hO, hfresh, hNA, hfA⟩
      obtain ⟨hst, has⟩ := HE.out.2.2.2.1 l' hperm hsort
      obtain ⟨r2, m, cp2, hv, hm, hrow⟩ : ∃ r2 m cp2, v = .slice r2 m cp2 ∧ l'.length = m ∧ (∀ (q : Nat) (d : Bd), l'[q]? = some d → ∃ g, r2 = some ⟨g, 0, none⟩) := by
        rcases hO.shape with ⟨h1, h2⟩ | ⟨g, cap, h1, _⟩
        · exact ⟨none, 0, 0, h1, by rw [h2]; rfl, fun q d hd => by rw [h2] at hd; simp at hd⟩
        · exact ⟨_, _, _, h1, rfl, fun _ _ _ => ⟨g, rfl⟩⟩
      rw [hv] at hO hfresh ⊢
      have hm9 : m ≤ 9223372036854775807 := by
        rcases hO.shape with ⟨h1, h2⟩ | ⟨g, cap, h1, h2, h3⟩
        · cases h1; omega
        · unfold maxLen at h3; cases h1; omega
      have hgF : ∀ g, r2 = some ⟨g, 0, none⟩ → ¬ F5 g := fun g hg h => by
        have h1 := hfresh g (by rw [hg]; rfl)
        have h2 := H5.out.1.low g h
        have h3 := HK8.out.size
        have h4 := f9.size
        have h5 : w5.heap.size ≤ W5.heap.size := by rw [hW5]; simp
        omega
      have HgF := Lib.hid hgF
      clear hgF
      obtain ⟨ciA, ziA, liA⟩ := keep hfA (b := w1.heap.size) (by rw [hW9]; simp; omega) ni5
      obtain ⟨ctA, ztA, ltA⟩ := keep hfA (b := w1.heap.size + 1) (by rw [hW9]; simp; omega) nt5
      obtain ⟨cxA, zxA, lxA⟩ := keep hfA (b := w2.heap.size) (by rw [hW9]; simp; omega) nx5
      obtain ⟨crA, zrA, lrA⟩ := keep hfA (b := w5.heap.size) (by rw [hW9]; simp; omega) nr5
      have KA := (HK8.out.then0 f9).then hfA
      have r1A : wA.cell? ⟨w5.heap.size, 1, none⟩ = some (.int .i64 p) := KA.cell HC5.out.1 nr5
      have t0A : wA.cell? ⟨w1.heap.size + 1, 0, none⟩ = some (.int .u32 t.1) := KA.cell HC5.out.2.1 nt5
      have x4A : wA.cell? ⟨w2.heap.size, 4, none⟩ = some (.int .i64 (c / 3 % 3)) := KA.cell HC5.out.2.2 nx5
      have HA2 := Lib.hid (⟨hNA, (H8.out.2.then0 f9).then (hfA.mono (fun q _ h => H5.out.2.2 q h)), hO, hst, has, hm, hrow, r1A, t0A, x4A⟩ : NatAt wA n F5 (onS s31 31) ∧ (Fr (fun b => w.heap.size ≤ b) w wA) ∧ Owns wA 46 7 encQ (.slice r2 m cp2) l' ∧ (∀ (j : Nat) (a b : Bd), l'[j]? = some a → l'[j + 1]? = some b → a.port < b.port) ∧ (∀ (j : Nat) (d : Bd), l'[j]? = some d → d.port = p → d.asked = false) ∧ l'.length = m ∧ (∀ (q : Nat) (d : Bd), l'[q]? = some d → ∃ g, r2 = some ⟨g, 0, none⟩) ∧ wA.cell? ⟨w5.heap.size, 1, none⟩ = some (.int .i64 p) ∧ wA.cell? ⟨w1.heap.size + 1, 0, none⟩ = some (.int .u32 t.1) ∧ wA.cell? ⟨w2.heap.size, 4, none⟩ = some (.int .i64 (c / 3 % 3)))
      have HR5 := Lib.hid (⟨nr5, nt5, nx5⟩ : _ ∧ _ ∧ _)
      have HG9 : ∀ q, F5 q → w.heap.size ≤ q := H5.out.2.2
      have HGq := Lib.hid HG9
      have hrlt : w.heap.size ≤ w5.heap.size := H5.out.2.1.size
      clear KA hNA hfA hO hst has hm hrow r1A t0A x4A hperm hsort hfresh hv f9 HG9
      clear ciA ziA ctA ztA cxA zxA crA zrA ci8 zi8 ct8 zt8 cx8 zx8 cr8 zr8 cb8 zb8 ci6 zi6 ct6 zt6 cx6 zx6 cr6 zr6 ci5 zi5 ct5 zt5 cx5 zx5 hW9 hW7 hW5 ni5 nt5 nx5 nr5 nb6 x0 x1 x2 x4 t0 t1 i0 i1
      go_wp2_with fail
      go_loopw [20] (fun k wr => ∃ q : Nat, k = .int .i64 ((q : Int) + 1) ∧ q ≤ m ∧ Hid (Fr0 wA wr)) (fun k _ => m + 1 - (intOf k).toNat)
      case atStart => exact ⟨0, rfl, Nat.zero_le _, Lib.hid (Fr.refl _ _)⟩
      case round =>
        obtain ⟨q, rfl, hqm, HF⟩ := hrel
        by_cases hlt : q + 1 < m
        · obtain ⟨hNA, hGA, hO, hst, has, hm, hrow, _⟩ := HA2.out
          obtain ⟨a, ha⟩ : ∃ a, l'[q]? = some a := ⟨l'[q]'(by omega), List.getElem?_eq_getElem (by omega)⟩
          obtain ⟨b, hb⟩ : ∃ b, l'[q + 1]? = some b := ⟨l'[q + 1]'(by omega), List.getElem?_eq_getElem (by omega)⟩
          obtain ⟨g, hr2⟩ := hrow q a ha
          have hOr := hO.fr HF.out (fun _ _ h => h)
          rw [hr2] at hOr
          have k1 : wr.cell? ⟨g, q * 7 + 4, none⟩ = some (.int .i64 a.port) := by have := Owns.cellAt (enc := encQ) (k := 7) (fun _ => rfl) hOr ha (j := 4) (by decide); simpa [encQ] using this
          have k2 : wr.cell? ⟨g, (q + 1) * 7 + 4, none⟩ = some (.int .i64 b.port) := by have := Owns.cellAt (enc := encQ) (k := 7) (fun _ => rfl) hOr hb (j := 4) (by decide); simpa [encQ] using this
          have hd := hst q a b ha hb
          have hd' : decide (b.port ≤ a.port) = false := by simp; omega
          have hltz : (q : Int) + 1 < (m : Int) := by omega
          have HR2 := Lib.hid hr2
          clear hNA hGA hO hst has hm hrow hOr ha hb
          subst hr2
          go_wp2_with (go_quiet (fail))
          go_roundw
          case rel => exact ⟨q + 1, by go_num, by omega, Lib.hid (HF.out.then (Fr.drewN _ _ _))⟩
          case measure => simp [intOf]; omega
        · have hltz : ¬ (q : Int) + 1 < (m : Int) := by omega
          have hin := in_any n F5 (onS s31 31) 31 p (77, 1) wr (HA2.out.1.fr0 HF.out)
          rw [HE.out.2.2.2.2.1] at hin
          have r1r : wr.cell? ⟨w5.heap.size, 1, none⟩ = some (.int .i64 p) := HF.out.cell HA2.out.2.2.2.2.2.2.2.1 (fun h => h)
          have HI77 := Lib.hid hin
          clear hin
          go_wp2_with fail
          refine HI77.out.mono ?_
          rintro e wB ⟨rfl, hNB, hfB⟩
          obtain ⟨y1, y2⟩ := y
          have hrB : wB.cell? ⟨w5.heap.size, 1, none⟩ = some (.int .i64 p) := hfB.cell r1r HR5.out.1
          have htB : wB.cell? ⟨w1.heap.size + 1, 0, none⟩ = some (.int .u32 t.1) := hfB.cell (HF.out.cell HA2.out.2.2.2.2.2.2.2.2.1 (fun h => h)) HR5.out.2.1
          have hxB : wB.cell? ⟨w2.heap.size, 4, none⟩ = some (.int .i64 (c / 3 % 3)) := hfB.cell (HF.out.cell HA2.out.2.2.2.2.2.2.2.2.2 (fun h => h)) HR5.out.2.2
          have hOB : Owns wB 46 7 encQ (.slice r2 m cp2) l' := (HA2.out.2.2.1.fr HF.out (fun _ _ h => h)).fr hfB (fun g' hg' h => by
            rcases (HA2.out.2.2.1).shape with ⟨h1, _⟩ | ⟨g, cap, h1, _⟩
            · rw [h1] at hg'; cases hg'
            · rw [h1] at hg'; cases hg'; cases h1; exact HgF.out g rfl h)
          have HB2 := Lib.hid (⟨HA2.out.2.1.then (HF.out.of0.then (hfB.mono (fun q _ h => HGq.out q h))), hOB, HA2.out.2.2.2.2.1, HA2.out.2.2.2.2.2.1, HA2.out.2.2.2.2.2.2.1, hrB, htB, hxB⟩ : (Fr (fun b => w.heap.size ≤ b) w wB) ∧ Owns wB 46 7 encQ (.slice r2 m cp2) l' ∧ (∀ (j : Nat) (d : Bd), l'[j]? = some d → d.port = p → d.asked = false) ∧ l'.length = m ∧ (∀ (q : Nat) (d : Bd), l'[q]? = some d → ∃ g, r2 = some ⟨g, 0, none⟩) ∧ _ ∧ _ ∧ _)
          have ltB : w1.heap.size + 1 < wB.heap.size := cell_lt htB
          have lrB : w5.heap.size < wB.heap.size := cell_lt hrB
          have lxB : w2.heap.size < wB.heap.size := cell_lt hxB
          clear hNB hfB hOB r1r HI77
          unfold argA
          dsimp only
          go_wp2_with fail
          go_loopw [23, 25] (fun z k wr => ∃ q : Nat, z = .bool false ∧ k = .int .i64 (q : Int) ∧ q ≤ m ∧ Hid (Fr0 wB wr)) (fun _ k _ => m - (intOf k).toNat)
          case atStart => exact ⟨0, rfl, rfl, Nat.zero_le _, Lib.hid (Fr.alloc _ _ _)⟩
          case round =>
            obtain ⟨q, rfl, rfl, hqm, HFq⟩ := hrel
            by_cases hlt : q < m
            · obtain ⟨_, hO, has, hm, hrow, hr1, _⟩ := HB2.out
              obtain ⟨d, hd⟩ : ∃ d, l'[q]? = some d := ⟨l'[q]'(by omega), List.getElem?_eq_getElem (by omega)⟩
              obtain ⟨g, hr2⟩ := hrow q d hd
              have hOr := hO.fr HFq.out (fun _ _ h => h)
              rw [hr2] at hOr
              have k1 : wr.cell? ⟨g, q * 7 + 4, none⟩ = some (.int .i64 d.port) := by have := Owns.cellAt (enc := encQ) (k := 7) (fun _ => rfl) hOr hd (j := 4) (by decide); simpa [encQ] using this
              have k2 : wr.cell? ⟨g, q * 7 + 6, none⟩ = some (.bool d.asked) := by have := Owns.cellAt (enc := encQ) (k := 7) (fun _ => rfl) hOr hd (j := 6) (by decide); simpa [encQ] using this
              have k3 := HFq.out.cell hr1 (fun h => h)
              have hlr : w5.heap.size < wr.heap.size := cell_lt k3
              have hlg : g < wr.heap.size := cell_lt k1
              have hltz : (q : Int) < (m : Int) := by omega
              have hasd := has q d hd
              clear hO has hm hrow hOr hd hr1
              subst hr2
              by_cases hp : d.port = p
              · have e1 : (d.port == p) = true := by simp [hp]
                rw [hasd hp] at k2
                clear hp hasd
                go_wp2_with (go_quiet (fail))
                go_roundw
                case rel => exact ⟨q + 1, rfl, by go_num, by omega, Lib.hid (HFq.out.then (Fr.drewN _ _ _))⟩
                case measure => simp [intOf]; omega
              · have e1 : (d.port == p) = false := by simp [hp]
                clear hp hasd
                go_wp2_with (go_quiet (fail))
                go_roundw
                case rel => exact ⟨q + 1, rfl, by go_num, by omega, Lib.hid (HFq.out.then (Fr.drewN _ _ _))⟩
                case measure => simp [intOf]; omega
            · have hltz : ¬ (q : Int) < (m : Int) := by omega
              have ht := HFq.out.cell HB2.out.2.2.2.2.2.2.1 (fun h => h)
              have hlt2 : w1.heap.size + 1 < wr.heap.size := cell_lt ht
              have HW := Lib.hid HFq.out
              generalize hwr : wr = wq at *
              clear hwr
              go_wp2_with fail
              go_loopw [24, 26] (fun z k wr => ∃ q : Nat, z = .bool (sentB t xs q) ∧ k = .int .i64 (q : Int) ∧ q ≤ len ∧ q ≤ 60 ∧ Hid (Fr0 wB wr)) (fun _ k _ => len - (intOf k).toNat)
              case atStart => exact ⟨0, by simp [sentB]; rfl, rfl, Nat.zero_le _, Nat.zero_le _, HW⟩
              case round =>
                obtain ⟨q, rfl, rfl, hq1, hq2, HFz⟩ := hrel
                by_cases hlt : q < len ∧ q < 60
                · obtain ⟨hl1, hl2⟩ := hlt
                  obtain ⟨d, hd⟩ : ∃ d, xs[q]? = some d := ⟨xs[q]'(by rw [HL.out]; exact hl1), List.getElem?_eq_getElem (by rw [HL.out]; exact hl1)⟩
                  obtain ⟨b, off, hr, hbl, hcs⟩ := HX.out.resolve_left (fun h => by rw [h] at hd; simp at hd)
                  have d4 : wr.cell? ⟨b, off + q * 8 + 4, none⟩ = some (.int .u32 d.b.1) := HFz.out.cell (HB2.out.1.cell (hcs q d hd 4 _ rfl) (fun h => by simp at h; omega)) (fun h => h)
                  have hlb : b < wr.heap.size := cell_lt d4
                  have hsu := sentB_succ t xs q d hd
                  have HSU := Lib.hid hsu
                  clear hsu hcs hd
                  subst hr
                  cases hs : sentB t xs q
                  · by_cases h77 : d.b.1 = 77
                    · have e1 : (d.b.1 == 77) = true := by simp [h77]
                      have HQ := Lib.hid (show sentB t xs (q + 1) = true by rw [HSU.out, hs, h77]; rfl)
                      clear h77 hs
                      go_wp2_with fail
                      go_roundw
                      case rel => exact ⟨q + 1, by rw [HQ.out], by go_num, by omega, by omega, HFz⟩
                      case measure => simp [intOf]; omega
                    · have e1 : (d.b.1 == 77) = false := by simp [h77]
                      have HQ := Lib.hid (show sentB t xs (q + 1) = false by rw [HSU.out, hs]; simp [h77])
                      clear h77 hs
                      go_wp2_with fail
                      go_roundw
                      case rel => exact ⟨q + 1, by rw [HQ.out], by go_num, by omega, by omega, HFz⟩
                      case measure => simp [intOf]; omega
                  · have HQ := Lib.hid (show sentB t xs (q + 1) = true by rw [HSU.out, hs]; rfl)
                    clear hs
                    go_wp2_with fail
                    go_roundw
                    case rel => exact ⟨q + 1, by rw [HQ.out], by go_num, by omega, by omega, HFz⟩
                    case measure => simp [intOf]; omega
                · have hx4 := HFz.out.cell HB2.out.2.2.2.2.2.2.2 (fun h => h)
                  have hlx : w2.heap.size < wr.heap.size := cell_lt hx4
                  obtain ⟨f9, f10⟩ := HE.out.2.2.2.2.2
                  have hqm : q = min len 60 := by omega
                  have hgf := HB2.out.1.then0 HFz.out
                  have hn : sentB t xs q = false → (k = 0 ↔ c / 3 % 3 = 0) := fun h => f10 (by rw [← hqm, h]; simp)
                  have HGF := Lib.hid (⟨hgf, f9, hn⟩ : _ ∧ _ ∧ _)
                  clear hgf f9 f10 hn hqm
                  have fin : ∀ W, W = wr → Below w.heap.size w W := fun W e => by rw [e]; exact HGF.out.1.belowN (Nat.le_refl _) (fun b h => h)
                  have HFI := Lib.hid fin
                  clear fin
                  by_cases hl1 : q < len
                  all_goals
                    have hl3 : ¬ (q < len ∧ q < 60) := hlt
                    clear hlt
                    cases hs : sentB t xs q
                    · have h10 := HGF.out.2.2 hs
                      have h9 := HGF.out.2.1
                      clear hs
                      by_cases hz : c / 3 % 3 = 0
                      · obtain rfl := h10.2 hz
                        have e1 : (c / 3 % 3 == 0) = true := by simp [hz]
                        clear h10 h9 hz
                        first | (have hl2 : ¬ q < 60 := fun h => hl3 ⟨hl1, h⟩) | skip
                        clear hl3
                        go_wp2_with fail
                        go_ret
                        exact ⟨rfl, HFI.out _ rfl⟩
                      · obtain rfl : k = 8 := h9.resolve_left (fun h => hz (h10.1 h))
                        have e1 : (c / 3 % 3 == 0) = false := by simp [hz]
                        clear h10 h9 hz
                        first | (have hl2 : ¬ q < 60 := fun h => hl3 ⟨hl1, h⟩) | skip
                        clear hl3
                        go_wp2_with fail
                        go_ret
                        exact ⟨rfl, HFI.out _ rfl⟩
                    · clear hs
                      first | (have hl2 : ¬ q < 60 := fun h => hl3 ⟨hl1, h⟩) | skip
                      clear hl3
                      go_wp2_with fail
                      go_ret
                      exact ⟨rfl, HFI.out _ rfl⟩
    · have hcd := out_code s 2 i t
      obtain ⟨z, hz⟩ : ∃ z, (outS s 2 i t).2.2 = z := ⟨_, rfl⟩
      rw [hz] at hout hcode hcd
      obtain ⟨y, hy⟩ : ∃ y, (outS s 2 i t).2.1 = y := ⟨_, rfl⟩
      rw [hy] at hout
      obtain ⟨y1, y2⟩ := y
      have HO := Lib.hid hout
      have HG := Lib.hid (⟨hGc, hlow'⟩ : _ ∧ _)
      clear hout hcut hF hN hI hx hlow hIc hTc hXc hGc hlow' hsent hz hy
      rcases hcd with rfl | rfl | rfl
      · exact absurd rfl hcode
      all_goals
        clear hcode
        go_wp2_with fail
        refine HO.out.mono ?_
        rintro e w5 ⟨rfl, hN5, hf5⟩
        have HZ := Lib.hid (HG.out.1.then (hf5.mono (fun q _ h => HG.out.2 q h)))
        clear hN5 hf5
        unfold argA
        dsimp only
        go_wp2_with fail
        go_ret
        exact ⟨rfl, (HZ.out.then0 (Fr.alloc _ _ _)).belowN (Nat.le_refl _) (fun b h => h)⟩

end Go.Proofs.Ytkdbjeegiiihaaa
