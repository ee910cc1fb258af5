/-
  What comes back: the plain law's last parts. Conditions: the ones each theorem names.
-/
import Derived.Test.YtkdbjeegiiihaaaPB
set_option linter.unusedVariables false
set_option linter.unusedSimpArgs false
namespace Go.Proofs.Ytkdbjeegiiihaaa
open Go.RowKit Go.Shelf

theorem port_inj {x : Bx} {l : List Bd} (h : PortsOk x l) {a b : Bd} (ha : a ∈ l) (hb : b ∈ l) (hp : a.port = b.port) : a = b := by
  have h1 := find_port h ha
  have h2 := find_port h hb
  rw [hp] at h1
  exact Option.some.inj (h1.symm.trans h2)
theorem all_strict {x : Bx} {l l' : List Bd} (h : PortsOk x l) (hp : l'.Perm l) (hs : l'.Pairwise (fun a b => a.port ≤ b.port)) (j : Nat) (a b : Bd) (ha : l'[j]? = some a) (hb : l'[j + 1]? = some b) : a.port < b.port := by
  obtain ⟨hj, rfl⟩ := List.getElem?_eq_some_iff.1 ha
  obtain ⟨hj1, rfl⟩ := List.getElem?_eq_some_iff.1 hb
  have h1 := List.pairwise_iff_getElem.1 hs j (j + 1) hj hj1 (by omega)
  have hnd : (l'.map Bd.port).Nodup := (hp.map Bd.port).nodup_iff.2 h.1
  have h2 := List.pairwise_iff_getElem.1 (List.nodup_iff_pairwise_ne.1 hnd) j (j + 1) (by simpa using hj) (by simpa using hj1) (by omega)
  simp at h2
  omega
theorem all_asked {x : Bx} {l l' : List Bd} (h : PortsOk x l) (hp : l'.Perm l) {b : Bd} (hb : b ∈ l) (ha : b.asked = false) (j : Nat) (d : Bd) (hd : l'[j]? = some d) (he : d.port = b.port) : d.asked = false := by
  have hdl : d ∈ l := hp.mem_iff.1 (List.mem_of_getElem? hd)
  rw [port_inj h hdl hb he]; exact ha

/-- All that the statement asks, behind what went out. -/
theorem back_plain {a0 : Ad} {sent : Prop} {s : St} {c : Int} (h : BInv a0 sent s) (hx : s.x = boxL c) (to : Ad) (ht : to.1 = 77 → sent) (hc : (outS s 2 a0 to).2.2 = 0) :
    ∃ p s3 s31 s32, (outS s 2 a0 to).2.1 = (3405803777, p) ∧ 40000 ≤ p ∧ p ≤ 40009 ∧ inS (outS s 2 a0 to).1 3 p to = (s3, a0, 0) ∧ inS s3 31 p to = (s31, a0, 0) ∧
      onOk s31 31 = true ∧ (∀ l' : List Bd, l'.Perm (onS s31 31).l → l'.Pairwise (fun x y => x.port ≤ y.port) → (∀ (j : Nat) (a b : Bd), l'[j]? = some a → l'[j + 1]? = some b → a.port < b.port) ∧ ∀ (j : Nat) (d : Bd), l'[j]? = some d → d.port = p → d.asked = false) ∧
      ∃ y k, inS (onS s31 31) 31 p (77, 1) = (s32, y, k) ∧ (k = 0 ∨ k = 8) ∧ (¬ sent → (k = 0 ↔ c / 3 % 3 = 0)) := by
  obtain ⟨hmt, b, hb, hbi, hba, hbu, hbt, hbs, hr, hp, hx2, hn2⟩ := out_hit h (by rw [hx]; rfl) to ht hc
  have hp' : PortsOk (outS s 2 a0 to).1.x (outS s 2 a0 to).1.l := by rw [hx2]; exact hp
  obtain ⟨h3, m3⟩ := in_hit (fr := to) (now := 3) hp' hb (by omega) (by omega) (by omega) hmt
  rw [lets_to hbt] at h3
  simp only [if_true, hbi] at h3
  have hp3 : PortsOk (onS (outS s 2 a0 to).1 3).x (onS (outS s 2 a0 to).1 3).l := hp'.filter _
  obtain ⟨h31, m31⟩ := in_hit (s := onS (outS s 2 a0 to).1 3) (fr := to) (now := 31) hp3 m3 (by show (3 : Int) ≤ 31; decide) (by omega) (by omega) hmt
  rw [lets_to hbt] at h31
  simp only [if_true, hbi] at h31
  have hp31 : PortsOk (onS (onS (outS s 2 a0 to).1 3) 31).x (onS (onS (outS s 2 a0 to).1 3) 31).l := hp3.filter _
  have hp32 : PortsOk (onS (onS (onS (outS s 2 a0 to).1 3) 31) 31).x (onS (onS (onS (outS s 2 a0 to).1 3) 31) 31).l := hp31.filter _
  have m32 : b ∈ (onS (onS (onS (outS s 2 a0 to).1 3) 31) 31).l := List.mem_filter.2 ⟨m31, by simp; omega⟩
  obtain ⟨h77, _⟩ := in_hit (s := onS (onS (onS (outS s 2 a0 to).1 3) 31) 31) (fr := (77, 1)) (now := 31) hp32 m32 (by show (31 : Int) ≤ 31; decide) (by omega) (by omega) (by decide)
  have hrange := hp.2 b hb
  rw [hx] at hrange hr
  have hfil : (onS (onS (onS (outS s 2 a0 to).1 3) 31) 31).x.fil = c / 3 % 3 := by
    show (outS s 2 a0 to).1.x.fil = _
    rw [hx2, hx]; rfl
  refine ⟨b.port, _, _, _, hr, hrange.1, hrange.2, h3, h31, by simp [onOk, onS], fun l' hperm hs => ⟨all_strict hp32 hperm hs, all_asked hp32 hperm m32 hba⟩, _, _, h77, ?_, fun hns => ?_⟩
  · split
    · exact .inl rfl
    · exact .inr rfl
  · rw [lets_no (fun y hy h7 => hns (hbs y hy h7)) hba, hfil]
    by_cases hz : c / 3 % 3 = 0 <;> simp [hz]

end Go.Proofs.Ytkdbjeegiiihaaa
