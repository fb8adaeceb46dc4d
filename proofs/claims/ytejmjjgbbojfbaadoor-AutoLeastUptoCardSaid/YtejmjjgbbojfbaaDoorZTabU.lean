/- auto, plain: a least table numbered in the order of first meeting is the only one. No program occurs here. -/
import Derived.ProofKit
namespace Go.Proofs.YtejmjjgbbojfbaaDoor
set_option linter.unusedVariables false

/-- A table: how many states, which accept, where each goes by each byte. -/
structure Tab where
  n : Nat
  acc : Nat → Bool
  nx : Nat → Nat → Nat
def Tab.run (T : Tab) : Nat → List Nat → Nat
  | s, [] => s
  | s, c :: r => T.run (T.nx s c) r
theorem Tab.run_app (T : Tab) : ∀ (u v : List Nat) (s : Nat), T.run s (u ++ v) = T.run (T.run s u) v
  | [], v, s => rfl
  | c :: r, v, s => T.run_app r v (T.nx s c)
/-- How many states are met ahead of place p. -/
def Tab.met (T : Tab) : Nat → Nat
  | 0 => 1
  | p + 1 => if T.nx (p / 256) (p % 256) = T.met p then T.met p + 1 else T.met p
theorem Tab.met_le (T : Tab) : ∀ p, T.met p ≤ T.met (p + 1) := fun p => by rw [Tab.met]; split <;> omega
theorem Tab.met_mono (T : Tab) {p q : Nat} (h : p ≤ q) : T.met p ≤ T.met q := by
  induction h with
  | refl => exact Nat.le_refl _
  | step _ ih => exact Nat.le_trans ih (T.met_le _)
def Bytes (w : List Nat) : Prop := ∀ c ∈ w, c < 256
/-- The least table of a language, numbered as its states are met. -/
structure Canon (T : Tab) (L : List Nat → Bool) : Prop where
  rng : ∀ s c, s < T.n → c < 256 → T.nx s c < T.n
  lang : ∀ w, Bytes w → T.acc (T.run 0 w) = L w
  num : ∀ p, p < 256 * T.n → T.nx (p / 256) (p % 256) ≤ T.met p
  row : ∀ s, s < T.n → s < T.met (256 * s)
  all : T.met (256 * T.n) = T.n
  apart : ∀ s t, s < T.n → t < T.n → s ≠ t → ∃ w, Bytes w ∧ T.acc (T.run s w) ≠ T.acc (T.run t w)
theorem Bytes.append {u v : List Nat} (hu : Bytes u) (hv : Bytes v) : Bytes (u ++ v) := fun c hc => by
  rcases List.mem_append.1 hc with h | h
  · exact hu c h
  · exact hv c h
theorem Canon.same {T : Tab} {L : List Nat → Bool} (h : Canon T L) {s t : Nat} (hs : s < T.n) (ht : t < T.n) (he : ∀ w, Bytes w → T.acc (T.run s w) = T.acc (T.run t w)) : s = t := by
  by_cases e : s = t
  · exact e
  · obtain ⟨w, hw, h9⟩ := h.apart s t hs ht e
    exact absurd (he w hw) h9
theorem Canon.met_n {T : Tab} {L : List Nat → Bool} (h : Canon T L) {p : Nat} (hp : p ≤ 256 * T.n) : T.met p ≤ T.n := Nat.le_trans (T.met_mono hp) (Nat.le_of_eq h.all)
/-- Where a word leads that is led on: the residual. -/
theorem Canon.step_eq {T T2 : Tab} {L : List Nat → Bool} (h : Canon T L) (h2 : Canon T2 L) {s c t : Nat} {u v : List Nat} (hu : Bytes u) (hv : Bytes v) (hc : c < 256) (hs2 : s < T2.n) (ht : t < T2.n)
    (e1 : T.run 0 u = s) (e2 : T2.run 0 u = s) (f1 : T.run 0 v = t) (f2 : T2.run 0 v = t) (hst : T.nx s c = t) : T2.nx s c = t := by
  refine h2.same (h2.rng s c hs2 hc) ht fun w hw => ?_
  have hcs : Bytes [c] := fun x hx => by rw [List.mem_singleton.1 hx]; exact hc
  have a1 := h2.lang (u ++ ([c] ++ w)) (hu.append (hcs.append hw))
  have a2 := h2.lang (v ++ w) (hv.append hw)
  have b1 := h.lang (u ++ ([c] ++ w)) (hu.append (hcs.append hw))
  have b2 := h.lang (v ++ w) (hv.append hw)
  rw [Tab.run_app, e2] at a1
  rw [Tab.run_app, f2] at a2
  rw [Tab.run_app, e1] at b1
  rw [Tab.run_app, f1] at b2
  have a1' : T2.acc (T2.run (T2.nx s c) w) = L (u ++ ([c] ++ w)) := a1
  have b1' : T.acc (T.run (T.nx s c) w) = L (u ++ ([c] ++ w)) := b1
  rw [a1', a2, ← b1', ← b2, hst]
/-- What two tables have in common up to place p. -/
structure Alike (T T2 : Tab) (p : Nat) : Prop where
  met : T.met p = T2.met p
  nx : ∀ q, q < p → T.nx (q / 256) (q % 256) = T2.nx (q / 256) (q % 256)
  word : ∀ t, t < T.met p → ∃ u, Bytes u ∧ T.run 0 u = t ∧ T2.run 0 u = t
theorem alike {T T2 : Tab} {L : List Nat → Bool} (h : Canon T L) (h2 : Canon T2 L) : ∀ p, p ≤ 256 * T.n → p ≤ 256 * T2.n → Alike T T2 p
  | 0, _, _ => ⟨rfl, fun q hq => absurd hq (Nat.not_lt_zero _), fun t ht => ⟨[], fun c hc => (by cases hc), by
      have : t < 1 := ht
      obtain rfl : t = 0 := by omega
      exact ⟨rfl, rfl⟩⟩⟩
  | p + 1, hp, hp2 => by
    have ih := alike h h2 p (by omega) (by omega)
    obtain ⟨s, hs⟩ : ∃ s, p / 256 = s := ⟨_, rfl⟩
    obtain ⟨c, hc⟩ : ∃ c, p % 256 = c := ⟨_, rfl⟩
    have hsn : s < T.n := by omega
    have hsn2 : s < T2.n := by omega
    have hcb : c < 256 := by omega
    have hsm : s < T.met p := Nat.lt_of_lt_of_le (h.row s hsn) (T.met_mono (by omega))
    obtain ⟨u, hu, e1, e2⟩ := ih.word s hsm
    have n1 := h.num p (by omega)
    have n2 := h2.num p (by omega)
    rw [hs, hc] at n1 n2
    have hm1 := h.met_n (p := p) (by omega)
    have hm2 := h2.met_n (p := p) (by omega)
    have hnx : T.nx s c = T2.nx s c := by
      by_cases g1 : T.nx s c < T.met p
      · obtain ⟨v, hv, f1, f2⟩ := ih.word _ g1
        exact (h.step_eq h2 hu hv hcb hsn2 (by have := ih.met; omega) e1 e2 f1 f2 rfl).symm
      · by_cases g2 : T2.nx s c < T2.met p
        · obtain ⟨v, hv, f1, f2⟩ := ih.word _ (by rw [ih.met]; exact g2)
          exact h2.step_eq h hu hv hcb hsn (by have := ih.met; omega) e2 e1 f2 f1 rfl
        · have := ih.met; omega
    have hmet : T.met (p + 1) = T2.met (p + 1) := by rw [Tab.met, Tab.met, hs, hc, hnx, ih.met]
    refine ⟨hmet, fun q hq => ?_, fun t ht => ?_⟩
    · by_cases e : q = p
      · subst e; rw [hs, hc]; exact hnx
      · exact ih.nx q (by omega)
    · rw [Tab.met, hs, hc] at ht
      by_cases g : t < T.met p
      · exact ih.word t g
      · have hcs : Bytes [c] := fun x hx => by rw [List.mem_singleton.1 hx]; exact hcb
        split at ht
        · next he =>
          refine ⟨u ++ [c], hu.append hcs, ?_, ?_⟩
          · rw [Tab.run_app, e1]; show T.nx s c = t; omega
          · rw [Tab.run_app, e2]; show T2.nx s c = t; omega
        · omega
/-- There is but one. -/
theorem canon_one {T T2 : Tab} {L : List Nat → Bool} (h : Canon T L) (h2 : Canon T2 L) : T.n = T2.n ∧ (∀ s, s < T.n → T.acc s = T2.acc s) ∧ ∀ s c, s < T.n → c < 256 → T.nx s c = T2.nx s c := by
  have hn : T.n = T2.n := by
    rcases Nat.lt_trichotomy T.n T2.n with g | g | g
    · have ha := (alike h h2 (256 * T.n) (Nat.le_refl _) (by omega)).met
      have := h2.row T.n g
      have := h.all
      omega
    · exact g
    · have ha := (alike h h2 (256 * T2.n) (by omega) (Nat.le_refl _)).met
      have := h.row T2.n g
      have := h2.all
      omega
  have ha := alike h h2 (256 * T.n) (Nat.le_refl _) (by omega)
  refine ⟨hn, fun s hs => ?_, fun s c hs hc => ?_⟩
  · obtain ⟨u, hu, e1, e2⟩ := ha.word s (by rw [h.all]; exact hs)
    have a1 := h.lang u hu
    have a2 := h2.lang u hu
    rw [e1] at a1
    rw [e2] at a2
    rw [a1, a2]
  · have := ha.nx (256 * s + c) (by omega)
    rwa [show (256 * s + c) / 256 = s by omega, show (256 * s + c) % 256 = c by omega] at this
end Go.Proofs.YtejmjjgbbojfbaaDoor
