/- auto, plain: states parted again and again; the graph of the classes. No program occurs here. -/
import Derived.Test.YtejmjjgbbojfbaaDoorZG1
namespace Go.Proofs.YtejmjjgbbojfbaaDoor
set_option linter.unusedVariables false

/-- An injective map of [0, m) into itself is onto. -/
theorem inj_onto : ∀ (m : Nat) (f : Nat → Nat), (∀ i, i < m → f i < m) → (∀ i j, i < m → j < m → f i = f j → i = j) → ∀ y, y < m → ∃ i, i < m ∧ f i = y
  | 0, f, _, _, y, hy => absurd hy (Nat.not_lt_zero _)
  | m + 1, f, hr, hi, y, hy => by
    by_cases hm : f m = m
    · by_cases e : y = m
      · exact ⟨m, by omega, by rw [hm, e]⟩
      · obtain ⟨i, h1, h2⟩ := inj_onto m f (fun i h => by
          have h1 := hr i (by omega)
          have h2 : f i ≠ m := fun e9 => by
            have := hi i m (by omega) (by omega) (by rw [e9, hm])
            omega
          omega) (fun i j h1 h2 => hi i j (by omega) (by omega)) y (by omega)
        exact ⟨i, by omega, h2⟩
    · -- g sends what f sends to m to f m instead
      have hfm : f m < m := by have := hr m (by omega); omega
      obtain ⟨i, h1, h2⟩ := inj_onto m (fun i => if f i = m then f m else f i) (fun i h => by
        show (if f i = m then f m else f i) < m
        split
        · exact hfm
        · have := hr i (by omega); omega) (fun i j h1 h2 h3 => by
        have h3 : (if f i = m then f m else f i) = (if f j = m then f m else f j) := h3
        by_cases e1 : f i = m
        · by_cases e2 : f j = m
          · exact hi i j (by omega) (by omega) (by rw [e1, e2])
          · rw [if_pos e1, if_neg e2] at h3
            have := hi m j (by omega) (by omega) h3
            omega
        · by_cases e2 : f j = m
          · rw [if_neg e1, if_pos e2] at h3
            have := hi i m (by omega) (by omega) h3
            omega
          · rw [if_neg e1, if_neg e2] at h3
            exact hi i j (by omega) (by omega) h3) (if y = m then f m else y) (by split <;> omega)
      have h2 : (if f i = m then f m else f i) = (if y = m then f m else y) := h2
      by_cases e1 : f i = m
      · rw [if_pos e1] at h2
        by_cases e2 : y = m
        · exact ⟨i, by omega, by rw [e1, e2]⟩
        · rw [if_neg e2] at h2
          exact ⟨m, by omega, h2⟩
      · rw [if_neg e1] at h2
        by_cases e2 : y = m
        · rw [if_pos e2] at h2
          have := hi i m (by omega) (by omega) h2
          omega
        · rw [if_neg e2] at h2
          exact ⟨i, by omega, h2⟩
/-- A finer parting into as many classes is the same. -/
theorem fine_same {n m : Nat} {f g : Nat → Nat} (hf : ∀ s, s < n → f s < m) (hg : ∀ s, s < n → g s < m) (hgo : ∀ j, j < m → ∃ s, s < n ∧ g s = j) (hfg : ∀ s t, s < n → t < n → f s = f t → g s = g t) : ∀ s t, s < n → t < n → g s = g t → f s = f t := by
  have hrep : ∃ r : Nat → Nat, ∀ j, j < m → r j < n ∧ g (r j) = j := by
    refine ⟨fun j => if h : j < m then Classical.choose (hgo j h) else 0, fun j h => ?_⟩
    simp only [dif_pos h]
    exact Classical.choose_spec (hgo j h)
  obtain ⟨r, hr⟩ := hrep
  have honto := inj_onto m (fun j => f (r j)) (fun j h => hf _ (hr j h).1) (fun i j hi hj e => by
    have := hfg _ _ (hr i hi).1 (hr j hj).1 e
    rwa [(hr i hi).2, (hr j hj).2] at this)
  have key : ∀ s, s < n → f s = f (r (g s)) := fun s hs => by
    obtain ⟨j, hj, e⟩ := honto (f s) (hf s hs)
    have e : f (r j) = f s := e
    have h9 := hfg _ _ (hr j hj).1 hs e
    rw [(hr j hj).2] at h9
    rw [← h9, e]
  intro s t hs ht e
  rw [key s hs, key t ht, e]
/-- Two states from which the same words are accepted. -/
def Tab.Eq (T : Tab) (s t : Nat) : Prop := ∀ w, Bytes w → T.acc (T.run s w) = T.acc (T.run t w)
/-- A parting that says no more than the words, and that no byte parts further. -/
structure Fix (T : Tab) (cl : Nat → Nat) : Prop where
  acc : ∀ s t, s < T.n → t < T.n → cl s = cl t → T.acc s = T.acc t
  nx : ∀ s t c, s < T.n → t < T.n → c < 256 → cl s = cl t → cl (T.nx s c) = cl (T.nx t c)
  words : ∀ s t, s < T.n → t < T.n → T.Eq s t → cl s = cl t
theorem Fix.eq {T : Tab} {cl : Nat → Nat} (h : Fix T cl) (hr : ∀ s c, s < T.n → c < 256 → T.nx s c < T.n) : ∀ s t, s < T.n → t < T.n → (cl s = cl t ↔ T.Eq s t) := fun s t hs ht => by
  refine ⟨fun e w hw => ?_, h.words s t hs ht⟩
  have : ∀ (w : List Nat) (s t : Nat), Bytes w → s < T.n → t < T.n → cl s = cl t → T.acc (T.run s w) = T.acc (T.run t w) := by
    intro w
    induction w with
    | nil => intro s t _ hs ht e; exact h.acc s t hs ht e
    | cons c r ih =>
      intro s t hw hs ht e
      have hc := hw c (List.mem_cons_self ..)
      exact ih _ _ (fun x hx => hw x (List.mem_cons_of_mem _ hx)) (hr s c hs hc) (hr t c ht hc) (h.nx s t c hs ht hc e)
  exact this w s t hw hs ht e
/-- One step of the parting. -/
def Finer (T : Tab) (f g : Nat → Nat) : Prop := ∀ s t, s < T.n → t < T.n → (f s = f t ↔ g s = g t ∧ ∀ c, c < 256 → g (T.nx s c) = g (T.nx t c))
/-- What every parting on the way is: no more than the words say. -/
structure Coarse (T : Tab) (g : Nat → Nat) : Prop where
  acc : ∀ s t, s < T.n → t < T.n → g s = g t → T.acc s = T.acc t
  words : ∀ s t, s < T.n → t < T.n → T.Eq s t → g s = g t
theorem Tab.Eq.step {T : Tab} {s t c : Nat} (h : T.Eq s t) (hc : c < 256) : T.Eq (T.nx s c) (T.nx t c) := fun w hw =>
  h (c :: w) (fun x hx => by
    rcases List.mem_cons.1 hx with rfl | hx
    · exact hc
    · exact hw x hx)
theorem Coarse.finer {T : Tab} {f g : Nat → Nat} (h : Coarse T g) (hf : Finer T f g) (hr : ∀ s c, s < T.n → c < 256 → T.nx s c < T.n) : Coarse T f :=
  ⟨fun s t hs ht e => h.acc s t hs ht ((hf s t hs ht).1 e).1, fun s t hs ht e => (hf s t hs ht).2 ⟨h.words s t hs ht e, fun c hc => h.words _ _ (hr s c hs hc) (hr t c ht hc) (e.step hc)⟩⟩
/-- The parting has come to rest. -/
theorem Coarse.rest {T : Tab} {f g : Nat → Nat} {m : Nat} (h : Coarse T g) (hf : Finer T f g) (hr : ∀ s c, s < T.n → c < 256 → T.nx s c < T.n) (hfm : ∀ s, s < T.n → f s < m) (hgm : ∀ s, s < T.n → g s < m) (hgo : ∀ j, j < m → ∃ s, s < T.n ∧ g s = j) : Fix T f := by
  have hb := fine_same hfm hgm hgo (fun s t hs ht e => ((hf s t hs ht).1 e).1)
  have hc := h.finer hf hr
  exact ⟨hc.acc, fun s t c hs ht hcb e => hb _ _ (hr s c hs hcb) (hr t c ht hcb) (((hf s t hs ht).1 e).2 c hcb), hc.words⟩
/-- The graph of the classes. -/
structure Quot (T H : Tab) (cl : Nat → Nat) : Prop where
  fix : Fix T cl
  rng : ∀ s, s < T.n → cl s < H.n
  onto : ∀ j, j < H.n → ∃ s, s < T.n ∧ cl s = j
  acc : ∀ s, s < T.n → H.acc (cl s) = T.acc s
  nx : ∀ s c, s < T.n → c < 256 → H.nx (cl s) c = cl (T.nx s c)
theorem Quot.run {T H : Tab} {cl : Nat → Nat} (h : Quot T H cl) (hr : ∀ s c, s < T.n → c < 256 → T.nx s c < T.n) : ∀ (w : List Nat) (s : Nat), Bytes w → s < T.n → H.run (cl s) w = cl (T.run s w) ∧ T.run s w < T.n
  | [], s, _, hs => ⟨rfl, hs⟩
  | c :: r, s, hw, hs => by
    have hc := hw c (List.mem_cons_self ..)
    have ih := h.run hr r (T.nx s c) (fun x hx => hw x (List.mem_cons_of_mem _ hx)) (hr s c hs hc)
    exact ⟨by rw [Tab.run, h.nx s c hs hc]; exact ih.1, ih.2⟩
theorem Quot.lang {T H : Tab} {cl : Nat → Nat} (h : Quot T H cl) (hr : ∀ s c, s < T.n → c < 256 → T.nx s c < T.n) {s : Nat} (hs : s < T.n) {w : List Nat} (hw : Bytes w) : H.acc (H.run (cl s) w) = T.acc (T.run s w) := by
  obtain ⟨h1, h2⟩ := h.run hr w s hw hs
  rw [h1, h.acc _ h2]
theorem Quot.apart {T H : Tab} {cl : Nat → Nat} (h : Quot T H cl) (hr : ∀ s c, s < T.n → c < 256 → T.nx s c < T.n) : ∀ i j, i < H.n → j < H.n → i ≠ j → ∃ w, Bytes w ∧ H.acc (H.run i w) ≠ H.acc (H.run j w) := fun i j hi hj hij => by
  obtain ⟨s, hs, rfl⟩ := h.onto i hi
  obtain ⟨t, ht, rfl⟩ := h.onto j hj
  have h1 : ¬ T.Eq s t := fun e => hij ((h.fix.eq hr s t hs ht).2 e)
  have h2 : ∃ w, ¬ (Bytes w → T.acc (T.run s w) = T.acc (T.run t w)) := Classical.not_forall.1 h1
  obtain ⟨w, hw⟩ := h2
  have hw1 : Bytes w := Classical.byContradiction fun e => hw (fun e9 => absurd e9 e)
  refine ⟨w, hw1, fun e => hw (fun _ => ?_)⟩
  rw [h.lang hr hs hw1, h.lang hr ht hw1] at e
  exact e
/-- A graph numbered anew as its states are met: nm is the number of a state, mt the state of a number. -/
structure Renum (H T : Tab) (nm mt : Nat → Nat) : Prop where
  rng : ∀ s c, s < H.n → c < 256 → H.nx s c < H.n
  mtr : ∀ i, i < T.n → mt i < H.n
  nmt : ∀ i, i < T.n → nm (mt i) = i
  zero : mt 0 = 0
  pos : 0 < T.n
  acc : ∀ i, i < T.n → T.acc i = H.acc (mt i)
  nx : ∀ i c, i < T.n → c < 256 → T.nx i c = nm (H.nx (mt i) c) ∧ mt (T.nx i c) = H.nx (mt i) c ∧ T.nx i c < T.n
theorem Renum.run {H T : Tab} {nm mt : Nat → Nat} (h : Renum H T nm mt) : ∀ (w : List Nat) (i : Nat), Bytes w → i < T.n → mt (T.run i w) = H.run (mt i) w ∧ T.run i w < T.n
  | [], i, _, hi => ⟨rfl, hi⟩
  | c :: r, i, hw, hi => by
    have hc := hw c (List.mem_cons_self ..)
    obtain ⟨_, h2, h3⟩ := h.nx i c hi hc
    have ih := h.run r (T.nx i c) (fun x hx => hw x (List.mem_cons_of_mem _ hx)) h3
    exact ⟨by rw [Tab.run, ih.1, h2]; rfl, ih.2⟩
theorem Renum.canon {H T : Tab} {nm mt : Nat → Nat} {L : List Nat → Bool} (h : Renum H T nm mt) (hlang : ∀ w, Bytes w → H.acc (H.run 0 w) = L w) (hap : ∀ i j, i < H.n → j < H.n → i ≠ j → ∃ w, Bytes w ∧ H.acc (H.run i w) ≠ H.acc (H.run j w))
    (hnum : ∀ p, p < 256 * T.n → T.nx (p / 256) (p % 256) ≤ T.met p) (hrow : ∀ s, s < T.n → s < T.met (256 * s)) (hall : T.met (256 * T.n) = T.n) : Canon T L := by
  refine ⟨fun s c hs hc => (h.nx s c hs hc).2.2, fun w hw => ?_, hnum, hrow, hall, fun s t hs ht hst => ?_⟩
  · obtain ⟨h1, h2⟩ := h.run w 0 hw h.pos
    rw [h.acc _ h2, h1, h.zero]
    exact hlang w hw
  · have hne : mt s ≠ mt t := fun e => hst (by rw [← h.nmt s hs, ← h.nmt t ht, e])
    obtain ⟨w, hw, h9⟩ := hap _ _ (h.mtr s hs) (h.mtr t ht) hne
    obtain ⟨a1, a2⟩ := h.run w s hw hs
    obtain ⟨b1, b2⟩ := h.run w t hw ht
    exact ⟨w, hw, by rw [h.acc _ a2, h.acc _ b2, a1, b1]; exact h9⟩
end Go.Proofs.YtejmjjgbbojfbaaDoor
