/- Merged: TabM, TabK, ColP. -/
import Derived.Test.YtejmjjgbbojfbaaDoorZG10
import Derived.Test.YtejmjjgbbojfbaaDoorZLib
/- auto, plain: states parted again and again; the graph of the classes. No program occurs here. -/
namespace Go.Proofs.YtejmjjgbbojfbaaDoor
set_option linter.unusedVariables false

/-- An injective map of [0, m) into itself is onto. -/
theorem inj_onto : ∀ (m : Nat) (f : Nat → Nat), (∀ i, i < m → f i < m) → (∀ i j, i < m → j < m → f i = f j → i = j) → ∀ y, y < m → ∃ i, i < m ∧ f i = y
  | 0, f, _, _, y, hy => absurd hy (Nat.not_lt_zero _)
  | m + 1, f, hr, hi, y, hy => by
    by_cases hm : f m = m
    · by_cases e : y = m
      · exact ⟨m, by omega, by rw [hm, e]⟩
      · obtain ⟨i, h1, h2⟩ := inj_onto m f (fun i h => by
          have h1 := hr i (by omega)
          have h2 : f i ≠ m := fun e9 => by
            have := hi i m (by omega) (by omega) (by rw [e9, hm])
            omega
          omega) (fun i j h1 h2 => hi i j (by omega) (by omega)) y (by omega)
        exact ⟨i, by omega, h2⟩
    · -- g sends what f sends to m to f m instead
      have hfm : f m < m := by have := hr m (by omega); omega
      obtain ⟨i, h1, h2⟩ := inj_onto m (fun i => if f i = m then f m else f i) (fun i h => by
        show (if f i = m then f m else f i) < m
        split
        · exact hfm
        · have := hr i (by omega); omega) (fun i j h1 h2 h3 => by
        have h3 : (if f i = m then f m else f i) = (if f j = m then f m else f j) := h3
        by_cases e1 : f i = m
        · by_cases e2 : f j = m
          · exact hi i j (by omega) (by omega) (by rw [e1, e2])
          · rw [if_pos e1, if_neg e2] at h3
            have := hi m j (by omega) (by omega) h3
            omega
        · by_cases e2 : f j = m
          · rw [if_neg e1, if_pos e2] at h3
            have := hi i m (by omega) (by omega) h3
            omega
          · rw [if_neg e1, if_neg e2] at h3
            exact hi i j (by omega) (by omega) h3) (if y = m then f m else y) (by split <;> omega)
      have h2 : (if f i = m then f m else f i) = (if y = m then f m else y) := h2
      by_cases e1 : f i = m
      · rw [if_pos e1] at h2
        by_cases e2 : y = m
        · exact ⟨i, by omega, by rw [e1, e2]⟩
        · rw [if_neg e2] at h2
          exact ⟨m, by omega, h2⟩
      · rw [if_neg e1] at h2
        by_cases e2 : y = m
        · rw [if_pos e2] at h2
          have := hi i m (by omega) (by omega) h2
          omega
        · rw [if_neg e2] at h2
          exact ⟨i, by omega, h2⟩
/-- A finer parting into as many classes is the same. -/
theorem fine_same {n m : Nat} {f g : Nat → Nat} (hf : ∀ s, s < n → f s < m) (hg : ∀ s, s < n → g s < m) (hgo : ∀ j, j < m → ∃ s, s < n ∧ g s = j) (hfg : ∀ s t, s < n → t < n → f s = f t → g s = g t) : ∀ s t, s < n → t < n → g s = g t → f s = f t := by
  have hrep : ∃ r : Nat → Nat, ∀ j, j < m → r j < n ∧ g (r j) = j := by
    refine ⟨fun j => if h : j < m then Classical.choose (hgo j h) else 0, fun j h => ?_⟩
    simp only [dif_pos h]
    exact Classical.choose_spec (hgo j h)
  obtain ⟨r, hr⟩ := hrep
  have honto := inj_onto m (fun j => f (r j)) (fun j h => hf _ (hr j h).1) (fun i j hi hj e => by
    have := hfg _ _ (hr i hi).1 (hr j hj).1 e
    rwa [(hr i hi).2, (hr j hj).2] at this)
  have key : ∀ s, s < n → f s = f (r (g s)) := fun s hs => by
    obtain ⟨j, hj, e⟩ := honto (f s) (hf s hs)
    have e : f (r j) = f s := e
    have h9 := hfg _ _ (hr j hj).1 hs e
    rw [(hr j hj).2] at h9
    rw [← h9, e]
  intro s t hs ht e
  rw [key s hs, key t ht, e]
/-- Two states from which the same words are accepted. -/
def Tab.Eq (T : Tab) (s t : Nat) : Prop := ∀ w, Bytes w → T.acc (T.run s w) = T.acc (T.run t w)
/-- A parting that says no more than the words, and that no byte parts further. -/
structure Fix (T : Tab) (cl : Nat → Nat) : Prop where
  acc : ∀ s t, s < T.n → t < T.n → cl s = cl t → T.acc s = T.acc t
  nx : ∀ s t c, s < T.n → t < T.n → c < 256 → cl s = cl t → cl (T.nx s c) = cl (T.nx t c)
  words : ∀ s t, s < T.n → t < T.n → T.Eq s t → cl s = cl t
theorem Fix.eq {T : Tab} {cl : Nat → Nat} (h : Fix T cl) (hr : ∀ s c, s < T.n → c < 256 → T.nx s c < T.n) : ∀ s t, s < T.n → t < T.n → (cl s = cl t ↔ T.Eq s t) := fun s t hs ht => by
  refine ⟨fun e w hw => ?_, h.words s t hs ht⟩
  have : ∀ (w : List Nat) (s t : Nat), Bytes w → s < T.n → t < T.n → cl s = cl t → T.acc (T.run s w) = T.acc (T.run t w) := by
    intro w
    induction w with
    | nil => intro s t _ hs ht e; exact h.acc s t hs ht e
    | cons c r ih =>
      intro s t hw hs ht e
      have hc := hw c (List.mem_cons_self ..)
      exact ih _ _ (fun x hx => hw x (List.mem_cons_of_mem _ hx)) (hr s c hs hc) (hr t c ht hc) (h.nx s t c hs ht hc e)
  exact this w s t hw hs ht e
/-- One step of the parting. -/
def Finer (T : Tab) (f g : Nat → Nat) : Prop := ∀ s t, s < T.n → t < T.n → (f s = f t ↔ g s = g t ∧ ∀ c, c < 256 → g (T.nx s c) = g (T.nx t c))
/-- What every parting on the way is: no more than the words say. -/
structure Coarse (T : Tab) (g : Nat → Nat) : Prop where
  acc : ∀ s t, s < T.n → t < T.n → g s = g t → T.acc s = T.acc t
  words : ∀ s t, s < T.n → t < T.n → T.Eq s t → g s = g t
theorem Tab.Eq.step {T : Tab} {s t c : Nat} (h : T.Eq s t) (hc : c < 256) : T.Eq (T.nx s c) (T.nx t c) := fun w hw =>
  h (c :: w) (fun x hx => by
    rcases List.mem_cons.1 hx with rfl | hx
    · exact hc
    · exact hw x hx)
theorem Coarse.finer {T : Tab} {f g : Nat → Nat} (h : Coarse T g) (hf : Finer T f g) (hr : ∀ s c, s < T.n → c < 256 → T.nx s c < T.n) : Coarse T f :=
  ⟨fun s t hs ht e => h.acc s t hs ht ((hf s t hs ht).1 e).1, fun s t hs ht e => (hf s t hs ht).2 ⟨h.words s t hs ht e, fun c hc => h.words _ _ (hr s c hs hc) (hr t c ht hc) (e.step hc)⟩⟩
/-- The parting has come to rest. -/
theorem Coarse.rest {T : Tab} {f g : Nat → Nat} {m : Nat} (h : Coarse T g) (hf : Finer T f g) (hr : ∀ s c, s < T.n → c < 256 → T.nx s c < T.n) (hfm : ∀ s, s < T.n → f s < m) (hgm : ∀ s, s < T.n → g s < m) (hgo : ∀ j, j < m → ∃ s, s < T.n ∧ g s = j) : Fix T f := by
  have hb := fine_same hfm hgm hgo (fun s t hs ht e => ((hf s t hs ht).1 e).1)
  have hc := h.finer hf hr
  exact ⟨hc.acc, fun s t c hs ht hcb e => hb _ _ (hr s c hs hcb) (hr t c ht hcb) (((hf s t hs ht).1 e).2 c hcb), hc.words⟩
/-- The graph of the classes. -/
structure Quot (T H : Tab) (cl : Nat → Nat) : Prop where
  fix : Fix T cl
  rng : ∀ s, s < T.n → cl s < H.n
  onto : ∀ j, j < H.n → ∃ s, s < T.n ∧ cl s = j
  acc : ∀ s, s < T.n → H.acc (cl s) = T.acc s
  nx : ∀ s c, s < T.n → c < 256 → H.nx (cl s) c = cl (T.nx s c)
theorem Quot.run {T H : Tab} {cl : Nat → Nat} (h : Quot T H cl) (hr : ∀ s c, s < T.n → c < 256 → T.nx s c < T.n) : ∀ (w : List Nat) (s : Nat), Bytes w → s < T.n → H.run (cl s) w = cl (T.run s w) ∧ T.run s w < T.n
  | [], s, _, hs => ⟨rfl, hs⟩
  | c :: r, s, hw, hs => by
    have hc := hw c (List.mem_cons_self ..)
    have ih := h.run hr r (T.nx s c) (fun x hx => hw x (List.mem_cons_of_mem _ hx)) (hr s c hs hc)
    exact ⟨by rw [Tab.run, h.nx s c hs hc]; exact ih.1, ih.2⟩
theorem Quot.lang {T H : Tab} {cl : Nat → Nat} (h : Quot T H cl) (hr : ∀ s c, s < T.n → c < 256 → T.nx s c < T.n) {s : Nat} (hs : s < T.n) {w : List Nat} (hw : Bytes w) : H.acc (H.run (cl s) w) = T.acc (T.run s w) := by
  obtain ⟨h1, h2⟩ := h.run hr w s hw hs
  rw [h1, h.acc _ h2]
theorem Quot.apart {T H : Tab} {cl : Nat → Nat} (h : Quot T H cl) (hr : ∀ s c, s < T.n → c < 256 → T.nx s c < T.n) : ∀ i j, i < H.n → j < H.n → i ≠ j → ∃ w, Bytes w ∧ H.acc (H.run i w) ≠ H.acc (H.run j w) := fun i j hi hj hij => by
  obtain ⟨s, hs, rfl⟩ := h.onto i hi
  obtain ⟨t, ht, rfl⟩ := h.onto j hj
  have h1 : ¬ T.Eq s t := fun e => hij ((h.fix.eq hr s t hs ht).2 e)
  have h2 : ∃ w, ¬ (Bytes w → T.acc (T.run s w) = T.acc (T.run t w)) := Classical.not_forall.1 h1
  obtain ⟨w, hw⟩ := h2
  have hw1 : Bytes w := Classical.byContradiction fun e => hw (fun e9 => absurd e9 e)
  refine ⟨w, hw1, fun e => hw (fun _ => ?_)⟩
  rw [h.lang hr hs hw1, h.lang hr ht hw1] at e
  exact e
/-- A graph numbered anew as its states are met: nm is the number of a state, mt the state of a number. -/
structure Renum (H T : Tab) (nm mt : Nat → Nat) : Prop where
  rng : ∀ s c, s < H.n → c < 256 → H.nx s c < H.n
  mtr : ∀ i, i < T.n → mt i < H.n
  nmt : ∀ i, i < T.n → nm (mt i) = i
  zero : mt 0 = 0
  pos : 0 < T.n
  acc : ∀ i, i < T.n → T.acc i = H.acc (mt i)
  nx : ∀ i c, i < T.n → c < 256 → T.nx i c = nm (H.nx (mt i) c) ∧ mt (T.nx i c) = H.nx (mt i) c ∧ T.nx i c < T.n
theorem Renum.run {H T : Tab} {nm mt : Nat → Nat} (h : Renum H T nm mt) : ∀ (w : List Nat) (i : Nat), Bytes w → i < T.n → mt (T.run i w) = H.run (mt i) w ∧ T.run i w < T.n
  | [], i, _, hi => ⟨rfl, hi⟩
  | c :: r, i, hw, hi => by
    have hc := hw c (List.mem_cons_self ..)
    obtain ⟨_, h2, h3⟩ := h.nx i c hi hc
    have ih := h.run r (T.nx i c) (fun x hx => hw x (List.mem_cons_of_mem _ hx)) h3
    exact ⟨by rw [Tab.run, ih.1, h2]; rfl, ih.2⟩
theorem Renum.canon {H T : Tab} {nm mt : Nat → Nat} {L : List Nat → Bool} (h : Renum H T nm mt) (hlang : ∀ w, Bytes w → H.acc (H.run 0 w) = L w) (hap : ∀ i j, i < H.n → j < H.n → i ≠ j → ∃ w, Bytes w ∧ H.acc (H.run i w) ≠ H.acc (H.run j w))
    (hnum : ∀ p, p < 256 * T.n → T.nx (p / 256) (p % 256) ≤ T.met p) (hrow : ∀ s, s < T.n → s < T.met (256 * s)) (hall : T.met (256 * T.n) = T.n) : Canon T L := by
  refine ⟨fun s c hs hc => (h.nx s c hs hc).2.2, fun w hw => ?_, hnum, hrow, hall, fun s t hs ht hst => ?_⟩
  · obtain ⟨h1, h2⟩ := h.run w 0 hw h.pos
    rw [h.acc _ h2, h1, h.zero]
    exact hlang w hw
  · have hne : mt s ≠ mt t := fun e => hst (by rw [← h.nmt s hs, ← h.nmt t ht, e])
    obtain ⟨w, hw, h9⟩ := hap _ _ (h.mtr s hs) (h.mtr t ht) hne
    obtain ⟨a1, a2⟩ := h.run w s hw hs
    obtain ⟨b1, b2⟩ := h.run w t hw ht
    exact ⟨w, hw, by rw [h.acc _ a2, h.acc _ b2, a1, b1]; exact h9⟩
end Go.Proofs.YtejmjjgbbojfbaaDoor

/- auto, plain: numbers handed out in the order of first meeting; keys of classes; columns. No program occurs here. -/
namespace Go.Proofs.YtejmjjgbbojfbaaDoor
set_option linter.unusedVariables false

/-- The number of a text in a list of texts met. -/
def idxF {α : Type} [BEq α] [LawfulBEq α] [DecidableEq α] (l : List α) (x : α) : Option Nat := if x ∈ l then some (l.idxOf x) else none
theorem idxF_some {α : Type} [BEq α] [LawfulBEq α] [DecidableEq α] {l : List α} {x : α} {i : Nat} (h : idxF l x = some i) : ∃ h : i < l.length, l[i] = x := by
  unfold idxF at h
  split at h
  · next hx =>
    injection h with h
    subst h
    have hl := List.idxOf_lt_length_of_mem hx
    exact ⟨hl, List.getElem_idxOf hl⟩
  · cases h
theorem idxF_none {α : Type} [BEq α] [LawfulBEq α] [DecidableEq α] {l : List α} {x : α} (h : idxF l x = none) : x ∉ l := by
  unfold idxF at h
  split at h
  · cases h
  · assumption
theorem idxF_snoc {α : Type} [BEq α] [LawfulBEq α] [DecidableEq α] {l : List α} {x : α} (h : x ∉ l) : (fun u => if u = x then some l.length else idxF l u) = idxF (l ++ [x]) := by
  funext u
  unfold idxF
  by_cases e : u = x
  · subst e
    rw [if_pos rfl, if_pos (by simp), List.idxOf_append, if_neg h]
    simp
  · rw [if_neg e]
    by_cases hu : u ∈ l
    · rw [if_pos hu, if_pos (List.mem_append_left _ hu), List.idxOf_append, if_pos hu]
    · rw [if_neg hu, if_neg]
      intro h9
      rcases List.mem_append.1 h9 with h9 | h9
      · exact hu h9
      · exact e (List.mem_singleton.1 h9)
theorem idxF_nil {α : Type} [BEq α] [LawfulBEq α] [DecidableEq α] : (fun _ => none) = idxF ([] : List α) := by
  funext u; unfold idxF; rw [if_neg (by simp)]
theorem idxF_inj {α : Type} [BEq α] [LawfulBEq α] [DecidableEq α] {l : List α} {x y : α} {i : Nat} (h : idxF l x = some i) (h2 : idxF l y = some i) : x = y := by
  obtain ⟨h1, e1⟩ := idxF_some h
  obtain ⟨_, e2⟩ := idxF_some h2
  rw [← e1, ← e2]
/-- A number as two bytes. -/
def enc16 (c : Nat) : List UInt8 := [UInt8.ofNat c, UInt8.ofNat (c / 256)]
theorem enc16_inj {c d : Nat} (hc : c < 65536) (hd : d < 65536) (h : enc16 c = enc16 d) : c = d := by
  unfold enc16 at h
  injection h with h1 h2
  injection h2 with h2 _
  have h1 := congrArg UInt8.toNat h1
  have h2 := congrArg UInt8.toNat h2
  simp at h1 h2
  omega
def keyL (cl : Nat → Nat) (nx : Nat → Nat → Nat) (bs : List Nat) (s : Nat) : List UInt8 := enc16 (cl s) ++ bs.flatMap fun b => enc16 (cl (nx s b))
theorem flat16_inj {f g : Nat → Nat} : ∀ (bs : List Nat), (∀ b ∈ bs, f b < 65536 ∧ g b < 65536) → (bs.flatMap fun b => enc16 (f b)) = (bs.flatMap fun b => enc16 (g b)) → ∀ b ∈ bs, f b = g b
  | [], _, _, b, hb => by cases hb
  | x :: r, hl, h, b, hb => by
    rw [List.flatMap_cons, List.flatMap_cons] at h
    obtain ⟨h1, h2⟩ := List.append_inj h rfl
    rcases List.mem_cons.1 hb with rfl | hb
    · exact enc16_inj (hl b (List.mem_cons_self ..)).1 (hl b (List.mem_cons_self ..)).2 h1
    · exact flat16_inj r (fun y hy => hl y (List.mem_cons_of_mem _ hy)) h2 b hb
theorem keyL_inj {cl : Nat → Nat} {nx : Nat → Nat → Nat} {bs : List Nat} {s t : Nat} (hs : cl s < 65536 ∧ cl t < 65536) (hb : ∀ b ∈ bs, cl (nx s b) < 65536 ∧ cl (nx t b) < 65536) : keyL cl nx bs s = keyL cl nx bs t ↔ cl s = cl t ∧ ∀ b ∈ bs, cl (nx s b) = cl (nx t b) := by
  constructor
  · intro h
    obtain ⟨h1, h2⟩ := List.append_inj h rfl
    exact ⟨enc16_inj hs.1 hs.2 h1, flat16_inj bs hb h2⟩
  · rintro ⟨h1, h2⟩
    unfold keyL
    rw [h1]
    congr 1
    rw [List.flatMap_def, List.flatMap_def, List.map_congr_left (fun b hb => by rw [h2 b hb])]
/-- The columns: of each byte there is one that leads alike. -/
def Cols (n : Nat) (nx : Nat → Nat → Nat) (bs : List Nat) (k : Nat) : Prop := (∀ b ∈ bs, b < 256) ∧ ∀ c, c < k → ∃ b ∈ bs, ∀ s, s < n → nx s b = nx s c
/-- The column of a byte, as a key. -/
def colL (n : Nat) (nx : Nat → Nat → Nat) (b : Nat) : List UInt8 := (List.range n).flatMap fun s => enc16 (nx s b)
theorem colL_inj {n : Nat} {nx : Nat → Nat → Nat} {b c : Nat} (hb : ∀ s, s < n → nx s b < 65536 ∧ nx s c < 65536) (h : colL n nx b = colL n nx c) : ∀ s, s < n → nx s b = nx s c := fun s hs =>
  flat16_inj (f := fun s => nx s b) (g := fun s => nx s c) (List.range n) (fun s hs => hb s (List.mem_range.1 hs)) h s (List.mem_range.2 hs)
/-- A round of the parting: the numbers are those of the keys. -/
theorem finer_of {T : Tab} {cl fin : Nat → Nat} {bs : List Nat} {L : List (List UInt8)} (hr : ∀ s c, s < T.n → c < 256 → T.nx s c < T.n) (hcl : ∀ s, s < T.n → cl s < 65536) (hc : Cols T.n T.nx bs 256) (hf : ∀ s, s < T.n → idxF L (keyL cl T.nx bs s) = some (fin s)) : Finer T fin cl := fun s t hs ht => by
  have hb : ∀ b ∈ bs, cl (T.nx s b) < 65536 ∧ cl (T.nx t b) < 65536 := fun b hb => ⟨hcl _ (hr s b hs (hc.1 b hb)), hcl _ (hr t b ht (hc.1 b hb))⟩
  have hk := keyL_inj (cl := cl) (nx := T.nx) (bs := bs) (s := s) (t := t) ⟨hcl s hs, hcl t ht⟩ hb
  constructor
  · intro e
    have h1 := hf s hs
    have h2 := hf t ht
    rw [← e] at h2
    obtain ⟨g1, g2⟩ := hk.1 (idxF_inj h1 h2)
    refine ⟨g1, fun c hcb => ?_⟩
    obtain ⟨b, hbm, hbe⟩ := hc.2 c hcb
    rw [← hbe s hs, ← hbe t ht]
    exact g2 b hbm
  · rintro ⟨g1, g2⟩
    have h1 := hf s hs
    have h2 := hf t ht
    rw [hk.2 ⟨g1, fun b hbm => g2 b (hc.1 b hbm)⟩] at h1
    rw [h1] at h2
    injection h2
end Go.Proofs.YtejmjjgbbojfbaaDoor

/- auto, plain: the columns of a graph. No program occurs here. -/
namespace Go.Proofs.YtejmjjgbbojfbaaDoor
set_option linter.unusedVariables false

/-- Which byte among bs has the column u. -/
def colF (n : Nat) (nx : Nat → Nat → Nat) (bs : List Nat) (u : ByteArray) : Option Nat := bs.find? fun b => colL n nx b == u.data.toList
theorem colF_nil (n : Nat) (nx : Nat → Nat → Nat) : (fun _ => none) = colF n nx [] := rfl
theorem colF_some {n : Nat} {nx : Nat → Nat → Nat} {bs : List Nat} {u : ByteArray} {b : Nat} (h : colF n nx bs u = some b) : b ∈ bs ∧ colL n nx b = u.data.toList :=
  ⟨List.mem_of_find?_eq_some h, eq_of_beq (List.find?_some (p := fun b => colL n nx b == u.data.toList) h)⟩
theorem colF_snoc {n : Nat} {nx : Nat → Nat → Nat} {bs : List Nat} {x : ByteArray} {b : Nat} (hx : x.data.toList = colL n nx b) (h : colF n nx bs x = none) : (fun u => if u = x then some b else colF n nx bs u) = colF n nx (bs ++ [b]) := by
  funext u
  unfold colF at h ⊢
  rw [List.find?_append]
  by_cases e : u = x
  · subst e
    rw [if_pos rfl, h, Option.none_or]
    simp [hx]
  · rw [if_neg e]
    have h9 : ([b].find? fun b => colL n nx b == u.data.toList) = none := by
      rw [List.find?_singleton, if_neg]
      intro h8
      have h8 := eq_of_beq h8
      rw [← hx] at h8
      refine e ?_
      cases u with | mk a => cases x with | mk c => exact (congrArg ByteArray.mk (Array.ext' h8)).symm
    rw [h9, Option.or_none]
theorem colL_succ (n : Nat) (nx : Nat → Nat → Nat) (b : Nat) : colL (n + 1) nx b = colL n nx b ++ enc16 (nx n b) := by
  unfold colL
  rw [List.range_succ, List.flatMap_append, List.flatMap_singleton]
theorem enc16_length (c : Nat) : (enc16 c).length = 2 := rfl
theorem colL_length (n : Nat) (nx : Nat → Nat → Nat) (b : Nat) : (colL n nx b).length = 2 * n := by
  induction n with
  | zero => rfl
  | succ n ih => rw [colL_succ, List.length_append, ih, enc16_length]; omega
/-- A column found. -/
theorem cols_hit {n : Nat} {nx : Nat → Nat → Nat} {bs : List Nat} {c b : Nat} (h : Cols n nx bs c) (hb : b ∈ bs) (he : ∀ s, s < n → nx s b = nx s c) : Cols n nx bs (c + 1) :=
  ⟨h.1, fun k hk => by
    by_cases e : k = c
    · subst e; exact ⟨b, hb, he⟩
    · exact h.2 k (by omega)⟩
theorem cols_new {n : Nat} {nx : Nat → Nat → Nat} {bs : List Nat} {c : Nat} (h : Cols n nx bs c) (hc : c < 256) : Cols n nx (bs ++ [c]) (c + 1) :=
  ⟨fun b hb => by
    rcases List.mem_append.1 hb with hb | hb
    · exact h.1 b hb
    · rw [List.mem_singleton.1 hb]; exact hc, fun k hk => by
    by_cases e : k = c
    · subst e; exact ⟨k, by simp, fun _ _ => rfl⟩
    · obtain ⟨b, hb, h9⟩ := h.2 k (by omega)
      exact ⟨b, List.mem_append_left _ hb, h9⟩⟩
theorem cols_zero (n : Nat) (nx : Nat → Nat → Nat) : Cols n nx [] 0 := ⟨fun b hb => (by cases hb), fun c hc => absurd hc (Nat.not_lt_zero _)⟩
/-- ints as cells. -/
def natsV (l : List Nat) : List Value := l.map fun (k : Nat) => Value.int .i64 (k : Int)
theorem natsV_snoc (l : List Nat) (k : Nat) : natsV (l ++ [k]) = natsV l ++ [.int .i64 (k : Int)] := by simp [natsV]
theorem natsV_length (l : List Nat) : (natsV l).length = l.length := by simp [natsV]
theorem natsV_get {l : List Nat} {i : Nat} (h : i < l.length) : (natsV l)[i]? = some (.int .i64 ((l[i] : Nat) : Int)) := by simp [natsV, h]
/-- The two bytes of a number, as the program reckons them. -/
theorem enc16_cells {c : Nat} (h : c < 65536) : bytesV (enc16 c) = [.int .u8 ((c : Int) % 256), .int .u8 ((c : Int) / 256)] := by
  unfold bytesV enc16
  simp only [List.map_cons, List.map_nil]
  rw [u8_ofNat, u8_ofNat]
  congr 2
  congr 1
  omega
end Go.Proofs.YtejmjjgbbojfbaaDoor
