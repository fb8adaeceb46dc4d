/- auto, plain: the rounds of the parting, the joined graph. No program occurs here. -/
import Derived.Test.YtejmjjgbbojfbaaDoorZG2
import Derived.Test.YtejmjjgbbojfbaaDoorZG4
namespace Go.Proofs.YtejmjjgbbojfbaaDoor
set_option linter.unusedVariables false

/-- Representatives show that a finer parting has no fewer classes. -/
theorem classes_le {n m k : Nat} {f g : Nat → Nat} (hf : ∀ s, s < n → f s < m) (hgo : ∀ j, j < k → ∃ s, s < n ∧ g s = j) (hfg : ∀ s t, s < n → t < n → f s = f t → g s = g t) : k ≤ m := by
  by_cases hlt : k ≤ m
  · exact hlt
  · exfalso
    have hrep : ∃ r : Nat → Nat, ∀ j, j < k → r j < n ∧ g (r j) = j := by
      refine ⟨fun j => if h : j < k then Classical.choose (hgo j h) else 0, fun j h => ?_⟩
      simp only [dif_pos h]
      exact Classical.choose_spec (hgo j h)
    obtain ⟨r, hr⟩ := hrep
    obtain ⟨i, hi, e⟩ := inj_onto k (fun j => f (r j)) (fun j h => by have := hf _ (hr j h).1; show f (r j) < k; omega) (fun i j hi hj e => by
      have := hfg _ _ (hr i hi).1 (hr j hj).1 e
      rwa [(hr i hi).2, (hr j hj).2] at this) (k - 1) (by omega)
    have e : f (r i) = k - 1 := e
    have := hf _ (hr i hi).1
    omega
/-- The keys of the first s states, each once, in the order of first meeting. -/
def keysL (key : Nat → List UInt8) : Nat → List (List UInt8)
  | 0 => []
  | s + 1 => if key s ∈ keysL key s then keysL key s else keysL key s ++ [key s]
theorem keysL_prefix (key : Nat → List UInt8) (s : Nat) : keysL key s <+: keysL key (s + 1) := by
  rw [keysL]
  split
  · exact List.prefix_refl _
  · exact List.prefix_append _ _
theorem keysL_mono (key : Nat → List UInt8) {p q : Nat} (h : p ≤ q) : keysL key p <+: keysL key q := by
  induction h with
  | refl => exact List.prefix_refl _
  | step _ ih => exact ih.trans (keysL_prefix key _)
theorem keysL_mem (key : Nat → List UInt8) {s n : Nat} (h : s < n) : key s ∈ keysL key n := by
  refine (keysL_mono key (show s + 1 ≤ n by omega)).subset ?_
  rw [keysL]
  split
  · assumption
  · simp
theorem keysL_of (key : Nat → List UInt8) : ∀ (n : Nat) (x : List UInt8), x ∈ keysL key n → ∃ s, s < n ∧ key s = x
  | 0, x, h => by rw [keysL] at h; cases h
  | n + 1, x, h => by
    rw [keysL] at h
    split at h
    · obtain ⟨s, h1, h2⟩ := keysL_of key n x h
      exact ⟨s, by omega, h2⟩
    · rcases List.mem_append.1 h with h | h
      · obtain ⟨s, h1, h2⟩ := keysL_of key n x h
        exact ⟨s, by omega, h2⟩
      · exact ⟨n, by omega, (List.mem_singleton.1 h).symm⟩
theorem keysL_len (key : Nat → List UInt8) : ∀ n, (keysL key n).length ≤ n
  | 0 => Nat.le_refl _
  | n + 1 => by
    have := keysL_len key n
    rw [keysL]
    split
    · omega
    · simp; omega
theorem keysL_nodup (key : Nat → List UInt8) : ∀ n, (keysL key n).Nodup
  | 0 => by simp [keysL]
  | n + 1 => by
    rw [keysL]
    split
    · exact keysL_nodup key n
    · next h => exact List.nodup_append.2 ⟨keysL_nodup key n, by simp, fun a ha b hb e => by
        rw [List.mem_singleton.1 hb] at e
        exact h (e ▸ ha)⟩
/-- A state's number among the keys. -/
def keyN (key : Nat → List UInt8) (s : Nat) : Nat := (keysL key (s + 1)).idxOf (key s)
theorem keyN_eq (key : Nat → List UInt8) {s n : Nat} (h : s < n) : keyN key s = (keysL key n).idxOf (key s) :=
  (idx_prefixL (keysL_mono key (show s + 1 ≤ n by omega)) (keysL_mem key (Nat.lt_succ_self s))).symm
where
  idx_prefixL {l l2 : List (List UInt8)} (h : l <+: l2) {x : List UInt8} (hx : x ∈ l) : l2.idxOf x = l.idxOf x := by
    obtain ⟨r, rfl⟩ := h
    rw [List.idxOf_append, if_pos hx]
theorem keyN_lt (key : Nat → List UInt8) {s n : Nat} (h : s < n) : keyN key s < (keysL key n).length := by
  rw [keyN_eq key h]
  exact List.idxOf_lt_length_of_mem (keysL_mem key h)
theorem keyN_onto (key : Nat → List UInt8) {n j : Nat} (h : j < (keysL key n).length) : ∃ s, s < n ∧ keyN key s = j := by
  obtain ⟨s, h1, h2⟩ := keysL_of key n _ (List.getElem_mem h)
  exact ⟨s, h1, by rw [keyN_eq key h1, h2]; exact (keysL_nodup key n).idxOf_getElem j h⟩
theorem keyN_some (key : Nat → List UInt8) {s n : Nat} (h : s < n) : idxF (keysL key n) (key s) = some (keyN key s) := by
  unfold idxF
  rw [if_pos (keysL_mem key h), keyN_eq key h]
theorem keyN_zero (key : Nat → List UInt8) : keyN key 0 = 0 := by simp [keyN, keysL]
/-- What the parting is between two rounds: count is the number of classes, 0 ahead of the first round. -/
structure Part (T : Tab) (cl : Nat → Nat) (count : Nat) : Prop where
  coarse : Coarse T cl
  first : count = 0 → ∀ s, s < T.n → cl s < 2
  lt : 0 < count → ∀ s, s < T.n → cl s < count
  onto : ∀ j, j < count → ∃ s, s < T.n ∧ cl s = j
  le : count ≤ T.n
theorem part_start (T : Tab) : Part T (fun s => if T.acc s then 1 else 0) 0 := by
  refine ⟨⟨fun s t _ _ e => ?_, fun s t _ _ e => ?_⟩, fun _ s _ => ?_, fun h => absurd h (Nat.lt_irrefl _), fun j h => absurd h (Nat.not_lt_zero _), Nat.zero_le _⟩
  · cases h1 : T.acc s <;> cases h2 : T.acc t <;> simp [h1, h2] at e ⊢
  · have := e [] (fun c hc => by cases hc)
    have this : T.acc s = T.acc t := this
    simp only [this]
  · show (if T.acc s then 1 else 0) < 2
    split <;> omega
theorem Part.small {T : Tab} {cl : Nat → Nat} {count : Nat} (h : Part T cl count) (hn : T.n ≤ 60000) : ∀ s, s < T.n → cl s < 65536 := fun s hs => by
  by_cases h0 : count = 0
  · have := h.first h0 s hs; omega
  · have := h.lt (by omega) s hs
    have := h.le
    omega
/-- A round: the numbers of the keys. -/
theorem part_round {T : Tab} {cl : Nat → Nat} {count : Nat} {bs : List Nat} (h : Part T cl count) (hn : T.n ≤ 60000) (hpos : 0 < T.n) (hr : ∀ s c, s < T.n → c < 256 → T.nx s c < T.n) (hc : Cols T.n T.nx bs 256) :
    count ≤ (keysL (keyL cl T.nx bs) T.n).length ∧ ((keysL (keyL cl T.nx bs) T.n).length = count → Fix T (keyN (keyL cl T.nx bs)) ∧ (∀ s, s < T.n → keyN (keyL cl T.nx bs) s < count) ∧ ∀ j, j < count → ∃ s, s < T.n ∧ keyN (keyL cl T.nx bs) s = j) ∧ Part T (keyN (keyL cl T.nx bs)) (keysL (keyL cl T.nx bs) T.n).length := by
  have hf : Finer T (keyN (keyL cl T.nx bs)) cl := finer_of hr (h.small hn) hc (fun s hs => keyN_some (keyL cl T.nx bs) hs)
  have hlt : ∀ s, s < T.n → keyN (keyL cl T.nx bs) s < (keysL (keyL cl T.nx bs) T.n).length := fun s hs => keyN_lt _ hs
  have hp0 : 0 < (keysL (keyL cl T.nx bs) T.n).length := Nat.lt_of_le_of_lt (Nat.zero_le _) (hlt 0 hpos)
  refine ⟨classes_le hlt h.onto (fun s t hs ht e => ((hf s t hs ht).1 e).1), fun e => ⟨?_, fun s hs => by rw [← e]; exact hlt s hs, fun j hj => keyN_onto _ (by rw [e]; exact hj)⟩, ⟨h.coarse.finer hf hr, fun e => by omega, fun _ => hlt, fun j hj => keyN_onto _ hj, keysL_len _ _⟩⟩
  exact h.coarse.rest hf hr (fun s hs => by rw [← e]; exact hlt s hs) (h.lt (by omega)) h.onto
/-- The cells of the joined graph behind the first s states. -/
def jnx (T : Tab) (cl : Nat → Nat) : Nat → Nat → Nat → Nat
  | 0, _, _ => 0
  | s + 1, k, b => if cl s = k then cl (T.nx s b) else jnx T cl s k b
def jacc (T : Tab) (cl : Nat → Nat) : Nat → Nat → Bool
  | 0, _ => false
  | s + 1, k => if cl s = k then T.acc s else jacc T cl s k
theorem jnx_eq {T : Tab} {cl : Nat → Nat} (h : Fix T cl) : ∀ n, n ≤ T.n → ∀ s c, s < n → c < 256 → jnx T cl n (cl s) c = cl (T.nx s c)
  | 0, _, s, c, hs, _ => absurd hs (Nat.not_lt_zero _)
  | n + 1, hn, s, c, hs, hc => by
    rw [jnx]
    by_cases e : cl n = cl s
    · rw [if_pos e]
      exact h.nx n s c (by omega) (by omega) hc e
    · rw [if_neg e]
      refine jnx_eq h n (by omega) s c ?_ hc
      by_cases e2 : s = n
      · exact absurd (by rw [e2]) e
      · omega
theorem jacc_eq {T : Tab} {cl : Nat → Nat} (h : Fix T cl) : ∀ n, n ≤ T.n → ∀ s, s < n → jacc T cl n (cl s) = T.acc s
  | 0, _, s, hs => absurd hs (Nat.not_lt_zero _)
  | n + 1, hn, s, hs => by
    rw [jacc]
    by_cases e : cl n = cl s
    · rw [if_pos e]
      exact h.acc n s (by omega) (by omega) e
    · rw [if_neg e]
      refine jacc_eq h n (by omega) s ?_
      by_cases e2 : s = n
      · exact absurd (by rw [e2]) e
      · omega
/-- The joined graph. -/
def joinT (T : Tab) (cl : Nat → Nat) (count : Nat) : Tab := ⟨count, jacc T cl T.n, jnx T cl T.n⟩
theorem join_quot {T : Tab} {cl : Nat → Nat} {count : Nat} (h : Fix T cl) (hr : ∀ s, s < T.n → cl s < count) (ho : ∀ j, j < count → ∃ s, s < T.n ∧ cl s = j) : Quot T (joinT T cl count) cl :=
  ⟨h, hr, ho, fun s hs => jacc_eq h T.n (Nat.le_refl _) s hs, fun s c hs hc => jnx_eq h T.n (Nat.le_refl _) s c hs hc⟩
theorem join_rng {T H : Tab} {cl : Nat → Nat} (h : Quot T H cl) (hr : ∀ s c, s < T.n → c < 256 → T.nx s c < T.n) : ∀ s c, s < H.n → c < 256 → H.nx s c < H.n := fun s c hs hc => by
  obtain ⟨t, ht, rfl⟩ := h.onto s hs
  rw [h.nx t c ht hc]
  exact h.rng _ (hr t c ht hc)
end Go.Proofs.YtejmjjgbbojfbaaDoor
