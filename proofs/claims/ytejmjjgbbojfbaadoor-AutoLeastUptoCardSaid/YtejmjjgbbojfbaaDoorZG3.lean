/- Merged: TabR, ColP. -/
import Derived.Test.YtejmjjgbbojfbaaDoorZG1
import Derived.Test.YtejmjjgbbojfbaaDoorZLib
/- auto, plain: states numbered as they are met. No program occurs here. -/
namespace Go.Proofs.YtejmjjgbbojfbaaDoor
set_option linter.unusedVariables false

/-- What is met at place p of a list of states. -/
def nxAt (H : Tab) (l : List Nat) (p : Nat) : Nat := H.nx (l.getD (p / 256) 0) (p % 256)
def mtStep (H : Tab) (l : List Nat) (p : Nat) : List Nat := if nxAt H l p ∈ l then l else l ++ [nxAt H l p]
/-- The states met ahead of place p. -/
def mts (H : Tab) : Nat → List Nat
  | 0 => [0]
  | p + 1 => mtStep H (mts H p) p
theorem mts_prefix (H : Tab) (p : Nat) : mts H p <+: mts H (p + 1) := by
  show _ <+: mtStep H (mts H p) p
  unfold mtStep
  split
  · exact List.prefix_refl _
  · exact List.prefix_append _ _
theorem mts_mono (H : Tab) {p q : Nat} (h : p ≤ q) : mts H p <+: mts H q := by
  induction h with
  | refl => exact List.prefix_refl _
  | step _ ih => exact ih.trans (mts_prefix H _)
theorem mts_nodup (H : Tab) : ∀ p, (mts H p).Nodup
  | 0 => by simp [mts]
  | p + 1 => by
    show (mtStep H (mts H p) p).Nodup
    unfold mtStep
    split
    · exact mts_nodup H p
    · next h => exact List.nodup_append.2 ⟨mts_nodup H p, by simp, fun a ha b hb e => by
        rw [List.mem_singleton.1 hb] at e
        exact h (e ▸ ha)⟩
theorem mts_rng (H : Tab) (h0 : 0 < H.n) (hr : ∀ s c, s < H.n → c < 256 → H.nx s c < H.n) : ∀ p, ∀ x ∈ mts H p, x < H.n
  | 0, x, hx => by
    rw [mts, List.mem_singleton] at hx
    omega
  | p + 1, x, hx => by
    have hx : x ∈ mtStep H (mts H p) p := hx
    unfold mtStep at hx
    split at hx
    · exact mts_rng H h0 hr p x hx
    · rcases List.mem_append.1 hx with hx | hx
      · exact mts_rng H h0 hr p x hx
      · rw [List.mem_singleton.1 hx]
        refine hr _ _ ?_ (by omega)
        by_cases hl : p / 256 < (mts H p).length
        · rw [show (mts H p).getD (p / 256) 0 = (mts H p)[p / 256] by simp [List.getD, hl]]
          exact mts_rng H h0 hr p _ (List.getElem_mem hl)
        · rw [show (mts H p).getD (p / 256) 0 = 0 by simp [List.getD, List.getElem?_eq_none (Nat.le_of_not_lt hl)]]
          exact h0
theorem prefix_getD {l l2 : List Nat} (h : l <+: l2) {i : Nat} (hi : i < l.length) : l2.getD i 0 = l.getD i 0 := by
  obtain ⟨r, rfl⟩ := h
  simp [List.getD, List.getElem?_append_left hi]
/-- The table of the states met. -/
def metTab (H : Tab) (fin : List Nat) : Tab := ⟨fin.length, fun i => H.acc (fin.getD i 0), fun i c => fin.idxOf (H.nx (fin.getD i 0) c)⟩
/-- The loop over the states met: it goes on while there is one more, ends where there is none. -/
structure Walked (H : Tab) (N : Nat) : Prop where
  go : ∀ s, s < N → s < (mts H (256 * s)).length
  fin : (mts H (256 * N)).length = N
theorem walked_nx {H : Tab} {N : Nat} (h : Walked H N) {p : Nat} (hp : p < 256 * N) : p / 256 < (mts H p).length ∧ (mts H (256 * N)).getD (p / 256) 0 = (mts H p).getD (p / 256) 0 ∧ nxAt H (mts H p) p ∈ mts H (p + 1) := by
  have h1 : p / 256 < (mts H p).length := Nat.lt_of_lt_of_le (h.go (p / 256) (by omega)) (mts_mono H (show 256 * (p / 256) ≤ p by omega)).length_le
  refine ⟨h1, prefix_getD (mts_mono H (by omega)) h1, ?_⟩
  show _ ∈ mtStep H (mts H p) p
  unfold mtStep
  split
  · next h => exact h
  · simp
theorem idx_prefix {l l2 : List Nat} (h : l <+: l2) {x : Nat} (hx : x ∈ l) : l2.idxOf x = l.idxOf x := by
  obtain ⟨r, rfl⟩ := h
  rw [List.idxOf_append, if_pos hx]
theorem walked_met {H : Tab} {N : Nat} (h : Walked H N) : ∀ p, p ≤ 256 * N → (metTab H (mts H (256 * N))).met p = (mts H p).length
  | 0, _ => rfl
  | p + 1, hp => by
    have ih := walked_met h p (by omega)
    obtain ⟨g1, g2, g3⟩ := walked_nx h (p := p) (by omega)
    have hnx : (metTab H (mts H (256 * N))).nx (p / 256) (p % 256) = (mts H (p + 1)).idxOf (nxAt H (mts H p) p) := by
      show (mts H (256 * N)).idxOf (H.nx ((mts H (256 * N)).getD (p / 256) 0) (p % 256)) = _
      rw [g2]
      exact idx_prefix (mts_mono H (by omega)) g3
    rw [Tab.met, hnx, ih]
    show _ = (mtStep H (mts H p) p).length
    have e : mts H (p + 1) = mtStep H (mts H p) p := rfl
    rw [e]
    unfold mtStep
    by_cases hm : nxAt H (mts H p) p ∈ mts H p
    · rw [if_pos hm, if_neg]
      have := List.idxOf_lt_length_of_mem hm
      omega
    · rw [if_neg hm, List.idxOf_append, if_neg hm]
      simp
theorem walked_canon {H : Tab} {N : Nat} {L : List Nat → Bool} (h : Walked H N) (h0 : 0 < H.n) (hr : ∀ s c, s < H.n → c < 256 → H.nx s c < H.n) (hN : 0 < N) (hlang : ∀ w, Bytes w → H.acc (H.run 0 w) = L w)
    (hap : ∀ i j, i < H.n → j < H.n → i ≠ j → ∃ w, Bytes w ∧ H.acc (H.run i w) ≠ H.acc (H.run j w)) : Canon (metTab H (mts H (256 * N))) L := by
  obtain ⟨F, hF⟩ : ∃ F, mts H (256 * N) = F := ⟨_, rfl⟩
  have hFl : F.length = N := by rw [← hF]; exact h.fin
  have hmem : ∀ i c, i < N → c < 256 → H.nx (F.getD i 0) c ∈ F := fun i c hi hc => by
    obtain ⟨g1, g2, g3⟩ := walked_nx h (p := 256 * i + c) (by omega)
    rw [show (256 * i + c) / 256 = i by omega] at g2
    have g4 := (mts_mono H (show 256 * i + c + 1 ≤ 256 * N by omega)).subset g3
    unfold nxAt at g4
    rw [show (256 * i + c) / 256 = i by omega, show (256 * i + c) % 256 = c by omega, ← g2] at g4
    rwa [hF] at g4
  have hget : ∀ i, i < N → F.getD i 0 ∈ F := fun i hi => by
    rw [show F.getD i 0 = F[i]'(by omega) by simp [List.getD, show i < F.length by omega]]
    exact List.getElem_mem _
  have hnd : F.Nodup := by rw [← hF]; exact mts_nodup H _
  have hidx : ∀ x, x ∈ F → F.getD (F.idxOf x) 0 = x := fun x hx => by
    have hl := List.idxOf_lt_length_of_mem hx
    rw [show F.getD (F.idxOf x) 0 = F[F.idxOf x] by simp [List.getD, hl]]
    exact List.getElem_idxOf hl
  have hren : Renum H (metTab H F) (fun x => F.idxOf x) (fun i => F.getD i 0) := by
    refine ⟨hr, fun i hi => ?_, fun i hi => ?_, ?_, ?_, fun i hi => rfl, fun i c hi hc => ⟨rfl, ?_, ?_⟩⟩
    · have hi : i < F.length := hi
      have := mts_rng H h0 hr (256 * N) (F.getD i 0) (by rw [hF]; exact hget i (by omega))
      exact this
    · have hi : i < F.length := hi
      show F.idxOf (F.getD i 0) = i
      rw [show F.getD i 0 = F[i] by simp [List.getD, hi]]
      exact hnd.idxOf_getElem i hi
    · have hp := mts_mono H (Nat.zero_le (256 * N))
      rw [hF] at hp
      rw [prefix_getD hp (by simp [mts])]
      rfl
    · show 0 < F.length; omega
    · have hi : i < F.length := hi
      exact hidx _ (hmem i c (by omega) hc)
    · have hi : i < F.length := hi
      exact List.idxOf_lt_length_of_mem (hmem i c (by omega) hc)
  have hmet := walked_met h
  rw [hF] at hmet
  have hn : (metTab H F).n = N := hFl
  rw [hF]
  refine hren.canon hlang hap (fun p hp => ?_) (fun s hs => ?_) ?_
  · rw [hn] at hp
    obtain ⟨g1, g2, g3⟩ := walked_nx h hp
    rw [hmet p (by omega)]
    show F.idxOf (H.nx (F.getD (p / 256) 0) (p % 256)) ≤ _
    rw [hF] at g2
    rw [g2]
    have e := idx_prefix (l2 := F) (by have := mts_mono H (show p + 1 ≤ 256 * N by omega); rwa [hF] at this) g3
    have e2 : F.idxOf (H.nx ((mts H p).getD (p / 256) 0) (p % 256)) = (mts H (p + 1)).idxOf (nxAt H (mts H p) p) := e
    rw [e2]
    have h9 := List.idxOf_lt_length_of_mem g3
    have h8 : (mts H (p + 1)).length ≤ (mts H p).length + 1 := by
      show (mtStep H (mts H p) p).length ≤ _
      unfold mtStep
      split
      · omega
      · simp
    omega
  · rw [hn] at hs
    rw [hmet _ (by omega)]
    exact h.go s hs
  · rw [hn, hmet _ (Nat.le_refl _)]
    exact h.fin
end Go.Proofs.YtejmjjgbbojfbaaDoor

/- auto, plain: the columns of a graph. No program occurs here. -/
namespace Go.Proofs.YtejmjjgbbojfbaaDoor
set_option linter.unusedVariables false

/-- Which byte among bs has the column u. -/
def colF (n : Nat) (nx : Nat → Nat → Nat) (bs : List Nat) (u : ByteArray) : Option Nat := bs.find? fun b => colL n nx b == u.data.toList
theorem colF_nil (n : Nat) (nx : Nat → Nat → Nat) : (fun _ => none) = colF n nx [] := rfl
theorem colF_some {n : Nat} {nx : Nat → Nat → Nat} {bs : List Nat} {u : ByteArray} {b : Nat} (h : colF n nx bs u = some b) : b ∈ bs ∧ colL n nx b = u.data.toList :=
  ⟨List.mem_of_find?_eq_some h, eq_of_beq (List.find?_some (p := fun b => colL n nx b == u.data.toList) h)⟩
theorem colF_snoc {n : Nat} {nx : Nat → Nat → Nat} {bs : List Nat} {x : ByteArray} {b : Nat} (hx : x.data.toList = colL n nx b) (h : colF n nx bs x = none) : (fun u => if u = x then some b else colF n nx bs u) = colF n nx (bs ++ [b]) := by
  funext u
  unfold colF at h ⊢
  rw [List.find?_append]
  by_cases e : u = x
  · subst e
    rw [if_pos rfl, h, Option.none_or]
    simp [hx]
  · rw [if_neg e]
    have h9 : ([b].find? fun b => colL n nx b == u.data.toList) = none := by
      rw [List.find?_singleton, if_neg]
      intro h8
      have h8 := eq_of_beq h8
      rw [← hx] at h8
      refine e ?_
      cases u with | mk a => cases x with | mk c => exact (congrArg ByteArray.mk (Array.ext' h8)).symm
    rw [h9, Option.or_none]
theorem colL_succ (n : Nat) (nx : Nat → Nat → Nat) (b : Nat) : colL (n + 1) nx b = colL n nx b ++ enc16 (nx n b) := by
  unfold colL
  rw [List.range_succ, List.flatMap_append, List.flatMap_singleton]
theorem enc16_length (c : Nat) : (enc16 c).length = 2 := rfl
theorem colL_length (n : Nat) (nx : Nat → Nat → Nat) (b : Nat) : (colL n nx b).length = 2 * n := by
  induction n with
  | zero => rfl
  | succ n ih => rw [colL_succ, List.length_append, ih, enc16_length]; omega
/-- A column found. -/
theorem cols_hit {n : Nat} {nx : Nat → Nat → Nat} {bs : List Nat} {c b : Nat} (h : Cols n nx bs c) (hb : b ∈ bs) (he : ∀ s, s < n → nx s b = nx s c) : Cols n nx bs (c + 1) :=
  ⟨h.1, fun k hk => by
    by_cases e : k = c
    · subst e; exact ⟨b, hb, he⟩
    · exact h.2 k (by omega)⟩
theorem cols_new {n : Nat} {nx : Nat → Nat → Nat} {bs : List Nat} {c : Nat} (h : Cols n nx bs c) (hc : c < 256) : Cols n nx (bs ++ [c]) (c + 1) :=
  ⟨fun b hb => by
    rcases List.mem_append.1 hb with hb | hb
    · exact h.1 b hb
    · rw [List.mem_singleton.1 hb]; exact hc, fun k hk => by
    by_cases e : k = c
    · subst e; exact ⟨k, by simp, fun _ _ => rfl⟩
    · obtain ⟨b, hb, h9⟩ := h.2 k (by omega)
      exact ⟨b, List.mem_append_left _ hb, h9⟩⟩
theorem cols_zero (n : Nat) (nx : Nat → Nat → Nat) : Cols n nx [] 0 := ⟨fun b hb => (by cases hb), fun c hc => absurd hc (Nat.not_lt_zero _)⟩
/-- ints as cells. -/
def natsV (l : List Nat) : List Value := l.map fun (k : Nat) => Value.int .i64 (k : Int)
theorem natsV_snoc (l : List Nat) (k : Nat) : natsV (l ++ [k]) = natsV l ++ [.int .i64 (k : Int)] := by simp [natsV]
theorem natsV_length (l : List Nat) : (natsV l).length = l.length := by simp [natsV]
theorem natsV_get {l : List Nat} {i : Nat} (h : i < l.length) : (natsV l)[i]? = some (.int .i64 ((l[i] : Nat) : Int)) := by simp [natsV, h]
/-- The two bytes of a number, as the program reckons them. -/
theorem enc16_cells {c : Nat} (h : c < 65536) : bytesV (enc16 c) = [.int .u8 ((c : Int) % 256), .int .u8 ((c : Int) / 256)] := by
  unfold bytesV enc16
  simp only [List.map_cons, List.map_nil]
  rw [u8_ofNat, u8_ofNat]
  congr 2
  congr 1
  omega
end Go.Proofs.YtejmjjgbbojfbaaDoor
