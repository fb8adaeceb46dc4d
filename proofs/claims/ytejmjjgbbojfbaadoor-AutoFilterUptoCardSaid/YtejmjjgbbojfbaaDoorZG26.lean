/- Merged: GrW, TabR, TabS. -/
import Derived.Test.YtejmjjgbbojfbaaDoorZG12
import Derived.Test.YtejmjjgbbojfbaaDoorZG11
/- auto: a graph in memory: cells written; made of noughts. -/
namespace Go.Proofs.YtejmjjgbbojfbaaDoor
set_option linter.unusedVariables false
open Go.ChangeShapes Go.WideShapes Go.ChangeAt Go.RowKit

theorem GraphAt.congr {w : World} {B g : Nat} {nv av : Value} {T T2 : Tab} (h : GraphAt w B g nv av T) (hn : T2.n = T.n) (ha : ∀ s, s < T.n → T.acc s = T2.acc s) (hx : ∀ s c, s < T.n → c < 256 → T.nx s c = T2.nx s c) : GraphAt w B g nv av T2 := by
  refine ⟨h.blk, h.hg, ?_, ?_⟩
  · rw [hn, ← flatN_congr hx]; exact h.next
  · rw [hn, show ((List.range T.n).map fun s => Value.bool (T2.acc s)) = (List.range T.n).map fun s => Value.bool (T.acc s) from List.map_congr_left (fun s hs => by rw [ha s (List.mem_range.1 hs)])]; exact h.acc
theorem flatN_set (nx : Nat → Nat → Nat) {n k j : Nat} (hk : k < n) (hj : j < 256) (v : Nat) : (flatN nx n).set (k * 256 + j) (.int .i64 ((v : Nat) : Int)) = flatN (fun s c => if s = k ∧ c = j then v else nx s c) n := by
  refine List.ext_getElem? fun i => ?_
  by_cases hi : i < n * 256
  · have e2 := flatN_get (fun s c => if s = k ∧ c = j then v else nx s c) (n := n) (s := i / 256) (c := i % 256) (by omega) (by omega)
    have e1 := flatN_get nx (n := n) (s := i / 256) (c := i % 256) (by omega) (by omega)
    rw [show i / 256 * 256 + i % 256 = i by omega] at e1 e2
    rw [e2, List.getElem?_set]
    by_cases e : k * 256 + j = i
    · rw [if_pos e, if_pos (by rw [flatN_length]; omega), if_pos ⟨by omega, by omega⟩]
    · rw [if_neg e, e1, if_neg (fun h9 => e (by omega))]
  · rw [List.getElem?_eq_none (by rw [List.length_set, flatN_length]; omega), List.getElem?_eq_none (by rw [flatN_length]; omega)]
theorem GraphAt.setNx {w : World} {B g b c : Nat} {av : Value} {T : Tab} (h : GraphAt w B g (.slice (some ⟨b, 0, none⟩) T.n c) av T) {k j : Nat} (hk : k < T.n) (hj : j < 256) (v : Nat) :
    GraphAt (w.setCell ⟨b, k * 256 + j, none⟩ (.int .i64 ((v : Nat) : Int))) B g (.slice (some ⟨b, 0, none⟩) T.n c) av ⟨T.n, T.acc, fun s c => if s = k ∧ c = j then v else T.nx s c⟩ := by
  obtain ⟨h1, h2⟩ := World.ownsRow.stored h.next (k * 256 + j) (.int .i64 ((v : Nat) : Int))
  rw [flatN_set T.nx hk hj v] at h1
  have he := Eff.ofGrown h2
  have hng : some b ≠ some g := ownsRow_ne h.next h.blk (by decide)
  exact ⟨(he.block g (lt_of_heap h.blk) hng).trans h.blk, h.hg, h1, h.acc.eff he (fun q hq e => ownsRow_types h.next h.acc (by decide) hq e)⟩
theorem bools_set (f : Nat → Bool) (n k : Nat) (v : Bool) : ((List.range n).map fun s => Value.bool (f s)).set k (.bool v) = (List.range n).map fun s => Value.bool (if s = k then v else f s) := by
  refine List.ext_getElem? fun i => ?_
  rw [List.getElem?_set]
  by_cases hi : i < n
  · by_cases e : k = i
    · subst e; simp [hi]
    · rw [if_neg e, List.getElem?_map, List.getElem?_map, List.getElem?_range hi, Option.map_some, Option.map_some, if_neg (fun e9 => e (Eq.symm e9))]
  · have h1 : ((List.range n).map fun s => Value.bool (f s))[i]? = none := List.getElem?_eq_none (by simp; omega)
    have h2 : ((List.range n).map fun s => Value.bool (if s = k then v else f s))[i]? = none := List.getElem?_eq_none (by simp; omega)
    rw [h1, h2]
    by_cases e : k = i
    · rw [if_pos e, if_neg (by simp; omega)]
    · rw [if_neg e]
theorem GraphAt.setAcc {w : World} {B g b c : Nat} {nv : Value} {T : Tab} (h : GraphAt w B g nv (.slice (some ⟨b, 0, none⟩) T.n c) T) {k : Nat} (v : Bool) :
    GraphAt (w.setCell ⟨b, k, none⟩ (.bool v)) B g nv (.slice (some ⟨b, 0, none⟩) T.n c) ⟨T.n, fun s => if s = k then v else T.acc s, T.nx⟩ := by
  have h1 := h.acc.set k (.bool v)
  rw [bools_set] at h1
  have he : Eff (· = b) w (w.setCell ⟨b, k, none⟩ (.bool v)) := (Eff.refl (· = b) w).setCell (p := ⟨b, k, none⟩) (fun _ => rfl) _
  exact ⟨(he.block g (lt_of_heap h.blk) (fun e => h.acc.ne_type h.blk (by decide) (by rw [e]; rfl))).trans h.blk, h.hg, arr_eff h.next he (fun q hq e => ownsRow_types h.next h.acc (by decide) (show Value.ownBlock (.slice (some ⟨b, 0, none⟩) T.n c) = some b from rfl) (by rw [hq, e])), h1⟩
/-- make([][256]int, n). -/
theorem made_zero (n : Nat) : (madeCells arrZ.cells (n * 256)).toList = flatN (fun _ _ => 0) n := by
  refine List.ext_getElem? fun i => ?_
  have hz : ∀ j, j < 256 → arrZ.cells[j]? = some (.int .i64 0) := fun j hj => by rw [arrZ_cells, List.getElem?_toArray, rowV_get _ hj]; rfl
  have hs : arrZ.cells.size = 256 := by rw [arrZ_cells, List.size_toArray, rowV_length]
  by_cases hi : i < n * 256
  · have e1 := flatN_get (fun _ _ => 0) (n := n) (s := i / 256) (c := i % 256) (by omega) (by omega)
    rw [show i / 256 * 256 + i % 256 = i by omega] at e1
    rw [e1]
    have h9 := hz (i % 256) (by omega)
    have h8 : arrZ.cells[i % 256]! = Value.int .i64 0 := by rw [getElem!_def, h9]
    simp [madeCells, hi, hs, h8]
  · rw [List.getElem?_eq_none (by rw [Array.length_toList, size_madeCells]; omega), List.getElem?_eq_none (by rw [flatN_length]; omega)]
theorem run_make_arr (w : World) (n : Nat) (hn : n ≤ 1000000) (k : Int) (hk : k = n) : (Instr.makeSlice 132 (.int .i64 k) (.int .i64 k)).run Tryd.prog w = .ok (.slice (some ⟨w.heap.size, 0, none⟩) n n) (w.alloc (.cells (flatN (fun _ _ => 0) n).toArray 136)) := by
  subst hk
  obtain ⟨i, hi, h2⟩ := Option.map_eq_some_iff.1 arr_info
  simp only [Prod.mk.injEq] at h2
  obtain ⟨h3, h4, h5⟩ := h2
  have hb : (i.bytes : Int) * (n : Int) ≤ 281474976710656 := by
    have h1 : i.bytes * n ≤ 2048 * 1000000 := Nat.mul_le_mul (by rw [h5]; exact Nat.le_refl _) hn
    have h : ((i.bytes * n : Nat) : Int) ≤ 281474976710656 := by omega
    rwa [Int.natCast_mul] at h
  have hr := run_make (P := Tryd.prog) w 132 136 i arrZ Tryd.underlying132 hi h3 .i64 .i64 n n (by omega) (Int.le_refl _) hb (by omega)
  simp only [Int.toNat_natCast, h4] at hr
  rw [← made_zero]
  exact hr
theorem owns_make_arr (w : World) (n : Nat) (hn : n ≤ 1000000) : (w.alloc (.cells (flatN (fun _ _ => 0) n).toArray 136)).ownsRow w.heap.size 136 256 (.slice (some ⟨w.heap.size, 0, none⟩) n n) n (flatN (fun _ _ => 0) n) := by
  have h := World.ownsRow_lit (e := 136) (size := 256) w (flatN (fun _ _ => 0) n).toArray n (Nat.le_refl _) (by unfold maxLen; omega) (by rw [List.size_toArray, flatN_length])
  rwa [List.toList_toArray] at h
theorem rows_base {w : World} {b b2 size n : Nat} {e : TypeId} {v : Value} {xs : List Value} (h : w.ownsRow b e size v n xs) (hb : b2 ≤ b) : w.ownsRow b2 e size v n xs := by
  refine ⟨h.1, ?_⟩
  rcases h.2 with hn | ⟨g, cap, cur, hv, hg, rest⟩
  · exact .inl hn
  · exact .inr ⟨g, cap, cur, hv, Nat.le_trans hb hg, rest⟩
theorem GraphAt.mono {w : World} {B B2 g : Nat} {nv av : Value} {T : Tab} (h : GraphAt w B g nv av T) (hB : B2 ≤ B) : GraphAt w B2 g nv av T := ⟨h.blk, Nat.le_trans hB h.hg, rows_base h.next hB, own_base h.acc hB⟩
theorem made_bools (n : Nat) : (madeCells #[Value.bool false] n).toList = (List.range n).map fun _ => Value.bool false := by
  rw [toList_madeCells_one]
  exact List.ext_getElem? fun i => by
    by_cases hi : i < n <;> simp [hi]
theorem own_make_bools (w : World) (n : Nat) (hn : n ≤ 1000000) : Own (w.alloc (.cells (madeCells #[Value.bool false] n) 4)) w.heap.size 4 (.slice (some ⟨w.heap.size, 0, none⟩) n n) ((List.range n).map fun _ => Value.bool false) := by
  have hl : (madeCells #[Value.bool false] n).size = n := size_madeCells _ _
  refine .inr ⟨w.heap.size, n, _, by rw [List.length_map, List.length_range], Nat.le_refl _, heap_alloc_new w _, by simp, by rw [hl]; exact Nat.le_refl _, by unfold maxLen; omega, ?_⟩
  rw [made_bools, List.length_map, List.length_range]
  exact List.take_of_length_le (by simp)
/-- ints made. -/
theorem made_ints (n : Nat) : (madeCells #[Value.int .i64 0] n).toList = intsV (fun _ => 0) n := by
  rw [toList_madeCells_one]
  exact List.ext_getElem? fun i => by
    by_cases hi : i < n <;> simp [hi, intsV]
theorem own_make_ints (w : World) (n : Nat) (hn : n ≤ 1000000000) : Own (w.alloc (.cells (madeCells #[Value.int .i64 0] n) 3)) w.heap.size 3 (.slice (some ⟨w.heap.size, 0, none⟩) n n) (intsV (fun _ => 0) n) := by
  have hl : (madeCells #[Value.int .i64 0] n).size = n := size_madeCells _ _
  refine .inr ⟨w.heap.size, n, _, by rw [intsV_length], Nat.le_refl _, heap_alloc_new w _, by rw [intsV_length]; exact Nat.le_refl _, by rw [hl]; exact Nat.le_refl _, by unfold maxLen; omega, ?_⟩
  rw [made_ints, intsV_length]
  exact List.take_of_length_le (by rw [intsV_length]; exact Nat.le_refl _)
theorem intsV_set (f : Nat → Nat) (n k v : Nat) : (intsV f n).set k (.int .i64 ((v : Nat) : Int)) = intsV (fun i => if i = k then v else f i) n := by
  refine List.ext_getElem? fun i => ?_
  rw [List.getElem?_set]
  by_cases hi : i < n
  · rw [intsV_get _ _ _ hi]
    by_cases e : k = i
    · subst e; rw [if_pos rfl, if_pos (by rw [intsV_length]; exact hi), intsV_get _ _ _ hi, if_pos rfl]
    · rw [if_neg e, intsV_get _ _ _ hi, if_neg (fun e9 => e (Eq.symm e9))]
  · have h1 : (intsV f n)[i]? = none := List.getElem?_eq_none (by rw [intsV_length]; omega)
    have h2 : (intsV (fun i => if i = k then v else f i) n)[i]? = none := List.getElem?_eq_none (by rw [intsV_length]; omega)
    rw [h1, h2]
    by_cases e : k = i
    · rw [if_pos e, if_neg (by rw [intsV_length]; omega)]
    · rw [if_neg e]
end Go.Proofs.YtejmjjgbbojfbaaDoor

/- auto, plain: states numbered as they are met. No program occurs here. -/
namespace Go.Proofs.YtejmjjgbbojfbaaDoor
set_option linter.unusedVariables false

/-- What is met at place p of a list of states. -/
def nxAt (H : Tab) (l : List Nat) (p : Nat) : Nat := H.nx (l.getD (p / 256) 0) (p % 256)
def mtStep (H : Tab) (l : List Nat) (p : Nat) : List Nat := if nxAt H l p ∈ l then l else l ++ [nxAt H l p]
/-- The states met ahead of place p. -/
def mts (H : Tab) : Nat → List Nat
  | 0 => [0]
  | p + 1 => mtStep H (mts H p) p
theorem mts_prefix (H : Tab) (p : Nat) : mts H p <+: mts H (p + 1) := by
  show _ <+: mtStep H (mts H p) p
  unfold mtStep
  split
  · exact List.prefix_refl _
  · exact List.prefix_append _ _
theorem mts_mono (H : Tab) {p q : Nat} (h : p ≤ q) : mts H p <+: mts H q := by
  induction h with
  | refl => exact List.prefix_refl _
  | step _ ih => exact ih.trans (mts_prefix H _)
theorem mts_nodup (H : Tab) : ∀ p, (mts H p).Nodup
  | 0 => by simp [mts]
  | p + 1 => by
    show (mtStep H (mts H p) p).Nodup
    unfold mtStep
    split
    · exact mts_nodup H p
    · next h => exact List.nodup_append.2 ⟨mts_nodup H p, by simp, fun a ha b hb e => by
        rw [List.mem_singleton.1 hb] at e
        exact h (e ▸ ha)⟩
theorem mts_rng (H : Tab) (h0 : 0 < H.n) (hr : ∀ s c, s < H.n → c < 256 → H.nx s c < H.n) : ∀ p, ∀ x ∈ mts H p, x < H.n
  | 0, x, hx => by
    rw [mts, List.mem_singleton] at hx
    omega
  | p + 1, x, hx => by
    have hx : x ∈ mtStep H (mts H p) p := hx
    unfold mtStep at hx
    split at hx
    · exact mts_rng H h0 hr p x hx
    · rcases List.mem_append.1 hx with hx | hx
      · exact mts_rng H h0 hr p x hx
      · rw [List.mem_singleton.1 hx]
        refine hr _ _ ?_ (by omega)
        by_cases hl : p / 256 < (mts H p).length
        · rw [show (mts H p).getD (p / 256) 0 = (mts H p)[p / 256] by simp [List.getD, hl]]
          exact mts_rng H h0 hr p _ (List.getElem_mem hl)
        · rw [show (mts H p).getD (p / 256) 0 = 0 by simp [List.getD, List.getElem?_eq_none (Nat.le_of_not_lt hl)]]
          exact h0
theorem prefix_getD {l l2 : List Nat} (h : l <+: l2) {i : Nat} (hi : i < l.length) : l2.getD i 0 = l.getD i 0 := by
  obtain ⟨r, rfl⟩ := h
  simp [List.getD, List.getElem?_append_left hi]
/-- The table of the states met. -/
def metTab (H : Tab) (fin : List Nat) : Tab := ⟨fin.length, fun i => H.acc (fin.getD i 0), fun i c => fin.idxOf (H.nx (fin.getD i 0) c)⟩
/-- The loop over the states met: it goes on while there is one more, ends where there is none. -/
structure Walked (H : Tab) (N : Nat) : Prop where
  go : ∀ s, s < N → s < (mts H (256 * s)).length
  fin : (mts H (256 * N)).length = N
theorem walked_nx {H : Tab} {N : Nat} (h : Walked H N) {p : Nat} (hp : p < 256 * N) : p / 256 < (mts H p).length ∧ (mts H (256 * N)).getD (p / 256) 0 = (mts H p).getD (p / 256) 0 ∧ nxAt H (mts H p) p ∈ mts H (p + 1) := by
  have h1 : p / 256 < (mts H p).length := Nat.lt_of_lt_of_le (h.go (p / 256) (by omega)) (mts_mono H (show 256 * (p / 256) ≤ p by omega)).length_le
  refine ⟨h1, prefix_getD (mts_mono H (by omega)) h1, ?_⟩
  show _ ∈ mtStep H (mts H p) p
  unfold mtStep
  split
  · next h => exact h
  · simp
theorem idx_prefix {l l2 : List Nat} (h : l <+: l2) {x : Nat} (hx : x ∈ l) : l2.idxOf x = l.idxOf x := by
  obtain ⟨r, rfl⟩ := h
  rw [List.idxOf_append, if_pos hx]
theorem walked_met {H : Tab} {N : Nat} (h : Walked H N) : ∀ p, p ≤ 256 * N → (metTab H (mts H (256 * N))).met p = (mts H p).length
  | 0, _ => rfl
  | p + 1, hp => by
    have ih := walked_met h p (by omega)
    obtain ⟨g1, g2, g3⟩ := walked_nx h (p := p) (by omega)
    have hnx : (metTab H (mts H (256 * N))).nx (p / 256) (p % 256) = (mts H (p + 1)).idxOf (nxAt H (mts H p) p) := by
      show (mts H (256 * N)).idxOf (H.nx ((mts H (256 * N)).getD (p / 256) 0) (p % 256)) = _
      rw [g2]
      exact idx_prefix (mts_mono H (by omega)) g3
    rw [Tab.met, hnx, ih]
    show _ = (mtStep H (mts H p) p).length
    have e : mts H (p + 1) = mtStep H (mts H p) p := rfl
    rw [e]
    unfold mtStep
    by_cases hm : nxAt H (mts H p) p ∈ mts H p
    · rw [if_pos hm, if_neg]
      have := List.idxOf_lt_length_of_mem hm
      omega
    · rw [if_neg hm, List.idxOf_append, if_neg hm]
      simp
theorem walked_canon {H : Tab} {N : Nat} {L : List Nat → Bool} (h : Walked H N) (h0 : 0 < H.n) (hr : ∀ s c, s < H.n → c < 256 → H.nx s c < H.n) (hN : 0 < N) (hlang : ∀ w, Bytes w → H.acc (H.run 0 w) = L w)
    (hap : ∀ i j, i < H.n → j < H.n → i ≠ j → ∃ w, Bytes w ∧ H.acc (H.run i w) ≠ H.acc (H.run j w)) : Canon (metTab H (mts H (256 * N))) L := by
  obtain ⟨F, hF⟩ : ∃ F, mts H (256 * N) = F := ⟨_, rfl⟩
  have hFl : F.length = N := by rw [← hF]; exact h.fin
  have hmem : ∀ i c, i < N → c < 256 → H.nx (F.getD i 0) c ∈ F := fun i c hi hc => by
    obtain ⟨g1, g2, g3⟩ := walked_nx h (p := 256 * i + c) (by omega)
    rw [show (256 * i + c) / 256 = i by omega] at g2
    have g4 := (mts_mono H (show 256 * i + c + 1 ≤ 256 * N by omega)).subset g3
    unfold nxAt at g4
    rw [show (256 * i + c) / 256 = i by omega, show (256 * i + c) % 256 = c by omega, ← g2] at g4
    rwa [hF] at g4
  have hget : ∀ i, i < N → F.getD i 0 ∈ F := fun i hi => by
    rw [show F.getD i 0 = F[i]'(by omega) by simp [List.getD, show i < F.length by omega]]
    exact List.getElem_mem _
  have hnd : F.Nodup := by rw [← hF]; exact mts_nodup H _
  have hidx : ∀ x, x ∈ F → F.getD (F.idxOf x) 0 = x := fun x hx => by
    have hl := List.idxOf_lt_length_of_mem hx
    rw [show F.getD (F.idxOf x) 0 = F[F.idxOf x] by simp [List.getD, hl]]
    exact List.getElem_idxOf hl
  have hren : Renum H (metTab H F) (fun x => F.idxOf x) (fun i => F.getD i 0) := by
    refine ⟨hr, fun i hi => ?_, fun i hi => ?_, ?_, ?_, fun i hi => rfl, fun i c hi hc => ⟨rfl, ?_, ?_⟩⟩
    · have hi : i < F.length := hi
      have := mts_rng H h0 hr (256 * N) (F.getD i 0) (by rw [hF]; exact hget i (by omega))
      exact this
    · have hi : i < F.length := hi
      show F.idxOf (F.getD i 0) = i
      rw [show F.getD i 0 = F[i] by simp [List.getD, hi]]
      exact hnd.idxOf_getElem i hi
    · have hp := mts_mono H (Nat.zero_le (256 * N))
      rw [hF] at hp
      rw [prefix_getD hp (by simp [mts])]
      rfl
    · show 0 < F.length; omega
    · have hi : i < F.length := hi
      exact hidx _ (hmem i c (by omega) hc)
    · have hi : i < F.length := hi
      exact List.idxOf_lt_length_of_mem (hmem i c (by omega) hc)
  have hmet := walked_met h
  rw [hF] at hmet
  have hn : (metTab H F).n = N := hFl
  rw [hF]
  refine hren.canon hlang hap (fun p hp => ?_) (fun s hs => ?_) ?_
  · rw [hn] at hp
    obtain ⟨g1, g2, g3⟩ := walked_nx h hp
    rw [hmet p (by omega)]
    show F.idxOf (H.nx (F.getD (p / 256) 0) (p % 256)) ≤ _
    rw [hF] at g2
    rw [g2]
    have e := idx_prefix (l2 := F) (by have := mts_mono H (show p + 1 ≤ 256 * N by omega); rwa [hF] at this) g3
    have e2 : F.idxOf (H.nx ((mts H p).getD (p / 256) 0) (p % 256)) = (mts H (p + 1)).idxOf (nxAt H (mts H p) p) := e
    rw [e2]
    have h9 := List.idxOf_lt_length_of_mem g3
    have h8 : (mts H (p + 1)).length ≤ (mts H p).length + 1 := by
      show (mtStep H (mts H p) p).length ≤ _
      unfold mtStep
      split
      · omega
      · simp
    omega
  · rw [hn] at hs
    rw [hmet _ (by omega)]
    exact h.go s hs
  · rw [hn, hmet _ (Nat.le_refl _)]
    exact h.fin
end Go.Proofs.YtejmjjgbbojfbaaDoor

/- auto: what the walk of table stands on. -/
namespace Go.Proofs.YtejmjjgbbojfbaaDoor
set_option linter.unusedVariables false
open Go.ChangeShapes Go.WideShapes Go.ChangeAt Go.RowKit

/-- Numbers as cells, below nought too. -/
def intsI (f : Nat → Int) (n : Nat) : List Value := (List.range n).map fun k => Value.int .i64 (f k)
theorem intsI_length (f : Nat → Int) (n : Nat) : (intsI f n).length = n := by simp [intsI]
theorem intsI_get (f : Nat → Int) (n k : Nat) (h : k < n) : (intsI f n)[k]? = some (.int .i64 (f k)) := by simp [intsI, h]
theorem intsI_congr {f g : Nat → Int} {n : Nat} (h : ∀ k, k < n → f k = g k) : intsI f n = intsI g n := by
  unfold intsI; exact List.map_congr_left fun k hk => by rw [h k (List.mem_range.1 hk)]
theorem intsI_set (f : Nat → Int) (n k : Nat) (v : Int) : (intsI f n).set k (.int .i64 v) = intsI (fun i => if i = k then v else f i) n := by
  refine List.ext_getElem? fun i => ?_
  rw [List.getElem?_set]
  by_cases hi : i < n
  · rw [intsI_get _ _ _ hi]
    by_cases e : k = i
    · subst e; rw [if_pos rfl, if_pos (by rw [intsI_length]; exact hi), intsI_get _ _ _ hi, if_pos rfl]
    · rw [if_neg e, intsI_get _ _ _ hi, if_neg (fun e9 => e (Eq.symm e9))]
  · have h1 : (intsI f n)[i]? = none := List.getElem?_eq_none (by rw [intsI_length]; omega)
    have h2 : (intsI (fun i => if i = k then v else f i) n)[i]? = none := List.getElem?_eq_none (by rw [intsI_length]; omega)
    rw [h1, h2]
    by_cases e : k = i
    · rw [if_pos e, if_neg (by rw [intsI_length]; omega)]
    · rw [if_neg e]
theorem intsV_I (f : Nat → Nat) (n : Nat) : intsV f n = intsI (fun k => ((f k : Nat) : Int)) n := rfl
/-- The number of a state among those met: -1 where it is not. -/
def nmI (l : List Nat) (i : Nat) : Int := if i ∈ l then ((l.idxOf i : Nat) : Int) else -1
theorem nmI_one : ∀ i, nmI [0] i = if i = 0 then 0 else -1 := fun i => by
  unfold nmI
  by_cases e : i = 0
  · subst e; simp
  · rw [if_neg (by simpa using e), if_neg e]
theorem nmI_snoc {l : List Nat} {n : Nat} (h : n ∉ l) (i : Nat) : (if i = n then ((l.length : Nat) : Int) else nmI l i) = nmI (l ++ [n]) i := by
  unfold nmI
  by_cases e : i = n
  · subst e
    rw [if_pos rfl, if_pos (by simp), List.idxOf_append, if_neg h]
    simp
  · rw [if_neg e]
    by_cases hi : i ∈ l
    · rw [if_pos hi, if_pos (List.mem_append_left _ hi), List.idxOf_append, if_pos hi]
    · rw [if_neg hi, if_neg]
      intro h9
      rcases List.mem_append.1 h9 with h9 | h9
      · exact hi h9
      · exact e (List.mem_singleton.1 h9)
/-- A table in memory. -/
structure TabAt (w : World) (B : Nat) (A X : Option Addr) (ca cx : Nat) (T : Tab) : Prop where
  acc : Own w B 4 (.slice A T.n ca) ((List.range T.n).map fun s => .bool (T.acc s))
  nx : Own w B 3 (.slice X (256 * T.n) cx) (intsV (fun j => T.nx (j / 256) (j % 256)) (256 * T.n))
theorem TabAt.below {w w2 : World} {B B2 : Nat} {A X : Option Addr} {ca cx : Nat} {T : Tab} (h : TabAt w B A X ca cx T) (hb : Below B2 w w2) (hB : w.heap.size ≤ B2) : TabAt w2 B A X ca cx T := ⟨h.acc.below hb hB, h.nx.below hb hB⟩
theorem TabAt.mono {w : World} {B B2 : Nat} {A X : Option Addr} {ca cx : Nat} {T : Tab} (h : TabAt w B A X ca cx T) (hB : B2 ≤ B) : TabAt w B2 A X ca cx T := ⟨own_base h.acc hB, own_base h.nx hB⟩
/-- States met are never more than there are. -/
theorem nodup_le {l : List Nat} {n : Nat} (h : l.Nodup) (hr : ∀ x ∈ l, x < n) : l.length ≤ n := by
  by_cases hlt : l.length ≤ n
  · exact hlt
  · exfalso
    obtain ⟨i, hi, e⟩ := inj_onto l.length (fun i => l.getD i 0) (fun i hi => by
      show l.getD i 0 < l.length
      rw [show l.getD i 0 = l[i] by simp [List.getD, hi]]
      have := hr _ (List.getElem_mem hi); omega) (fun i j hi hj e => by
      have e : l.getD i 0 = l.getD j 0 := e
      rw [show l.getD i 0 = l[i] by simp [List.getD, hi], show l.getD j 0 = l[j] by simp [List.getD, hj]] at e
      rw [← h.idxOf_getElem i hi, ← h.idxOf_getElem j hj, e]) (l.length - 1) (by omega)
    have e : l.getD i 0 = l.length - 1 := e
    rw [show l.getD i 0 = l[i] by simp [List.getD, hi]] at e
    have := hr _ (List.getElem_mem hi)
    omega
structure TbS (w wr : World) (rs kb : Nat) (H : Tab) (mv : Value) (l : List Nat) : Prop where
  num : Own wr w.heap.size 3 (.slice (some ⟨kb, 0, none⟩) H.n H.n) (intsI (nmI l) H.n)
  met : Own wr w.heap.size 3 mv (natsV l)
  sep : mv.ownBlock ≠ some kb
  res : wr.heap[rs]? = some (.cells #[.int .i64 0, .slice none 0 0, .slice none 0 0] 54 (0, 0))
  bl : Below w.heap.size w wr
theorem TbS.drew {w wr : World} {rs kb : Nat} {H : Tab} {mv : Value} {l : List Nat} (h : TbS w wr rs kb H mv l) : TbS w wr.drew rs kb H mv l := ⟨h.num, h.met, h.sep, h.res, h.bl.drew⟩
theorem TbS.below {w wr w2 : World} {rs kb : Nat} {H : Tab} {mv : Value} {l : List Nat} (h : TbS w wr rs kb H mv l) (hb : Below wr.heap.size wr w2) : TbS w w2 rs kb H mv l :=
  ⟨h.num.below hb (Nat.le_refl _), h.met.below hb (Nat.le_refl _), h.sep, (hb.block rs (lt_of_heap h.res)).trans h.res, h.bl.trans (hb.mono h.bl.size)⟩
theorem TbS.alloc {w wr : World} {rs kb : Nat} {H : Tab} {mv : Value} {l : List Nat} (h : TbS w wr rs kb H mv l) (o : Obj) : TbS w (wr.alloc o) rs kb H mv l := h.below ((Below.refl _ _).alloc (Nat.le_refl _) o)
theorem heap_al {w : World} {b : Nat} {o o2 : Obj} (h : w.heap[b]? = some o) : (w.alloc o2).heap[b]? = some o := (Below.heap_alloc w o2 b (lt_of_heap h)).trans h
theorem TbS.ne {w wr : World} {rs kb : Nat} {H : Tab} {mv : Value} {l : List Nat} (h : TbS w wr rs kb H mv l) : rs ≠ kb := fun e => h.num.ne_type h.res (by decide) (by rw [e]; rfl)
theorem TbS.setT {w X : World} {rs kb tb : Nat} {H : Tab} {mv : Value} {l : List Nat} {cs : Array Value} (h : TbS w X rs kb H mv l) (hT : X.heap[tb]? = some (.cells cs 54 (0, 0))) (hr : rs ≠ tb) (hb : w.heap.size ≤ tb) (i : Nat) (u : Value) : TbS w (X.setCell ⟨tb, i, none⟩ u) rs kb H mv l :=
  ⟨h.num.setOther (p := ⟨tb, i, none⟩) (h.num.ne_type hT (by decide)) u, h.met.setOther (p := ⟨tb, i, none⟩) (h.met.ne_type hT (by decide)) u, h.sep, (Below.heap_setCell X ⟨tb, i, none⟩ u rs hr).trans h.res, h.bl.setCell (p := ⟨tb, i, none⟩) hb u⟩
theorem TbS.put {w wr : World} {rs kb n : Nat} {H : Tab} {mv : Value} {l : List Nat} (h : TbS w wr rs kb H mv l) (hn : n ∉ l) :
    Own (wr.setCell ⟨kb, n, none⟩ (.int .i64 ((l.length : Nat) : Int))) w.heap.size 3 (.slice (some ⟨kb, 0, none⟩) H.n H.n) (intsI (nmI (l ++ [n])) H.n) ∧
    Own (wr.setCell ⟨kb, n, none⟩ (.int .i64 ((l.length : Nat) : Int))) w.heap.size 3 mv (natsV l) ∧
    (wr.setCell ⟨kb, n, none⟩ (.int .i64 ((l.length : Nat) : Int))).heap[rs]? = some (.cells #[.int .i64 0, .slice none 0 0, .slice none 0 0] 54 (0, 0)) ∧
    Below w.heap.size w (wr.setCell ⟨kb, n, none⟩ (.int .i64 ((l.length : Nat) : Int))) := by
  have h1 := h.num.set n (.int .i64 ((l.length : Nat) : Int))
  rw [intsI_set] at h1
  exact ⟨own_to h1 (intsI_congr fun i _ => nmI_snoc hn i), h.met.setOther (p := ⟨kb, n, none⟩) h.sep _, (Below.heap_setCell wr ⟨kb, n, none⟩ _ rs h.ne).trans h.res, h.bl.setCell (p := ⟨kb, n, none⟩) (h.num.lt kb rfl).1 _⟩
theorem TbS.app {w w2 w3 : World} {rs kb n : Nat} {H : Tab} {mv mv2 : Value} {l : List Nat} (h1 : Own w2 w.heap.size 3 (.slice (some ⟨kb, 0, none⟩) H.n H.n) (intsI (nmI (l ++ [n])) H.n)) (h2 : Own w2 w.heap.size 3 mv (natsV l)) (hs : mv.ownBlock ≠ some kb)
    (h3 : w2.heap[rs]? = some (.cells #[.int .i64 0, .slice none 0 0, .slice none 0 0] 54 (0, 0))) (h4 : Below w.heap.size w w2) (g1 : Own w3 w.heap.size 3 mv2 (natsV l ++ [.int .i64 ((n : Nat) : Int)])) (g3 : mv2.ownBlock = mv.ownBlock ∨ (mv2.ownBlock = some (w2.heap.size + 1) ∧ Below w2.heap.size w2 w3)) (g4 : w2.grownBy w3 mv.ownBlock) :
    TbS w w3 rs kb H mv2 (l ++ [n]) := by
  have he := Eff.ofGrown g4
  refine ⟨h1.eff he (fun k hk e => ?_), by rw [natsV_snoc]; exact g1, ?_, (he.block rs (lt_of_heap h3) (h2.ne_type h3 (by decide))).trans h3, h4.grown g4 h4.size (fun k hk => (h2.lt k hk).1)⟩
  · have hk : kb = k := Option.some.inj hk
    rw [← hk] at e
    exact hs e
  · rcases g3 with g | ⟨g, _⟩
    · rw [g]; exact hs
    · rw [g]
      intro e
      have := (h1.lt kb rfl).2
      have := Option.some.inj e
      omega
/-- The state behind the table's making: i bools, q numbers are filled. -/
structure TcS (w wr : World) (rs kb tb ab xb : Nat) (H : Tab) (mv : Value) (l : List Nat) (i q : Nat) : Prop where
  st : TbS w wr rs kb H mv l
  tab : wr.heap[tb]? = some (.cells #[.int .i64 0, .slice (some ⟨ab, 0, none⟩) l.length l.length, .slice (some ⟨xb, 0, none⟩) (256 * l.length) (256 * l.length)] 54 (0, 0))
  htb : w.heap.size < tb
  acc : Own wr w.heap.size 4 (.slice (some ⟨ab, 0, none⟩) l.length l.length) ((List.range l.length).map fun s => Value.bool (if s < i then H.acc (l.getD s 0) else false))
  nx : Own wr w.heap.size 3 (.slice (some ⟨xb, 0, none⟩) (256 * l.length) (256 * l.length)) (intsV (fun j => if j < q then l.idxOf (H.nx (l.getD (j / 256) 0) (j % 256)) else 0) (256 * l.length))
  kx : kb ≠ xb
  mx : mv.ownBlock ≠ some xb
section
variable {w wr : World} {rs kb tb ab xb : Nat} {H : Tab} {mv : Value} {l : List Nat} {i q : Nat}
theorem TcS.setAcc (h : TcS w wr rs kb tb ab xb H mv l i q) (b : Bool) (hb : b = H.acc (l.getD i 0)) : TcS w (wr.setCell ⟨ab, i, none⟩ (.bool b)).drew rs kb tb ab xb H mv l (i + 1) q := by
  subst hb
  have hta : tb ≠ ab := fun e => h.acc.ne_type h.tab (by decide) (by rw [e]; rfl)
  have hra : rs ≠ ab := fun e => h.acc.ne_type h.st.res (by decide) (by rw [e]; rfl)
  have h1 := h.acc.set i (.bool (H.acc (l.getD i 0)))
  rw [bools_set] at h1
  have e1 : ((List.range l.length).map fun s => Value.bool (if s = i then H.acc (l.getD i 0) else if s < i then H.acc (l.getD s 0) else false)) = (List.range l.length).map fun s => Value.bool (if s < i + 1 then H.acc (l.getD s 0) else false) := List.map_congr_left fun s _ => by
    by_cases e : s = i
    · subst e; rw [if_pos rfl, if_pos (by omega)]
    · rw [if_neg e]
      by_cases e2 : s < i
      · rw [if_pos e2, if_pos (by omega)]
      · rw [if_neg e2, if_neg (by omega)]
  rw [e1] at h1
  refine ⟨⟨h.st.num.setOther (p := ⟨ab, i, none⟩) (fun e => own_types h.acc h.st.num (by decide) rfl e) _, h.st.met.setOther (p := ⟨ab, i, none⟩) (fun e => own_types h.acc h.st.met (by decide) rfl e) _, h.st.sep, (Below.heap_setCell wr ⟨ab, i, none⟩ _ rs hra).trans h.st.res, (h.st.bl.setCell (p := ⟨ab, i, none⟩) (h.acc.lt ab rfl).1 _).drew⟩,
    (Below.heap_setCell wr ⟨ab, i, none⟩ _ tb hta).trans h.tab, h.htb, h1, h.nx.setOther (p := ⟨ab, i, none⟩) (fun e => own_types h.acc h.nx (by decide) rfl e) _, h.kx, h.mx⟩
theorem TcS.setNx (h : TcS w wr rs kb tb ab xb H mv l i q) (k : Nat) (hk : k = l.idxOf (H.nx (l.getD (q / 256) 0) (q % 256))) : TcS w (wr.setCell ⟨xb, q, none⟩ (.int .i64 ((k : Nat) : Int))).drew rs kb tb ab xb H mv l i (q + 1) := by
  subst hk
  have hta : tb ≠ xb := fun e => h.nx.ne_type h.tab (by decide) (by rw [e]; rfl)
  have hra : rs ≠ xb := fun e => h.nx.ne_type h.st.res (by decide) (by rw [e]; rfl)
  have h1 := h.nx.set q (.int .i64 ((l.idxOf (H.nx (l.getD (q / 256) 0) (q % 256)) : Nat) : Int))
  rw [intsV_set] at h1
  refine ⟨⟨h.st.num.setOther (p := ⟨xb, q, none⟩) (fun e => h.kx (Option.some.inj e)) _, h.st.met.setOther (p := ⟨xb, q, none⟩) h.mx _, h.st.sep, (Below.heap_setCell wr ⟨xb, q, none⟩ _ rs hra).trans h.st.res, (h.st.bl.setCell (p := ⟨xb, q, none⟩) (h.nx.lt xb rfl).1 _).drew⟩,
    (Below.heap_setCell wr ⟨xb, q, none⟩ _ tb hta).trans h.tab, h.htb, h.acc.setOther (p := ⟨xb, q, none⟩) (fun e => own_types h.acc h.nx (by decide) e rfl) _, own_to h1 (intsV_congr fun j _ => ?_), h.kx, h.mx⟩
  by_cases e : j = q
  · subst e; rw [if_pos rfl, if_pos (by omega)]
  · rw [if_neg e]
    by_cases e2 : j < q
    · rw [if_pos e2, if_pos (by omega)]
    · rw [if_neg e2, if_neg (by omega)]
end
theorem mts_len {H : Tab} (h0 : 0 < H.n) (hr : ∀ s c, s < H.n → c < 256 → H.nx s c < H.n) (p : Nat) : (mts H p).length ≤ H.n := nodup_le (mts_nodup H p) (mts_rng H h0 hr p)
end Go.Proofs.YtejmjjgbbojfbaaDoor
