/- AutoOneTable, plain: machines of short texts have few descriptions; machines of one language. -/
import Derived.Test.YtejmjjgbbojfbaaDoorZG5
import Derived.Test.YtejmjjgbbojfbaaDoorZTabS
import Derived.Test.YtejmjjgbbojfbaaDoorZSpanP
namespace Go.Proofs.YtejmjjgbbojfbaaDoor
set_option linter.unusedVariables false

/-- A list without repeats, all of it in another, is no longer. -/
theorem nodup_sub {l D : List ByteArray} (h : l.Nodup) (hs : ∀ x ∈ l, x ∈ D) : l.length ≤ D.length := by
  by_cases hlt : l.length ≤ D.length
  · exact hlt
  · exfalso
    have hD : ∀ i, i < l.length → D.idxOf (dsAt l i) < D.length ∧ D.getD (D.idxOf (dsAt l i)) ⟨#[]⟩ = dsAt l i := fun i hi => by
      have hm := hs _ (List.getElem_mem hi)
      rw [dsAt_get hi]
      have h9 := List.idxOf_lt_length_of_mem hm
      exact ⟨h9, by rw [List.getD_eq_getElem?_getD, List.getElem?_eq_getElem h9]; exact List.getElem_idxOf h9⟩
    obtain ⟨i, hi, e⟩ := inj_onto l.length (fun i => D.idxOf (dsAt l i)) (fun i hi => by have := (hD i hi).1; show D.idxOf (dsAt l i) < l.length; omega) (fun i j hi hj e => by
      have e : D.idxOf (dsAt l i) = D.idxOf (dsAt l j) := e
      have e1 := (hD i hi).2
      rw [e, (hD j hj).2, dsAt_get hi, dsAt_get hj] at e1
      rw [← h.idxOf_getElem i hi, ← h.idxOf_getElem j hj, e1]) (l.length - 1) (by omega)
    have e : D.idxOf (dsAt l i) = l.length - 1 := e
    have := (hD i hi).1
    omega
/-- Descriptions that all lie in a list of at most m: laying out does not stop. -/
theorem few_of {M : Mach} {D : List ByteArray} {m : Nat} (hD : ∀ s, runM M s ∈ D) (hl : D.length ≤ m) : ∀ p, ¬ LyNo M m p := fun p h => by
  have h1 := lyNo_len h
  have h2 : (lys M (p + 1)).length ≤ D.length := nodup_sub (lys_nodup M (p + 1)) (fun x hx => by
    obtain ⟨s, rfl, _⟩ := lys_run M (p + 1) (fun q hq => Nat.lt_of_lt_of_le (h.go (q / 256) (by omega)) (lys_mono M (show 256 * (q / 256) ≤ q by omega)).length_le) x hx
    exact hD s)
  omega
theorem mem_range_map {f : Nat → ByteArray} {n k : Nat} (h : k < n) : f k ∈ (List.range n).map f := List.mem_map.2 ⟨k, List.mem_range.2 h, rfl⟩
theorem few_exact {w : List UInt8} (hw : w.length ≤ 40) : ∀ p, ¬ LyNo (exactM w) 1024 p := by
  refine few_of (D := ⟨#[]⟩ :: (List.range 41).map placeS) (fun s => ?_) (by simp)
  rw [run_exact w (by omega)]
  cases h : headB w s with
  | true =>
    rw [if_pos rfl]
    exact List.mem_cons_of_mem _ (mem_range_map (by have := headB_len h; omega))
  | false => rw [if_neg (by simp)]; exact List.mem_cons_self ..
theorem few_prefix {w : List UInt8} (hw : w.length ≤ 40) : ∀ p, ¬ LyNo (prefixM w) 1024 p := by
  refine few_of (D := ⟨#[]⟩ :: (List.range 41).map placeS) (fun s => ?_) (by simp)
  rw [run_prefix w (by omega)]
  cases h1 : headB s w with
  | true => rw [if_pos rfl]; exact List.mem_cons_of_mem _ (mem_range_map (by omega))
  | false =>
    rw [if_neg (by simp)]
    cases h : headB w s with
    | true => rw [if_pos rfl]; exact List.mem_cons_of_mem _ (mem_range_map (by have := headB_len h; omega))
    | false => rw [if_neg (by simp)]; exact List.mem_cons_self ..
def spD (n : Nat) : List ByteArray := [placeS 0 ++ placeS 0, placeS (n + 1) ++ placeS 0, placeS 0 ++ placeS (n + 1), placeS (n + 1) ++ placeS (n + 1)]
theorem spD_len : ∀ n, ((List.range n).flatMap spD).length = 4 * n
  | 0 => rfl
  | n + 1 => by rw [List.range_succ, List.flatMap_append, List.length_append, spD_len n]; simp [spD]; omega
theorem spD_mem {n k : Nat} {x : ByteArray} (hk : k < n) (h : x ∈ spD k) : x ∈ (List.range n).flatMap spD := List.mem_flatMap.2 ⟨k, List.mem_range.2 hk, h⟩
theorem few_span (a b : Bool) (s : ByteArray) (c d : Bool) (t : ByteArray) (hs : s.size ≤ 40) (ht : t.size ≤ 40) : ∀ p, ¬ LyNo (spanM a b s c d t) 1024 p := by
  have hsl : s.data.toList.length = s.size := Array.length_toList (xs := s.data)
  have htl : t.data.toList.length = t.size := Array.length_toList (xs := t.data)
  refine few_of (D := ⟨#[]⟩ :: (List.range 41).flatMap spD) (fun X => ?_) (by rw [List.length_cons, spD_len]; omega)
  rw [run_span a b s c d t (by omega) (by omega)]
  unfold liveR
  cases hL : loR a s.data.toList X with
  | none => exact List.mem_cons_self ..
  | some L =>
    cases hH : hiR c t.data.toList X with
    | none => exact List.mem_cons_self ..
    | some H =>
      simp only
      split
      · rw [descR_some]
        refine List.mem_cons_of_mem _ ?_
        rcases loR_le hL with rfl | ⟨rfl, h1, -⟩
        · rcases hiR_le hH with rfl | ⟨rfl, h2, -⟩
          · exact spD_mem (k := 0) (by omega) (by simp [spD])
          · exact spD_mem (k := X.length) (by have := headB_len h2; omega) (by simp [spD])
        · rcases hiR_le hH with rfl | ⟨rfl, h2, -⟩
          · exact spD_mem (k := X.length) (by have := headB_len h1; omega) (by simp [spD])
          · exact spD_mem (k := X.length) (by have := headB_len h1; omega) (by simp [spD])
      · exact List.mem_cons_self ..
theorem few_fuzz {w : List UInt8} (hw : w.length ≤ 40) : ∀ p, ¬ LyNo (fuzzM w 0) 1024 p := by
  refine few_of (D := ⟨#[]⟩ :: (List.range 41).map (fun k => strN (fzOf w 0 (w.take k)))) (fun s => ?_) (by simp)
  rcases run_fz2 w 0 (by omega) s with h | ⟨h, x, hx, hx0⟩
  · rw [h]; exact List.mem_cons_self ..
  · obtain ⟨i, hi, hxi⟩ := List.getElem_of_mem hx
    have hi2 : i ≤ w.length := by rw [fzOf_length] at hi; omega
    have h2 := fz_lev w 0 s i hi2
    have h3 : (fzOf w 0 s).getD i 0 = 0 := by
      rw [List.getD_eq_getElem?_getD, List.getElem?_eq_getElem hi, Option.getD_some, hxi]; omega
    have h4 : lev (w.take i) s = 0 := by omega
    have h5 : w.take i = s := lev_eq_zero.1 h4
    rw [h, ← h5]
    exact List.mem_cons_of_mem _ (mem_range_map (f := fun k => strN (fzOf w 0 (w.take k))) (by omega))
/-- Letters, then stars. -/
def lsE (w : List UInt8) (k : Nat) : List PEl := (w.map fun c => ((0 : Nat), c)) ++ List.replicate k (2, 0)
theorem lsE_len (w : List UInt8) (k : Nat) : (lsE w k).length = w.length + k := by simp [lsE]
theorem lsE_let {w : List UInt8} {k i : Nat} (h : i < w.length) : PEl.k (lsE w k) i = 0 ∧ PEl.b (lsE w k) i = w[i] := by
  have e : (lsE w k).getD i (0, 0) = (0, w[i]) := by
    unfold lsE
    rw [List.getD_eq_getElem?_getD, List.getElem?_append_left (by simpa using h)]
    simp [h]
  unfold PEl.k PEl.b
  rw [e]
  exact ⟨rfl, rfl⟩
theorem lsE_star {w : List UInt8} {k i : Nat} (h : w.length ≤ i) (h2 : i < w.length + k) : PEl.k (lsE w k) i = 2 := by
  have e : (lsE w k).getD i (0, 0) = (2, 0) := by
    unfold lsE
    rw [List.getD_eq_getElem?_getD, List.getElem?_append_right (by simpa using h)]
    rw [List.getElem?_replicate, if_pos (by simp; omega)]
    rfl
  unfold PEl.k
  rw [e]
theorem mt_let {w : List UInt8} {k : Nat} : ∀ i, i ≤ w.length → ∀ s, Mt (lsE w k) i s ↔ s = w.take i
  | 0, _, s => by rw [Mt, List.take_zero]
  | i + 1, hi, s => by
    obtain ⟨h1, h2⟩ := lsE_let (k := k) (show i < w.length by omega)
    have ih := mt_let (w := w) (k := k) i (by omega)
    rw [Mt, h1, h2, List.take_succ_eq_append_getElem (by omega)]
    constructor
    · rintro (⟨h, _⟩ | ⟨h, _⟩ | ⟨_, t, rfl, ht⟩)
      · cases h
      · cases h
      · rw [(ih t).1 ht]
    · rintro rfl
      exact .inr (.inr ⟨rfl, _, rfl, (ih _).2 rfl⟩)
theorem headB_take {s w : List UInt8} : headB s w = true ↔ ∃ t, s = w ++ t := by
  rw [headB_iff]
  constructor
  · rintro ⟨h1, h2⟩
    exact ⟨s.drop w.length, by conv => lhs; rw [← List.take_append_drop w.length s, ← h2]⟩
  · rintro ⟨t, rfl⟩
    exact ⟨by simp, by rw [List.take_left]⟩
theorem mt_star {w : List UInt8} {k : Nat} : ∀ i, i < k → ∀ s, Mt (lsE w k) (w.length + i + 1) s ↔ headB s w = true
  | 0, hi, s => by
    have h1 := lsE_star (w := w) (k := k) (i := w.length) (Nat.le_refl _) (by omega)
    rw [Nat.add_zero, Mt, h1]
    constructor
    · rintro (⟨_, j, hj, hm⟩ | ⟨h, _⟩ | ⟨h, _⟩)
      · have hm := (mt_let w.length (Nat.le_refl _) _).1 hm
        rw [List.take_length] at hm
        exact headB_take.2 ⟨s.drop j, by conv => lhs; rw [← List.take_append_drop j s, hm]⟩
      · cases h
      · cases h
    · intro h
      obtain ⟨t, rfl⟩ := headB_take.1 h
      exact .inl ⟨rfl, w.length, by simp, (mt_let w.length (Nat.le_refl _) _).2 (by rw [List.take_left, List.take_length])⟩
  | i + 1, hi, s => by
    have h1 := lsE_star (w := w) (k := k) (i := w.length + (i + 1)) (by omega) (by omega)
    have ih := mt_star (w := w) (k := k) i (by omega)
    rw [Mt, h1]
    constructor
    · rintro (⟨_, j, hj, hm⟩ | ⟨h, _⟩ | ⟨h, _⟩)
      · obtain ⟨t, ht⟩ := headB_take.1 ((ih _).1 hm)
        exact headB_take.2 ⟨t ++ s.drop j, by conv => lhs; rw [← List.take_append_drop j s, ht, List.append_assoc]⟩
      · cases h
      · cases h
    · intro h
      exact .inl ⟨rfl, s.length, Nat.le_refl _, (ih _).2 (by rw [List.take_length]; exact h)⟩
theorem set_same {es : List PEl} {s t : List UInt8} (h : ∀ i, i ≤ es.length → (Mt es i s ↔ Mt es i t)) : setOf es s = setOf es t := by
  refine List.ext_getElem? fun i => ?_
  by_cases hi : i < es.length + 1
  · have h1 : i < (setOf es s).length := by rw [setOf_length]; exact hi
    have h2 : i < (setOf es t).length := by rw [setOf_length]; exact hi
    have e1 : (setOf es s).getD i false = (setOf es s)[i] := by rw [List.getD_eq_getElem?_getD, List.getElem?_eq_getElem h1]; rfl
    have e2 : (setOf es t).getD i false = (setOf es t)[i] := by rw [List.getD_eq_getElem?_getD, List.getElem?_eq_getElem h2]; rfl
    have h3 := set_mt es s i (by omega)
    have h4 := set_mt es t i (by omega)
    rw [e1] at h3
    rw [e2] at h4
    rw [List.getElem?_eq_getElem h1, List.getElem?_eq_getElem h2]
    congr 1
    rw [Bool.eq_iff_iff, h3, h4]
    exact h i (by omega)
  · rw [List.getElem?_eq_none (by rw [setOf_length]; omega), List.getElem?_eq_none (by rw [setOf_length]; omega)]
theorem few_wild {w : List UInt8} {k : Nat} (hw : w.length ≤ 40) : ∀ p, ¬ LyNo (wildM (lsE w k)) 1024 p := by
  refine few_of (D := ⟨#[]⟩ :: strB (setOf (lsE w k) (w ++ [0])) :: (List.range 41).map (fun j => strB (setOf (lsE w k) (w.take j)))) (fun s => ?_) (by simp)
  rcases run_set (lsE w k) s with ⟨h, -⟩ | ⟨h, h0⟩
  · rw [h]; exact List.mem_cons_self ..
  · rw [h]
    refine List.mem_cons_of_mem _ ?_
    by_cases hh : headB w s = true
    · obtain ⟨h1, h2⟩ := (headB_iff w s).1 hh
      refine List.mem_cons_of_mem _ ?_
      have e : strB (setOf (lsE w k) s) = strB (setOf (lsE w k) (w.take s.length)) := by rw [← h2]
      rw [e]
      exact mem_range_map (f := fun j => strB (setOf (lsE w k) (w.take j))) (by omega)
    · have hno : ∀ i, i ≤ w.length → ∀ t : List UInt8, headB w t ≠ true → ¬ Mt (lsE w k) i t := fun i hi t ht hm => by
        rw [mt_let i hi] at hm
        exact ht ((headB_iff w t).2 ⟨by rw [hm, List.length_take]; omega, by rw [hm, List.length_take, Nat.min_eq_left hi]⟩)
      have hno0 : headB w (w ++ [0]) ≠ true := fun e => by have := headB_len e; simp at this; omega
      by_cases hp : headB s w = true
      · have e : setOf (lsE w k) s = setOf (lsE w k) (w ++ [0]) := set_same fun i hi => by
          rw [lsE_len] at hi
          by_cases h1 : i ≤ w.length
          · exact iff_of_false (hno i h1 s hh) (hno i h1 _ hno0)
          · obtain ⟨j, rfl⟩ : ∃ j, i = w.length + j + 1 := ⟨i - w.length - 1, by omega⟩
            rw [mt_star j (by omega), mt_star j (by omega)]
            exact iff_of_true hp (headB_take.2 ⟨[0], rfl⟩)
        rw [e]; exact List.mem_cons_self ..
      · exfalso
        obtain ⟨x, hx, hx1⟩ := List.any_eq_true.1 h0
        obtain ⟨i, hi, hxi⟩ := List.getElem_of_mem hx
        rw [setOf_length, lsE_len] at hi
        have h9 : (setOf (lsE w k) s).getD i false = true := by
          rw [List.getD_eq_getElem?_getD, List.getElem?_eq_getElem (by rw [setOf_length, lsE_len]; exact hi), Option.getD_some, hxi]; exact hx1
        have h8 := (set_mt (lsE w k) s i (by rw [lsE_len]; omega)).1 h9
        by_cases h1 : i ≤ w.length
        · exact hno i h1 s hh h8
        · obtain ⟨j, rfl⟩ : ∃ j, i = w.length + j + 1 := ⟨i - w.length - 1, by omega⟩
          exact hp ((mt_star j (by omega) s).1 h8)
/-! ### One language -/
theorem lang_eq {M M2 : Mach} (h : ∀ s, accM M s = accM M2 s) : langM M = langM M2 := by funext w; exact h (u8s w)
theorem acc_wild0 (w : List UInt8) (s : List UInt8) : accM (wildM (lsE w 0)) s = decide (s = w) := by
  rw [Bool.eq_iff_iff, acc_mt, lsE_len, Nat.add_zero, mt_let w.length (Nat.le_refl _), List.take_length, decide_eq_true_iff]
theorem acc_wildS (w : List UInt8) (k : Nat) (s : List UInt8) : accM (wildM (lsE w (k + 1))) s = headB s w := by
  rw [Bool.eq_iff_iff, acc_mt, lsE_len, show w.length + (k + 1) = w.length + k + 1 by omega, mt_star k (by omega)]
theorem acc_fuzz0 (w s : List UInt8) : accM (fuzzM w 0) s = decide (s = w) := by
  rw [acc_fz w 0 (by omega)]
  by_cases h : w = s
  · rw [decide_eq_true (by rw [lev_eq_zero.2 h]; omega), decide_eq_true h.symm]
  · rw [decide_eq_false (fun e => h (lev_eq_zero.1 (by omega))), decide_eq_false (fun e => h e.symm)]
theorem acc_none_up (a b : Bool) (s : ByteArray) (hs : s.size < 4000000000) (X : List UInt8) : accM (spanM a b s false false ⟨#[]⟩) X = false := by
  rw [acc_span a b s false false ⟨#[]⟩ hs (by decide), accR_eq]
  have : upOk false false (⟨#[]⟩ : ByteArray).data.toList X = false := by
    unfold upOk
    cases X <;> rfl
  rw [this, Bool.and_false]
theorem acc_none_same (b : Bool) (s : ByteArray) (hs : s.size < 4000000000) (X : List UInt8) : accM (spanM false b s false false s) X = false := by
  rw [acc_span false b s false false s hs hs, accR_eq]
  unfold lowOk upOk
  cases Op.bytesLess X s.data.toList <;> simp
theorem acc_open (b d : Bool) (s t : ByteArray) (hs : s.size < 4000000000) (ht : t.size < 4000000000) (X : List UInt8) : accM (spanM true b s true d t) X = true := by
  rw [acc_span true b s true d t hs ht, accR_eq]; rfl
theorem acc_from (d : Bool) (t : ByteArray) (ht : t.size < 4000000000) (X : List UInt8) : accM (spanM false true ⟨#[]⟩ true d t) X = true := by
  rw [acc_span false true ⟨#[]⟩ true d t (by decide) ht, accR_eq]
  unfold lowOk upOk
  cases X <;> rfl
theorem less_total : ∀ S T : List UInt8, Op.bytesLess S T = false → Op.bytesLess T S = false → S = T
  | [], [], _, _ => rfl
  | [], y :: T, h, _ => by simp [Op.bytesLess] at h
  | x :: S, [], _, h => by simp [Op.bytesLess] at h
  | x :: S, y :: T, h1, h2 => by
    simp only [Op.bytesLess, Bool.or_eq_false_iff, decide_eq_false_iff_not, Bool.and_eq_false_iff] at h1 h2
    have hxy : x = y := by
      have a := h1.1
      have b := h2.1
      rw [UInt8.lt_iff_toNat_lt] at a b
      exact UInt8.toNat_inj.1 (by omega)
    subst hxy
    have h3 : Op.bytesLess S T = false := by
      rcases h1.2 with h | h
      · simp at h
      · exact h
    have h4 : Op.bytesLess T S = false := by
      rcases h2.2 with h | h
      · simp at h
      · exact h
    rw [less_total S T h3 h4]
theorem acc_same (s : ByteArray) (hs : s.size < 4000000000) (X : List UInt8) : accM (spanM false true s false true s) X = decide (X = s.data.toList) := by
  rw [acc_span false true s false true s hs hs, accR_eq]
  unfold lowOk upOk
  by_cases h : X = s.data.toList
  · rw [decide_eq_true h, h, less_irrefl]; simp
  · rw [decide_eq_false h]
    cases h1 : Op.bytesLess X s.data.toList with
    | true => simp
    | false => simp [h]
theorem acc_every (s : List UInt8) : accM (prefixM []) s = true := by
  rw [acc_prefix [] (by simp)]
  exact headB_take.2 ⟨s, rfl⟩
theorem acc_wildE (k : Nat) (s : List UInt8) : accM (wildM (lsE [] (k + 1))) s = true := by
  rw [acc_wildS]
  exact headB_take.2 ⟨s, rfl⟩
/-- The table of no text: one state that accepts nothing. -/
theorem none_canon {T : Tab} {L : List Nat → Bool} (h : Canon T L) (hn : 0 < T.n) (hL : ∀ w, Bytes w → L w = false) : T.n = 1 ∧ T.acc 0 = false := by
  have hacc : ∀ (s : Nat), s < T.n → ∀ w, Bytes w → T.acc (T.run s w) = false := by
    have h1 : Canon ⟨1, fun _ => false, fun _ _ => 0⟩ L := by
      have hrun : ∀ (w : List Nat) (s : Nat), (⟨1, fun _ => false, fun _ _ => 0⟩ : Tab).acc ((⟨1, fun _ => false, fun _ _ => 0⟩ : Tab).run s w) = false := fun w s => rfl
      have hmet : ∀ p, (⟨1, fun _ => false, fun _ _ => 0⟩ : Tab).met p = 1 := by
        intro p
        induction p with
        | zero => rfl
        | succ p ih => rw [Tab.met, ih, if_neg (fun e => absurd (show (0 : Nat) = 1 from e) (by decide))]
      refine ⟨fun s c _ _ => Nat.lt_succ_self 0, fun w hw => by rw [hrun, hL w hw], fun p _ => Nat.zero_le _, fun s hs => by rw [hmet]; exact hs, hmet _, fun s t hs ht hst => ?_⟩
      have hs : s < 1 := hs
      have ht : t < 1 := ht
      omega
    obtain ⟨g1, g2, g3⟩ := canon_one h h1
    have g1 : T.n = 1 := g1
    intro s hs w hw
    have g4 : ∀ q, q < T.n → T.acc q = false := fun q hq => g2 q hq
    have g5 : ∀ (w : List Nat) (q : Nat), Bytes w → q < T.n → T.run q w < T.n := by
      intro w
      induction w with
      | nil => intro q _ hq; exact hq
      | cons c r ih => intro q hw hq; exact ih _ (fun x hx => hw x (List.mem_cons_of_mem _ hx)) (h.rng q c hq (hw c (List.mem_cons_self ..)))
    exact g4 _ (g5 w s hw hs)
  have hone : T.n = 1 := by
    by_cases e : T.n = 1
    · exact e
    · obtain ⟨w, hw, h9⟩ := h.apart 0 1 hn (by omega) (by omega)
      rw [hacc 0 hn w hw, hacc 1 (by omega) w hw] at h9
      exact absurd rfl h9
  exact ⟨hone, hacc 0 hn [] (fun c hc => by cases hc)⟩
end Go.Proofs.YtejmjjgbbojfbaaDoor
