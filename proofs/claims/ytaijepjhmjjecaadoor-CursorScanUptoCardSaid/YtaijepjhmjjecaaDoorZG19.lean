/- Merged: PhP, PhU. -/
import Derived.Lib.SlicesCompact
/- The phrase's frequency, plain: rising lists, what both sides count, and its rules. No program occurs here. -/
namespace Go.Proofs.YtaijepjhmjjecaaDoor
set_option linter.unusedVariables false

def Rise (l : List Int) : Prop := l.Pairwise (· < ·)
def insI (x : Int) : List Int → List Int
  | [] => [x]
  | y :: r => if x < y then x :: y :: r else if x = y then y :: r else y :: insI x r
theorem insI_mem (x : Int) : ∀ (l : List Int) (z : Int), z ∈ insI x l ↔ z = x ∨ z ∈ l
  | [], z => by simp [insI]
  | y :: r, z => by
    unfold insI
    split
    · simp
    · split
      · rename_i h1 h2; subst h2; simp
      · simp only [List.mem_cons, insI_mem x r z]
        constructor
        · rintro (h | h | h) <;> simp [h]
        · rintro (h | h | h) <;> simp [h]
theorem insI_rise (x : Int) : ∀ (l : List Int), Rise l → Rise (insI x l)
  | [], _ => List.pairwise_singleton _ _
  | y :: r, h => by
    obtain ⟨h1, h2⟩ := List.pairwise_cons.1 h
    unfold insI
    split
    · next hl =>
      refine List.pairwise_cons.2 ⟨fun z hz => ?_, h⟩
      rcases List.mem_cons.1 hz with rfl | hz
      · exact hl
      · have := h1 z hz; omega
    · split
      · exact h
      · refine List.pairwise_cons.2 ⟨fun z hz => ?_, insI_rise x r h2⟩
        rcases (insI_mem x r z).1 hz with rfl | hz
        · omega
        · exact h1 z hz
theorem insI_len (x : Int) : ∀ (l : List Int), Rise l → (insI x l).length = if x ∈ l then l.length else l.length + 1
  | [], _ => by simp [insI]
  | y :: r, h => by
    obtain ⟨h1, h2⟩ := List.pairwise_cons.1 h
    unfold insI
    split
    · next hl =>
      have hn : ¬ x ∈ y :: r := fun hm => by
        rcases List.mem_cons.1 hm with rfl | hm
        · omega
        · have := h1 x hm; omega
      rw [if_neg hn]; rfl
    · split
      · next _ he => subst he; simp
      · next hl hne =>
        have ih := insI_len x r h2
        by_cases hm : x ∈ r
        · rw [if_pos hm] at ih
          rw [if_pos (List.mem_cons_of_mem _ hm), List.length_cons, ih]; rfl
        · rw [if_neg hm] at ih
          have hn : ¬ x ∈ y :: r := fun h9 => by
            rcases List.mem_cons.1 h9 with h9 | h9
            · exact hne h9
            · exact hm h9
          rw [if_neg hn, List.length_cons, ih]; rfl
def riseOf (l : List Int) : List Int := l.foldl (fun r x => insI x r) []
theorem riseOf_snoc (l : List Int) (x : Int) : riseOf (l ++ [x]) = insI x (riseOf l) := by simp [riseOf]
theorem foldIns_mem : ∀ (l r : List Int) (z : Int), z ∈ l.foldl (fun r x => insI x r) r ↔ z ∈ l ∨ z ∈ r
  | [], r, z => by simp
  | x :: l, r, z => by
    rw [List.foldl_cons, foldIns_mem l, insI_mem]
    simp only [List.mem_cons]
    constructor
    · rintro (h | h | h) <;> simp [h]
    · rintro ((h | h) | h) <;> simp [h]
theorem riseOf_mem (l : List Int) (z : Int) : z ∈ riseOf l ↔ z ∈ l := by simp [riseOf, foldIns_mem]
theorem foldIns_rise : ∀ (l r : List Int), Rise r → Rise (l.foldl (fun r x => insI x r) r)
  | [], r, h => h
  | x :: l, r, h => foldIns_rise l _ (insI_rise x r h)
theorem riseOf_rise (l : List Int) : Rise (riseOf l) := foldIns_rise l [] List.Pairwise.nil
/-- Two rising lists with the same members are one. -/
theorem rise_ext : ∀ {a b : List Int}, Rise a → Rise b → (∀ z, z ∈ a ↔ z ∈ b) → a = b
  | [], [], _, _, _ => rfl
  | [], y :: r, _, _, h => absurd ((h y).2 (by simp)) (by simp)
  | x :: l, [], _, _, h => absurd ((h x).1 (by simp)) (by simp)
  | x :: l, y :: r, ha, hb, h => by
    obtain ⟨a1, a2⟩ := List.pairwise_cons.1 ha
    obtain ⟨b1, b2⟩ := List.pairwise_cons.1 hb
    have hxy : x = y := by
      have h1 := (h x).1 (by simp)
      have h2 := (h y).2 (by simp)
      rcases List.mem_cons.1 h1 with e | h1
      · exact e
      · rcases List.mem_cons.1 h2 with e | h2
        · exact e.symm
        · have := b1 x h1; have := a1 y h2; omega
    subst hxy
    congr 1
    refine rise_ext a2 b2 fun z => ?_
    constructor
    · intro hz
      have h1 := (h z).1 (List.mem_cons_of_mem _ hz)
      rcases List.mem_cons.1 h1 with rfl | h1
      · exact absurd (a1 z hz) (by omega)
      · exact h1
    · intro hz
      have h1 := (h z).2 (List.mem_cons_of_mem _ hz)
      rcases List.mem_cons.1 h1 with rfl | h1
      · exact absurd (b1 z hz) (by omega)
      · exact h1
theorem riseOf_ext {a b : List Int} (h : ∀ z, z ∈ a ↔ z ∈ b) : riseOf a = riseOf b :=
  rise_ext (riseOf_rise a) (riseOf_rise b) fun z => by rw [riseOf_mem, riseOf_mem, h]
theorem riseOf_self {a : List Int} (h : Rise a) : riseOf a = a := rise_ext (riseOf_rise a) h fun z => riseOf_mem a z
/-! ### What both sides count -/
def shiftL (o : Int) (l : List Int) : List Int := l.map (· - o)
def hasIn (l : List Int) (lo hi : Int) : Bool := l.any fun x => decide (lo ≤ x) && decide (x ≤ hi)
theorem hasIn_iff {l : List Int} {lo hi : Int} : hasIn l lo hi = true ↔ ∃ x ∈ l, lo ≤ x ∧ x ≤ hi := by simp [hasIn]
theorem hasIn_ext {a b : List Int} (h : ∀ z, z ∈ a ↔ z ∈ b) (lo hi : Int) : hasIn a lo hi = hasIn b lo hi := by
  rw [Bool.eq_iff_iff, hasIn_iff, hasIn_iff]
  constructor
  · rintro ⟨x, hx, r⟩; exact ⟨x, (h x).1 hx, r⟩
  · rintro ⟨x, hx, r⟩; exact ⟨x, (h x).2 hx, r⟩
def movedV : List (List Int) → List Int → List (List Int)
  | l :: ls, o :: os => shiftL o l :: movedV ls os
  | _, _ => []
theorem movedV_length : ∀ (ls : List (List Int)) (os : List Int), ls.length = os.length → (movedV ls os).length = ls.length
  | [], [], _ => rfl
  | l :: ls, o :: os, h => by rw [movedV, List.length_cons, List.length_cons, movedV_length ls os (by simpa using h)]
theorem movedV_get : ∀ (ls : List (List Int)) (os : List Int) (i : Nat) (h : i < ls.length) (h2 : i < os.length) (h3 : i < (movedV ls os).length), (movedV ls os)[i] = shiftL os[i] ls[i]
  | l :: ls, o :: os, 0, h, h2, h3 => rfl
  | l :: ls, o :: os, i + 1, h, h2, h3 => movedV_get ls os i (by simpa using h) (by simpa using h2) (by simpa [movedV] using h3)
/-- The count over the tried places. -/
def cntV (S : List Int) (ms : List (List Int)) (slop : Int) : Nat := (S.filter fun b => ms.all fun l => hasIn l b (b + slop)).length
def okN (x : Int) : Bool := decide (0 ≤ x) && decide (x ≤ 2147483646)
theorem okN_iff {x : Int} : okN x = true ↔ 0 ≤ x ∧ x ≤ 2147483646 := by simp [okN]
def phOk (ls : List (List Int)) (os : List Int) (slop : Int) : Bool :=
  (decide (ls ≠ []) && decide (ls.length = os.length) && decide (0 ≤ slop) && decide (slop ≤ 2147483647)) && (os.all okN && ls.all fun l => l.all okN)
def phV (ls : List (List Int)) (os : List Int) (slop : Int) : Nat :=
  if phOk ls os slop = true then cntV (riseOf (movedV ls os).flatten) (movedV ls os) slop else 0
/-! ### Sorted, then each once -/
theorem compact_rise (d : Array Int) (hs : d.toList.Pairwise (· ≤ ·)) : ∀ m, m ≤ d.size → Rise (Lib.compactUpTo d m) ∧ (∀ z, z ∈ Lib.compactUpTo d m ↔ z ∈ d.toList.take m) ∧ ∀ z ∈ Lib.compactUpTo d m, ∀ j, m = j + 1 → z ≤ d[j]!
  | 0, _ => ⟨by simp [Lib.compactUpTo, Rise], by simp [Lib.compactUpTo], fun z hz => by simp [Lib.compactUpTo] at hz⟩
  | m + 1, hm => by
    obtain ⟨i1, i2, i3⟩ := compact_rise d hs m (by omega)
    have hd : d[m]! = d[m]'(by omega) := getElem!_pos d m (by omega)
    have htk : d.toList.take (m + 1) = d.toList.take m ++ [d[m]'(by omega)] := by
      rw [List.take_succ_eq_append_getElem (by simp; omega)]; simp
    have hle : ∀ j, j < m → d[j]! ≤ d[m]! := fun j hj => by
      have := List.pairwise_iff_getElem.1 hs j m (by simp; omega) (by simp; omega) hj
      rw [hd, getElem!_pos d j (by omega)]
      simpa using this
    rw [Lib.compactUpTo_succ]
    by_cases hk : Lib.keeps d m = true
    · rw [if_pos hk]
      have hne : m = 0 ∨ d[m]! ≠ d[m - 1]! := of_decide_eq_true hk
      have hlt : ∀ z ∈ Lib.compactUpTo d m, z < d[m]! := fun z hz => by
        rcases hne with h0 | h0
        · subst h0; simp [Lib.compactUpTo] at hz
        · have h1 := i3 z hz (m - 1) (by
            have : m ≠ 0 := fun e => by subst e; simp [Lib.compactUpTo] at hz
            omega)
          have : m ≠ 0 := fun e => by subst e; simp [Lib.compactUpTo] at hz
          have h2 := hle (m - 1) (by omega)
          omega
      refine ⟨List.pairwise_append.2 ⟨i1, List.pairwise_singleton _ _, fun z hz y hy => by rw [List.mem_singleton.1 hy]; exact hlt z hz⟩, fun z => ?_, fun z hz j hj => ?_⟩
      · rw [htk, List.mem_append, List.mem_append, i2, hd]
      · obtain rfl : j = m := by omega
        rcases List.mem_append.1 hz with hz | hz
        · exact Int.le_of_lt (hlt z hz)
        · rw [List.mem_singleton.1 hz]; exact Int.le_refl _
    · rw [if_neg hk, List.append_nil]
      have hne : ¬ (m = 0 ∨ d[m]! ≠ d[m - 1]!) := fun h => hk (decide_eq_true h)
      have h0 : m ≠ 0 := fun e => hne (.inl e)
      have he : d[m]! = d[m - 1]! := by
        refine Classical.byContradiction fun h => hne (.inr h)
      refine ⟨i1, fun z => ?_, fun z hz j hj => ?_⟩
      · rw [htk, List.mem_append, i2]
        constructor
        · exact .inl
        · rintro (h | h)
          · exact h
          · rw [List.mem_singleton.1 h, ← hd, he, getElem!_pos d (m - 1) (by omega)]
            refine List.mem_iff_getElem.2 ⟨m - 1, by simp; omega, by simp⟩
      · obtain rfl : j = m := by omega
        have := i3 z hz (j - 1) (by omega)
        omega
theorem compact_sorted {l : List Int} (hs : l.Pairwise (· ≤ ·)) : Lib.compact l = riseOf l := by
  obtain ⟨h1, h2, _⟩ := compact_rise l.toArray (by simpa using hs) l.length (by simp)
  refine rise_ext h1 (riseOf_rise l) fun z => ?_
  rw [riseOf_mem]
  show z ∈ Lib.compactUpTo l.toArray l.length ↔ _
  rw [h2]; simp
theorem sortI_mem (l : List Int) (z : Int) : z ∈ l.mergeSort (fun x y => decide (x ≤ y)) ↔ z ∈ l := List.mem_mergeSort
theorem sortI_le (l : List Int) : (l.mergeSort fun x y => decide (x ≤ y)).Pairwise (· ≤ ·) := by
  have h := List.pairwise_mergeSort (le := fun x y : Int => decide (x ≤ y)) (fun a b c h1 h2 => decide_eq_true (Int.le_trans (of_decide_eq_true h1) (of_decide_eq_true h2))) (fun a b => by
    rcases Int.le_total a b with h | h <;> simp [h]) l
  exact h.imp fun hxy => of_decide_eq_true hxy
theorem cntV_ext {S S' : List Int} {ms ms' : List (List Int)} {slop : Int} (hS : S = S') (hl : ms.length = ms'.length) (h : ∀ (i : Nat) (h1 : i < ms.length) (h2 : i < ms'.length), ∀ z, z ∈ ms[i] ↔ z ∈ ms'[i]) : cntV S ms slop = cntV S' ms' slop := by
  subst hS
  unfold cntV
  congr 1
  refine List.filter_congr fun b _ => ?_
  rw [Bool.eq_iff_iff, List.all_eq_true, List.all_eq_true]
  constructor
  · intro h9 l hl'
    obtain ⟨i, hi, rfl⟩ := List.mem_iff_getElem.1 hl'
    rw [← hasIn_ext (h i (by omega) hi)]
    exact h9 _ (List.getElem_mem _)
  · intro h9 l hl'
    obtain ⟨i, hi, rfl⟩ := List.mem_iff_getElem.1 hl'
    rw [hasIn_ext (h i hi (by omega))]
    exact h9 _ (List.getElem_mem _)
end Go.Proofs.YtaijepjhmjjecaaDoor

/- The phrase's frequency, plain: two rising lists merged; a number looked for. No program occurs here. -/
namespace Go.Proofs.YtaijepjhmjjecaaDoor
set_option linter.unusedVariables false

/-- The merge's state: out is what stands ahead of both places. -/
structure UniS (a b : List Int) (i j : Nat) (out : List Int) : Prop where
  hi : i ≤ a.length
  hj : j ≤ b.length
  eq : out = riseOf (a.take i ++ b.take j)
  la : ∀ z ∈ out, ∀ h : i < a.length, z < a[i]
  lb : ∀ z ∈ out, ∀ h : j < b.length, z < b[j]
theorem UniS.start (a b : List Int) : UniS a b 0 0 [] := ⟨Nat.zero_le _, Nat.zero_le _, by simp [riseOf], fun z hz => absurd hz (by simp), fun z hz => absurd hz (by simp)⟩
theorem rise_lt {a : List Int} (h : Rise a) {i j : Nat} (hj : j < a.length) (hij : i < j) : a[i]'(by omega) < a[j] := List.pairwise_iff_getElem.1 h i j (by omega) hj hij
theorem take_mem_succ {a : List Int} {i : Nat} (h : i < a.length) (z : Int) : z ∈ a.take (i + 1) ↔ z ∈ a.take i ∨ z = a[i] := by
  rw [List.take_succ_eq_append_getElem h, List.mem_append, List.mem_singleton]
theorem UniS.put {a b : List Int} {i j i' j' : Nat} {out : List Int} {x : Int} (h : UniS a b i j out) (hi : i' ≤ a.length) (hj : j' ≤ b.length)
    (hx : ∀ z ∈ out, z < x) (hm : ∀ z, (z ∈ a.take i' ∨ z ∈ b.take j') ↔ (z ∈ a.take i ∨ z ∈ b.take j) ∨ z = x) (ha : ∀ h : i' < a.length, x < a[i']) (hb : ∀ h : j' < b.length, x < b[j']) : UniS a b i' j' (out ++ [x]) := by
  have hl : ∀ z ∈ out ++ [x], z ≤ x := fun z hz => by
    rcases List.mem_append.1 hz with hz | hz
    · exact Int.le_of_lt (hx z hz)
    · rw [List.mem_singleton.1 hz]; exact Int.le_refl _
  refine ⟨hi, hj, ?_, fun z hz h9 => by have := hl z hz; have := ha h9; omega, fun z hz h9 => by have := hl z hz; have := hb h9; omega⟩
  refine rise_ext (List.pairwise_append.2 ⟨by rw [h.eq]; exact riseOf_rise _, List.pairwise_singleton _ _, fun z hz y hy => by rw [List.mem_singleton.1 hy]; exact hx z hz⟩) (riseOf_rise _) fun z => ?_
  rw [List.mem_append, List.mem_singleton, h.eq, riseOf_mem, riseOf_mem, List.mem_append, List.mem_append, hm]
theorem UniS.left {a b : List Int} (hA : Rise a) {i j : Nat} {out : List Int} (h : UniS a b i j out) (hi : i < a.length) (hlt : ∀ hj : j < b.length, a[i] < b[j]) : UniS a b (i + 1) j (out ++ [a[i]]) :=
  h.put hi h.hj (fun z hz => h.la z hz hi) (fun z => by rw [take_mem_succ hi]; constructor <;> (rintro ((h | h) | h) <;> simp [h])) (fun h9 => rise_lt hA h9 (by omega)) hlt
theorem UniS.right {a b : List Int} (hB : Rise b) {i j : Nat} {out : List Int} (h : UniS a b i j out) (hj : j < b.length) (hlt : ∀ hi : i < a.length, b[j] < a[i]) : UniS a b i (j + 1) (out ++ [b[j]]) :=
  h.put h.hi hj (fun z hz => h.lb z hz hj) (fun z => by
    rw [take_mem_succ hj]
    constructor
    · rintro (h | h | h) <;> simp [h]
    · rintro ((h | h) | h) <;> simp [h]) hlt (fun h9 => rise_lt hB h9 (by omega))
theorem UniS.both {a b : List Int} (hA : Rise a) (hB : Rise b) {i j : Nat} {out : List Int} (h : UniS a b i j out) (hi : i < a.length) (hj : j < b.length) (he : a[i] = b[j]) : UniS a b (i + 1) (j + 1) (out ++ [a[i]]) :=
  h.put hi hj (fun z hz => h.la z hz hi) (fun z => by
    rw [take_mem_succ hi, take_mem_succ hj, he]
    constructor
    · rintro ((h | h) | h | h) <;> simp [h]
    · rintro ((h | h) | h) <;> simp [h]) (fun h9 => rise_lt hA h9 (by omega)) (fun h9 => by rw [he]; exact rise_lt hB h9 (by omega))
theorem UniS.fin {a b : List Int} {i j : Nat} {out : List Int} (h : UniS a b i j out) (hi : ¬ i < a.length) (hj : ¬ j < b.length) : out = riseOf (a ++ b) := by
  rw [h.eq, List.take_of_length_le (by omega), List.take_of_length_le (by omega)]
/-- Looked for by halves. -/
structure BetS (l : List Int) (lo : Int) (f t : Nat) : Prop where
  le : f ≤ t
  ht : t ≤ l.length
  low : ∀ (k : Nat) (h : k < l.length), k < f → l[k] < lo
  high : ∀ (k : Nat) (h : k < l.length), t ≤ k → lo ≤ l[k]
theorem BetS.start (l : List Int) (lo : Int) : BetS l lo 0 l.length := ⟨Nat.zero_le _, Nat.le_refl _, fun k h h9 => by omega, fun k h h9 => by omega⟩
theorem BetS.up {l : List Int} (hl : Rise l) {lo : Int} {f t k : Nat} (h : BetS l lo f t) (hk : k < l.length) (h1 : f ≤ k) (h2 : k < t) (hlt : l[k] < lo) : BetS l lo (k + 1) t :=
  ⟨by omega, h.ht, fun m hm h9 => by
    rcases Nat.lt_or_eq_of_le (show m ≤ k by omega) with h10 | h10
    · have := rise_lt hl hk h10; omega
    · subst h10; exact hlt, h.high⟩
theorem BetS.down {l : List Int} (hl : Rise l) {lo : Int} {f t k : Nat} (h : BetS l lo f t) (hk : k < l.length) (h1 : f ≤ k) (h2 : k < t) (hge : lo ≤ l[k]) : BetS l lo f k :=
  ⟨h1, by omega, h.low, fun m hm h9 => by
    rcases Nat.lt_or_eq_of_le h9 with h10 | h10
    · have := rise_lt hl hm h10; omega
    · subst h10; exact hge⟩
theorem BetS.fin {l : List Int} (hl : Rise l) {lo hi : Int} {f : Nat} (h : BetS l lo f f) : hasIn l lo hi = if hf : f < l.length then decide (l[f] ≤ hi) else false := by
  rw [Bool.eq_iff_iff, hasIn_iff]
  constructor
  · rintro ⟨x, hx, h1, h2⟩
    obtain ⟨k, hk, rfl⟩ := List.mem_iff_getElem.1 hx
    have hfk : f ≤ k := by
      rcases Nat.lt_or_ge k f with h9 | h9
      · have := h.low k hk h9; omega
      · exact h9
    have hf : f < l.length := by omega
    rw [dif_pos hf]
    refine decide_eq_true ?_
    rcases Nat.lt_or_eq_of_le hfk with h9 | h9
    · have := rise_lt hl hk h9; omega
    · subst h9; exact h2
  · intro h9
    split at h9
    · next hf => exact ⟨l[f], List.getElem_mem hf, h.high f hf (Nat.le_refl _), of_decide_eq_true h9⟩
    · cases h9
end Go.Proofs.YtaijepjhmjjecaaDoor
