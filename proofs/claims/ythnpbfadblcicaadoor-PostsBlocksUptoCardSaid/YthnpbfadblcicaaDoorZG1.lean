/- Merged: PostP, PostV, PostS. -/
import Derived.Test.YthnpbfadblcicaaDoorZWList
import Derived.Test.YthnpbfadblcicaaDoorZG2
/- posts, plain: postings as bytes. No program occurs here. -/
namespace Go.Proofs.YthnpbfadblcicaaDoor
set_option linter.unusedVariables false

structure PostV where
  doc : Int
  pos : List Int
/-- Does each rise over the one ahead of it? -/
def risesB : List Int → Bool
  | x :: y :: r => decide (x < y) && risesB (y :: r)
  | _ => true
theorem risesB_iff : ∀ l : List Int, risesB l = true ↔ rises l
  | [] => by simp [risesB, rises]
  | [x] => by simp [risesB, rises]
  | x :: y :: r => by
    rw [risesB, Bool.and_eq_true, decide_eq_true_iff, risesB_iff (y :: r)]
    constructor
    · rintro ⟨h1, h2⟩ i hi
      match i, hi with
      | 0, hi => exact h1
      | i + 1, hi => exact h2 i (by simpa using hi)
    · intro h
      exact ⟨h 0 (by simp), fun i hi => h (i + 1) (by simpa using hi)⟩
/-- The error's number of one posting behind a document. -/
def goodV (last : Int) (p : PostV) : Nat :=
  if p.doc < 0 ∨ 2147483647 ≤ p.doc then 8 else if p.doc ≤ last then 4 else if p.pos = [] then 8 else if anyNeg p.pos then 8 else if risesB p.pos then 0 else 4
def checkV : Int → List PostV → Nat
  | _, [] => 0
  | last, p :: r => if goodV last p = 0 then checkV p.doc r else goodV last p
theorem goodV_ok {last : Int} {p : PostV} (h : goodV last p = 0) : 0 ≤ p.doc ∧ p.doc < 2147483647 ∧ last < p.doc ∧ p.pos ≠ [] ∧ anyNeg p.pos = false ∧ rises p.pos := by
  unfold goodV at h
  split at h
  · cases h
  split at h
  · cases h
  split at h
  · cases h
  split at h
  · cases h
  split at h
  · rename_i h1 h2 h3 h4 h5
    exact ⟨by omega, by omega, by omega, h3, by simpa using h4, (risesB_iff _).1 h5⟩
  · cases h
theorem goodV_cases (last : Int) (p : PostV) : goodV last p = 0 ∨ goodV last p = 4 ∨ goodV last p = 8 := by
  unfold goodV
  repeat' (first | (split; try simp) | simp)
theorem checkV_cases : ∀ (last : Int) (l : List PostV), checkV last l = 0 ∨ checkV last l = 4 ∨ checkV last l = 8
  | _, [] => .inl rfl
  | last, p :: r => by
    unfold checkV
    split
    · exact checkV_cases p.doc r
    · exact goodV_cases last p
theorem checkV_drop {last : Int} {l : List PostV} {i : Nat} (h : i < l.length) : checkV last (l.drop i) = if goodV last l[i] = 0 then checkV l[i].doc (l.drop (i + 1)) else goodV last l[i] := by
  rw [List.drop_eq_getElem_cons h]; rfl
def totalV (l : List PostV) : Nat := (l.map (·.pos.length)).sum
theorem totalV_take (l : List PostV) (i : Nat) (h : i < l.length) : totalV (l.take (i + 1)) = totalV (l.take i) + l[i].pos.length := by
  unfold totalV
  rw [List.take_succ_eq_append_getElem h, List.map_append, List.sum_append]; simp
/-- The last document behind base. -/
def lastV : Int → List PostV → Int
  | base, [] => base
  | _, p :: r => lastV p.doc r
theorem lastV_snoc : ∀ (base : Int) (l : List PostV) (p : PostV), lastV base (l ++ [p]) = p.doc
  | base, [], p => rfl
  | base, q :: r, p => lastV_snoc q.doc r p
theorem lastV_append : ∀ (base : Int) (l m : List PostV), lastV base (l ++ m) = lastV (lastV base l) m
  | base, [], m => rfl
  | base, q :: r, m => lastV_append q.doc r m
/-- The gaps of the documents, the counts of the positions, the positions' steps. -/
def gapsD : Int → List PostV → List Nat
  | _, [] => []
  | base, p :: r => (p.doc - base - 1).toNat :: gapsD p.doc r
theorem gapsD_snoc : ∀ (base : Int) (l : List PostV) (p : PostV), gapsD base (l ++ [p]) = gapsD base l ++ [(p.doc - lastV base l - 1).toNat]
  | base, [], p => rfl
  | base, q :: r, p => by rw [List.cons_append, gapsD, gapsD_snoc q.doc r p]; rfl
theorem gapsD_length : ∀ (base : Int) (l : List PostV), (gapsD base l).length = l.length
  | _, [] => rfl
  | _, p :: r => by rw [gapsD, List.length_cons, gapsD_length p.doc r, List.length_cons]
def freqV (l : List PostV) : List Nat := l.map fun p => p.pos.length - 1
theorem freqV_length (l : List PostV) : (freqV l).length = l.length := by simp [freqV]
theorem freqV_snoc (l : List PostV) (p : PostV) : freqV (l ++ [p]) = freqV l ++ [p.pos.length - 1] := by simp [freqV]
def tailV (l : List PostV) : List UInt8 := l.flatMap fun p => gapsB (-1) p.pos
theorem tailV_snoc (l : List PostV) (p : PostV) : tailV (l ++ [p]) = tailV l ++ gapsB (-1) p.pos := by simp [tailV]
/-- The bytes of a block. -/
def blockB (base : Int) (l : List PostV) : List UInt8 := pckB (gapsD base l) ++ (pckB (freqV l) ++ tailV l)
/-- Sixteen by sixteen. -/
def chp (l : List PostV) : List (List PostV) := if h : l = [] then [] else l.take 16 :: chp (l.drop 16)
termination_by l.length
decreasing_by
  rw [List.length_drop]
  have : 0 < l.length := List.length_pos_iff.2 h
  omega
theorem chp_nil : chp [] = [] := by rw [chp]; simp
theorem chp_cons {l : List PostV} (h : l ≠ []) : chp l = l.take 16 :: chp (l.drop 16) := by rw [chp, dif_neg h]
/-- The blocks: the last document's gap, the bytes. -/
def blksV : Int → List (List PostV) → List (Nat × List UInt8)
  | _, [] => []
  | base, c :: r => ((lastV base c - base - 1).toNat, blockB base c) :: blksV (lastV base c) r
def headV (b : List (Nat × List UInt8)) : List UInt8 := b.flatMap fun x => uvar x.1 ++ uvar x.2.length
def bodyV (b : List (Nat × List UInt8)) : List UInt8 := b.flatMap (·.2)
def imageV (l : List PostV) : List UInt8 := (uvar l.length ++ uvar (totalV l)) ++ (headV (blksV (-1) (chp l)) ++ bodyV (blksV (-1) (chp l)))
/-- A list that is good behind a document. -/
def okV (last : Int) (l : List PostV) : Prop := checkV last l = 0
theorem okV_cons {last : Int} {p : PostV} {r : List PostV} (h : okV last (p :: r)) : goodV last p = 0 ∧ okV p.doc r := by
  unfold okV checkV at h
  by_cases hg : goodV last p = 0
  · rw [if_pos hg] at h; exact ⟨hg, h⟩
  · rw [if_neg hg] at h; exact absurd h hg
theorem okV_append : ∀ {last : Int} {a b : List PostV}, okV last (a ++ b) → okV last a ∧ okV (lastV last a) b
  | last, [], b, h => ⟨rfl, h⟩
  | last, p :: r, b, h => by
    obtain ⟨h1, h2⟩ := okV_cons (show okV last (p :: (r ++ b)) from h)
    obtain ⟨h3, h4⟩ := okV_append h2
    refine ⟨?_, h4⟩
    unfold okV checkV
    rw [if_pos h1]; exact h3
theorem okV_get : ∀ {last : Int} {l : List PostV}, okV last l → ∀ (i : Nat) (h : i < l.length), goodV (lastV last (l.take i)) l[i] = 0
  | last, p :: r, hk, 0, h => (okV_cons hk).1
  | last, p :: r, hk, i + 1, h => okV_get (okV_cons hk).2 i (by simpa using h)
theorem okV_last : ∀ {last : Int} {l : List PostV}, okV last l → last ≤ lastV last l ∧ (l ≠ [] → last < lastV last l ∧ lastV last l < 2147483647 ∧ 0 ≤ lastV last l)
  | last, [], _ => ⟨Int.le_refl _, fun h => absurd rfl h⟩
  | last, p :: r, h => by
    obtain ⟨h1, h2⟩ := okV_cons h
    obtain ⟨g1, g2, g3, _⟩ := goodV_ok h1
    obtain ⟨h3, h4⟩ := okV_last h2
    refine ⟨?_, fun _ => ?_⟩
    · show last ≤ lastV p.doc r; omega
    · show last < lastV p.doc r ∧ lastV p.doc r < 2147483647 ∧ 0 ≤ lastV p.doc r
      cases r with
      | nil => exact ⟨g3, g2, g1⟩
      | cons q s => have := h4 (by simp); omega
theorem okV_gaps : ∀ {last : Int} {l : List PostV}, okV last l → -1 ≤ last → ∀ x ∈ gapsD last l, x < 2147483648
  | last, [], _, _, x, hx => by cases hx
  | last, p :: r, h, hl, x, hx => by
    obtain ⟨h1, h2⟩ := okV_cons h
    obtain ⟨g1, g2, g3, _⟩ := goodV_ok h1
    rcases List.mem_cons.1 hx with rfl | hx
    · omega
    · exact okV_gaps h2 (by omega) x hx
end Go.Proofs.YthnpbfadblcicaaDoor

/- posts: postings as cells. -/
namespace Go.Proofs.YthnpbfadblcicaaDoor
set_option linter.unusedVariables false
open Go.ChangeShapes Go.WideShapes Go.ChangeAt Go.RowKit

/-- A list of postings that reads: each has its document and a slice of its positions. -/
def RdPost (w : World) (a : Option Addr) (n : Nat) (ps : List PostV) : Prop :=
  n = ps.length ∧ (0 < ps.length → ∃ b o, a = some ⟨b, o, none⟩ ∧ ∀ (i : Nat) (h : i < ps.length), w.cell? ⟨b, o + i * 2, none⟩ = some (.int .i64 ps[i].doc) ∧
    ∃ A C, w.cell? ⟨b, o + i * 2 + 1, none⟩ = some (.slice A ps[i].pos.length C) ∧ Rd w (.slice A ps[i].pos.length C) (intL ps[i].pos))
theorem RdPost.drewN {w : World} {a : Option Addr} {n : Nat} {ps : List PostV} (h : RdPost w a n ps) (d : Nat) : RdPost (w.drewN d) a n ps := h
theorem RdPost.below {w w' : World} {a : Option Addr} {n B : Nat} {ps : List PostV} (h : RdPost w a n ps) (hb : Below B w w') (hB : w.heap.size ≤ B) : RdPost w' a n ps := by
  refine ⟨h.1, fun h0 => ?_⟩
  obtain ⟨b, o, e, hg⟩ := h.2 h0
  refine ⟨b, o, e, fun i hi => ?_⟩
  obtain ⟨h1, A, C, h2, h3⟩ := hg i hi
  exact ⟨by rw [hb.cell (by have := World.block_lt_of_cell? w _ h1; exact Nat.lt_of_lt_of_le this hB)]; exact h1, A, C, by rw [hb.cell (by have := World.block_lt_of_cell? w _ h2; exact Nat.lt_of_lt_of_le this hB)]; exact h2, h3.below hb hB⟩
/-- A part of a list of postings that reads. -/
theorem rdPost_part {w : World} {b o n : Nat} {ps : List PostV} (h : RdPost w (some ⟨b, o, none⟩) n ps) (lo hi : Nat) (h1 : lo < hi) (h2 : hi ≤ ps.length) : RdPost w (some ⟨b, o + lo * 2, none⟩) (hi - lo) ((ps.take hi).drop lo) := by
  have hl : ((ps.take hi).drop lo).length = hi - lo := by rw [List.length_drop, List.length_take, Nat.min_eq_left h2]
  refine ⟨hl.symm, fun h0 => ⟨b, o + lo * 2, rfl, fun i hi' => ?_⟩⟩
  obtain ⟨b', o', e, hg⟩ := h.2 (by omega)
  injection e with e
  injection e with e1 e2 _
  subst e1 e2
  obtain ⟨g1, A, C, g2, g3⟩ := hg (lo + i) (by omega)
  have he : ((ps.take hi).drop lo)[i] = ps[lo + i]'(by omega) := by rw [List.getElem_drop, List.getElem_take]
  rw [he, show o + lo * 2 + i * 2 = o + (lo + i) * 2 by omega]
  exact ⟨g1, A, C, g2, g3⟩
/-- What the numbers of postings may be. -/
def FitP (ps : List PostV) : Prop := ∀ p ∈ ps, (-9223372036854775808 ≤ p.doc ∧ p.doc ≤ 9223372036854775807) ∧ FitL p.pos ∧ p.pos.length ≤ 1048576
end Go.Proofs.YthnpbfadblcicaaDoor

/- posts, plain: how long the bytes are; the blocks one by one. No program occurs here. -/
namespace Go.Proofs.YthnpbfadblcicaaDoor
set_option linter.unusedVariables false

theorem pckB_le {l : List Nat} (hl : l.length ≤ 16) (hf : ∀ x ∈ l, x < 2 ^ 63) : (pckB l).length ≤ 140 := by
  unfold pckB
  have h1 := (uvar_le l.length (by omega)).2
  have h2 := widL_63 hf
  have h3 : l.length * widL l ≤ 16 * 63 := Nat.mul_le_mul hl h2
  rw [List.length_append]
  split
  · simp; omega
  · unfold packB
    rw [List.length_cons, leB_length]
    omega
theorem FitP.left {a b : List PostV} (h : FitP (a ++ b)) : FitP a := fun p hp => h p (List.mem_append_left _ hp)
theorem FitP.right {a b : List PostV} (h : FitP (a ++ b)) : FitP b := fun p hp => h p (List.mem_append_right _ hp)
theorem FitP.take {l : List PostV} (h : FitP l) (n : Nat) : FitP (l.take n) := fun p hp => h p (List.mem_of_mem_take hp)
theorem FitP.drop {l : List PostV} (h : FitP l) (n : Nat) : FitP (l.drop n) := fun p hp => h p (List.mem_of_mem_drop hp)
theorem freqV_fits {l : List PostV} (hf : FitP l) : ∀ x ∈ freqV l, x < 2 ^ 63 := fun x hx => by
  obtain ⟨p, hp, rfl⟩ := List.mem_map.1 hx
  have := (hf p hp).2.2
  omega
theorem gapsD_fits {base : Int} {l : List PostV} (ok : okV base l) (hb : -1 ≤ base) : ∀ x ∈ gapsD base l, x < 2 ^ 63 := fun x hx => by
  have := okV_gaps ok hb x hx
  omega
theorem tailV_le : ∀ {base : Int} {l : List PostV}, FitP l → okV base l → (tailV l).length ≤ 10 * totalV l
  | base, [], _, _ => by simp [tailV]
  | base, p :: r, hf, ok => by
    obtain ⟨h1, h2⟩ := okV_cons ok
    have g := goodV_ok h1
    have hp := hf p (List.mem_cons_self ..)
    have h3 := gapsB_le hp.2.1 (-1) (by omega) (fun z hz => by
      have := List.any_eq_false.1 g.2.2.2.2.1 z hz
      simpa using this)
    have h4 := tailV_le (fun q hq => hf q (List.mem_cons_of_mem _ hq)) h2
    unfold tailV totalV at *
    rw [List.flatMap_cons, List.length_append, List.map_cons, List.sum_cons]
    omega
theorem blockB_le {base : Int} {l : List PostV} (hf : FitP l) (ok : okV base l) (hb : -1 ≤ base) (hl : l.length ≤ 16) : (blockB base l).length ≤ 280 + 10 * totalV l := by
  unfold blockB
  have h1 := pckB_le (l := gapsD base l) (by rw [gapsD_length]; exact hl) (gapsD_fits ok hb)
  have h2 := pckB_le (l := freqV l) (by rw [freqV_length]; exact hl) (freqV_fits hf)
  have h3 := tailV_le hf ok
  rw [List.length_append, List.length_append]
  omega
theorem totalV_append (a b : List PostV) : totalV (a ++ b) = totalV a + totalV b := by simp [totalV]
theorem totalV_split (l : List PostV) (n : Nat) : totalV l = totalV (l.take n) + totalV (l.drop n) := by
  rw [← totalV_append, List.take_append_drop]
theorem okV_split {base : Int} {l : List PostV} (ok : okV base l) (n : Nat) : okV base (l.take n) ∧ okV (lastV base (l.take n)) (l.drop n) := by
  rw [← List.take_append_drop n l] at ok
  exact okV_append ok
theorem okV_ge {base : Int} {l : List PostV} (ok : okV base l) (hb : -1 ≤ base) : -1 ≤ lastV base l := by
  have := (okV_last ok).1; omega
theorem blks_le : ∀ (n : Nat) (base : Int) (l : List PostV), l.length ≤ n → FitP l → okV base l → -1 ≤ base → base < 2147483647 → totalV l ≤ 1000000000 →
    (headV (blksV base (chp l))).length ≤ 20 * l.length ∧ (bodyV (blksV base (chp l))).length ≤ 280 * l.length + 10 * totalV l
  | 0, base, l, hl, hf, ok, hb, hb2, hT => by
    have : l = [] := List.eq_nil_of_length_eq_zero (by omega)
    subst this
    rw [chp_nil]; simp [blksV, headV, bodyV]
  | n + 1, base, l, hl, hf, ok, hb, hb2, hT => by
    by_cases h0 : l = []
    · subst h0; rw [chp_nil]; simp [blksV, headV, bodyV]
    · rw [chp_cons h0]
      obtain ⟨o1, o2⟩ := okV_split ok 16
      have hne : l.take 16 ≠ [] := by
        intro h; apply h0
        have h9 := congrArg List.length h
        rw [List.length_take] at h9
        exact List.eq_nil_of_length_eq_zero (by simp only [List.length_nil] at h9; omega)
      have hla := (okV_last o1).2 hne
      have hlp : 0 < l.length := List.length_pos_iff.2 h0
      have hts := totalV_split l 16
      obtain ⟨i1, i2⟩ := blks_le n (lastV base (l.take 16)) (l.drop 16) (by rw [List.length_drop]; omega) (hf.drop 16) o2 (by omega) (by omega) (by omega)
      have hbk := blockB_le (hf.take 16) o1 hb (by rw [List.length_take]; omega)
      rw [List.length_drop] at i1 i2
      unfold blksV headV bodyV
      unfold headV at i1
      unfold bodyV at i2
      rw [List.flatMap_cons, List.flatMap_cons]
      generalize lastV base (l.take 16) = L at *
      have u1 := (uvar_le (L - base - 1).toNat (by omega)).2
      have u2 := (uvar_le (blockB base (l.take 16)).length (by omega)).2
      refine ⟨?_, ?_⟩
      · simp only [List.length_append]; omega
      · simp only [List.length_append]; omega
theorem image_le {l : List PostV} (hf : FitP l) (ok : okV (-1) l) (hl : l.length ≤ 2000000) (hT : totalV l ≤ 20000000) : (imageV l).length ≤ 1000000000 := by
  obtain ⟨h1, h2⟩ := blks_le _ (-1) l (Nat.le_refl _) hf ok (by omega) (by omega) (by omega)
  have u1 := (uvar_le l.length (by omega)).2
  have u2 := (uvar_le (totalV l) (by omega)).2
  unfold imageV
  rw [List.length_append, List.length_append, List.length_append]
  omega
theorem lastV_get : ∀ (base : Int) (l : List PostV) (h : l ≠ []), lastV base l = (l[l.length - 1]'(by have := List.length_pos_iff.2 h; omega)).doc
  | base, [p], _ => rfl
  | base, p :: q :: r, _ => by
    show lastV p.doc (q :: r) = _
    rw [lastV_get p.doc (q :: r) (by simp)]
    simp
/-- One block more. -/
theorem enc_step {base : Int} {l : List PostV} {at_ : Nat} (h : at_ < l.length) :
    headV (blksV base (chp (l.drop at_))) = (uvar (lastV base ((l.drop at_).take 16) - base - 1).toNat ++ uvar (blockB base ((l.drop at_).take 16)).length) ++ headV (blksV (lastV base ((l.drop at_).take 16)) (chp (l.drop (at_ + 16)))) ∧
    bodyV (blksV base (chp (l.drop at_))) = blockB base ((l.drop at_).take 16) ++ bodyV (blksV (lastV base ((l.drop at_).take 16)) (chp (l.drop (at_ + 16)))) := by
  have hne : l.drop at_ ≠ [] := fun e => by have := congrArg List.length e; rw [List.length_drop] at this; simp at this; omega
  rw [chp_cons hne, List.drop_drop]
  exact ⟨rfl, rfl⟩
theorem enc_end {base : Int} {l : List PostV} {at_ : Nat} (h : ¬ at_ < l.length) : headV (blksV base (chp (l.drop at_))) = [] ∧ bodyV (blksV base (chp (l.drop at_))) = [] := by
  rw [List.drop_of_length_le (by omega), chp_nil]
  exact ⟨rfl, rfl⟩
/-- A skip entry. -/
structure SkV where
  last : Int
  docs : Nat
  at_ : Nat
  size : Nat
def skV : Int → Nat → List (List PostV) → List SkV
  | _, _, [] => []
  | base, at_, c :: r => ⟨lastV base c, c.length, at_, (blockB base c).length⟩ :: skV (lastV base c) (at_ + (blockB base c).length) r
def hdS : Int → List SkV → List UInt8
  | _, [] => []
  | base, s :: r => (uvar (s.last - base - 1).toNat ++ uvar s.size) ++ hdS s.last r
theorem hdS_sk : ∀ (base : Int) (at_ : Nat) (cs : List (List PostV)), hdS base (skV base at_ cs) = headV (blksV base cs)
  | _, _, [] => rfl
  | base, at_, c :: r => by
    rw [skV, hdS, blksV, hdS_sk]
    rfl
theorem hdS_snoc : ∀ (base : Int) (l : List SkV) (s : SkV), hdS base (l ++ [s]) = hdS base l ++ (uvar (s.last - (l.map SkV.last).getLastD base - 1).toNat ++ uvar s.size)
  | base, [], s => by simp [hdS]
  | base, x :: r, s => by
    have hT : ((x :: r).map SkV.last).getLastD base = (r.map SkV.last).getLastD x.last := by cases r <;> simp [List.getLastD]
    rw [List.cons_append, hdS, hdS_snoc x.last r s, hdS, hT]
    simp only [List.append_assoc]
end Go.Proofs.YthnpbfadblcicaaDoor
