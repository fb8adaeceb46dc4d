/- posts, plain: the whole image read; what is read makes the same bytes again, and what is made is read. No program occurs here. -/
import Derived.Test.YthnpbfadblcicaaDoorZG8
import Derived.Test.YthnpbfadblcicaaDoorZG12
namespace Go.Proofs.YthnpbfadblcicaaDoor
set_option linter.unusedVariables false

/-- The entries in the head, their places not told yet. -/
def entV (len : Nat) : Nat → Int → Nat → List UInt8 → Option (List SkV × List UInt8)
  | 0, _, _, l => some ([], l)
  | m + 1, base, n, l => match getUpto 2147483647 l with
    | .error _ => none
    | .ok (gap, j) => if 2147483647 - base - 1 ≤ (gap : Int) then none else match getUpto len (l.drop j) with
      | .error _ => none
      | .ok (size, j2) => match entV len m (base + gap + 1) (n - 16) ((l.drop j).drop j2) with
        | none => none
        | some (r, l') => some (⟨base + gap + 1, min 16 n, 0, size⟩ :: r, l')
/-- The places told. -/
def fillV (len : Nat) : Nat → List SkV → Option (List SkV)
  | at_, [] => if at_ = len then some [] else none
  | at_, s :: r => if (len : Int) - at_ < s.size then none else match fillV len (at_ + s.size) r with
    | none => none
    | some r' => some (⟨s.last, s.docs, at_, s.size⟩ :: r')
/-- The blocks. -/
def blkV (b : List UInt8) : Int → List SkV → Option (List (List PostV))
  | _, [] => some []
  | base, s :: r => match unpV base s.docs ((b.drop s.at_).take s.size) with
    | none => none
    | some ps => if lastV base ps ≠ s.last then none else match blkV b s.last r with
      | none => none
      | some q => some (ps :: q)
structure OpenR where
  n : Nat
  t : Nat
  sk : List SkV
  bl : List (List PostV)
/-- What heads reads. -/
def headsV (b : List UInt8) : Option (Nat × Nat × List SkV) := match getU b with
  | .error _ => none
  | .ok (n, j) => if b.length < n / 16 then none else match getU (b.drop j) with
    | .error _ => none
    | .ok (t, j2) => if b.length < t then none else match entV b.length ((n + 15) / 16) (-1) n ((b.drop j).drop j2) with
      | none => none
      | some (S, l') => match fillV b.length (b.length - l'.length) S with
        | none => none
        | some S2 => some (n, t, S2)
def openV (b : List UInt8) : Option OpenR := match headsV b with
  | none => none
  | some (n, t, S) => match blkV b (-1) S with
    | none => none
    | some bl => if totalV bl.flatten = t then some ⟨n, t, S, bl⟩ else none
def putAt : Nat → List SkV → List SkV
  | _, [] => []
  | at_, s :: r => ⟨s.last, s.docs, at_, s.size⟩ :: putAt (at_ + s.size) r
def sizesV (S : List SkV) : Nat := (S.map SkV.size).sum
theorem fill_form {len : Nat} : ∀ {S S2 : List SkV} {at_ : Nat}, fillV len at_ S = some S2 → S2 = putAt at_ S ∧ at_ + sizesV S = len
  | [], S2, at_, h => by
    rw [fillV] at h
    split at h
    · injection h with h; subst h
      exact ⟨rfl, by simpa [sizesV]⟩
    · cases h
  | s :: r, S2, at_, h => by
    rw [fillV] at h
    split at h
    · cases h
    · cases hr : fillV len (at_ + s.size) r with
      | none => rw [hr] at h; cases h
      | some r' =>
        rw [hr] at h
        injection h with h
        subst h
        obtain ⟨h1, h2⟩ := fill_form hr
        exact ⟨by rw [putAt, h1], by unfold sizesV at h2 ⊢; rw [List.map_cons, List.sum_cons]; omega⟩
theorem fill_of {len : Nat} : ∀ (S : List SkV) (at_ : Nat), at_ + sizesV S = len → fillV len at_ S = some (putAt at_ S)
  | [], at_, h => by rw [fillV, if_pos (by simpa [sizesV] using h)]; rfl
  | s :: r, at_, h => by
    unfold sizesV at h
    rw [List.map_cons, List.sum_cons] at h
    rw [fillV, if_neg (by omega), fill_of r (at_ + s.size) (by unfold sizesV; omega)]
    rfl
/-- How many documents the blocks have. -/
def dcs : Nat → Nat → List Nat
  | 0, _ => []
  | m + 1, n => min 16 n :: dcs m (n - 16)
theorem ent_form {len : Nat} : ∀ (m : Nat) (base : Int) (n : Nat) (l : List UInt8) (S : List SkV) (l' : List UInt8), -1 ≤ base → entV len m base n l = some (S, l') → hdS base S ++ l' = l ∧ S.map SkV.docs = dcs m n
  | 0, base, n, l, S, l', hb, h => by
    rw [entV] at h; injection h with h; injection h with h1 h2; subst h1 h2
    exact ⟨rfl, rfl⟩
  | m + 1, base, n, l, S, l', hb, h => by
    rw [entV] at h
    cases h1 : getUpto 2147483647 l with
    | error e => rw [h1] at h; cases h
    | ok y =>
      obtain ⟨gap, j⟩ := y
      rw [h1] at h
      simp only at h
      split at h
      · cases h
      · next hg =>
        cases h2 : getUpto len (l.drop j) with
        | error e => rw [h2] at h; cases h
        | ok y =>
          obtain ⟨size, j2⟩ := y
          rw [h2] at h
          simp only at h
          cases h3 : entV len m (base + gap + 1) (n - 16) ((l.drop j).drop j2) with
          | none => rw [h3] at h; cases h
          | some y =>
            obtain ⟨r, l2⟩ := y
            rw [h3] at h
            injection h with h
            injection h with e1 e2
            subst e1 e2
            obtain ⟨i1, i2⟩ := ent_form m (base + gap + 1) (n - 16) _ r l2 (by omega) h3
            have f1 := (formU (getUpto_len h1).1).1
            have f2 := (formU (getUpto_len h2).1).1
            refine ⟨?_, by rw [List.map_cons, i2]; rfl⟩
            rw [hdS]
            simp only
            rw [show (base + (gap : Int) + 1 - base - 1).toNat = gap by omega, List.append_assoc, List.append_assoc, i1, ← f1, ← f2, List.take_append_drop, List.take_append_drop]
def zAt (s : SkV) : SkV := ⟨s.last, s.docs, 0, s.size⟩
theorem ent_of {len : Nat} (hlen : len < 2 ^ 63) : ∀ (S : List SkV) (base : Int) (n : Nat) (t : List UInt8), -1 ≤ base → skOk base S → (∀ s ∈ S, s.size ≤ len) → S.map SkV.docs = dcs S.length n →
    entV len S.length base n (hdS base S ++ t) = some (S.map zAt, t)
  | [], base, n, t, _, _, _, _ => rfl
  | s :: r, base, n, t, hb, ok, hs, hd => by
    obtain ⟨h1, h2, h3, h4⟩ := ok
    rw [List.map_cons, List.length_cons, dcs] at hd
    injection hd with hd1 hd2
    have hsz := hs s (List.mem_cons_self ..)
    have ih := ent_of hlen r s.last (n - 16) t (by omega) h4 (fun x hx => hs x (List.mem_cons_of_mem _ hx)) hd2
    have e1 := gp_upto 2147483647 (s.last - base - 1).toNat (by omega) (by omega) (uvar s.size ++ (hdS s.last r ++ t))
    have e2 := gp_upto len s.size (by omega) (by omega) (hdS s.last r ++ t)
    rw [List.length_cons, entV, hdS, List.append_assoc, List.append_assoc, e1]
    simp only
    rw [if_neg (by omega), List.drop_left, e2]
    simp only
    rw [List.drop_left, show base + ((s.last - base - 1).toNat : Nat) + 1 = s.last by omega, ih, ← hd1]
    rfl
theorem blk_form {b : List UInt8} : ∀ (S : List SkV) (base : Int) (at_ : Nat) (bl : List (List PostV)), -1 ≤ base → at_ + sizesV S = b.length → blkV b base (putAt at_ S) = some bl →
    putAt at_ S = skV base at_ bl ∧ bodyV (blksV base bl) = b.drop at_ ∧ okV base bl.flatten ∧ bl.map List.length = S.map SkV.docs ∧ ∀ p ∈ bl.flatten, asc (-1) p.pos
  | [], base, at_, bl, hb, hsz, h => by
    rw [putAt, blkV] at h; injection h with h; subst h
    refine ⟨rfl, ?_, rfl, rfl, fun p hp => by cases hp⟩
    rw [List.drop_of_length_le (by simp [sizesV] at hsz; omega)]; rfl
  | s :: r, base, at_, bl, hb, hsz, h => by
    unfold sizesV at hsz
    rw [List.map_cons, List.sum_cons] at hsz
    rw [putAt, blkV] at h
    simp only at h
    cases hu : unpV base s.docs ((b.drop at_).take s.size) with
    | none => rw [hu] at h; cases h
    | some ps =>
      rw [hu] at h
      simp only at h
      split at h
      · cases h
      · next hla =>
        have hla := Decidable.not_not.1 hla
        cases hr : blkV b s.last (putAt (at_ + s.size) r) with
        | none => rw [hr] at h; cases h
        | some q =>
          rw [hr] at h
          injection h with h
          subst h
          obtain ⟨u1, u2, u3, u4⟩ := unpV_form hb hu
          have hbl := okV_ge u1 hb
          rw [hla] at hbl
          obtain ⟨i1, i2, i3, i4, i5⟩ := blk_form r s.last (at_ + s.size) q hbl (by unfold sizesV; omega) hr
          have hlen : (blockB base ps).length = s.size := by rw [u2, List.length_take, List.length_drop]; omega
          refine ⟨?_, ?_, ?_, ?_, ?_⟩
          · rw [putAt, skV, hlen, hla, u3, i1]
          · rw [blksV, hla]
            show blockB base ps ++ bodyV (blksV s.last q) = _
            rw [i2, u2, ← List.drop_drop, List.take_append_drop]
          · rw [List.flatten_cons]
            exact okV_join u1 (by rw [hla]; exact i3)
          · rw [List.map_cons, List.map_cons, i4, u3]
          · intro p hp
            rw [List.flatten_cons] at hp
            rcases List.mem_append.1 hp with hp | hp
            · exact u4 p hp
            · exact i5 p hp
theorem blk_of {b : List UInt8} : ∀ (bl : List (List PostV)) (base : Int) (at_ : Nat), -1 ≤ base → okV base bl.flatten → FitP bl.flatten → (∀ c ∈ bl, c.length ≤ 16) → b.drop at_ = bodyV (blksV base bl) →
    blkV b base (skV base at_ bl) = some bl
  | [], base, at_, _, _, _, _, _ => rfl
  | c :: r, base, at_, hb, ok, hf, hl, hd => by
    rw [List.flatten_cons] at ok hf
    obtain ⟨o1, o2⟩ := okV_append ok
    rw [blksV] at hd
    have hd : b.drop at_ = blockB base c ++ bodyV (blksV (lastV base c) r) := hd
    have hu := unpV_of hb o1 hf.left (hl c (List.mem_cons_self ..))
    have ih := blk_of r (lastV base c) (at_ + (blockB base c).length) (okV_ge o1 hb) o2 hf.right (fun x hx => hl x (List.mem_cons_of_mem _ hx)) (by rw [← List.drop_drop, hd, List.drop_left])
    rw [skV, blkV]
    simp only
    rw [hd, List.take_left, hu]
    simp only
    rw [if_neg (by simp), ih]
theorem chp_of : ∀ (m n : Nat) (bl : List (List PostV)), m = (n + 15) / 16 → bl.map List.length = dcs m n → chp bl.flatten = bl ∧ bl.flatten.length = n
  | 0, n, bl, hm, h => by
    have hn : n = 0 := by omega
    have : bl = [] := by cases bl with
      | nil => rfl
      | cons c r => simp [dcs] at h
    subst this hn
    exact ⟨chp_nil, rfl⟩
  | m + 1, n, bl, hm, h => by
    cases bl with
    | nil => simp [dcs] at h
    | cons c r =>
      rw [List.map_cons, dcs] at h
      injection h with h1 h2
      obtain ⟨i1, i2⟩ := chp_of m (n - 16) r (by omega) h2
      have hc : 0 < c.length := by omega
      have hne : c ++ r.flatten ≠ [] := fun e => by rw [(List.append_eq_nil_iff.1 e).1] at hc; simp at hc
      rw [List.flatten_cons, chp_cons hne, List.length_append]
      refine ⟨?_, by omega⟩
      by_cases h16 : n ≤ 16
      · have hr0 : r.flatten = [] := List.eq_nil_of_length_eq_zero (by omega)
        rw [hr0] at i1 ⊢
        rw [chp_nil] at i1
        rw [List.append_nil, List.take_of_length_le (by omega), List.drop_of_length_le (by omega), chp_nil, ← i1]
      · have hc16 : c.length = 16 := by omega
        rw [show (16 : Nat) = c.length from hc16.symm, List.take_left, List.drop_left, i1]
theorem chp_flat : ∀ (n : Nat) (l : List PostV), l.length ≤ n → (chp l).flatten = l ∧ (chp l).map List.length = dcs ((l.length + 15) / 16) l.length ∧ (∀ c ∈ chp l, c.length ≤ 16) ∧ (chp l).length = (l.length + 15) / 16
  | 0, l, hl => by
    have : l = [] := List.eq_nil_of_length_eq_zero (by omega)
    subst this
    rw [chp_nil]; exact ⟨rfl, rfl, (fun c hc => by cases hc), rfl⟩
  | n + 1, l, hl => by
    by_cases h0 : l = []
    · subst h0; rw [chp_nil]; exact ⟨rfl, rfl, (fun c hc => by cases hc), rfl⟩
    · have hlp : 0 < l.length := List.length_pos_iff.2 h0
      obtain ⟨i1, i2, i3, i4⟩ := chp_flat n (l.drop 16) (by rw [List.length_drop]; omega)
      rw [List.length_drop] at i2 i4
      rw [chp_cons h0, show (l.length + 15) / 16 = (l.length - 16 + 15) / 16 + 1 by omega]
      refine ⟨by rw [List.flatten_cons, i1, List.take_append_drop], ?_, ?_, by rw [List.length_cons, i4]⟩
      · rw [List.map_cons, i2, dcs, List.length_take]
      · intro c hc
        rcases List.mem_cons.1 hc with rfl | hc
        · rw [List.length_take]; omega
        · exact i3 c hc
theorem skV_docs : ∀ (base : Int) (q : Nat) (cs : List (List PostV)), (skV base q cs).map SkV.docs = cs.map List.length
  | _, _, [] => rfl
  | base, q, c :: r => by rw [skV, List.map_cons, skV_docs, List.map_cons]
theorem skV_len : ∀ (base : Int) (q : Nat) (cs : List (List PostV)), (skV base q cs).length = cs.length
  | _, _, [] => rfl
  | base, q, c :: r => by rw [skV, List.length_cons, skV_len, List.length_cons]
theorem skV_put : ∀ (base : Int) (q q' : Nat) (cs : List (List PostV)), putAt q ((skV base q' cs).map zAt) = skV base q cs
  | _, _, _, [] => rfl
  | base, q, q', c :: r => by
    rw [skV, List.map_cons, putAt, skV]
    show _ :: putAt (q + (blockB base c).length) _ = _
    rw [skV_put]
    rfl
theorem skV_sizes : ∀ (base : Int) (q : Nat) (cs : List (List PostV)), sizesV ((skV base q cs).map zAt) = (bodyV (blksV base cs)).length ∧ ∀ s ∈ skV base q cs, s.size ≤ (bodyV (blksV base cs)).length
  | _, _, [] => ⟨rfl, fun s hs => by cases hs⟩
  | base, q, c :: r => by
    obtain ⟨i1, i2⟩ := skV_sizes (lastV base c) (q + (blockB base c).length) r
    have hd : (bodyV (blksV base (c :: r))).length = (blockB base c).length + (bodyV (blksV (lastV base c) r)).length := by
      rw [← List.length_append]; rfl
    unfold sizesV at i1 ⊢
    rw [hd, skV, List.map_cons, List.map_cons, List.sum_cons, i1]
    refine ⟨rfl, fun s hs => ?_⟩
    rcases List.mem_cons.1 hs with rfl | hs
    · show (blockB base c).length ≤ _; omega
    · have := i2 s hs; omega
theorem putAt_hd : ∀ (base : Int) (q : Nat) (S : List SkV), hdS base (putAt q S) = hdS base S
  | _, _, [] => rfl
  | base, q, s :: r => by rw [putAt, hdS, hdS, putAt_hd]
/-- How long the head is. -/
def headL (ps : List PostV) : Nat := ((uvar ps.length ++ uvar (totalV ps)) ++ headV (blksV (-1) (chp ps))).length
theorem openV_form {b : List UInt8} {r : OpenR} (h : openV b = some r) : ∃ ps, okV (-1) ps ∧ (∀ p ∈ ps, asc (-1) p.pos) ∧ b = imageV ps ∧ r = ⟨ps.length, totalV ps, skV (-1) (headL ps) (chp ps), chp ps⟩ := by
  unfold openV at h
  cases hh : headsV b with
  | none => rw [hh] at h; cases h
  | some y =>
    obtain ⟨n, t, S2⟩ := y
    rw [hh] at h
    simp only at h
    unfold headsV at hh
    cases h1 : getU b with
    | error e => rw [h1] at hh; cases hh
    | ok y =>
      obtain ⟨n', j⟩ := y
      rw [h1] at hh
      simp only at hh
      split at hh
      · cases hh
      · next hn =>
        cases h2 : getU (b.drop j) with
        | error e => rw [h2] at hh; cases hh
        | ok y =>
          obtain ⟨t', j2⟩ := y
          rw [h2] at hh
          simp only at hh
          split at hh
          · cases hh
          · next ht =>
            cases h3 : entV b.length ((n' + 15) / 16) (-1) n' ((b.drop j).drop j2) with
            | none => rw [h3] at hh; cases hh
            | some y =>
              obtain ⟨S, l'⟩ := y
              rw [h3] at hh
              simp only at hh
              cases h4 : fillV b.length (b.length - l'.length) S with
              | none => rw [h4] at hh; cases hh
              | some S3 =>
                rw [h4] at hh
                injection hh with hh
                injection hh with e1 hh
                injection hh with e2 e3
                subst e1 e2 e3
                cases h5 : blkV b (-1) S3 with
                | none => rw [h5] at h; cases h
                | some bl =>
                  rw [h5] at h
                  simp only at h
                  split at h
                  · next htt =>
                    injection h with h
                    subst h
                    obtain ⟨f1, f2⟩ := fill_form h4
                    obtain ⟨g1, g2⟩ := ent_form _ _ _ _ _ _ (by omega) h3
                    subst f1
                    obtain ⟨i1, i2, i3, i4, i5⟩ := blk_form S (-1) (b.length - l'.length) bl (by omega) f2 h5
                    obtain ⟨c1, c2⟩ := chp_of ((n' + 15) / 16) n' bl rfl (i4.trans g2)
                    have k1 := (formU h1).1
                    have k2 := (formU h2).1
                    have hb : b = uvar n' ++ (uvar t' ++ (hdS (-1) S ++ l')) := by rw [g1, ← k1, ← k2, List.take_append_drop, List.take_append_drop]
                    have hll : b.length = (uvar n' ++ uvar t' ++ hdS (-1) S).length + l'.length := by
                      have := congrArg List.length hb
                      rw [this]; simp only [List.length_append]; omega
                    have hd : b.drop (b.length - l'.length) = l' := by
                      rw [show b.length - l'.length = (uvar n' ++ uvar t' ++ hdS (-1) S).length by omega]
                      conv => lhs; rw [hb]
                      rw [← List.append_assoc, ← List.append_assoc, List.drop_left]
                    have hh1 : hdS (-1) S = headV (blksV (-1) bl) := by rw [← putAt_hd _ (b.length - l'.length), i1, hdS_sk]
                    have hq : b.length - l'.length = headL bl.flatten := by
                      unfold headL
                      rw [c1, c2, htt, ← hh1]
                      omega
                    refine ⟨bl.flatten, i3, i5, ?_, ?_⟩
                    · unfold imageV
                      rw [c1, c2, htt, i2, hd, ← hh1, List.append_assoc]
                      exact hb
                    · rw [c1, c2, htt, i1, hq]
                  · cases h
theorem openV_of {ps : List PostV} (ok : okV (-1) ps) (hf : FitP ps) (hl : ps.length ≤ 31000000) (hT : totalV ps ≤ 31000000) : openV (imageV ps) = some ⟨ps.length, totalV ps, skV (-1) (headL ps) (chp ps), chp ps⟩ := by
  have him := image_le hf ok hl hT
  obtain ⟨q1, q2, q3, q4⟩ := chp_flat _ ps (Nat.le_refl _)
  have hsk := sk_ok _ (-1) (headL ps) ps (Nat.le_refl _) hf ok (by omega) hT
  obtain ⟨z1, z2⟩ := skV_sizes (-1) (headL ps) (chp ps)
  have hlen : (imageV ps).length = headL ps + (bodyV (blksV (-1) (chp ps))).length := by
    unfold imageV headL
    simp only [List.length_append]; omega
  have hbody : totalV ps ≤ (bodyV (blksV (-1) (chp ps))).length ∧ 2 * ((ps.length + 15) / 16) ≤ (bodyV (blksV (-1) (chp ps))).length := by
    have hg : ∀ (cs : List (List PostV)) (base : Int), okV base cs.flatten → totalV cs.flatten ≤ (bodyV (blksV base cs)).length ∧ 2 * cs.length ≤ (bodyV (blksV base cs)).length := by
      intro cs
      induction cs with
      | nil => intro base _; simp [totalV, blksV, bodyV]
      | cons c r ih =>
        intro base hok
        rw [List.flatten_cons] at hok
        obtain ⟨o1, o2⟩ := okV_append hok
        obtain ⟨g1, g2⟩ := ih _ o2
        obtain ⟨g3, g4⟩ := blockB_ge o1
        have hd : (bodyV (blksV base (c :: r))).length = (blockB base c).length + (bodyV (blksV (lastV base c) r)).length := by
          rw [← List.length_append]; rfl
        rw [List.flatten_cons, totalV_append, hd, List.length_cons]
        omega
    have := hg (chp ps) (-1) (by rw [q1]; exact ok)
    rw [q1, q4] at this
    exact this
  unfold openV headsV
  have e1 : imageV ps = uvar ps.length ++ (uvar (totalV ps) ++ (hdS (-1) (skV (-1) (headL ps) (chp ps)) ++ bodyV (blksV (-1) (chp ps)))) := by
    rw [hdS_sk]; unfold imageV; simp only [List.append_assoc]
  have hdrop : (imageV ps).drop (headL ps) = bodyV (blksV (-1) (chp ps)) := by
    unfold headL imageV
    rw [← List.append_assoc, List.drop_left]
  have g1 := getU_uvar ps.length (by omega) (uvar (totalV ps) ++ (hdS (-1) (skV (-1) (headL ps) (chp ps)) ++ bodyV (blksV (-1) (chp ps))))
  have g2 := getU_uvar (totalV ps) (by omega) (hdS (-1) (skV (-1) (headL ps) (chp ps)) ++ bodyV (blksV (-1) (chp ps)))
  rw [← e1] at g1
  rw [g1]
  simp only
  have hd1 : (imageV ps).drop (uvar ps.length).length = uvar (totalV ps) ++ (hdS (-1) (skV (-1) (headL ps) (chp ps)) ++ bodyV (blksV (-1) (chp ps))) := by
    rw [e1, List.drop_left]
  rw [if_neg (by omega), hd1, g2]
  simp only
  rw [if_neg (by omega), List.drop_left]
  have hen := ent_of (len := (imageV ps).length) (by omega) (skV (-1) (headL ps) (chp ps)) (-1) ps.length (bodyV (blksV (-1) (chp ps))) (by omega) hsk (fun s hs => by have := z2 s hs; omega) (by rw [skV_docs, skV_len, q2, q4])
  rw [skV_len, q4] at hen
  rw [hen]
  simp only
  have hfi := fill_of (len := (imageV ps).length) ((skV (-1) (headL ps) (chp ps)).map zAt) (headL ps) (by omega)
  rw [show (imageV ps).length - (bodyV (blksV (-1) (chp ps))).length = headL ps by omega, hfi, skV_put]
  simp only
  have hbk := blk_of (b := imageV ps) (chp ps) (-1) (headL ps) (by omega) (by rw [q1]; exact ok) (by rw [q1]; exact hf) q3 hdrop
  rw [hbk]
  simp only
  rw [q1, if_pos rfl]
theorem openV_none {b : List UInt8} (h : openV b = none) (ps : List PostV) (ok : okV (-1) ps) (hf : FitP ps) (hl : ps.length ≤ 31000000) (hT : totalV ps ≤ 31000000) : b ≠ imageV ps := fun e => by
  rw [e, openV_of ok hf hl hT] at h; cases h
end Go.Proofs.YthnpbfadblcicaaDoor
