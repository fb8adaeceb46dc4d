/- posts, plain: the document's Decode, and that it takes just what Open takes. No program occurs here. -/
import Derived.Test.YthnpbfadblcicaaDoorZPostO
namespace Go.Proofs.YthnpbfadblcicaaDoor
set_option linter.unusedVariables false

def unpQ : Int → List Nat → List Nat → List UInt8 → Option (List PostV × List UInt8)
  | _, [], _, l => some ([], l)
  | _, _ :: _, [], l => some ([], l)
  | base, d :: ds, f :: fs, l =>
    if 2147483647 ≤ base + (d : Int) + 1 then none
    else match getR (f + 1) (-1) l with
      | .error _ => none
      | .ok (pos, j) => match unpQ (base + d + 1) ds fs (l.drop j) with
        | none => none
        | some (ps, l') => some (⟨base + d + 1, pos⟩ :: ps, l')
def blkQ (base : Int) (n : Nat) (l : List UInt8) : Option (List PostV × List UInt8) := match getPk 16 l with
  | .error _ => none
  | .ok (ds, j) => if ds.length ≠ n then none else match getPk 16 (l.drop j) with
    | .error _ => none
    | .ok (fs, j2) => if fs.length ≠ n then none else unpQ base ds fs ((l.drop j).drop j2)
def skQ : Nat → List UInt8 → Option (List UInt8)
  | 0, l => some l
  | m + 1, l => match getUpto 9223372036854775807 l with
    | .error _ => none
    | .ok (_, j) => match getUpto 9223372036854775807 (l.drop j) with
      | .error _ => none
      | .ok (_, j2) => skQ m ((l.drop j).drop j2)
def lsQ : Nat → Int → Nat → List UInt8 → Option (List PostV)
  | 0, _, _, _ => some []
  | m + 1, base, n, l => match blkQ base (min 16 n) l with
    | none => none
    | some (ps, l') => match lsQ m (lastV base ps) (n - 16) l' with
      | none => none
      | some q => some (ps ++ q)
def docV (b : List UInt8) : Option (List PostV) := match getUpto 9223372036854775807 b with
  | .error _ => none
  | .ok (n, j) => match getUpto 9223372036854775807 (b.drop j) with
    | .error _ => none
    | .ok (_, j2) => match skQ ((n + 15) / 16) ((b.drop j).drop j2) with
      | none => none
      | some l => lsQ ((n + 15) / 16) (-1) n l
theorem unpQ_of : ∀ (ps : List PostV) (base : Int) (t : List UInt8), -1 ≤ base → okV base ps → FitP ps → unpQ base (gapsD base ps) (freqV ps) (tailV ps ++ t) = some (ps, t)
  | [], base, t, _, _, _ => rfl
  | p :: r, base, t, hb, ok, hf => by
    obtain ⟨h1, h2⟩ := okV_cons ok
    obtain ⟨g1, g2, g3, g4, g5, g6⟩ := goodV_ok h1
    have hfp := hf p (List.mem_cons_self ..)
    have ha := okP_asc h1 hfp.2.1
    have ih := unpQ_of r p.doc t (by omega) h2 (fun q hq => hf q (List.mem_cons_of_mem _ hq))
    have hpl : 0 < p.pos.length := List.length_pos_iff.2 g4
    have hr := gp_r p.pos (-1) (tailV r ++ t) (by omega) ha
    rw [gapsD, show freqV (p :: r) = (p.pos.length - 1) :: freqV r from rfl, show tailV (p :: r) = gapsB (-1) p.pos ++ tailV r from rfl, unpQ, List.append_assoc, if_neg (by omega), show p.pos.length - 1 + 1 = p.pos.length by omega, hr]
    simp only
    rw [List.drop_left, show base + ((p.doc - base - 1).toNat : Nat) + 1 = p.doc by omega, ih]
theorem blkQ_of {base : Int} {ps : List PostV} (hb : -1 ≤ base) (ok : okV base ps) (hf : FitP ps) (hl : ps.length ≤ 16) (t : List UInt8) : blkQ base ps.length (blockB base ps ++ t) = some (ps, t) := by
  unfold blkQ blockB
  rw [List.append_assoc, gp_pk16 (gapsD_fits ok hb) (by rw [gapsD_length]; exact hl)]
  simp only
  rw [gapsD_length, if_neg (by simp), List.drop_left, List.append_assoc, gp_pk16 (freqV_fits hf) (by rw [freqV_length]; exact hl)]
  simp only
  rw [freqV_length, if_neg (by simp), List.drop_left]
  exact unpQ_of ps base t hb ok hf
theorem skQ_of : ∀ (bl : List (Nat × List UInt8)) (t : List UInt8), (∀ x ∈ bl, x.1 < 2 ^ 63 ∧ x.2.length < 2 ^ 63) → skQ bl.length (headV bl ++ t) = some t
  | [], t, _ => rfl
  | x :: r, t, h => by
    obtain ⟨h1, h2⟩ := h x (List.mem_cons_self ..)
    have e1 := gp_upto 9223372036854775807 x.1 (by omega) (by omega) (uvar x.2.length ++ (headV r ++ t))
    have e2 := gp_upto 9223372036854775807 x.2.length (by omega) (by omega) (headV r ++ t)
    rw [List.length_cons, skQ, show headV (x :: r) = (uvar x.1 ++ uvar x.2.length) ++ headV r from rfl, List.append_assoc, List.append_assoc, e1]
    simp only
    rw [List.drop_left, e2]
    simp only
    rw [List.drop_left]
    exact skQ_of r t (fun y hy => h y (List.mem_cons_of_mem _ hy))
theorem lsQ_of : ∀ (m : Nat) (cs : List (List PostV)) (base : Int) (n : Nat), cs.map List.length = dcs m n → -1 ≤ base → okV base cs.flatten → FitP cs.flatten → lsQ m base n (bodyV (blksV base cs)) = some cs.flatten
  | 0, cs, base, n, hd, _, _, _ => by
    have : cs = [] := by cases cs with
      | nil => rfl
      | cons c r => simp [dcs] at hd
    subst this; rfl
  | m + 1, cs, base, n, hd, hb, ok, hf => by
    cases cs with
    | nil => simp [dcs] at hd
    | cons c r =>
      rw [List.map_cons, dcs] at hd
      injection hd with h1 h2
      rw [List.flatten_cons] at ok hf ⊢
      obtain ⟨o1, o2⟩ := okV_append ok
      have hq := blkQ_of hb o1 hf.left (by omega) (bodyV (blksV (lastV base c) r))
      have ih := lsQ_of m r (lastV base c) (n - 16) h2 (okV_ge o1 hb) o2 hf.right
      rw [lsQ, show bodyV (blksV base (c :: r)) = blockB base c ++ bodyV (blksV (lastV base c) r) from rfl, ← h1, hq]
      simp only
      rw [ih]
theorem blks_fit : ∀ (cs : List (List PostV)) (base : Int), -1 ≤ base → okV base cs.flatten → FitP cs.flatten → (∀ c ∈ cs, c.length ≤ 16) → (∀ c ∈ cs, c ≠ []) → totalV cs.flatten ≤ 31000000 → ∀ x ∈ blksV base cs, x.1 < 2 ^ 63 ∧ x.2.length < 2 ^ 63
  | [], base, _, _, _, _, _, _, x, hx => by cases hx
  | c :: r, base, hb, ok, hf, hl, hne, hT, x, hx => by
    rw [List.flatten_cons] at ok hf hT
    rw [totalV_append] at hT
    obtain ⟨o1, o2⟩ := okV_append ok
    have hla := (okV_last o1).2 (hne c (List.mem_cons_self ..))
    have hbl := blockB_le hf.left o1 hb (hl c (List.mem_cons_self ..))
    rcases List.mem_cons.1 hx with rfl | hx
    · exact ⟨by show (lastV base c - base - 1).toNat < _; omega, by show (blockB base c).length < _; omega⟩
    · exact blks_fit r (lastV base c) (okV_ge o1 hb) o2 hf.right (fun y hy => hl y (List.mem_cons_of_mem _ hy)) (fun y hy => hne y (List.mem_cons_of_mem _ hy)) (by omega) x hx
theorem chp_ne : ∀ (n : Nat) (l : List PostV), l.length ≤ n → ∀ c ∈ chp l, c ≠ []
  | 0, l, hl, c, hc => by
    have : l = [] := List.eq_nil_of_length_eq_zero (by omega)
    subst this; rw [chp_nil] at hc; cases hc
  | n + 1, l, hl, c, hc => by
    by_cases h0 : l = []
    · subst h0; rw [chp_nil] at hc; cases hc
    · have hlp : 0 < l.length := List.length_pos_iff.2 h0
      rw [chp_cons h0] at hc
      rcases List.mem_cons.1 hc with rfl | hc
      · intro h
        have h9 := congrArg List.length h
        rw [List.length_take] at h9
        simp only [List.length_nil] at h9
        omega
      · exact chp_ne n (l.drop 16) (by rw [List.length_drop]; omega) c hc
theorem blksV_len : ∀ (base : Int) (cs : List (List PostV)), (blksV base cs).length = cs.length
  | _, [] => rfl
  | base, c :: r => by rw [blksV, List.length_cons, blksV_len, List.length_cons]
theorem docV_of {ps : List PostV} (ok : okV (-1) ps) (hf : FitP ps) (hl : ps.length ≤ 31000000) (hT : totalV ps ≤ 31000000) : docV (imageV ps) = some ps := by
  obtain ⟨q1, q2, q3, q4⟩ := chp_flat _ ps (Nat.le_refl _)
  have e0 : imageV ps = uvar ps.length ++ (uvar (totalV ps) ++ (headV (blksV (-1) (chp ps)) ++ bodyV (blksV (-1) (chp ps)))) := by
    unfold imageV; simp only [List.append_assoc]
  have e1 := gp_upto 9223372036854775807 ps.length (by omega) (by omega) (uvar (totalV ps) ++ (headV (blksV (-1) (chp ps)) ++ bodyV (blksV (-1) (chp ps))))
  have e2 := gp_upto 9223372036854775807 (totalV ps) (by omega) (by omega) (headV (blksV (-1) (chp ps)) ++ bodyV (blksV (-1) (chp ps)))
  have e3 := skQ_of (blksV (-1) (chp ps)) (bodyV (blksV (-1) (chp ps))) (blks_fit (chp ps) (-1) (by omega) (by rw [q1]; exact ok) (by rw [q1]; exact hf) q3 (chp_ne _ ps (Nat.le_refl _)) (by rw [q1]; exact hT))
  have e4 := lsQ_of ((ps.length + 15) / 16) (chp ps) (-1) ps.length q2 (by omega) (by rw [q1]; exact ok) (by rw [q1]; exact hf)
  rw [blksV_len, q4] at e3
  unfold docV
  rw [e0, e1]
  simp only
  rw [List.drop_left, e2]
  simp only
  rw [List.drop_left, e3]
  simp only
  rw [e4, q1]
/-- What is read is as long as its bytes. -/
structure Lens (ps : List PostV) (K : Nat) : Prop where
  p : ∀ x ∈ ps, (-1 ≤ x.doc ∧ x.doc < 2147483647) ∧ asc (-1) x.pos
  t : totalV ps ≤ K
  n : ps.length ≤ totalV ps
theorem getR_take {f : Nat} {l : List UInt8} {pos : List Int} {j : Nat} (h : getR f (-1) l = .ok (pos, j)) : pos.length = f ∧ f ≤ j ∧ j ≤ l.length ∧ asc (-1) pos := by
  obtain ⟨g1, g2, g3, g4⟩ := getR_form f (-1) l pos j (by omega) h
  have h1 := gapsB_ge (-1) pos
  have h2 := congrArg List.length g1
  rw [List.length_take, g2] at h2
  exact ⟨g3, by omega, by omega, g4⟩
theorem unpQ_len : ∀ (ds fs : List Nat) (base : Int) (l : List UInt8) (ps : List PostV) (l' : List UInt8), -1 ≤ base → unpQ base ds fs l = some (ps, l') → ∃ K, Lens ps K ∧ K + l'.length ≤ l.length
  | [], _, base, l, ps, l', _, h => by
    rw [unpQ] at h; injection h with h; injection h with h1 h2; subst h1 h2
    exact ⟨0, ⟨fun x hx => (by cases hx), Nat.le_refl _, Nat.le_refl _⟩, by omega⟩
  | _ :: _, [], base, l, ps, l', _, h => by
    rw [unpQ] at h; injection h with h; injection h with h1 h2; subst h1 h2
    exact ⟨0, ⟨fun x hx => (by cases hx), Nat.le_refl _, Nat.le_refl _⟩, by omega⟩
  | d :: ds, f :: fs, base, l, ps, l', hb, h => by
    rw [unpQ] at h
    split at h
    · cases h
    · next hc =>
      cases hr : getR (f + 1) (-1) l with
      | error e => rw [hr] at h; cases h
      | ok y =>
        obtain ⟨pos, j⟩ := y
        rw [hr] at h
        simp only at h
        cases hu : unpQ (base + d + 1) ds fs (l.drop j) with
        | none => rw [hu] at h; cases h
        | some y =>
          obtain ⟨ps', l2⟩ := y
          rw [hu] at h
          injection h with h
          injection h with h1 h2
          subst h1 h2
          obtain ⟨K, hk, hK⟩ := unpQ_len ds fs (base + d + 1) (l.drop j) ps' l2 (by omega) hu
          obtain ⟨r1, r2, r3, r4⟩ := getR_take hr
          rw [List.length_drop] at hK
          have ht : totalV (⟨base + d + 1, pos⟩ :: ps') = pos.length + totalV ps' := by unfold totalV; rw [List.map_cons, List.sum_cons]
          refine ⟨K + j, ⟨fun x hx => ?_, ?_, ?_⟩, by omega⟩
          · rcases List.mem_cons.1 hx with rfl | hx
            · exact ⟨⟨by show -1 ≤ base + d + 1; omega, by show base + d + 1 < _; omega⟩, r4⟩
            · exact hk.p x hx
          · rw [ht]; have := hk.t; omega
          · rw [ht, List.length_cons]; have := hk.n; omega
theorem pk_len {l : List UInt8} {r : List Nat} {j : Nat} (h : getPk 16 l = .ok (r, j)) : r.length ≤ 16 := by
  unfold getPk at h
  cases hg : getUpto 16 l with
  | error e => rw [hg] at h; cases h
  | ok y =>
    obtain ⟨n, k⟩ := y
    rw [hg] at h
    simp only at h
    have := (getUpto_len hg).2
    split at h
    · injection h with h; injection h with e1 e2; subst e1; simp
    · next h0 =>
      cases hr : getPB n (l.drop k) with
      | error e => rw [hr] at h; cases h
      | ok y =>
        obtain ⟨r', j'⟩ := y
        rw [hr] at h
        injection h with h; injection h with e1 e2; subst e1
        have := (getPB_form h0 hr).2.1
        omega
theorem unpQ_length : ∀ (ds fs : List Nat) (base : Int) (l : List UInt8) (ps : List PostV) (l' : List UInt8), ds.length = fs.length → unpQ base ds fs l = some (ps, l') → ps.length = ds.length
  | [], _, base, l, ps, l', _, h => by
    rw [unpQ] at h; injection h with h; injection h with h1 h2; subst h1; rfl
  | _ :: _, [], base, l, ps, l', hl, h => by simp at hl
  | d :: ds, f :: fs, base, l, ps, l', hl, h => by
    rw [unpQ] at h
    split at h
    · cases h
    · cases hr : getR (f + 1) (-1) l with
      | error e => rw [hr] at h; cases h
      | ok y =>
        obtain ⟨pos, j⟩ := y
        rw [hr] at h
        simp only at h
        cases hu : unpQ (base + d + 1) ds fs (l.drop j) with
        | none => rw [hu] at h; cases h
        | some y =>
          obtain ⟨ps', l2⟩ := y
          rw [hu] at h
          injection h with h
          injection h with h1 h2
          subst h1
          rw [List.length_cons, unpQ_length ds fs _ _ ps' l2 (by simpa using hl) hu, List.length_cons]
theorem blkQ_len {base : Int} {n : Nat} {l : List UInt8} {ps : List PostV} {l' : List UInt8} (hb : -1 ≤ base) (h : blkQ base n l = some (ps, l')) : ps.length = n ∧ ∃ K, Lens ps K ∧ K + l'.length ≤ l.length := by
  unfold blkQ at h
  cases h1 : getPk 16 l with
  | error e => rw [h1] at h; cases h
  | ok y =>
    obtain ⟨ds, j⟩ := y
    rw [h1] at h
    simp only at h
    split at h
    · cases h
    · next hd =>
      cases h2 : getPk 16 (l.drop j) with
      | error e => rw [h2] at h; cases h
      | ok y =>
        obtain ⟨fs, j2⟩ := y
        rw [h2] at h
        simp only at h
        split at h
        · cases h
        · next hd2 =>
          have hd := Decidable.not_not.1 hd
          have hd2 := Decidable.not_not.1 hd2
          obtain ⟨K, hk, hK⟩ := unpQ_len ds fs base _ ps l' hb h
          refine ⟨(unpQ_length ds fs base _ ps l' (hd.trans hd2.symm) h).trans hd, K, hk, ?_⟩
          rw [List.length_drop, List.length_drop] at hK
          omega
theorem skQ_len : ∀ (m : Nat) (l l' : List UInt8), skQ m l = some l' → l'.length + 2 * m ≤ l.length
  | 0, l, l', h => by rw [skQ] at h; injection h with h; subst h; omega
  | m + 1, l, l', h => by
    rw [skQ] at h
    cases h1 : getUpto 9223372036854775807 l with
    | error e => rw [h1] at h; cases h
    | ok y =>
      obtain ⟨u, j⟩ := y
      rw [h1] at h
      simp only at h
      cases h2 : getUpto 9223372036854775807 (l.drop j) with
      | error e => rw [h2] at h; cases h
      | ok y =>
        obtain ⟨u2, j2⟩ := y
        rw [h2] at h
        simp only at h
        have ih := skQ_len m _ l' h
        have g1 := getU_len (getUpto_len h1).1
        have g2 := getU_len (getUpto_len h2).1
        rw [List.length_drop, List.length_drop] at ih
        rw [List.length_drop] at g2
        omega
theorem Lens.append {a b : List PostV} {K1 K2 : Nat} (h1 : Lens a K1) (h2 : Lens b K2) : Lens (a ++ b) (K1 + K2) :=
  ⟨fun x hx => by rcases List.mem_append.1 hx with hx | hx; exact h1.p x hx; exact h2.p x hx, by rw [totalV_append]; have := h1.t; have := h2.t; omega, by rw [totalV_append, List.length_append]; have := h1.n; have := h2.n; omega⟩
theorem lastV_ge : ∀ (ps : List PostV) (base : Int), -1 ≤ base → base < 2147483647 → (∀ x ∈ ps, -1 ≤ x.doc ∧ x.doc < 2147483647) → -1 ≤ lastV base ps ∧ lastV base ps < 2147483647
  | [], base, h, h2, _ => ⟨h, h2⟩
  | p :: r, base, h, h2, hp => lastV_ge r p.doc (hp p (List.mem_cons_self ..)).1 (hp p (List.mem_cons_self ..)).2 (fun x hx => hp x (List.mem_cons_of_mem _ hx))
theorem lsQ_len : ∀ (m : Nat) (base : Int) (n : Nat) (l : List UInt8) (ps : List PostV), -1 ≤ base → base < 2147483647 → lsQ m base n l = some ps → Lens ps l.length
  | 0, base, n, l, ps, _, _, h => by
    rw [lsQ] at h; injection h with h; subst h
    exact ⟨fun x hx => (by cases hx), Nat.zero_le _, Nat.le_refl _⟩
  | m + 1, base, n, l, ps, hb, hb2, h => by
    rw [lsQ] at h
    cases h1 : blkQ base (min 16 n) l with
    | none => rw [h1] at h; cases h
    | some y =>
      obtain ⟨ps', l'⟩ := y
      rw [h1] at h
      simp only at h
      cases h2 : lsQ m (lastV base ps') (n - 16) l' with
      | none => rw [h2] at h; cases h
      | some q =>
        rw [h2] at h
        injection h with h
        subst h
        obtain ⟨_, K, hk, hK⟩ := blkQ_len hb h1
        have hlv := lastV_ge ps' base hb hb2 (fun x hx => (hk.p x hx).1)
        have ih := lsQ_len m (lastV base ps') (n - 16) l' q hlv.1 hlv.2 h2
        have h9 := hk.append ih
        exact ⟨h9.p, by have := h9.t; omega, h9.n⟩
theorem docV_len {b : List UInt8} {ps : List PostV} (h : docV b = some ps) : Lens ps b.length := by
  unfold docV at h
  cases h1 : getUpto 9223372036854775807 b with
  | error e => rw [h1] at h; cases h
  | ok y =>
    obtain ⟨n, j⟩ := y
    rw [h1] at h
    simp only at h
    cases h2 : getUpto 9223372036854775807 (b.drop j) with
    | error e => rw [h2] at h; cases h
    | ok y =>
      obtain ⟨t, j2⟩ := y
      rw [h2] at h
      simp only at h
      cases h3 : skQ ((n + 15) / 16) ((b.drop j).drop j2) with
      | none => rw [h3] at h; cases h
      | some l =>
        rw [h3] at h
        simp only at h
        have hs := skQ_len _ _ _ h3
        rw [List.length_drop, List.length_drop] at hs
        have hl := lsQ_len _ _ _ _ _ (by omega) (by omega) h
        exact ⟨hl.p, by have := hl.t; omega, hl.n⟩
theorem Lens.fit {ps : List PostV} {K : Nat} (h : Lens ps K) (hK : K ≤ 31000000) : FitP ps := fun p hp => by
  obtain ⟨h1, h2⟩ := h.p p hp
  refine ⟨by omega, asc_fit h2, ?_⟩
  have h3 : p.pos.length ≤ totalV ps := by
    have : ∀ l : List PostV, p ∈ l → p.pos.length ≤ totalV l := by
      intro l
      induction l with
      | nil => intro h; cases h
      | cons q r ih =>
        intro h
        unfold totalV at ih ⊢
        rw [List.map_cons, List.sum_cons]
        rcases List.mem_cons.1 h with rfl | h
        · omega
        · have := ih h; omega
    exact this ps hp
  have := h.t
  omega
/-- An image is as long as it has positions, documents. -/
theorem image_ge {ps : List PostV} (ok : okV (-1) ps) : totalV ps ≤ (imageV ps).length ∧ ps.length ≤ totalV ps := by
  obtain ⟨q1, q2, q3, q4⟩ := chp_flat _ ps (Nat.le_refl _)
  have hg : ∀ (cs : List (List PostV)) (base : Int), okV base cs.flatten → totalV cs.flatten ≤ (bodyV (blksV base cs)).length := by
    intro cs
    induction cs with
    | nil => intro base _; simp [totalV]
    | cons c r ih =>
      intro base hok
      rw [List.flatten_cons] at hok
      obtain ⟨o1, o2⟩ := okV_append hok
      have g1 := ih _ o2
      obtain ⟨g3, g4⟩ := blockB_ge o1
      have hd : (bodyV (blksV base (c :: r))).length = (blockB base c).length + (bodyV (blksV (lastV base c) r)).length := by
        rw [← List.length_append]; rfl
      rw [List.flatten_cons, totalV_append, hd]
      omega
  have h1 := hg (chp ps) (-1) (by rw [q1]; exact ok)
  rw [q1] at h1
  have h2 : ∀ (l : List PostV) (base : Int), okV base l → l.length ≤ totalV l := by
    intro l
    induction l with
    | nil => intro _ _; exact Nat.zero_le _
    | cons p r ih =>
      intro base hok
      obtain ⟨o1, o2⟩ := okV_cons hok
      have := ih _ o2
      have hp : 0 < p.pos.length := List.length_pos_iff.2 (goodV_ok o1).2.2.2.1
      unfold totalV at this ⊢
      rw [List.map_cons, List.sum_cons, List.length_cons]; omega
  refine ⟨?_, h2 ps (-1) ok⟩
  unfold imageV
  simp only [List.length_append]
  omega
theorem asc_fitP {b : List UInt8} {ps : List PostV} (ok : okV (-1) ps) (ha : ∀ p ∈ ps, asc (-1) p.pos) (hb : b = imageV ps) (hl : b.length ≤ 31000000) : FitP ps ∧ ps.length ≤ b.length ∧ totalV ps ≤ b.length := by
  obtain ⟨h1, h2⟩ := image_ge ok
  rw [← hb] at h1
  refine ⟨?_, by omega, by omega⟩
  have hd : ∀ (l : List PostV) (base : Int), -1 ≤ base → okV base l → ∀ x ∈ l, -1 ≤ x.doc ∧ x.doc < 2147483647 := by
    intro l
    induction l with
    | nil => intro _ _ _ x hx; cases hx
    | cons p r ih =>
      intro base hb hok x hx
      obtain ⟨o1, o2⟩ := okV_cons hok
      have g := goodV_ok o1
      rcases List.mem_cons.1 hx with rfl | hx
      · exact ⟨by omega, g.2.1⟩
      · exact ih p.doc (by omega) o2 x hx
  exact (⟨fun x hx => ⟨hd ps (-1) (by omega) ok x hx, ha x hx⟩, by omega, h2⟩ : Lens ps 31000000).fit (Nat.le_refl _)
theorem doc_some31 {b : List UInt8} {r : OpenR} (h : openV b = some r) (hb : b.length ≤ 31000000) : docV b = some r.bl.flatten ∧ okV (-1) r.bl.flatten ∧ imageV r.bl.flatten = b ∧ FitP r.bl.flatten ∧ r.bl.flatten.length ≤ b.length ∧ totalV r.bl.flatten ≤ b.length := by
  obtain ⟨ps, ok, ha, he, rfl⟩ := openV_form h
  obtain ⟨q1, -⟩ := chp_flat _ ps (Nat.le_refl _)
  obtain ⟨f1, f2, f3⟩ := asc_fitP ok ha he hb
  simp only
  rw [q1]
  exact ⟨by rw [he]; exact docV_of ok f1 (by omega) (by omega), ok, he.symm, f1, f2, f3⟩
theorem doc_some {b : List UInt8} {r : OpenR} (h : openV b = some r) (hb : b.length ≤ 1048576) : docV b = some r.bl.flatten ∧ okV (-1) r.bl.flatten ∧ imageV r.bl.flatten = b ∧ FitP r.bl.flatten ∧ r.bl.flatten.length ≤ 1048576 ∧ totalV r.bl.flatten ≤ 1048576 := by
  obtain ⟨h1, h2, h3, h4, h5, h6⟩ := doc_some31 h (Nat.le_trans hb (by decide))
  exact ⟨h1, h2, h3, h4, Nat.le_trans h5 hb, Nat.le_trans h6 hb⟩
theorem doc_none {b : List UInt8} (h : openV b = none) (hb : b.length ≤ 31000000) {ps : List PostV} (hd : docV b = some ps) (ok : okV (-1) ps) : imageV ps ≠ b := fun e => by
  have hl := docV_len hd
  have h1 := openV_of ok (hl.fit hb) (by have := hl.t; have := hl.n; omega) (by have := hl.t; omega)
  rw [e, h] at h1
  cases h1
end Go.Proofs.YthnpbfadblcicaaDoor
