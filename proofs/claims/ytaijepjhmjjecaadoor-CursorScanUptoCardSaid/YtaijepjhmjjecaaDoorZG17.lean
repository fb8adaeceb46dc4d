/- Merged: ThereP, BlkP, CuP. -/
import Derived.Test.YtaijepjhmjjecaaDoorZDocD
import Derived.Test.YtaijepjhmjjecaaDoorZG16
/- posts, plain: neither a shorter beginning of an image nor anything longer is an image. No program occurs here. -/
namespace Go.Proofs.YtaijepjhmjjecaaDoor
set_option linter.unusedVariables false

def Asc (ps : List PostV) : Prop := ∀ p ∈ ps, asc (-1) p.pos ∧ p.pos.length < 2 ^ 63
theorem Asc.left {a b : List PostV} (h : Asc (a ++ b)) : Asc a := fun p hp => h p (List.mem_append_left _ hp)
theorem Asc.right {a b : List PostV} (h : Asc (a ++ b)) : Asc b := fun p hp => h p (List.mem_append_right _ hp)
theorem unpQ_ofA : ∀ (ps : List PostV) (base : Int) (t : List UInt8), -1 ≤ base → okV base ps → Asc ps → unpQ base (gapsD base ps) (freqV ps) (tailV ps ++ t) = some (ps, t)
  | [], base, t, _, _, _ => rfl
  | p :: r, base, t, hb, ok, hf => by
    obtain ⟨h1, h2⟩ := okV_cons ok
    obtain ⟨g1, g2, g3, g4, g5, g6⟩ := goodV_ok h1
    have ha := (hf p (List.mem_cons_self ..)).1
    have ih := unpQ_ofA r p.doc t (by omega) h2 (fun q hq => hf q (List.mem_cons_of_mem _ hq))
    have hpl : 0 < p.pos.length := List.length_pos_iff.2 g4
    have hr := gp_r p.pos (-1) (tailV r ++ t) (by omega) ha
    rw [gapsD, show freqV (p :: r) = (p.pos.length - 1) :: freqV r from rfl, show tailV (p :: r) = gapsB (-1) p.pos ++ tailV r from rfl, unpQ, List.append_assoc, if_neg (by omega), show p.pos.length - 1 + 1 = p.pos.length by omega, hr]
    simp only
    rw [List.drop_left, show base + ((p.doc - base - 1).toNat : Nat) + 1 = p.doc by omega, ih]
theorem freqV_fitA {l : List PostV} (hf : Asc l) : ∀ x ∈ freqV l, x < 2 ^ 63 := fun x hx => by
  obtain ⟨p, hp, rfl⟩ := List.mem_map.1 hx
  have := (hf p hp).2
  omega
theorem blkQ_ofA {base : Int} {ps : List PostV} (hb : -1 ≤ base) (ok : okV base ps) (hf : Asc ps) (hl : ps.length ≤ 16) (t : List UInt8) : blkQ base ps.length (blockB base ps ++ t) = some (ps, t) := by
  unfold blkQ blockB
  rw [List.append_assoc, gp_pk16 (gapsD_fits ok hb) (by rw [gapsD_length]; exact hl)]
  simp only
  rw [gapsD_length, if_neg (by simp), List.drop_left, List.append_assoc, gp_pk16 (freqV_fitA hf) (by rw [freqV_length]; exact hl)]
  simp only
  rw [freqV_length, if_neg (by simp), List.drop_left]
  exact unpQ_ofA ps base t hb ok hf
theorem lsQ_ofA : ∀ (m : Nat) (cs : List (List PostV)) (base : Int) (n : Nat) (t : List UInt8), cs.map List.length = dcs m n → -1 ≤ base → okV base cs.flatten → Asc cs.flatten → lsQ m base n (bodyV (blksV base cs) ++ t) = some cs.flatten
  | 0, cs, base, n, t, hd, _, _, _ => by
    have : cs = [] := by cases cs with
      | nil => rfl
      | cons c r => simp [dcs] at hd
    subst this; rfl
  | m + 1, cs, base, n, t, hd, hb, ok, hf => by
    cases cs with
    | nil => simp [dcs] at hd
    | cons c r =>
      rw [List.map_cons, dcs] at hd
      injection hd with h1 h2
      rw [List.flatten_cons] at ok hf ⊢
      obtain ⟨o1, o2⟩ := okV_append ok
      have hq := blkQ_ofA hb o1 hf.left (by omega) (bodyV (blksV (lastV base c) r) ++ t)
      have ih := lsQ_ofA m r (lastV base c) (n - 16) t h2 (okV_ge o1 hb) o2 hf.right
      rw [lsQ, show bodyV (blksV base (c :: r)) = blockB base c ++ bodyV (blksV (lastV base c) r) from rfl, List.append_assoc, ← h1, hq]
      simp only
      rw [ih]
theorem blks_fitA : ∀ (cs : List (List PostV)) (base : Int), -1 ≤ base → okV base cs.flatten → (∀ c ∈ cs, c ≠ []) → (bodyV (blksV base cs)).length < 2 ^ 63 → ∀ x ∈ blksV base cs, x.1 < 2 ^ 63 ∧ x.2.length < 2 ^ 63
  | [], base, _, _, _, _, x, hx => by cases hx
  | c :: r, base, hb, ok, hne, hT, x, hx => by
    rw [List.flatten_cons] at ok
    obtain ⟨o1, o2⟩ := okV_append ok
    have hla := (okV_last o1).2 (hne c (List.mem_cons_self ..))
    have hd : (bodyV (blksV base (c :: r))).length = (blockB base c).length + (bodyV (blksV (lastV base c) r)).length := by
      rw [← List.length_append]; rfl
    rcases List.mem_cons.1 hx with rfl | hx
    · exact ⟨by show (lastV base c - base - 1).toNat < _; omega, by show (blockB base c).length < _; omega⟩
    · exact blks_fitA r (lastV base c) (okV_ge o1 hb) o2 (fun y hy => hne y (List.mem_cons_of_mem _ hy)) (by omega) x hx
theorem docV_ofA {ps : List PostV} (ok : okV (-1) ps) (ha : ∀ p ∈ ps, asc (-1) p.pos) (hl : (imageV ps).length < 2 ^ 62) (t : List UInt8) : docV (imageV ps ++ t) = some ps := by
  obtain ⟨q1, q2, q3, q4⟩ := chp_flat _ ps (Nat.le_refl _)
  obtain ⟨g1, g2⟩ := image_ge ok
  have hA : Asc ps := fun p hp => ⟨ha p hp, by
    have : p.pos.length ≤ totalV ps := by
      clear ok ha hl q1 q2 q3 q4 g1 g2
      induction ps with
      | nil => cases hp
      | cons q r ih =>
        unfold totalV at ih ⊢
        rw [List.map_cons, List.sum_cons]
        rcases List.mem_cons.1 hp with rfl | hp
        · omega
        · have := ih hp; omega
    omega⟩
  have e0 : imageV ps ++ t = uvar ps.length ++ (uvar (totalV ps) ++ (headV (blksV (-1) (chp ps)) ++ (bodyV (blksV (-1) (chp ps)) ++ t))) := by
    unfold imageV; simp only [List.append_assoc]
  have hbl : (bodyV (blksV (-1) (chp ps))).length ≤ (imageV ps).length := by
    unfold imageV; simp only [List.length_append]; omega
  have e1 := gp_upto 9223372036854775807 ps.length (by omega) (by omega) (uvar (totalV ps) ++ (headV (blksV (-1) (chp ps)) ++ (bodyV (blksV (-1) (chp ps)) ++ t)))
  have e2 := gp_upto 9223372036854775807 (totalV ps) (by omega) (by omega) (headV (blksV (-1) (chp ps)) ++ (bodyV (blksV (-1) (chp ps)) ++ t))
  have e3 := skQ_of (blksV (-1) (chp ps)) (bodyV (blksV (-1) (chp ps)) ++ t) (blks_fitA (chp ps) (-1) (by omega) (by rw [q1]; exact ok) (chp_ne _ ps (Nat.le_refl _)) (by omega))
  have e4 := lsQ_ofA ((ps.length + 15) / 16) (chp ps) (-1) ps.length t q2 (by omega) (by rw [q1]; exact ok) (by rw [q1]; exact hA)
  rw [blksV_len, q4] at e3
  unfold docV
  rw [e0, e1]
  simp only
  rw [List.drop_left, e2]
  simp only
  rw [List.drop_left, e3]
  simp only
  rw [e4, q1]
theorem image_prefix {ps qs : List PostV} {t : List UInt8} (ok : okV (-1) ps) (ha : ∀ p ∈ ps, asc (-1) p.pos) (ok2 : okV (-1) qs) (ha2 : ∀ p ∈ qs, asc (-1) p.pos) (hl : (imageV ps).length < 2 ^ 62) (h : imageV ps = imageV qs ++ t) : t = [] := by
  have hl2 : (imageV qs).length < 2 ^ 62 := by
    have := congrArg List.length h
    rw [List.length_append] at this; omega
  have h1 := docV_ofA ok ha hl []
  rw [List.append_nil, h, docV_ofA ok2 ha2 hl2 t] at h1
  injection h1 with h1
  subst h1
  have := congrArg List.length h
  rw [List.length_append] at this
  exact List.eq_nil_of_length_eq_zero (by omega)
theorem fit_asc {ps : List PostV} : ∀ {base : Int}, okV base ps → FitP ps → ∀ p ∈ ps, asc (-1) p.pos := by
  induction ps with
  | nil => intro _ _ _ p hp; cases hp
  | cons q r ih =>
    intro base ok hf p hp
    obtain ⟨h1, h2⟩ := okV_cons ok
    rcases List.mem_cons.1 hp with rfl | hp
    · exact okP_asc h1 (hf p (List.mem_cons_self ..)).2.1
    · exact ih h2 (fun x hx => hf x (List.mem_cons_of_mem _ hx)) p hp
/-- A beginning that is shorter is no image. -/
theorem open_cut {ps : List PostV} (ok : okV (-1) ps) (hf : FitP ps) (hl : (imageV ps).length < 2 ^ 62) (k : Nat) (hk : k < (imageV ps).length) : openV ((imageV ps).take k) = none := by
  cases h : openV ((imageV ps).take k) with
  | none => rfl
  | some r =>
    obtain ⟨qs, ok2, ha2, he, -⟩ := openV_form h
    have h1 : imageV ps = imageV qs ++ (imageV ps).drop k := by rw [← he, List.take_append_drop]
    have h2 := image_prefix ok (fit_asc ok hf) ok2 ha2 hl h1
    have := congrArg List.length h2
    rw [List.length_drop] at this
    simp only [List.length_nil] at this
    omega
/-- Nothing longer is an image. -/
theorem open_more {ps : List PostV} (ok : okV (-1) ps) (hf : FitP ps) (mo : List UInt8) (hl : (imageV ps).length + mo.length < 2 ^ 62) (hm : mo ≠ []) : openV (imageV ps ++ mo) = none := by
  cases h : openV (imageV ps ++ mo) with
  | none => rfl
  | some r =>
    obtain ⟨qs, ok2, ha2, he, -⟩ := openV_form h
    have h2 := image_prefix ok2 ha2 ok (fit_asc ok hf) (by rw [← he, List.length_append]; exact hl) he.symm
    exact absurd h2 hm
theorem image_le4 {l : List PostV} (hf : FitP l) (ok : okV (-1) l) (hl : l.length ≤ 1048576) (hT : totalV l ≤ 1048576) : (imageV l).length ≤ 400000000 := by
  obtain ⟨h1, h2⟩ := blks_le _ (-1) l (Nat.le_refl _) hf ok (by omega) (by omega) (by omega)
  have u1 := (uvar_le l.length (by omega)).2
  have u2 := (uvar_le (totalV l) (by omega)).2
  unfold imageV
  rw [List.length_append, List.length_append, List.length_append]
  omega
theorem image_pos (ps : List PostV) : 0 < (imageV ps).length := by
  unfold imageV
  have : 0 < (uvar ps.length).length := List.length_pos_iff.2 (uvar_ne _)
  rw [List.length_append, List.length_append]; omega
end Go.Proofs.YtaijepjhmjjecaaDoor

/- posts, plain: the blocks one behind the other. -/
namespace Go.Proofs.YtaijepjhmjjecaaDoor
set_option linter.unusedVariables false

/-- Where block k begins. -/
def atV (ps : List PostV) (k : Nat) : Nat := headL ps + (bodyV (blksV (-1) ((chp ps).take k))).length
theorem blk_fact (ps : List PostV) (k : Nat) (h : k < (chp ps).length) (h2 : k < (skV (-1) (headL ps) (chp ps)).length) :
    ∃ la sz, (skV (-1) (headL ps) (chp ps))[k] = ⟨la, ((chp ps)[k]).length, atV ps k, sz⟩ ∧ 1 ≤ sz ∧ atV ps k + sz = atV ps (k + 1) ∧ 0 < ((chp ps)[k]).length ∧ ((chp ps)[k]).length ≤ 16 ∧ (k + 1 < (chp ps).length → ((chp ps)[k]).length = 16) ∧
      ((chp ps)[k]).length = min 16 (ps.length - 16 * k) ∧ ∀ hp : ((chp ps)[k]).length - 1 < ((chp ps)[k]).length, la = (((chp ps)[k])[((chp ps)[k]).length - 1]).doc := by
  obtain ⟨q1, q2, q3, q4⟩ := chp_flat _ ps (Nat.le_refl _)
  have hg := chp_get k ps h
  have hl : ((chp ps)[k]).length = min 16 (ps.length - 16 * k) := by rw [hg, List.length_take, List.length_drop]
  refine ⟨_, _, skV_get (chp ps) (-1) (headL ps) k h2 h, ?_, ?_, by omega, by omega, by omega, hl, fun hp => ?_⟩
  · unfold blockB pckB
    have := List.length_pos_iff.2 (uvar_ne (gapsD (lastV (-1) ((chp ps).take k).flatten) (chp ps)[k]).length)
    rw [List.length_append, List.length_append]
    omega
  · unfold atV
    rw [bodyV_take (-1) (chp ps) k h]
    omega
  · rw [List.take_succ_eq_append_getElem h, List.flatten_append, lastV_append]
    have hne : (chp ps)[k] ≠ [] := fun e => by rw [e] at hp; simp at hp
    have h9 := lastV_get (lastV (-1) ((chp ps).take k).flatten) (chp ps)[k] hne
    simpa using h9
theorem blk_fact2 (ps : List PostV) (k : Nat) (h : k < (chp ps).length) (h2 : k < (skV (-1) (headL ps) (chp ps)).length) (CH : List PostV) (hCH : (ps.drop (16 * k)).take 16 = CH) :
    ∃ la sz, (skV (-1) (headL ps) (chp ps))[k] = ⟨la, CH.length, atV ps k, sz⟩ ∧ 1 ≤ sz ∧ atV ps k + sz = atV ps (k + 1) ∧ 0 < CH.length ∧ CH.length ≤ 16 ∧ (k + 1 < (chp ps).length → CH.length = 16) ∧
      CH.length = min 16 (ps.length - 16 * k) ∧ ∀ (l1 : Nat) (hp : l1 < CH.length), l1 + 1 = CH.length → la = CH[l1].doc := by
  obtain ⟨la, sz, b1, b2, b3, b4, b5, b6, b7, b8⟩ := blk_fact ps k h h2
  have hg := (chp_get k ps h).trans hCH
  generalize (chp ps)[k] = X at hg b1 b4 b5 b6 b7 b8
  subst hg
  refine ⟨la, sz, b1, b2, b3, b4, b5, b6, b7, fun l1 hp he => ?_⟩
  have h9 := b8 (by omega)
  have e : X.length - 1 = l1 := by omega
  simpa only [e] using h9
theorem atV_end (ps : List PostV) : atV ps (chp ps).length = (imageV ps).length := by
  unfold atV headL imageV
  rw [List.take_length]
  simp only [List.length_append]
  omega
theorem atV_zero (ps : List PostV) : 2 ≤ atV ps 0 := by
  unfold atV headL
  have h1 := List.length_pos_iff.2 (uvar_ne ps.length)
  have h2 := List.length_pos_iff.2 (uvar_ne (totalV ps))
  simp only [List.length_append]
  omega
theorem atV_le (ps : List PostV) (k : Nat) : atV ps k ≤ (imageV ps).length := by
  rw [← atV_end]
  unfold atV
  rw [List.take_length]
  have := bodyV_mono (-1) (chp ps) k
  omega
theorem tot_step (ps : List PostV) (k : Nat) (h : k < (chp ps).length) : totalV (ps.take (min (16 * (k + 1)) ps.length)) = totalV (ps.take (16 * k)) + totalV ((ps.drop (16 * k)).take 16) := by
  rw [← totalV_append]
  congr 1
  have hm : min (16 * (k + 1)) ps.length = 16 * k + min 16 (ps.length - 16 * k) := by
    obtain ⟨q1, q2, q3, q4⟩ := chp_flat _ ps (Nat.le_refl _)
    omega
  rw [hm, List.take_add]
  congr 1
  rw [← List.length_drop, List.take_eq_take_iff]
  omega
end Go.Proofs.YtaijepjhmjjecaaDoor

/- The cursor, plain: places, moves, what Advance comes to. No program occurs here. -/
namespace Go.Proofs.YtaijepjhmjjecaaDoor
set_option linter.unusedVariables false

/-- A cursor stands at the place u - 1: u = 0 ahead of the first, u = n + 1 behind the last. -/
def docU (ps : List PostV) (u : Nat) : Int := if u = 0 then -1 else if h : u - 1 < ps.length then ps[u - 1].doc else 2147483647
theorem docU_zero (ps : List PostV) : docU ps 0 = -1 := rfl
theorem docU_at {ps : List PostV} {q : Nat} (h : q < ps.length) : docU ps (q + 1) = ps[q].doc := by
  unfold docU; rw [if_neg (by omega)]; simp only [Nat.add_sub_cancel]; rw [dif_pos h]
theorem docU_end {ps : List PostV} {u : Nat} (h : ps.length < u) : docU ps u = 2147483647 := by
  unfold docU; rw [if_neg (by omega), dif_neg (by omega)]
def costU (u q n : Nat) : Nat := if q = n then (if u = n then 1 else (n + 15) / 16 - u / 16 + 1) else if u / 16 = q / 16 then q + 1 - u else q / 16 - u / 16 + q % 16 + 1
theorem costU_le {u q n : Nat} (h : u ≤ q) (hq : q ≤ n) : costU u q n ≤ n + 20 := by
  unfold costU
  split
  · split <;> omega
  · split <;> omega
theorem costU_move {u q n : Nat} (h : u ≤ q) (hq : q < n) : costU u q n + 2 * u ≤ 2 * (q + 1) := by
  unfold costU
  rw [if_neg (by omega)]
  split
  · omega
  · omega
theorem costU_fin {u n : Nat} (h : u ≤ n) : costU u n n + 2 * u ≤ 2 * n + 1 := by
  unfold costU
  rw [if_pos rfl]
  split
  · omega
  · omega
/-- The first place from u on whose document is target or greater. -/
def firstU (ps : List PostV) (u : Nat) (t : Int) : Nat := u + ((ps.drop u).takeWhile fun p => decide (p.doc < t)).length
theorem firstU_ge (ps : List PostV) (u : Nat) (t : Int) : u ≤ firstU ps u t := Nat.le_add_right _ _
theorem firstU_le {ps : List PostV} {u : Nat} (t : Int) (h : u ≤ ps.length) : firstU ps u t ≤ ps.length := by
  unfold firstU
  have := (List.takeWhile_sublist (l := ps.drop u) fun p => decide (p.doc < t)).length_le
  rw [List.length_drop] at this
  omega
theorem firstU_eq : ∀ {ps : List PostV} {u q : Nat} {t : Int}, u ≤ q → q ≤ ps.length → (∀ (j : Nat) (h : j < ps.length), u ≤ j → j < q → ps[j].doc < t) → (∀ h : q < ps.length, ¬ ps[q].doc < t) → firstU ps u t = q := by
  intro ps u q t h1 h2 h3 h4
  obtain ⟨m, rfl⟩ : ∃ m, q = u + m := ⟨q - u, by omega⟩
  unfold firstU
  congr 1
  clear h1
  induction m generalizing u with
  | zero =>
    by_cases hu : u < ps.length
    · rw [List.drop_eq_getElem_cons hu, List.takeWhile_cons_of_neg (by simpa using h4 (by simpa using hu))]; rfl
    · rw [List.drop_of_length_le (by omega)]; rfl
  | succ m ih =>
    have hu : u < ps.length := by omega
    rw [List.drop_eq_getElem_cons hu, List.takeWhile_cons_of_pos (by simpa using h3 u hu (Nat.le_refl _) (by omega)), List.length_cons]
    rw [ih (u := u + 1) (by omega) (fun j h a b => h3 j h (by omega) (by omega)) (fun h => by
      have e : u + (m + 1) = u + 1 + m := by omega
      have := h4 (by omega)
      simpa only [e] using this)]
theorem okV_lt_lt : ∀ {base : Int} {l : List PostV}, okV base l → ∀ (i j : Nat) (hj : j < l.length) (hij : i < j), (l[i]'(by omega)).doc < l[j].doc
  | base, p :: r, ok, 0, j + 1, hj, _ => by
    obtain ⟨h1, h2⟩ := okV_cons ok
    have hg := okV_get h2 j (by simpa using hj)
    have hl := (okV_last (okV_split h2 j).1).1
    have := (goodV_ok hg).2.2.1
    simp only [List.getElem_cons_zero, List.getElem_cons_succ]
    omega
  | base, p :: r, ok, i + 1, j + 1, hj, hij => by
    obtain ⟨h1, h2⟩ := okV_cons ok
    simpa using okV_lt_lt h2 i j (by simpa using hj) (by omega)
theorem okV_le_le {base : Int} {l : List PostV} (ok : okV base l) {i j : Nat} (hj : j < l.length) (hij : i ≤ j) : (l[i]'(by omega)).doc ≤ l[j].doc := by
  rcases Nat.lt_or_eq_of_le hij with h | h
  · exact Int.le_of_lt (okV_lt_lt ok i j hj h)
  · subst h; exact Int.le_refl _
theorem okV_doc {base : Int} {l : List PostV} (ok : okV base l) (i : Nat) (h : i < l.length) : 0 ≤ l[i].doc ∧ l[i].doc < 2147483647 := by
  have := goodV_ok (okV_get ok i h)
  exact ⟨this.1, this.2.1⟩
/-- The last document of block k. -/
theorem blk_last {ps : List PostV} (k : Nat) (h : k < (chp ps).length) (h2 : k < (skV (-1) (headL ps) (chp ps)).length) :
    ∃ hl : min (16 * k + 15) (ps.length - 1) < ps.length, ((skV (-1) (headL ps) (chp ps))[k]).last = (ps[min (16 * k + 15) (ps.length - 1)]).doc := by
  obtain ⟨q1, q2, q3, q4⟩ := chp_flat _ ps (Nat.le_refl _)
  have hlt : 16 * k < ps.length := by omega
  have hl : min (16 * k + 15) (ps.length - 1) < ps.length := by omega
  refine ⟨hl, ?_⟩
  obtain ⟨la, sz, b1, b2, b3, b4, b5, b6, b7, b8⟩ := blk_fact2 ps k h h2 _ rfl
  rw [b1]
  show la = _
  rw [b8 (min 15 (ps.length - 1 - 16 * k)) (by rw [b7]; omega) (by rw [b7]; omega), List.getElem_take, List.getElem_drop]
  congr 2
  omega
/-- What the search over the blocks' last documents and the look along the rest comes to. -/
theorem first_blk {ps : List PostV} (ok : okV (-1) ps) {u k : Nat} {t : Int} (hu : u ≤ ps.length) (hk : u / 16 ≤ k) (hlow : ∀ i, u / 16 ≤ i → i < k → ∀ h : min (16 * i + 15) (ps.length - 1) < ps.length, (ps[min (16 * i + 15) (ps.length - 1)]).doc < t) (hkb : k ≤ max (u / 16) ((ps.length + 15) / 16)) :
    ∀ (j : Nat) (h : j < ps.length), u ≤ j → j < max u (16 * k) → ps[j].doc < t := by
  intro j h h1 h2
  have hj : j / 16 < k := by omega
  have h9 := hlow (j / 16) (by omega) hj (by omega)
  have h10 := okV_le_le ok (i := j) (j := min (16 * (j / 16) + 15) (ps.length - 1)) (by omega) (by omega)
  omega
end Go.Proofs.YtaijepjhmjjecaaDoor
