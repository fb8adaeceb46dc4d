/- The document's dictionary: what its Open reads; an image is read as what it was made of. No program occurs here. -/
import Derived.Test.YtfeldllcpeibcaaDoorRef6E
namespace Go.Proofs.YtfeldllcpeibcaaDoor
set_option linter.unusedVariables false

theorem tkR_uvar : ∀ (m n a f : Nat) (R : List UInt8), n < 128 ^ m → 0 < m → tkR m a f (uvar n ++ R) = some (a + n * f, (uvar n).length)
  | 0, n, a, f, R, h, h0 => by omega
  | m + 1, n, a, f, R, h, _ => by
    by_cases h1 : n < 128
    · rw [uvar_small h1]
      have e : (UInt8.ofNat n).toNat = n := by simp; omega
      simp only [List.singleton_append, tkR, e, h1, if_true, Nat.mod_eq_of_lt h1, List.length_singleton]
    · rw [uvar_big h1]
      have e : (UInt8.ofNat (128 + n % 128)).toNat = 128 + n % 128 := by simp; omega
      have hm : n / 128 < 128 ^ m := by rw [Nat.pow_succ] at h; exact Nat.div_lt_of_lt_mul (by rw [Nat.mul_comm]; exact h)
      have ih := tkR_uvar m (n / 128) (a + n % 128 * f) (f * 128) R hm (by
        rcases Nat.eq_zero_or_pos m with rfl | h0
        · simp at h; omega
        · exact h0)
      simp only [List.cons_append, tkR, e, show ¬ (128 + n % 128 < 128) by omega, if_false, List.length_cons]
      rw [show (128 + n % 128) % 128 = n % 128 by omega, ih, Option.map_some]
      congr 2
      have h2 : n % 128 * f + n / 128 * (f * 128) = n * f := by
        rw [← Nat.mul_assoc, Nat.mul_right_comm, ← Nat.add_mul]; congr 1; omega
      omega
theorem tk_uvar {bs R : List UInt8} {p n : Nat} (h : bs.drop p = uvar n ++ R) (hn : n < 34359738368) : tk bs p = some (n, p + (uvar n).length) := by
  unfold tk
  rw [h, tkR_uvar 5 n 0 1 R (by simpa using hn) (by decide)]
  simp
theorem drop_on {bs X R : List UInt8} {p : Nat} (h : bs.drop p = X ++ R) : bs.drop (p + X.length) = R := by
  rw [← List.drop_drop, h, List.drop_left]
def skipR (bs : List UInt8) : Nat → Option Nat → Option Nat
  | 0, po => po
  | k + 1, po => skipR bs k (posO (tkO bs po))
def entsR (bs : List UInt8) : Nat → Option Nat → List UInt8 → Option (List EntV)
  | 0, _, _ => some []
  | m + 1, po, K => (rentP bs po K).bind fun y => if y.1.K.length ≤ 65 then (entsR bs m (some y.2) y.1.K).map (y.1 :: ·) else none
/-- What the document's Open reads, ahead of the rules. -/
def openR (bs : List UInt8) : Option (List EntV) :=
  (tk bs 0).bind fun y => if y.1 ≤ bs.length then (skipR bs ((y.1 + 15) / 16) (some y.2)).bind fun p => entsR bs y.1 (some p) [] else none
theorem skip_put {bs : List UInt8} : ∀ (zs : List Nat) (p : Nat) (R : List UInt8), bs.drop p = zs.flatMap uvar ++ R → (∀ z ∈ zs, z < 34359738368) → ∃ q, skipR bs zs.length (some p) = some q ∧ bs.drop q = R
  | [], p, R, h, _ => ⟨p, rfl, h⟩
  | z :: zs, p, R, h, hz => by
    rw [List.flatMap_cons, List.append_assoc] at h
    have h1 := tk_uvar h (hz z (List.mem_cons_self ..))
    obtain ⟨q, hq, hr⟩ := skip_put zs (p + (uvar z).length) R (drop_on h) (fun x hx => hz x (List.mem_cons_of_mem _ hx))
    refine ⟨q, ?_, hr⟩
    rw [List.length_cons]
    show skipR bs zs.length (posO (tk bs p)) = _
    rw [h1]; exact hq
theorem rent_put {bs R last : List UInt8} {e : EntV} {p : Nat} (h : bs.drop p = entB last e ++ R) (he : entOk e = true) (K : List UInt8) (hK : last = K ∨ last = []) : ∃ q, rentP bs (some p) K = some (e, q) ∧ bs.drop q = R := by
  have le := entOk_len he
  obtain ⟨nd, nt, na, ns⟩ := entOk_num he
  have cast : ∀ {x : Int}, numOk x = true → x.toNat < 34359738368 ∧ ((x.toNat : Nat) : Int) = x := fun hx => by
    have := of_decide_eq_true hx; omega
  have hsl := shr_le last e.K
  unfold entB at h
  simp only [List.append_assoc] at h
  have t0 := tk_uvar h (by omega)
  have h := drop_on h
  have t1 := tk_uvar h (by omega)
  have h := drop_on h
  have hx := congrArg List.length h
  have hdl : (e.K.drop (shr last e.K)).length = e.K.length - shr last e.K := List.length_drop
  have htk : (bs.drop (p + (uvar (shr last e.K)).length + (uvar (e.K.length - shr last e.K)).length)).take (e.K.length - shr last e.K) = e.K.drop (shr last e.K) := by
    rw [h, List.take_append_of_le_length (by omega), List.take_of_length_le (by omega)]
  have h := drop_on h
  rw [hdl] at h
  have t2 := tk_uvar h (cast nd).1
  have h := drop_on h
  have t3 := tk_uvar h (cast nt).1
  have h := drop_on h
  have t4 := tk_uvar h (cast na).1
  have h := drop_on h
  have t5 := tk_uvar h (cast ns).1
  have h := drop_on h
  have hkey : K.take (shr last e.K) ++ e.K.drop (shr last e.K) = e.K := by
    rcases hK with rfl | rfl
    · rw [shr_take, List.take_append_drop]
    · simp [shr]
  have hKl : shr last e.K ≤ K.length := by
    rcases hK with rfl | rfl
    · exact hsl.1
    · simp [shr]
  refine ⟨_, ?_, h⟩
  unfold rentP
  simp only [tkO, Option.bind_some, t0, t1]
  have hx2 : e.K.length - shr last e.K ≤ bs.length - (p + (uvar (shr last e.K)).length + (uvar (e.K.length - shr last e.K)).length) := by
    rw [List.length_drop, List.length_append, hdl] at hx; omega
  rw [if_pos ⟨hKl, hx2⟩]
  simp only [t2, t3, t4, t5, Option.bind_some, htk, hkey]
  congr 2
  exact EntV.ext2 (strOf_K _ _ _ _ _) (cast nd).2 (cast nt).2 (cast na).2 (cast ns).2
/-- The entries of blocks, whatever key stands ahead of each block. -/
theorem ents_blk {bs : List UInt8} : ∀ (l : List EntV) (last K : List UInt8) (p k : Nat) (R : List UInt8), bs.drop p = blkB last l ++ R → (∀ e ∈ l, entOk e = true) → (last = K ∨ last = []) →
    ∃ q K', entsR bs (l.length + k) (some p) K = (entsR bs k (some q) K').map (l ++ ·) ∧ bs.drop q = R
  | [], last, K, p, k, R, h, _, _ => ⟨p, K, by rw [List.length_nil, Nat.zero_add]; cases entsR bs k (some p) K <;> rfl, h⟩
  | e :: l, last, K, p, k, R, h, ok, hK => by
    rw [blkB, List.append_assoc] at h
    have he := ok e (List.mem_cons_self ..)
    obtain ⟨q, hq, h1⟩ := rent_put h he K hK
    obtain ⟨q', K', h2, h3⟩ := ents_blk l e.K e.K q k R h1 (fun x hx => ok x (List.mem_cons_of_mem _ hx)) (.inl rfl)
    refine ⟨q', K', ?_, h3⟩
    rw [List.length_cons, show l.length + 1 + k = (l.length + k) + 1 by omega, entsR, hq, Option.bind_some]
    simp only
    rw [if_pos (entOk_len he).2, h2, Option.map_map]
    rfl
theorem ents_put {bs : List UInt8} : ∀ (n : Nat) (l : List EntV) (p : Nat) (K R : List UInt8), l.length ≤ n → bs.drop p = (chk l).flatMap (blkB []) ++ R → (∀ e ∈ l, entOk e = true) → entsR bs l.length (some p) K = some l := by
  intro n
  induction n with
  | zero =>
    intro l p K R hn _ _
    have e1 : l = [] := List.length_eq_zero_iff.1 (by omega)
    subst e1; rfl
  | succ n ih =>
    intro l p K R hn h ok
    by_cases hz : l = []
    · subst hz; rfl
    · have hp : 0 < l.length := List.length_pos_iff.2 hz
      rw [chk_cons hz, List.flatMap_cons, List.append_assoc] at h
      obtain ⟨q, K', h1, h2⟩ := ents_blk (l.take 16) [] K p (l.drop 16).length _ h (fun e he => ok e (List.mem_of_mem_take he)) (.inr rfl)
      have hl : (l.take 16).length + (l.drop 16).length = l.length := by rw [List.length_take, List.length_drop]; omega
      rw [hl] at h1
      rw [h1, ih (l.drop 16) q K' R (by rw [List.length_drop]; omega) h2 (fun e he => ok e (List.mem_of_mem_drop he)), Option.map_some, List.take_append_drop]
/-- An image is read as what it was made of. -/
theorem openR_put {l : List EntV} (ok : ∀ e ∈ l, entOk e = true) (hb : (imageB l).length < 34359738368) : openR (imageB l) = some l := by
  have hi := image_len l
  obtain ⟨bs, hbs⟩ : ∃ bs, imageB l = bs := ⟨_, rfl⟩
  rw [hbs] at hi hb ⊢
  have h : bs.drop 0 = uvar l.length ++ ((chk l).flatMap (fun c => uvar (blkB [] c).length) ++ (chk l).flatMap (blkB [])) := by rw [List.drop_zero, ← hbs]; rfl
  have t0 := tk_uvar h (by omega)
  have h := drop_on h
  have e : (chk l).flatMap (fun c => uvar (blkB [] c).length) = ((chk l).map fun c => (blkB [] c).length).flatMap uvar := by rw [List.flatMap_map]
  rw [e] at h
  obtain ⟨q, h1, h2⟩ := skip_put _ _ _ h (fun z hz => by
    obtain ⟨c, hc, rfl⟩ := List.mem_map.1 hz
    have := hi.2 c hc; omega)
  rw [List.length_map, chk_len _ l (Nat.le_refl _)] at h1
  unfold openR
  rw [t0, Option.bind_some]
  simp only
  rw [if_pos hi.1, h1, Option.bind_some, ents_put _ l q [] [] (Nat.le_refl _) (by rw [List.append_nil]; exact h2) ok]
/-- What is read, held against the rules, is what Open tells. -/
theorem openR_yes {bs : List UInt8} {l : List EntV} (h : parseP bs = some l) (hb : bs.length < 34359738368) : openR bs = some l ∧ imageB l = bs ∧ (∀ e ∈ l, entOk e = true) ∧ rising none l := by
  obtain ⟨h1, h2, h3⟩ := parse_form h
  exact ⟨by rw [← h1]; exact openR_put h2 (by rw [h1]; exact hb), h1, h2, h3⟩
theorem openR_no {bs : List UInt8} {l : List EntV} (h : parseP bs = none) (hb : bs.length < 34359738368) (h1 : imageB l = bs) (h2 : ∀ e ∈ l, entOk e = true) (h3 : rising none l) : False := by
  have := parse_put h2 h3 (by rw [h1]; omega)
  rw [h1, h] at this; cases this
/-- How long an image is at most. -/
theorem entB_most {last : List UInt8} {e : EntV} (he : entOk e = true) : (entB last e).length ≤ 125 := by
  have le := entOk_len he
  obtain ⟨nd, nt, na, ns⟩ := entOk_num he
  have hsl := shr_le last e.K
  have u := fun (n : Nat) (h : n < 2 ^ 64) => (uvar_le n h).2
  have u0 := u (shr last e.K) (by omega)
  have u1 := u (e.K.length - shr last e.K) (by omega)
  have u2 := u _ (numOk_lt nd)
  have u3 := u _ (numOk_lt nt)
  have u4 := u _ (numOk_lt na)
  have u5 := u _ (numOk_lt ns)
  unfold entB
  simp only [List.length_append, List.length_drop]; omega
theorem blkB_most : ∀ (l : List EntV) (last : List UInt8), (∀ e ∈ l, entOk e = true) → (blkB last l).length ≤ l.length * 125
  | [], _, _ => Nat.zero_le _
  | e :: l, last, ok => by
    have h1 := entB_most (last := last) (ok e (List.mem_cons_self ..))
    have h2 := blkB_most l e.K (fun x hx => ok x (List.mem_cons_of_mem _ hx))
    rw [blkB, List.length_append, List.length_cons]; omega
theorem chk_most : ∀ (n : Nat) (l : List EntV), l.length ≤ n → l.length ≤ 100000000 → (∀ e ∈ l, entOk e = true) → ((chk l).flatMap (blkB [])).length ≤ l.length * 125 ∧ ((chk l).flatMap (fun c => uvar (blkB [] c).length)).length ≤ l.length * 10 := by
  intro n
  induction n with
  | zero =>
    intro l hn _ _
    have e1 : l = [] := List.length_eq_zero_iff.1 (by omega)
    subst e1; rw [chk_nil]; exact ⟨Nat.le_refl _, Nat.le_refl _⟩
  | succ n ih =>
    intro l hn hm ok
    by_cases hz : l = []
    · subst hz; rw [chk_nil]; exact ⟨Nat.le_refl _, Nat.le_refl _⟩
    · have hp : 0 < l.length := List.length_pos_iff.2 hz
      obtain ⟨h1, h2⟩ := ih (l.drop 16) (by rw [List.length_drop]; omega) (by rw [List.length_drop]; omega) (fun e he => ok e (List.mem_of_mem_drop he))
      have h3 := blkB_most (l.take 16) [] (fun e he => ok e (List.mem_of_mem_take he))
      have hl : (l.take 16).length + (l.drop 16).length = l.length := by rw [List.length_take, List.length_drop]; omega
      have hu := (uvar_le (blkB [] (l.take 16)).length (by omega)).2
      have hl1 : 1 ≤ (l.take 16).length := by rw [List.length_take]; omega
      rw [chk_cons hz, List.flatMap_cons, List.flatMap_cons, List.length_append, List.length_append]
      omega
theorem image_most {l : List EntV} (h : l.length ≤ 1048576) (ok : ∀ e ∈ l, entOk e = true) : (imageB l).length ≤ 1000000000 := by
  obtain ⟨h1, h2⟩ := chk_most _ l (Nat.le_refl _) (by omega) ok
  have := (uvar_le l.length (by omega)).2
  unfold imageB
  rw [List.length_append, List.length_append]; omega
theorem entsR_len {bs : List UInt8} : ∀ (m : Nat) (po : Option Nat) (K : List UInt8) (l : List EntV), entsR bs m po K = some l → l.length = m
  | 0, _, _, l, h => by injection h with h; subst h; rfl
  | m + 1, po, K, l, h => by
    obtain ⟨y, hy, h⟩ := Option.bind_eq_some_iff.1 h
    split at h
    · obtain ⟨l', h1, rfl⟩ := Option.map_eq_some_iff.1 h
      rw [List.length_cons, entsR_len m _ _ l' h1]
    · cases h
end Go.Proofs.YtfeldllcpeibcaaDoor
