/- A dictionary's image, in plain Lean: what is made of entries, what is read of bytes; each is the other's inverse; one form. No program occurs here. -/
import Derived.Test.YtejmjjgbbojfbaaDoorZG2
namespace Go.Proofs.YtejmjjgbbojfbaaDoor
set_option linter.unusedVariables false

/-- An entry of a dictionary. -/
structure EntV where
  k : ByteArray
  d : Int
  t : Int
  a : Int
  s : Int
def EntV.K (e : EntV) : List UInt8 := e.k.data.toList
theorem EntV.ext2 {e f : EntV} (h : e.K = f.K) (h1 : e.d = f.d) (h2 : e.t = f.t) (h3 : e.a = f.a) (h4 : e.s = f.s) : e = f := by
  obtain ⟨⟨⟨k⟩⟩, d, t, a, s⟩ := e
  obtain ⟨⟨⟨k'⟩⟩, d', t', a', s'⟩ := f
  have h : k = k' := h
  simp only at h1 h2 h3 h4
  subst h h1 h2 h3 h4; rfl
/-- How many bytes two keys begin with alike. -/
def shr : List UInt8 → List UInt8 → Nat
  | x :: a, y :: b => if x = y then shr a b + 1 else 0
  | _, _ => 0
theorem shr_le : ∀ a b : List UInt8, shr a b ≤ a.length ∧ shr a b ≤ b.length
  | [], b => by simp [shr]
  | x :: a, [] => by simp [shr]
  | x :: a, y :: b => by
    have := shr_le a b
    unfold shr
    split
    · simp only [List.length_cons]; omega
    · exact ⟨Nat.zero_le _, Nat.zero_le _⟩
theorem shr_take : ∀ a b : List UInt8, a.take (shr a b) = b.take (shr a b)
  | [], b => by simp [shr]
  | x :: a, [] => by simp [shr]
  | x :: a, y :: b => by
    unfold shr
    split
    · next h => rw [List.take_succ_cons, List.take_succ_cons, shr_take a b, h]
    · rfl
/-- The bytes of an entry behind the key last. -/
def entB (last : List UInt8) (e : EntV) : List UInt8 :=
  uvar (shr last e.K) ++ (uvar (e.K.length - shr last e.K) ++ (e.K.drop (shr last e.K) ++ (uvar e.d.toNat ++ (uvar e.t.toNat ++ (uvar e.a.toNat ++ uvar e.s.toNat)))))
def blkB : List UInt8 → List EntV → List UInt8
  | _, [] => []
  | last, e :: r => entB last e ++ blkB e.K r
/-- The entries, sixteen by sixteen. -/
def chk (l : List EntV) : List (List EntV) := if h : l = [] then [] else l.take 16 :: chk (l.drop 16)
termination_by l.length
decreasing_by
  rw [List.length_drop]
  have : 0 < l.length := List.length_pos_iff.2 h
  omega
theorem chk_nil : chk [] = [] := by rw [chk]; simp
theorem chk_cons {l : List EntV} (h : l ≠ []) : chk l = l.take 16 :: chk (l.drop 16) := by rw [chk, dif_neg h]
def imageB (l : List EntV) : List UInt8 := uvar l.length ++ ((chk l).flatMap (fun c => uvar (blkB [] c).length) ++ (chk l).flatMap (blkB []))
def numOk (x : Int) : Bool := decide (0 ≤ x ∧ x ≤ 2147483647)
def entOk (e : EntV) : Bool := decide (1 ≤ e.K.length ∧ e.K.length ≤ 65) && (numOk e.d && (numOk e.t && (numOk e.a && numOk e.s)))
theorem uvar_uniq {n m : Nat} {X Y : List UInt8} (hn : n < 2 ^ 64) (hm : m < 2 ^ 64) (h : uvar n ++ X = uvar m ++ Y) : n = m ∧ X = Y := by
  have h1 := getU_uvar n hn X
  rw [h, getU_uvar m hm Y] at h1
  injection h1 with h1
  injection h1 with h1 h2
  subst h1
  exact ⟨rfl, List.append_cancel_left h⟩
theorem numOk_eq {x y : Int} (hx : numOk x = true) (hy : numOk y = true) (h : x.toNat = y.toNat) : x = y := by
  have h1 := of_decide_eq_true hx
  have h2 := of_decide_eq_true hy
  omega
theorem numOk_lt {x : Int} (hx : numOk x = true) : x.toNat < 2 ^ 64 := by
  have h1 := of_decide_eq_true hx
  omega
theorem entOk_len {e : EntV} (h : entOk e = true) : 1 ≤ e.K.length ∧ e.K.length ≤ 65 := by
  unfold entOk at h
  rw [Bool.and_eq_true] at h
  exact of_decide_eq_true h.1
theorem entOk_num {e : EntV} (h : entOk e = true) : numOk e.d = true ∧ numOk e.t = true ∧ numOk e.a = true ∧ numOk e.s = true := by
  unfold entOk at h
  simp only [Bool.and_eq_true] at h
  exact h.2
theorem entB_uniq {last : List UInt8} {e f : EntV} {X Y : List UInt8} (he : entOk e = true) (hf : entOk f = true) (h : entB last e ++ X = entB last f ++ Y) : e = f ∧ X = Y := by
  have le := entOk_len he
  have lf := entOk_len hf
  obtain ⟨d1, t1, a1, s1⟩ := entOk_num he
  obtain ⟨d2, t2, a2, s2⟩ := entOk_num hf
  have se := shr_le last e.K
  have sf := shr_le last f.K
  unfold entB at h
  simp only [List.append_assoc] at h
  obtain ⟨h0, h⟩ := uvar_uniq (by omega) (by omega) h
  rw [← h0] at h
  rw [← h0] at sf
  obtain ⟨h1, h⟩ := uvar_uniq (by omega) (by omega) h
  have hl : (e.K.drop (shr last e.K)).length = (f.K.drop (shr last e.K)).length := by rw [List.length_drop, List.length_drop]; omega
  obtain ⟨h2, h⟩ := List.append_inj h hl
  obtain ⟨h3, h⟩ := uvar_uniq (numOk_lt d1) (numOk_lt d2) h
  obtain ⟨h4, h⟩ := uvar_uniq (numOk_lt t1) (numOk_lt t2) h
  obtain ⟨h5, h⟩ := uvar_uniq (numOk_lt a1) (numOk_lt a2) h
  obtain ⟨h6, h⟩ := uvar_uniq (numOk_lt s1) (numOk_lt s2) h
  refine ⟨EntV.ext2 ?_ (numOk_eq d1 d2 h3) (numOk_eq t1 t2 h4) (numOk_eq a1 a2 h5) (numOk_eq s1 s2 h6), h⟩
  have k1 := shr_take last e.K
  have k2 := shr_take last f.K
  rw [← h0] at k2
  rw [← List.take_append_drop (shr last e.K) e.K, ← List.take_append_drop (shr last e.K) f.K, h2, ← k1, k2]
theorem blkB_uniq : ∀ (l m : List EntV) (last : List UInt8) (X Y : List UInt8), l.length = m.length → (∀ e ∈ l, entOk e = true) → (∀ e ∈ m, entOk e = true) → blkB last l ++ X = blkB last m ++ Y → l = m ∧ X = Y
  | [], [], _, X, Y, _, _, _, h => ⟨rfl, h⟩
  | [], _ :: _, _, _, _, hl, _, _, _ => by simp at hl
  | _ :: _, [], _, _, _, hl, _, _, _ => by simp at hl
  | e :: l, f :: m, last, X, Y, hl, h1, h2, h => by
    simp only [blkB, List.append_assoc] at h
    obtain ⟨he, h3⟩ := entB_uniq (h1 e (List.mem_cons_self ..)) (h2 f (List.mem_cons_self ..)) h
    subst he
    obtain ⟨hr, h4⟩ := blkB_uniq l m e.K X Y (by simpa using hl) (fun x hx => h1 x (List.mem_cons_of_mem _ hx)) (fun x hx => h2 x (List.mem_cons_of_mem _ hx)) h3
    exact ⟨by rw [hr], h4⟩
theorem chk_blocks : ∀ (n : Nat) (l m : List EntV) (X Y : List UInt8), l.length ≤ n → l.length = m.length → (∀ e ∈ l, entOk e = true) → (∀ e ∈ m, entOk e = true) → (chk l).flatMap (blkB []) ++ X = (chk m).flatMap (blkB []) ++ Y → l = m ∧ X = Y := by
  intro n
  induction n with
  | zero =>
    intro l m X Y hn hl _ _ h
    have e1 : l = [] := List.length_eq_zero_iff.1 (by omega)
    have e2 : m = [] := List.length_eq_zero_iff.1 (by omega)
    subst e1 e2
    exact ⟨rfl, by simpa [chk_nil] using h⟩
  | succ n ih =>
    intro l m X Y hn hl h1 h2 h
    by_cases hz : l = []
    · subst hz
      have e2 : m = [] := List.length_eq_zero_iff.1 (by simpa using hl.symm)
      subst e2
      exact ⟨rfl, by simpa [chk_nil] using h⟩
    · have hz2 : m ≠ [] := fun e => by subst e; exact hz (List.length_eq_zero_iff.1 (by simpa using hl))
      have hp : 0 < l.length := List.length_pos_iff.2 hz
      rw [chk_cons hz, chk_cons hz2, List.flatMap_cons, List.flatMap_cons, List.append_assoc, List.append_assoc] at h
      obtain ⟨ha, h⟩ := blkB_uniq _ _ _ _ _ (by rw [List.length_take, List.length_take, hl]) (fun e he => h1 e (List.mem_of_mem_take he)) (fun e he => h2 e (List.mem_of_mem_take he)) h
      obtain ⟨hb, h⟩ := ih (l.drop 16) (m.drop 16) X Y (by rw [List.length_drop]; omega) (by rw [List.length_drop, List.length_drop, hl]) (fun e he => h1 e (List.mem_of_mem_drop he)) (fun e he => h2 e (List.mem_of_mem_drop he)) h
      exact ⟨by rw [← List.take_append_drop 16 l, ← List.take_append_drop 16 m, ha, hb], h⟩
theorem chk_len : ∀ (n : Nat) (l : List EntV), l.length ≤ n → (chk l).length = (l.length + 15) / 16 := by
  intro n
  induction n with
  | zero =>
    intro l hn
    have e1 : l = [] := List.length_eq_zero_iff.1 (by omega)
    subst e1; rw [chk_nil]; rfl
  | succ n ih =>
    intro l hn
    by_cases hz : l = []
    · subst hz; rw [chk_nil]; rfl
    · have hp : 0 < l.length := List.length_pos_iff.2 hz
      rw [chk_cons hz, List.length_cons, ih (l.drop 16) (by rw [List.length_drop]; omega), List.length_drop]; omega
theorem sizes_uniq : ∀ (A B : List Nat) (X Y : List UInt8), A.length = B.length → (∀ x ∈ A, x < 2 ^ 64) → (∀ x ∈ B, x < 2 ^ 64) → A.flatMap uvar ++ X = B.flatMap uvar ++ Y → A = B ∧ X = Y
  | [], [], X, Y, _, _, _, h => ⟨rfl, h⟩
  | [], _ :: _, _, _, hl, _, _, _ => by simp at hl
  | _ :: _, [], _, _, hl, _, _, _ => by simp at hl
  | a :: A, b :: B, X, Y, hl, h1, h2, h => by
    rw [List.flatMap_cons, List.flatMap_cons, List.append_assoc, List.append_assoc] at h
    obtain ⟨he, h3⟩ := uvar_uniq (h1 a (List.mem_cons_self ..)) (h2 b (List.mem_cons_self ..)) h
    obtain ⟨hr, h4⟩ := sizes_uniq A B X Y (by simpa using hl) (fun x hx => h1 x (List.mem_cons_of_mem _ hx)) (fun x hx => h2 x (List.mem_cons_of_mem _ hx)) h3
    exact ⟨by rw [he, hr], h4⟩
/-- An image tells its entries, whatever stands behind it. -/
theorem image_uniq {l m : List EntV} {X Y : List UInt8} (h1 : ∀ e ∈ l, entOk e = true) (h2 : ∀ e ∈ m, entOk e = true) (hl : l.length < 2 ^ 64) (hm : m.length < 2 ^ 64)
    (hb1 : ∀ c ∈ chk l, (blkB [] c).length < 2 ^ 64) (hb2 : ∀ c ∈ chk m, (blkB [] c).length < 2 ^ 64) (h : imageB l ++ X = imageB m ++ Y) : l = m ∧ X = Y := by
  unfold imageB at h
  simp only [List.append_assoc] at h
  obtain ⟨hn, h⟩ := uvar_uniq hl hm h
  have e : ∀ L : List (List EntV), L.flatMap (fun c => uvar (blkB [] c).length) = (L.map fun c => (blkB [] c).length).flatMap uvar := fun L => by rw [List.flatMap_map]
  rw [e, e] at h
  obtain ⟨_, h⟩ := sizes_uniq _ _ _ _ (by rw [List.length_map, List.length_map, chk_len _ l (Nat.le_refl _), chk_len _ m (Nat.le_refl _), hn]) (fun x hx => by
    obtain ⟨c, hc, rfl⟩ := List.mem_map.1 hx; exact hb1 c hc) (fun x hx => by
    obtain ⟨c, hc, rfl⟩ := List.mem_map.1 hx; exact hb2 c hc) h
  exact chk_blocks _ l m X Y (Nat.le_refl _) hn h1 h2 h

def numP (most : Int) (L : List UInt8) : Option (Nat × List UInt8) := match getUpto most L with | .ok (u, k) => some (u, L.drop k) | .error _ => none
def textP (most : Int) (L : List UInt8) : Option (List UInt8 × List UInt8) := match getText most L with | .ok (x, k) => some (x, L.drop k) | .error _ => none
/-- An entry read behind the key last. -/
def entP (last : List UInt8) (first : Bool) (L : List UInt8) : Option (EntV × List UInt8) :=
  (numP last.length L).bind fun y0 => (textP (65 - (y0.1 : Int)) y0.2).bind fun y1 =>
    if 0 < (last.take y0.1 ++ y1.1).length ∧ (first = true ∨ shr last (last.take y0.1 ++ y1.1) = y0.1) then
      (numP 2147483647 y1.2).bind fun y2 => (numP 2147483647 y2.2).bind fun y3 => (numP 2147483647 y3.2).bind fun y4 => (numP 2147483647 y4.2).bind fun y5 =>
        some (⟨strOf (last.take y0.1 ++ y1.1), y2.1, y3.1, y4.1, y5.1⟩, y5.2)
    else none
def above (prev : Option (List UInt8)) (k : List UInt8) : Bool := match prev with | none => true | some p => Go.Op.bytesLess p k
def blkP : Nat → Bool → Option (List UInt8) → List UInt8 → List UInt8 → Option (List EntV × List UInt8)
  | 0, _, _, _, L => some ([], L)
  | m + 1, first, prev, last, L => (entP last first L).bind fun y => if above prev y.1.K = true then (blkP m false (some y.1.K) y.1.K y.2).map fun z => (y.1 :: z.1, z.2) else none
def lastK (prev : Option (List UInt8)) (l : List EntV) : Option (List UInt8) := match l.getLast? with | some e => some e.K | none => prev
def blksP : List Nat → Nat → Option (List UInt8) → List UInt8 → Option (List EntV × List UInt8)
  | [], _, _, L => some ([], L)
  | z :: zs, n, prev, L => if z ≤ L.length then (blkP (min 16 n) true prev [] L).bind fun y => if y.2.length + z = L.length then (blksP zs (n - min 16 n) (lastK prev y.1) y.2).map fun x => (y.1 ++ x.1, x.2) else none else none
def sizesP : Nat → List UInt8 → Option (List Nat × List UInt8)
  | 0, L => some ([], L)
  | m + 1, L => (numP L.length L).bind fun y => (sizesP m y.2).map fun z => (y.1 :: z.1, z.2)
/-- What Open reads of an image. -/
def parseP (L : List UInt8) : Option (List EntV) :=
  (numP L.length L).bind fun y => (sizesP ((y.1 + 15) / 16) y.2).bind fun z => (blksP z.1 y.1 none z.2).bind fun x => if x.2 = [] then some x.1 else none
/-- The keys rise, behind prev. -/
def rising : Option (List UInt8) → List EntV → Prop
  | _, [] => True
  | prev, e :: r => above prev e.K = true ∧ rising (some e.K) r
theorem numP_form {most : Int} {L R : List UInt8} {u : Nat} (h : numP most L = some (u, R)) : L = uvar u ++ R ∧ u < 2 ^ 64 ∧ (u : Int) ≤ most := by
  unfold numP at h
  cases hg : getUpto most L with
  | error n => rw [hg] at h; cases h
  | ok y =>
    obtain ⟨v, k⟩ := y
    rw [hg] at h
    injection h with h
    injection h with h1 h2
    subst h1 h2
    obtain ⟨h3, h4⟩ := getUpto_len hg
    exact ⟨getU_drop h3, (getU_ok h3).1, h4⟩
theorem textP_form {most : Int} {L R x : List UInt8} (h : textP most L = some (x, R)) : L = uvar x.length ++ (x ++ R) ∧ (x.length : Int) ≤ most := by
  unfold textP at h
  cases hg : getText most L with
  | error n => rw [hg] at h; cases h
  | ok y =>
    obtain ⟨v, k⟩ := y
    rw [hg] at h
    injection h with h
    injection h with h1 h2
    subst h1 h2
    have h3 := textq_form hg
    refine ⟨by conv => lhs; rw [← List.take_append_drop k L, h3, List.append_assoc], ?_⟩
    unfold getText at hg
    cases hu : getUpto most L with
    | error n => rw [hu] at hg; cases hg
    | ok y =>
      obtain ⟨u, q⟩ := y
      rw [hu] at hg
      have h4 := (getUpto_len hu).2
      by_cases hc : (L.drop q).length < u
      · simp only [hc, if_true] at hg; cases hg
      · simp only [hc, if_false] at hg
        injection hg with hg
        injection hg with h5 _
        rw [← h5, List.length_take]
        omega
theorem strOf_K (l : List UInt8) (d t a s : Int) : EntV.K ⟨strOf l, d, t, a, s⟩ = l := by unfold EntV.K strOf; rw [List.toList_toArray]
theorem numOk_cast {u : Nat} (h : (u : Int) ≤ 2147483647) : numOk (u : Int) = true := decide_eq_true ⟨by omega, h⟩
theorem shr_nil (k : List UInt8) : shr [] k = 0 := by cases k <;> rfl
theorem entP_form {last L R : List UInt8} {first : Bool} {e : EntV} (hl : first = true → last = []) (hb : last.length ≤ 65) (h : entP last first L = some (e, R)) : L = entB last e ++ R ∧ entOk e = true := by
  unfold entP at h
  obtain ⟨⟨k, L1⟩, h0, h⟩ := Option.bind_eq_some_iff.1 h
  obtain ⟨⟨x, L2⟩, h1, h⟩ := Option.bind_eq_some_iff.1 h
  simp only at h h1
  split at h
  · next hc =>
    obtain ⟨⟨d, L3⟩, h2, h⟩ := Option.bind_eq_some_iff.1 h
    obtain ⟨⟨t, L4⟩, h3, h⟩ := Option.bind_eq_some_iff.1 h
    obtain ⟨⟨a, L5⟩, h4, h⟩ := Option.bind_eq_some_iff.1 h
    obtain ⟨⟨s, L6⟩, h5, h⟩ := Option.bind_eq_some_iff.1 h
    simp only at h h2 h3 h4 h5
    injection h with h
    injection h with he hR
    subst he hR
    obtain ⟨e0, _, b0⟩ := numP_form h0
    obtain ⟨e1, b1⟩ := textP_form h1
    obtain ⟨e2, _, b2⟩ := numP_form h2
    obtain ⟨e3, _, b3⟩ := numP_form h3
    obtain ⟨e4, _, b4⟩ := numP_form h4
    obtain ⟨e5, _, b5⟩ := numP_form h5
    have hk : (last.take k).length = k := by rw [List.length_take]; omega
    have hs : shr last (last.take k ++ x) = k := by
      rcases hc.2 with hf | hf
      · have hn := hl hf
        subst hn
        rw [shr_nil]
        simp at b0; omega
      · exact hf
    constructor
    · unfold entB
      rw [strOf_K, hs, List.drop_left' hk, List.length_append, hk, Nat.add_sub_cancel_left]
      simp only [List.append_assoc, Int.toNat_natCast]
      rw [e0, e1, e2, e3, e4, e5]
    · unfold entOk
      rw [strOf_K, numOk_cast b2, numOk_cast b3, numOk_cast b4, numOk_cast b5, List.length_append, hk]
      have hp := hc.1
      rw [List.length_append, hk] at hp
      rw [decide_eq_true (by omega)]; rfl
  · cases h
theorem blkP_form : ∀ (m : Nat) (first : Bool) (prev : Option (List UInt8)) (last L R : List UInt8) (l : List EntV), (first = true → last = []) → last.length ≤ 65 → blkP m first prev last L = some (l, R) → L = blkB last l ++ R ∧ l.length = m ∧ (∀ e ∈ l, entOk e = true) ∧ rising prev l
  | 0, first, prev, last, L, R, l, _, _, h => by
    unfold blkP at h
    injection h with h
    injection h with h1 h2
    subst h1 h2
    exact ⟨rfl, rfl, fun e he => (by cases he), trivial⟩
  | m + 1, first, prev, last, L, R, l, hf, hb, h => by
    unfold blkP at h
    obtain ⟨⟨e, L1⟩, h0, h⟩ := Option.bind_eq_some_iff.1 h
    simp only at h
    split at h
    · next ha =>
      obtain ⟨⟨r, L2⟩, h1, h2⟩ := Option.map_eq_some_iff.1 h
      injection h2 with h2 h3
      subst h2 h3
      obtain ⟨e1, ok⟩ := entP_form hf hb h0
      obtain ⟨e2, hl, hok, hr⟩ := blkP_form m false _ _ _ _ _ (by simp) (entOk_len ok).2 h1
      refine ⟨by rw [e1, e2, blkB, List.append_assoc], by rw [List.length_cons, hl], fun x hx => ?_, ha, hr⟩
      rcases List.mem_cons.1 hx with rfl | hx
      · exact ok
      · exact hok x hx
    · cases h
theorem rising_app : ∀ (l m : List EntV) (prev : Option (List UInt8)), rising prev l → rising (lastK prev l) m → rising prev (l ++ m)
  | [], m, prev, _, h => h
  | e :: l, m, prev, h1, h2 => by
    refine ⟨h1.1, rising_app l m (some e.K) h1.2 ?_⟩
    have : lastK prev (e :: l) = lastK (some e.K) l := by
      unfold lastK
      rw [List.getLast?_cons]
      cases l.getLast? <;> rfl
    rw [← this]; exact h2
theorem chk_app {r m : List EntV} (hr : r ≠ []) (h1 : r.length ≤ 16) (h2 : r.length < 16 → m = []) : chk (r ++ m) = r :: chk m := by
  rw [chk_cons (by simp [hr])]
  rcases Nat.lt_or_ge r.length 16 with h | h
  · have := h2 h
    subst this
    rw [List.append_nil, List.take_of_length_le h1, List.drop_of_length_le h1]
  · have h3 : r.length = 16 := by omega
    rw [List.take_left' h3, List.drop_left' h3]
theorem blksP_form : ∀ (zs : List Nat) (n : Nat) (prev : Option (List UInt8)) (L R : List UInt8) (l : List EntV), zs.length = (n + 15) / 16 → blksP zs n prev L = some (l, R) →
    L = (chk l).flatMap (blkB []) ++ R ∧ l.length = n ∧ (∀ e ∈ l, entOk e = true) ∧ rising prev l ∧ zs = (chk l).map fun c => (blkB [] c).length
  | [], n, prev, L, R, l, hz, h => by
    unfold blksP at h
    injection h with h
    injection h with h1 h2
    subst h1 h2
    have hn : n = 0 := by simp at hz; omega
    subst hn
    exact ⟨by simp [chk_nil], rfl, fun e he => (by cases he), trivial, by simp [chk_nil]⟩
  | z :: zs, n, prev, L, R, l, hz, h => by
    unfold blksP at h
    rw [List.length_cons] at hz
    split at h
    · obtain ⟨⟨r, L1⟩, h0, h⟩ := Option.bind_eq_some_iff.1 h
      simp only at h
      split at h
      · next hz2 =>
        obtain ⟨⟨m, L2⟩, h1, h2⟩ := Option.map_eq_some_iff.1 h
        simp only at h2
        injection h2 with h2 h3
        subst h2 h3
        obtain ⟨e1, hl1, ok1, ri1⟩ := blkP_form _ _ _ _ _ _ _ (fun _ => rfl) (Nat.zero_le _) h0
        obtain ⟨e2, hl2, ok2, ri2, ez⟩ := blksP_form zs (n - min 16 n) _ _ _ _ (by omega) h1
        have hr : r ≠ [] := fun e => by subst e; simp at hl1; omega
        have hc : chk (r ++ m) = r :: chk m := chk_app hr (by omega) (fun h => List.length_eq_zero_iff.1 (by omega))
        refine ⟨?_, by rw [List.length_append]; omega, fun x hx => ?_, rising_app _ _ _ ri1 ri2, ?_⟩
        · rw [hc, List.flatMap_cons, List.append_assoc, ← e2]; exact e1
        · rcases List.mem_append.1 hx with hx | hx
          · exact ok1 x hx
          · exact ok2 x hx
        · rw [hc, List.map_cons, ← ez]
          congr 1
          rw [e1, List.length_append] at hz2
          omega
      · cases h
    · cases h
theorem sizesP_form : ∀ (m : Nat) (L R : List UInt8) (zs : List Nat), sizesP m L = some (zs, R) → L = zs.flatMap uvar ++ R ∧ zs.length = m
  | 0, L, R, zs, h => by
    unfold sizesP at h
    injection h with h
    injection h with h1 h2
    subst h1 h2
    exact ⟨rfl, rfl⟩
  | m + 1, L, R, zs, h => by
    unfold sizesP at h
    obtain ⟨⟨z, L1⟩, h0, h⟩ := Option.bind_eq_some_iff.1 h
    obtain ⟨⟨r, L2⟩, h1, h2⟩ := Option.map_eq_some_iff.1 h
    injection h2 with h2 h3
    subst h2 h3
    obtain ⟨e1, _, _⟩ := numP_form h0
    obtain ⟨e2, hl⟩ := sizesP_form m _ _ _ h1
    exact ⟨by rw [e1, List.flatMap_cons, List.append_assoc, ← e2], by rw [List.length_cons, hl]⟩
/-- What is read of an image is what it was made of. -/
theorem parse_form {L : List UInt8} {l : List EntV} (h : parseP L = some l) : imageB l = L ∧ (∀ e ∈ l, entOk e = true) ∧ rising none l := by
  unfold parseP at h
  obtain ⟨⟨n, L1⟩, h0, h⟩ := Option.bind_eq_some_iff.1 h
  obtain ⟨⟨zs, L2⟩, h1, h⟩ := Option.bind_eq_some_iff.1 h
  obtain ⟨⟨m, L3⟩, h2, h⟩ := Option.bind_eq_some_iff.1 h
  simp only at h h1 h2
  split at h
  · next h3 =>
    injection h with h
    subst h h3
    obtain ⟨e0, _, _⟩ := numP_form h0
    obtain ⟨e1, hl1⟩ := sizesP_form _ _ _ _ h1
    obtain ⟨e2, hl, ok, ri, ez⟩ := blksP_form _ _ _ _ _ _ hl1 h2
    refine ⟨?_, ok, ri⟩
    unfold imageB
    rw [e0, e1, e2, hl, ez, List.flatMap_map, List.append_nil]
  · cases h

theorem numP_put {most : Int} {u : Nat} (h : u < 2 ^ 64) (hm : (u : Int) ≤ most) (R : List UInt8) : numP most (uvar u ++ R) = some (u, R) := by
  unfold numP
  rw [gq_upto most u h hm R]
  show some (u, (uvar u ++ R).drop (uvar u).length) = _
  rw [List.drop_left]
theorem textP_put {most : Int} {x : List UInt8} (h : x.length < 2 ^ 64) (hm : (x.length : Int) ≤ most) (R : List UInt8) : textP most (uvar x.length ++ (x ++ R)) = some (x, R) := by
  unfold textP getText
  rw [gq_upto most x.length h hm (x ++ R)]
  simp only
  have h1 : (uvar x.length ++ (x ++ R)).drop (uvar x.length).length = x ++ R := List.drop_left
  rw [h1]
  have h2 : ¬ (x ++ R).length < x.length := by rw [List.length_append]; omega
  simp only [h2, if_false]
  rw [List.take_left, ← List.drop_drop, h1, List.drop_left]
theorem entP_put {last : List UInt8} {first : Bool} {e : EntV} (hl : first = true → last = []) (hb : last.length ≤ 65) (ok : entOk e = true) (R : List UInt8) : entP last first (entB last e ++ R) = some (e, R) := by
  have hlen := entOk_len ok
  obtain ⟨nd, nt, na, ns⟩ := entOk_num ok
  obtain ⟨s1, s2⟩ := shr_le last e.K
  have hkey : last.take (shr last e.K) ++ e.K.drop (shr last e.K) = e.K := by rw [shr_take, List.take_append_drop]
  have cast : ∀ {x : Int}, numOk x = true → ((x.toNat : Nat) : Int) = x ∧ x.toNat < 2 ^ 64 ∧ ((x.toNat : Nat) : Int) ≤ 2147483647 := fun {x} hx => by
    have := of_decide_eq_true hx; omega
  unfold entP entB
  have hdl : (e.K.drop (shr last e.K)).length = e.K.length - shr last e.K := List.length_drop
  simp only [List.append_assoc]
  rw [numP_put (by omega) (by omega)]
  simp only [Option.bind_some]
  rw [← hdl, textP_put (by omega) (by omega)]
  simp only [Option.bind_some]
  rw [hkey, if_pos ⟨by omega, .inr rfl⟩, numP_put (cast nd).2.1 (cast nd).2.2]
  simp only [Option.bind_some]
  rw [numP_put (cast nt).2.1 (cast nt).2.2]
  simp only [Option.bind_some]
  rw [numP_put (cast na).2.1 (cast na).2.2]
  simp only [Option.bind_some]
  rw [numP_put (cast ns).2.1 (cast ns).2.2]
  simp only [Option.bind_some]
  rw [(cast nd).1, (cast nt).1, (cast na).1, (cast ns).1]
  congr 2
theorem blkP_put : ∀ (l : List EntV) (first : Bool) (prev : Option (List UInt8)) (last R : List UInt8), (first = true → last = []) → last.length ≤ 65 → (∀ e ∈ l, entOk e = true) → rising prev l → blkP l.length first prev last (blkB last l ++ R) = some (l, R)
  | [], _, _, _, _, _, _, _, _ => rfl
  | e :: l, first, prev, last, R, hf, hb, ok, hr => by
    rw [List.length_cons, blkP, blkB, List.append_assoc, entP_put hf hb (ok e (List.mem_cons_self ..))]
    simp only [Option.bind_some]
    rw [if_pos hr.1, blkP_put l false _ _ R (by simp) (entOk_len (ok e (List.mem_cons_self ..))).2 (fun x hx => ok x (List.mem_cons_of_mem _ hx)) hr.2]
    rfl
theorem rising_split : ∀ (l m : List EntV) (prev : Option (List UInt8)), rising prev (l ++ m) → rising prev l ∧ rising (lastK prev l) m
  | [], m, prev, h => ⟨trivial, h⟩
  | e :: l, m, prev, h => by
    obtain ⟨h1, h2⟩ := rising_split l m (some e.K) h.2
    refine ⟨⟨h.1, h1⟩, ?_⟩
    have : lastK prev (e :: l) = lastK (some e.K) l := by
      unfold lastK
      rw [List.getLast?_cons]
      cases l.getLast? <;> rfl
    rw [this]; exact h2
theorem blksP_put : ∀ (n : Nat) (l : List EntV) (prev : Option (List UInt8)) (R : List UInt8), l.length ≤ n → (∀ e ∈ l, entOk e = true) → rising prev l → blksP ((chk l).map fun c => (blkB [] c).length) l.length prev ((chk l).flatMap (blkB []) ++ R) = some (l, R) := by
  intro n
  induction n with
  | zero =>
    intro l prev R hn _ _
    have e1 : l = [] := List.length_eq_zero_iff.1 (by omega)
    subst e1; rw [chk_nil]; rfl
  | succ n ih =>
    intro l prev R hn ok hr
    by_cases hz : l = []
    · subst hz; rw [chk_nil]; rfl
    · have hp : 0 < l.length := List.length_pos_iff.2 hz
      have hsp := rising_split (l.take 16) (l.drop 16) prev (by rw [List.take_append_drop]; exact hr)
      rw [chk_cons hz, List.map_cons, List.flatMap_cons, List.append_assoc, blksP]
      have hlt : min 16 l.length = (l.take 16).length := by rw [List.length_take]
      have hb := blkP_put (l.take 16) true prev [] ((chk (l.drop 16)).flatMap (blkB []) ++ R) (fun _ => rfl) (Nat.zero_le _) (fun e he => ok e (List.mem_of_mem_take he)) hsp.1
      have hld : l.length - (l.take 16).length = (l.drop 16).length := by rw [List.length_take, List.length_drop]; omega
      rw [if_pos (by rw [List.length_append]; omega), hlt, hb]
      simp only [Option.bind_some]
      have h9 : (blkB [] (l.take 16) ++ ((chk (l.drop 16)).flatMap (blkB []) ++ R)).length = (blkB [] (l.take 16)).length + ((chk (l.drop 16)).flatMap (blkB []) ++ R).length := List.length_append
      rw [if_pos (by omega), hld, ih (l.drop 16) _ R (by rw [List.length_drop]; omega) (fun e he => ok e (List.mem_of_mem_drop he)) hsp.2]
      show some (l.take 16 ++ l.drop 16, R) = _
      rw [List.take_append_drop]
theorem sizesP_put : ∀ (zs : List Nat) (R : List UInt8), (∀ z ∈ zs, z < 2 ^ 64 ∧ z ≤ R.length) → sizesP zs.length (zs.flatMap uvar ++ R) = some (zs, R)
  | [], R, _ => rfl
  | z :: zs, R, h => by
    have hz := h z (List.mem_cons_self ..)
    rw [List.length_cons, sizesP, List.flatMap_cons, List.append_assoc, numP_put hz.1 (by rw [List.length_append, List.length_append]; omega)]
    simp only [Option.bind_some]
    rw [sizesP_put zs R (fun x hx => h x (List.mem_cons_of_mem _ hx))]
    rfl
theorem entB_pos (last : List UInt8) (e : EntV) : 1 ≤ (entB last e).length := by
  unfold entB
  have := List.length_pos_iff.2 (uvar_ne (shr last e.K))
  rw [List.length_append]; omega
theorem blkB_len : ∀ (l : List EntV) (last : List UInt8), l.length ≤ (blkB last l).length
  | [], _ => Nat.le_refl _
  | e :: l, last => by
    have h1 := entB_pos last e
    have h2 := blkB_len l e.K
    rw [blkB, List.length_append, List.length_cons]; omega
theorem chk_total : ∀ (n : Nat) (l : List EntV), l.length ≤ n → l.length ≤ ((chk l).flatMap (blkB [])).length ∧ ∀ c ∈ chk l, (blkB [] c).length ≤ ((chk l).flatMap (blkB [])).length := by
  intro n
  induction n with
  | zero =>
    intro l hn
    have e1 : l = [] := List.length_eq_zero_iff.1 (by omega)
    subst e1; rw [chk_nil]; exact ⟨Nat.le_refl _, fun c hc => (by cases hc)⟩
  | succ n ih =>
    intro l hn
    by_cases hz : l = []
    · subst hz; rw [chk_nil]; exact ⟨Nat.le_refl _, fun c hc => (by cases hc)⟩
    · have hp : 0 < l.length := List.length_pos_iff.2 hz
      obtain ⟨h1, h2⟩ := ih (l.drop 16) (by rw [List.length_drop]; omega)
      have h3 := blkB_len (l.take 16) []
      rw [chk_cons hz, List.flatMap_cons, List.length_append]
      rw [List.length_take] at h3
      rw [List.length_drop] at h1
      refine ⟨by omega, fun c hc => ?_⟩
      rcases List.mem_cons.1 hc with rfl | hc
      · omega
      · have := h2 c hc; omega
/-- An image is read as what it was made of. -/
theorem parse_put {l : List EntV} (ok : ∀ e ∈ l, entOk e = true) (hr : rising none l) (hb : (imageB l).length < 2 ^ 63) : parseP (imageB l) = some l := by
  obtain ⟨h1, h2⟩ := chk_total _ l (Nat.le_refl _)
  have hlen : (imageB l).length = (uvar l.length).length + (((chk l).flatMap (fun c => uvar (blkB [] c).length)).length + ((chk l).flatMap (blkB [])).length) := by
    unfold imageB; rw [List.length_append, List.length_append]
  have e : (chk l).flatMap (fun c => uvar (blkB [] c).length) = ((chk l).map fun c => (blkB [] c).length).flatMap uvar := by rw [List.flatMap_map]
  have hs := sizesP_put ((chk l).map fun c => (blkB [] c).length) ((chk l).flatMap (blkB [])) (fun z hz => by
    obtain ⟨c, hc, rfl⟩ := List.mem_map.1 hz
    have := h2 c hc
    exact ⟨by omega, this⟩)
  have hB := blksP_put _ l none [] (Nat.le_refl _) ok hr
  rw [List.append_nil] at hB
  rw [List.length_map, chk_len _ l (Nat.le_refl _)] at hs
  unfold parseP
  have hn : numP (imageB l).length (imageB l) = some (l.length, (chk l).flatMap (fun c => uvar (blkB [] c).length) ++ (chk l).flatMap (blkB [])) := by
    conv => lhs; arg 2; unfold imageB
    exact numP_put (by omega) (by omega) _
  rw [hn]
  simp only [Option.bind_some]
  rw [e, hs]
  simp only [Option.bind_some]
  rw [hB]
  simp only [Option.bind_some, if_true]

theorem image_len (l : List EntV) : l.length ≤ (imageB l).length ∧ ∀ c ∈ chk l, (blkB [] c).length ≤ (imageB l).length := by
  obtain ⟨h1, h2⟩ := chk_total _ l (Nat.le_refl _)
  have hlen : (imageB l).length = (uvar l.length).length + (((chk l).flatMap (fun c => uvar (blkB [] c).length)).length + ((chk l).flatMap (blkB [])).length) := by
    unfold imageB; rw [List.length_append, List.length_append]
  exact ⟨by omega, fun c hc => by have := h2 c hc; omega⟩
/-- No image goes on as another. -/
theorem parse_ext {L M X : List UInt8} {l m : List EntV} (hL : parseP L = some l) (hM : parseP M = some m) (h : M = L ++ X) (hb : M.length < 2 ^ 63) : X = [] := by
  obtain ⟨e1, ok1, _⟩ := parse_form hL
  obtain ⟨e2, ok2, _⟩ := parse_form hM
  have hb2 : L.length < 2 ^ 63 := by rw [h, List.length_append] at hb; omega
  have l1 := image_len l
  have l2 := image_len m
  rw [e1] at l1
  rw [e2] at l2
  have := image_uniq (l := m) (m := l) (X := []) (Y := X) ok2 ok1 (by omega) (by omega) (fun c hc => by have := l2.2 c hc; omega) (fun c hc => by have := l1.2 c hc; omega) (by rw [e1, e2, h, List.append_nil])
  exact this.2.symm
theorem parse_more {L : List UInt8} {l : List EntV} (hL : parseP L = some l) (x : UInt8) (hb : L.length + 1 < 2 ^ 63) : parseP (L ++ [x]) = none := by
  cases h : parseP (L ++ [x]) with
  | none => rfl
  | some m => have := parse_ext hL h rfl (by rw [List.length_append]; exact hb); cases this
theorem parse_cut {L : List UInt8} {l : List EntV} (hL : parseP L = some l) (k : Nat) (hk : k < L.length) (hb : L.length < 2 ^ 63) : parseP (L.take k) = none := by
  cases h : parseP (L.take k) with
  | none => rfl
  | some m =>
    have := parse_ext h hL (List.take_append_drop k L).symm hb
    have h2 := congrArg List.length this
    rw [List.length_drop] at h2
    simp at h2
    omega
theorem shr_step : ∀ (A B : List UInt8) (k : Nat), k ≤ shr A B → (k < shr A B ↔ ∃ (ha : k < A.length) (hb : k < B.length), A[k]'ha = B[k]'hb)
  | [], B, k, h => by
    have e : shr [] B = 0 := by cases B <;> rfl
    rw [e]
    constructor
    · intro h; omega
    · rintro ⟨ha, _, _⟩; simp at ha
  | x :: A, [], k, h => by
    constructor
    · intro h
      have e : shr (x :: A) [] = 0 := rfl
      omega
    · rintro ⟨_, hb, _⟩; simp at hb
  | x :: A, y :: B, 0, h => by
    unfold shr
    by_cases hx : x = y
    · rw [if_pos hx]
      exact ⟨fun _ => ⟨by simp, by simp, hx⟩, fun _ => by omega⟩
    · rw [if_neg hx]
      exact ⟨fun h => by omega, fun ⟨_, _, h⟩ => absurd h hx⟩
  | x :: A, y :: B, k + 1, h => by
    unfold shr at h ⊢
    by_cases hx : x = y
    · rw [if_pos hx] at h ⊢
      have ih := shr_step A B k (by omega)
      constructor
      · intro h2
        obtain ⟨ha, hb, e⟩ := ih.1 (by omega)
        exact ⟨by simpa using ha, by simpa using hb, by simpa using e⟩
      · rintro ⟨ha, hb, e⟩
        have := ih.2 ⟨by simpa using ha, by simpa using hb, by simpa using e⟩
        omega
    · rw [if_neg hx] at h; omega
end Go.Proofs.YtejmjjgbbojfbaaDoor
