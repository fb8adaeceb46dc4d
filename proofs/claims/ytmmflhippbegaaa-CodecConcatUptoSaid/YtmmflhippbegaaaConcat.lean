/- CodecConcat: the walk through the law. -/
import Derived.Test.YtmmflhippbegaaaHand
import Derived.Test.YtmmflhippbegaaaCat
import Derived.Test.YtmmflhippbegaaaBook
namespace Go.Proofs.Ytmmflhippbegaaa
set_option linter.unusedVariables false
open Go.ChangeShapes Go.WideShapes Go.ChangeAt Go.RowKit

theorem elPtrs : Elem Try.prog 25 26 (.pointer none) 8 := ⟨Try.underlying25, by kernel_rfl, rfl, by decide⟩
theorem own_blk {w : World} {base : Nat} {e : TypeId} {v : Value} {xs : List Value} (h : Own w base e v xs) {k : Nat} (hk : v.ownBlock = some k) : ∃ cs fr, w.heap[k]? = some (.cells cs e fr) := by
  rcases h with ⟨rfl, _⟩ | ⟨g, cap, cur, rfl, _, hh, _⟩
  · simp [Value.ownBlock] at hk
  · simp only [Value.ownBlock, Option.some.injEq] at hk
    subst hk; exact ⟨_, _, hh⟩

/-- The hand x (a pointer) and what it gave, y, all of its blocks in lo .. hi-1. -/
def HandV (w : World) (lo hi : Nat) (x y : Value) (full want : List UInt8) (n : Nat) : Prop :=
  ∃ p g c vw, x = .pointer (some ⟨p, 0, none⟩) ∧ y = .slice (some ⟨g, 0, none⟩) n c ∧ HandB w lo p (.slice (some ⟨g, 0, none⟩) full.length c) vw full want n ∧ n ≤ full.length ∧ full.length = want.length ∧ p < hi ∧ g < hi ∧ ∀ b, vw.ownBlock = some b → b < hi

theorem HandB.eff {F : Nat → Prop} {w w' : World} {lo p : Nat} {vf vw : Value} {full want : List UInt8} {n : Nat} (h : HandB w lo p vf vw full want n) (e : Eff F w w') (h1 : ¬ F p) (h2 : ∀ k, vf.ownBlock = some k → ¬ F k) (h3 : ∀ k, vw.ownBlock = some k → ¬ F k) : HandB w' lo p vf vw full want n :=
  ⟨(e.block p (lt_of_heap h.blk) h1).trans h.blk, h.hp, h.f.eff e h2, h.g.eff e h3, h.ne⟩
theorem HandB.kinds {F : Nat → Prop} {w w' : World} {lo p : Nat} {vf vw : Value} {full want : List UInt8} {n : Nat} (hh : HandB w lo p vf vw full want n) (e : Eff F w w') (hF : ∀ b, F b → ∃ cs t fr, w.heap[b]? = some (.cells cs t fr) ∧ 45 ≠ t ∧ 5 ≠ t) : HandB w' lo p vf vw full want n := by
  refine hh.eff e ?_ ?_ ?_
  · intro hf
    obtain ⟨cs, t, fr, hb, h1, _⟩ := hF p hf
    rw [hh.blk] at hb
    injection hb with hb
    injection hb with _ hb _
    exact h1 hb
  · intro k hk hf
    obtain ⟨cs, t, fr, hb, _, h2⟩ := hF k hf
    exact hh.f.ne_type hb h2 hk
  · intro k hk hf
    obtain ⟨cs, t, fr, hb, _, h2⟩ := hF k hf
    exact hh.g.ne_type hb h2 hk
/-- What turns only blocks of other kinds leaves a hand alone. -/
theorem HandV.kinds {F : Nat → Prop} {w w' : World} {lo hi : Nat} {x y : Value} {full want : List UInt8} {n : Nat} (h : HandV w lo hi x y full want n) (e : Eff F w w') (hF : ∀ b, F b → ∃ cs t fr, w.heap[b]? = some (.cells cs t fr) ∧ 45 ≠ t ∧ 5 ≠ t) : HandV w' lo hi x y full want n := by
  obtain ⟨p, g, c, vw, hx, hy, hh, r⟩ := h
  exact ⟨p, g, c, vw, hx, hy, hh.kinds e hF, r⟩
theorem HandV.within {w : World} {lo hi : Nat} {x y : Value} {full want : List UInt8} {n : Nat} (h : HandV w lo hi x y full want n) : lo ≤ hi ∧ hi ≤ hi := by
  obtain ⟨p, g, c, vw, hx, hy, hh, _, _, hp, _⟩ := h
  have := hh.hp
  omega
/-- What turns only blocks outside lo .. hi-1 leaves a hand alone. -/
theorem HandV.outside {F : Nat → Prop} {w w' : World} {lo hi : Nat} {x y : Value} {full want : List UInt8} {n : Nat} (h : HandV w lo hi x y full want n) (e : Eff F w w') (hF : ∀ b, F b → b < lo ∨ hi ≤ b) : HandV w' lo hi x y full want n := by
  obtain ⟨p, g, c, vw, hx, hy, hh, n1, n2, hp, hg, hv⟩ := h
  refine ⟨p, g, c, vw, hx, hy, hh.eff e ?_ ?_ ?_, n1, n2, hp, hg, hv⟩
  · intro hf; have := hF p hf; have := hh.hp; omega
  · intro k hk hf
    have := hF k hf; have := (hh.f.lt k hk).1
    simp [Value.ownBlock] at hk; omega
  · intro k hk hf
    have := hF k hf; have := (hh.g.lt k hk).1; have := hv k hk; omega
theorem HandV.below {B : Nat} {w w' : World} {lo hi : Nat} {x y : Value} {full want : List UInt8} {n : Nat} (h : HandV w lo hi x y full want n) (hb : Below B w w') (hB : hi ≤ B) : HandV w' lo hi x y full want n := by
  obtain ⟨p, g, c, vw, hx, hy, hh, n1, n2, hp, hg, hv⟩ := h
  have e : Eff (fun k => B ≤ k) w w' := ⟨hb.os, hb.tape, hb.output, hb.size, fun k hk hn => hb.block k (by omega)⟩
  exact HandV.outside ⟨p, g, c, vw, hx, hy, hh, n1, n2, hp, hg, hv⟩ e (fun b hb => .inr (by omega))
theorem HandV.size {w : World} {lo hi : Nat} {x y : Value} {full want : List UInt8} {n : Nat} (h : HandV w lo hi x y full want n) : lo < w.heap.size := by
  obtain ⟨p, g, c, vw, hx, hy, hh, n1, n2, hp, hg, hv⟩ := h
  have := hh.hp; have := lt_of_heap hh.blk; omega
theorem HandV.own {w : World} {lo hi : Nat} {x y : Value} {full want : List UInt8} {n : Nat} (h : HandV w lo hi x y full want n) : Own w lo 5 y (bytesV (full.take n)) := by
  obtain ⟨p, g, c, vw, hx, rfl, hh, n1, n2, hp, hg, hv⟩ := h
  have := own_take hh.f (n := n) (by rw [bytesV_length]; exact n1)
  rwa [← bytesV_take] at this

/-- The hands of the first n parts: hs the pointers, gs what was given. -/
def Hands (w : World) (lo : Nat → Nat) (hs gs : List Value) (F D : Nat → List UInt8) (B : Nat → List UInt8) (n : Nat) : Prop :=
  hs.length = n ∧ gs.length = n ∧ ∀ k x y, hs[k]? = some x → gs[k]? = some y → HandV w (lo k) (lo (k + 1)) x y (F k) (D k) (B k).length

theorem Hands.kinds {G : Nat → Prop} {w w' : World} {lo : Nat → Nat} {hs gs : List Value} {F D B : Nat → List UInt8} {n : Nat} (h : Hands w lo hs gs F D B n) (e : Eff G w w') (hF : ∀ b, G b → ∃ cs t fr, w.heap[b]? = some (.cells cs t fr) ∧ 45 ≠ t ∧ 5 ≠ t) : Hands w' lo hs gs F D B n :=
  ⟨h.1, h.2.1, fun k x y hx hy => (h.2.2 k x y hx hy).kinds e hF⟩
theorem Hands.mono {w : World} {lo : Nat → Nat} {hs gs : List Value} {F D B : Nat → List UInt8} {n : Nat} (h : Hands w lo hs gs F D B n) {j k : Nat} (hjk : j ≤ k) (hk : k ≤ n) : lo j ≤ lo k := by
  induction k with
  | zero => have : j = 0 := by omega
            subst this; exact Nat.le_refl _
  | succ k ih =>
    rcases Nat.lt_or_ge j (k + 1) with h1 | h1
    · have h2 := ih (by omega) (by omega)
      have := (h.2.2 k (hs[k]'(by have := h.1; omega)) (gs[k]'(by have := h.2.1; omega)) (List.getElem?_eq_getElem _) (List.getElem?_eq_getElem _)).within
      omega
    · have : j = k + 1 := by omega
      subst this; exact Nat.le_refl _
theorem Hands.below {b : Nat} {w w' : World} {lo : Nat → Nat} {hs gs : List Value} {F D B : Nat → List UInt8} {n : Nat} (h : Hands w lo hs gs F D B n) (hb : Below b w w') (hB : lo n ≤ b) : Hands w' lo hs gs F D B n :=
  ⟨h.1, h.2.1, fun k x y hx hy => (h.2.2 k x y hx hy).below hb (Nat.le_trans (h.mono (by have := (List.getElem?_eq_some_iff.1 hx).1; have := h.1; omega) (Nat.le_refl _)) hB)⟩
theorem Hands.drewN {w : World} {lo : Nat → Nat} {hs gs : List Value} {F D B : Nat → List UInt8} {n : Nat} (h : Hands w lo hs gs F D B n) (d : Nat) : Hands (w.drewN d) lo hs gs F D B n := h.kinds ((Eff.refl (fun _ => False) w).drewN d) (fun b hb => hb.elim)
theorem Hands.rds {w : World} {lo : Nat → Nat} {hs gs : List Value} {F D B : Nat → List UInt8} {n : Nat} (h : Hands w lo hs gs F D B n) : Rds w gs (fun k => (F k).take (B k).length) := by
  intro k y hy
  have hk : k < hs.length := by have := (List.getElem?_eq_some_iff.1 hy).1; have := h.1; have := h.2.1; omega
  exact (h.2.2 k _ y (List.getElem?_eq_getElem hk) hy).own.rd

theorem hands_snoc {w : World} {lo : Nat → Nat} {hs gs : List Value} {F D B : Nat → List UInt8} {i hi : Nat} (h : Hands w lo hs gs F D B i) {x y : Value} (hv : HandV w (lo i) hi x y (F i) (D i) (B i).length) :
    Hands w (fun k => if k ≤ i then lo k else hi) (hs ++ [x]) (gs ++ [y]) F D B (i + 1) := by
  refine ⟨by simp [h.1], by simp [h.2.1], fun k a b ha hb => ?_⟩
  rcases Nat.lt_trichotomy k i with hk | hk | hk
  · rw [List.getElem?_append_left (by have := h.1; omega)] at ha
    rw [List.getElem?_append_left (by have := h.2.1; omega)] at hb
    dsimp only
    rw [if_pos (show k ≤ i by omega), if_pos (show k + 1 ≤ i by omega)]
    exact h.2.2 k a b ha hb
  · subst hk
    rw [List.getElem?_append_right (by rw [h.1]; exact Nat.le_refl _), h.1, Nat.sub_self] at ha
    rw [List.getElem?_append_right (by rw [h.2.1]; exact Nat.le_refl _), h.2.1, Nat.sub_self] at hb
    simp at ha hb
    subst ha hb
    dsimp only
    rw [if_pos (Nat.le_refl k), if_neg (by omega)]
    exact hv
  · rw [List.getElem?_eq_none (by simp [h.1]; omega)] at ha; cases ha
theorem HandV.lower {w : World} {lo lo' hi : Nat} {x y : Value} {full want : List UInt8} {n : Nat} (h : HandV w lo hi x y full want n) (hl : lo' ≤ lo) : HandV w lo' hi x y full want n := by
  obtain ⟨p, g, c, vw, hx, hy, hh, r⟩ := h
  exact ⟨p, g, c, vw, hx, hy, ⟨hh.blk, Nat.le_trans hl hh.hp, own_base hh.f hl, own_base hh.g hl, hh.ne⟩, r⟩

theorem hands_turn {G : Nat → Prop} {w w' : World} {lo : Nat → Nat} {hs gs : List Value} {F D B : Nat → List UInt8} {n i : Nat} {x y : Value} {F' D' : List UInt8} (h : Hands w lo hs gs F D B n) (e : Eff G w w') (hG : ∀ b, G b → lo i ≤ b ∧ b < lo (i + 1)) (hi : i < n)
    (hx : hs[i]? = some x) (hy : gs[i]? = some y) (hv : HandV w' (lo i) (lo (i + 1)) x y F' D' (B i).length) : Hands w' lo hs gs (fun k => if k = i then F' else F k) (fun k => if k = i then D' else D k) B n := by
  refine ⟨h.1, h.2.1, fun k a b ha hb => ?_⟩
  dsimp only
  by_cases hk : k = i
  · subst hk
    rw [hx] at ha; rw [hy] at hb
    injection ha with ha; injection hb with hb
    subst ha hb
    rw [if_pos rfl, if_pos rfl]; exact hv
  · rw [if_neg hk, if_neg hk]
    have hkn : k < n := by have := (List.getElem?_eq_some_iff.1 ha).1; have := h.1; omega
    refine (h.2.2 k a b ha hb).outside e fun z hz => ?_
    have := hG z hz
    rcases Nat.lt_or_gt_of_ne hk with h1 | h1
    · have := h.mono (show k + 1 ≤ i by omega) (by omega); omega
    · have := h.mono (show i + 1 ≤ k by omega) (by omega); omega
theorem Hands.congr {w : World} {lo : Nat → Nat} {hs gs : List Value} {F D F' D' B : Nat → List UInt8} {n : Nat} (h : Hands w lo hs gs F D B n) (h1 : ∀ k, k < n → F k = F' k) (h2 : ∀ k, k < n → D k = D' k) : Hands w lo hs gs F' D' B n :=
  ⟨h.1, h.2.1, fun k a b ha hb => by
    have hkn : k < n := by have := (List.getElem?_eq_some_iff.1 ha).1; have := h.1; omega
    rw [← h1 k hkn, ← h2 k hkn]; exact h.2.2 k a b ha hb⟩
def fullB (B : Nat → List UInt8) (k : Nat) : List UInt8 := B k ++ hms 80
theorem fullB_take (B : Nat → List UInt8) (k : Nat) : (fullB B k).take (B k).length = B k := by simp [fullB]
theorem fullB_length (B : Nat → List UInt8) (k : Nat) : (fullB B k).length = (B k).length + 80 := by simp [fullB, hms_length]
/-- What a part holds when it has been written over. -/
def spD (B : Nat → List UInt8) (k : Nat) : List UInt8 := (spoilB (fullB B k) (B k).length).take (B k).length
theorem spD_length (B : Nat → List UInt8) (k : Nat) : (spD B k).length = (B k).length := by unfold spD; rw [List.length_take, spoilB_length, fullB_length]; omega
theorem catL_len {B D : Nat → List UInt8} (h : ∀ k, (D k).length = (B k).length) (n : Nat) : (catL D n).length = (catL B n).length := by
  induction n with
  | zero => rfl
  | succ n ih => rw [catL_succ, catL_succ, List.length_append, List.length_append, ih, h]
def spF (B : Nat → List UInt8) (i k : Nat) : List UInt8 := if k < i then spoilB (fullB B k) (B k).length else fullB B k
def spW (B : Nat → List UInt8) (i k : Nat) : List UInt8 := if k < i then copyB (fullB B k) (fullB B k) (B k).length else fullB B k
theorem spF_turn (B : Nat → List UInt8) (i k : Nat) : (if k = i then spoilB (fullB B i) (B i).length else spF B i k) = spF B (i + 1) k := by
  unfold spF
  by_cases h : k = i
  · subst h; rw [if_pos rfl, if_pos (Nat.lt_succ_self k)]
  · rw [if_neg h]
    by_cases h2 : k < i
    · rw [if_pos h2, if_pos (by omega)]
    · rw [if_neg h2, if_neg (by omega)]
theorem spW_turn (B : Nat → List UInt8) (i k : Nat) : (if k = i then copyB (fullB B i) (fullB B i) (B i).length else spW B i k) = spW B (i + 1) k := by
  unfold spW
  by_cases h : k = i
  · subst h; rw [if_pos rfl, if_pos (Nat.lt_succ_self k)]
  · rw [if_neg h]
    by_cases h2 : k < i
    · rw [if_pos h2, if_pos (by omega)]
    · rw [if_neg h2, if_neg (by omega)]
theorem spF_take (B : Nat → List UInt8) (i k : Nat) (h : k < i) : (spF B i k).take (B k).length = spD B k := by unfold spF spD; rw [if_pos h]
def cutV : Value → Value
  | .slice a n _ => .slice a n n
  | v => v
theorem own_cut {w : World} {base : Nat} {e : TypeId} {a : Option Addr} {n c : Nat} {xs : List Value} (h : Own w base e (.slice a n c) xs) : Own w base e (.slice a n n) xs := by
  rcases h with ⟨h, hx⟩ | ⟨g, cap, cur, h, hb, hh, h1, h2, h3, h4⟩
  · injection h with h1 h2 h3
    subst h1 h2; exact .inl ⟨rfl, hx⟩
  · injection h with e1 e2 e3
    subst e1 e2
    exact .inr ⟨g, xs.length, cur, rfl, hb, hh, Nat.le_refl _, by omega, by omega, h4⟩
theorem own_belowAt {B : Nat} {w w' : World} {base : Nat} {e : TypeId} {v : Value} {xs : List Value} (h : Own w base e v xs) (hb : Below B w w') (hv : ∀ k, v.ownBlock = some k → k < B) : Own w' base e v xs :=
  h.eff (F := fun k => B ≤ k) ⟨hb.os, hb.tape, hb.output, hb.size, fun k _ hn => hb.block k (by omega)⟩ (fun k hk hf => by have := hv k hk; omega)
theorem each_cons {w : World} {base : Nat} {e : TypeId} {x : Value} {ls : List Value} {D : Nat → List Value} (h : Own w base e x (D 0)) (ht : Each w base e ls (fun k => D (k + 1))) : Each w base e (x :: ls) D := by
  intro k y hy
  cases k with
  | zero => simp at hy; subst hy; exact h
  | succ k => exact ht k y (by simpa using hy)
theorem apart_cons {x : Value} {ls : List Value} (h : ∀ (j : Nat) (y : Value) (k : Nat), ls[j]? = some y → x.ownBlock = some k → y.ownBlock ≠ some k) (ht : Apart ls) : Apart (x :: ls) := by
  intro a b u v k hu hv hab hk
  cases a with
  | zero =>
    simp at hu; subst hu
    cases b with
    | zero => exact absurd rfl hab
    | succ b => exact h b v k (by simpa using hv) hk
  | succ a =>
    cases b with
    | zero =>
      simp at hv; subst hv
      exact fun e => h a u k (by simpa using hu) e hk
    | succ b => exact ht a b u v k (by simpa using hu) (by simpa using hv) (by omega) hk
theorem book_below {w w' : World} {base p : Nat} {v : Value} {ls : List Value} (h : BookB w base p v ls) (e : Eff (fun k => k = p ∨ v.ownBlock = some k) w w') (hb : base ≤ w.heap.size) : Below base w w' :=
  e.below (fun k hk => by rcases hk with rfl | hk; exact h.hp; exact (h.own.lt k hk).1) hb
theorem cut_get {gs : List Value} {k : Nat} {y : Value} (h : (gs.map cutV)[k]? = some y) : ∃ z, gs[k]? = some z ∧ y = cutV z := by
  rw [List.getElem?_map] at h
  cases hz : gs[k]? with
  | none => rw [hz] at h; cases h
  | some z => rw [hz] at h; simp at h; exact ⟨z, rfl, h.symm⟩
theorem Hands.cutEach {w : World} {lo : Nat → Nat} {hs gs : List Value} {F D B : Nat → List UInt8} {n : Nat} (h : Hands w lo hs gs F D B n) : Each w 0 5 (gs.map cutV) (fun k => bytesV ((F k).take (B k).length)) := by
  intro k y hy
  obtain ⟨z, hz, rfl⟩ := cut_get hy
  have hk : k < hs.length := by have := (List.getElem?_eq_some_iff.1 hz).1; have := h.1; have := h.2.1; omega
  have ho := own_base (h.2.2 k _ z (List.getElem?_eq_getElem hk) hz).own (Nat.zero_le _)
  obtain ⟨a, m, c, rfl⟩ := own_sl ho
  exact own_cut ho
theorem Hands.cutBlock {w : World} {lo : Nat → Nat} {hs gs : List Value} {F D B : Nat → List UInt8} {n : Nat} (h : Hands w lo hs gs F D B n) {k : Nat} {y : Value} (hy : (gs.map cutV)[k]? = some y) {b : Nat} (hb : y.ownBlock = some b) : k < n ∧ lo k ≤ b ∧ b < lo (k + 1) := by
  obtain ⟨z, hz, rfl⟩ := cut_get hy
  have hk : k < hs.length := by have := (List.getElem?_eq_some_iff.1 hz).1; have := h.1; have := h.2.1; omega
  obtain ⟨p, g, c, vw, _, rfl, hh, _, _, _, hg, _⟩ := h.2.2 k _ z (List.getElem?_eq_getElem hk) hz
  have := (hh.f.lt g rfl).1
  simp [cutV, Value.ownBlock] at hb
  exact ⟨by have := h.1; omega, by omega, by omega⟩
theorem Hands.cutApart {w : World} {lo : Nat → Nat} {hs gs : List Value} {F D B : Nat → List UInt8} {n : Nat} (h : Hands w lo hs gs F D B n) : Apart (gs.map cutV) := by
  intro a b x y k hx hy hab hk hk2
  have h1 := h.cutBlock hx hk
  have h2 := h.cutBlock hy hk2
  rcases Nat.lt_or_gt_of_ne hab with h3 | h3
  · have := h.mono (show a + 1 ≤ b by omega) (by omega); omega
  · have := h.mono (show b + 1 ≤ a by omega) (by omega); omega
/-- What the lists of the book hold. -/
def conC (B : Nat → List UInt8) (n : Nat) : Nat → List Value
  | 0 => bytesV (catL B n)
  | 1 => bytesV (catL B n)
  | 2 => bytesV (catL (spD B) n)
  | k + 3 => bytesV ((spF B n k).take (B k).length)
theorem conC_le (B : Nat → List UInt8) (n : Nat) (hn : (catL B n).length ≤ 1100000) (hB : ∀ k, (B k).length ≤ 1100000) : ∀ k, (conC B n k).length ≤ 8388608
  | 0 => by unfold conC; rw [bytesV_length]; omega
  | 1 => by unfold conC; rw [bytesV_length]; omega
  | 2 => by unfold conC; rw [bytesV_length, catL_len (spD_length B)]; omega
  | k + 3 => by unfold conC; rw [bytesV_length, List.length_take]; have := hB k; omega

set_option maxRecDepth 100000 in
set_option maxHeartbeats 4000000 in
theorem concat_walk (w : World) (a : Option Addr) (m c : Nat) (ls : List Value) (B : Nat → List UInt8) (hr : Rd w (.slice a m c) ls) (hB : Rds w ls B) (hl : ls.length ≤ 1100000) (hBk : ∀ k, (B k).length ≤ 1100000) (hn : (catL B ls.length).length ≤ 1100000) :
    Calls Try.prog 3 #[.slice a m c] w fun e w' => e = .returned (.bool true) ∧ Below w.heap.size w w' := by
  have hm : m = ls.length := by obtain ⟨A, c', h, _⟩ := hr; injection h with _ h _
  subst hm
  have HB := Lib.hid hB
  have HR := Lib.hid hr
  have HBK := Lib.hid hBk
  clear hB hr hBk
  obtain ⟨w3, hw3⟩ : ∃ w3, w3 = ((w.alloc (.cells #[.int .u8 1] 5)).alloc (.cells #[.int .u8 2, .int .u8 3] 5)).alloc (.cells #[.slice (some ⟨w.heap.size, 0, none⟩) 1 1, .slice none 0 0, .slice (some ⟨w.heap.size + 1, 0, none⟩) 2 2] 23) := ⟨_, rfl⟩
  have hb3 : Below w.heap.size w w3 := by rw [hw3]; exact (((Below.refl _ _).alloc (Nat.le_refl _) _).alloc (by simp) _).alloc (by simp; omega) _
  have o1 : Own w3 0 5 (.slice (some ⟨w.heap.size, 0, none⟩) 1 1) (bytesV [1]) := by rw [hw3]; exact ((own_lit w 0 5 [.int .u8 1] (Nat.zero_le _) (by decide)).alloc _).alloc _
  have o2 : Own w3 0 5 (.slice (some ⟨w.heap.size + 1, 0, none⟩) 2 2) (bytesV [2, 3]) := by
    have h := (own_lit (w.alloc (.cells #[.int .u8 1] 5)) 0 5 [.int .u8 2, .int .u8 3] (Nat.zero_le _) (by decide)).alloc (.cells #[.slice (some ⟨w.heap.size, 0, none⟩) 1 1, .slice none 0 0, .slice (some ⟨w.heap.size + 1, 0, none⟩) 2 2] 23)
    rw [show (w.alloc (.cells #[.int .u8 1] 5)).heap.size = w.heap.size + 1 by simp] at h
    rw [hw3]; exact h
  have o3 : Own w3 0 23 (.slice (some ⟨w.heap.size + 1 + 1, 0, none⟩) 3 3) [.slice (some ⟨w.heap.size, 0, none⟩) 1 1, .slice none 0 0, .slice (some ⟨w.heap.size + 1, 0, none⟩) 2 2] := by
    have h := own_lit ((w.alloc (.cells #[.int .u8 1] 5)).alloc (.cells #[.int .u8 2, .int .u8 3] 5)) 0 23 [.slice (some ⟨w.heap.size, 0, none⟩) 1 1, .slice none 0 0, .slice (some ⟨w.heap.size + 1, 0, none⟩) 2 2] (Nat.zero_le _) (show 3 ≤ maxLen by decide)
    rw [show ((w.alloc (.cells #[.int .u8 1] 5)).alloc (.cells #[.int .u8 2, .int .u8 3] 5)).heap.size = w.heap.size + 1 + 1 by simp] at h
    rw [hw3]; exact h
  have C1 : Calls Try.prog 5 #[.slice (some ⟨w.heap.size + 1 + 1, 0, none⟩) 3 3] w3 fun e w' => ∃ v, e = .returned v ∧ Own w' w3.heap.size 5 v (bytesV [1, 2, 3]) ∧ Below w3.heap.size w3 w' := cat_any w3 _ 3 3 _ (fun k => if k = 0 then [1] else if k = 2 then [2, 3] else []) o3.rd (by
    intro k x hx
    match k, hx with
    | 0, hx => simp at hx; subst hx; exact o1.rd
    | 1, hx => simp at hx; subst hx; exact (own_nil w3 0 5).rd
    | 2, hx => simp at hx; subst hx; exact o2.rd
    | k + 3, hx => simp at hx) (show 3 ≤ 1000000000 by decide) (show 3 ≤ 1000000000 by decide)
  have HB3 := Lib.hid hb3
  clear o1 o2 o3 hb3
  go_enter Try.func3, Try.ntmps3
  go_wp2_with fail
  rw [← hw3]
  refine C1.mono ?_
  rintro e W1 ⟨v1, rfl, c1, d1⟩
  clear C1 hw3
  obtain ⟨a1, n1, k1, rfl⟩ := own_sl c1
  have r1 : (convert 23 9 (.slice a1 n1 k1)).run Try.prog W1 = .ok (.string ⟨#[1, 2, 3]⟩) W1 := run_str (P := Try.prog) Try.underlying23 Try.underlying5 Try.underlying9 c1.rd
  have C2 := cat_any W1 none 0 0 [] (fun _ => []) ⟨none, 0, rfl, Nat.le_refl _, fun h => by simp at h⟩ (fun k x hx => by simp at hx) (by decide) (by decide)
  go_wp2_with fail
  refine C2.mono ?_
  rintro e W2 ⟨v2, rfl, c2, d2⟩
  clear C2
  obtain ⟨a2, n2, k2, rfl⟩ := own_sl c2
  obtain rfl : n2 = 0 := c2.len
  have hb0 : Below w.heap.size w W2 := HB3.out.trans ((d1.mono HB3.out.size).trans (d2.mono (Nat.le_trans HB3.out.size d1.size)))
  clear c1 c2 d1 d2 r1 HB3
  have hbase : W2.heap.size ≤ ((W2.alloc (.cells #[] 26)).alloc (.cells #[] 23)).heap.size := by simp; omega
  have hvh : Own ((W2.alloc (.cells #[] 26)).alloc (.cells #[] 23)) W2.heap.size 26 (.slice (some ⟨W2.heap.size, 0, none⟩) 0 0) [] := (own_empty W2 _ 26 (Nat.le_refl _)).alloc _
  have hvg : Own ((W2.alloc (.cells #[] 26)).alloc (.cells #[] 23)) W2.heap.size 23 (.slice (some ⟨W2.heap.size + 1, 0, none⟩) 0 0) [] := by
    have h := own_empty (W2.alloc (.cells #[] 26)) W2.heap.size 23 (by simp)
    rw [show (W2.alloc (.cells #[] 26)).heap.size = W2.heap.size + 1 by simp] at h
    exact h
  have hbb : Below W2.heap.size W2 ((W2.alloc (.cells #[] 26)).alloc (.cells #[] 23)) := ((Below.refl _ _).alloc (Nat.le_refl _) _).alloc (by simp) _
  have HB0 := Lib.hid hb0
  clear hb0
  go_wp2
  go_loopw [3, 4, 5, 33] (fun s3 s4 s5 s33 wr => ∃ (i : Nat) (lo : Nat → Nat) (hs gs : List Value), s33 = .int .i64 i ∧ i ≤ ls.length ∧ s5 = .string (strOf (catL B i)) ∧ Own wr W2.heap.size 26 s3 hs ∧ Own wr W2.heap.size 23 s4 gs ∧ Hands wr lo hs gs (fullB B) (fullB B) B i ∧ W2.heap.size ≤ lo 0 ∧ lo i ≤ wr.heap.size ∧ Below W2.heap.size W2 wr) (fun _ _ _ s _ => ls.length - (intOf s).toNat)
  case atStart => exact ⟨0, fun _ => W2.heap.size, [], [], rfl, Nat.zero_le _, rfl, hvh, hvg, ⟨rfl, rfl, fun k x y h => by simp at h⟩, Nat.le_refl _, hbase, hbb⟩
  case round =>
    clear hvh hvg hbb hbase
    obtain ⟨i, lo, hs, gs, rfl, hi, rfl, hvh, hvg, hh, hl0, hli, hb⟩ := hrel
    by_cases hlt : i < ls.length
    · have hbw := HB0.out.trans (hb.mono HB0.out.size)
      obtain ⟨A, c', h, hc, hgg⟩ := HR.out.below hbw (Nat.le_refl _)
      obtain ⟨b, o, rfl, hg⟩ := hgg (by omega)
      injection h with ha _ hcc
      subst ha
      subst hcc
      obtain ⟨x, hx⟩ : ∃ x, ls[i]? = some x := ⟨_, List.getElem?_eq_getElem hlt⟩
      have hcx := hg i x hx
      have hx0 := HB.out i x hx
      have hxr := hx0.below hbw (Nat.le_refl _)
      obtain ⟨A2, x2, rfl, hx2, hg2⟩ := id hxr
      rw [bytesV_length] at hcx hxr hx0
      clear hg hgg hx hx2 hg2 hbw
      obtain ⟨av, nv, cv, rfl⟩ := own_sl hvh
      obtain ⟨ag, ng, cg, rfl⟩ := own_sl hvg
      have C1 := hand_any wr A2 _ x2 (B i) hxr (by have := HBK.out i; omega)
      go_wp2_with fail
      refine C1.mono ?_
      rintro e w1 ⟨p, vf, vw, rfl, hB1, hd1⟩
      clear C1
      obtain ⟨af, nf, cf, rfl⟩ := own_sl hB1.f
      obtain rfl := hB1.f.len
      obtain ⟨g, rfl⟩ := hB1.f.someAt (by rw [bytesV_length, List.length_append, hms_length]; omega)
      rw [bytesV_length] at hB1
      have hhv : HandV w1 (lo i) w1.heap.size (.pointer (some ⟨p, 0, none⟩)) (.slice (some ⟨g, 0, none⟩) (B i).length cf) (fullB B i) (fullB B i) (B i).length :=
        HandV.lower ⟨p, g, cf, vw, rfl, rfl, hB1, by simp [fullB], rfl, lt_of_heap hB1.blk, (hB1.f.lt g rfl).2, fun k hk => (hB1.g.lt k hk).2⟩ hli
      have hh1 := hands_snoc (hh.below hd1 hli) hhv
      have hvh1 := hvh.below hd1 (Nat.le_refl _)
      have hvg1 := hvg.below hd1 (Nat.le_refl _)
      have hb1 := hb.trans (hd1.mono hb.size)
      have hxr1 := hxr.below hd1 (Nat.le_refl _)
      have hsz := hb1.size
      have hll : hs.length < 1000000000000 := by have := hh.1; omega
      have hlg : gs.length < 1000000000000 := by have := hh.2.1; omega
      clear hh hvh hvg hb hxr
      go_wp2_with (at_builtin; with_reducible refine ap1' elPtrs rfl hvh1 hll hsz rfl _ _ rfl rfl rfl ?_)
      intro v' w2 g1 g2 g3 g4
      have e12 : Eff (fun k => (Value.slice av nv cv).ownBlock = some k) w1 w2 := (Eff.refl _ _).grown g4 (fun k hk _ => hk)
      have hk12 : ∀ b, (Value.slice av nv cv).ownBlock = some b → ∃ cs t fr, w1.heap[b]? = some (.cells cs t fr) ∧ 45 ≠ t ∧ 5 ≠ t := fun b hb => by obtain ⟨cs, fr, h⟩ := own_blk hvh1 hb; exact ⟨cs, _, fr, h, by decide, by decide⟩
      have hh2 := hh1.kinds e12 hk12
      have hB2 := hB1.kinds e12 hk12
      have hvg2 := g2 _ _ _ _ hvg1 (fun k h1 h2 => absurd h2 (own_types hvh1 hvg1 (by decide) h1))
      have hb2 := hb1.grown g4 hsz (fun k hk => (hvh1.lt k hk).1)
      have hle12 := e12.size
      obtain ⟨a', n', c', rfl⟩ := own_sl g1
      have C2 := give_any w2 _ p g cf vw _ _ _ hB2 (by simp)
      clear g2 g3 g4 hh1 hvh1 hvg1 hb1 hxr1 hB1 hk12 e12 hhv hsz hB2
      go_wp2_with fail
      refine C2.mono ?_
      rintro e w' ⟨d, rfl, rfl⟩
      clear C2
      have hh3 := hh2.drewN d
      have hvh3 := g1.drewN d
      have hvg3 := hvg2.drewN d
      have hb3 := below_drewN hb2 d
      have hle3 : w1.heap.size ≤ (w2.drewN d).heap.size := hle12
      generalize w2.drewN d = w3 at hh3 hvh3 hvg3 hb3 hle3 ⊢
      clear hh2 g1 hvg2 hb2 hle12
      have hsz := hb3.size
      go_wp2_with (at_builtin; with_reducible refine ap1' elLists rfl hvg3 hlg hsz rfl _ _ rfl rfl rfl ?_)
      intro v' w4 g1 g2 g3 g4
      have e34 : Eff (fun k => (Value.slice ag ng cg).ownBlock = some k) w3 w4 := (Eff.refl _ _).grown g4 (fun k hk _ => hk)
      have hh4 := hh3.kinds e34 (fun b hb => by obtain ⟨cs, fr, h⟩ := own_blk hvg3 hb; exact ⟨cs, _, fr, h, by decide, by decide⟩)
      have hvh4 := g2 _ _ _ _ hvh3 (fun k h1 h2 => absurd h2 (own_types hvg3 hvh3 (by decide) h1))
      have hb4 := hb3.grown g4 hsz (fun k hk => (hvg3.lt k hk).1)
      have hle4 := e34.size
      obtain ⟨a5, n5, c5, rfl⟩ := own_sl g1
      have r4 := run_str (P := Try.prog) Try.underlying23 Try.underlying5 Try.underlying9 (hx0.below (HB0.out.trans (hb4.mono HB0.out.size)) (Nat.le_refl _))
      clear g2 g3 g4 hh3 hvh3 hvg3 hb3 hsz e34
      have q5 : (strOf (catL B i)).size + (strOf (B i)).size ≤ 9223372036854775807 := by have := catL_mono B hi; have := HBK.out i; rw [strOf_size, strOf_size]; omega
      go_wp2
      go_roundw
      case rel => exact ⟨i + 1, _, _, _, by go_num, by omega, by rw [catL_succ, ← strOf_append], hvh4, g1, hh4, by simpa using hl0, by rw [if_neg (by omega)]; omega, hb4⟩
      case measure => simp [intOf]; omega
    · obtain rfl : i = ls.length := by omega
      clear hlt hi
      have hgl := hh.2.1
      have hhl := hh.1
      have hrds : Rds wr gs B := fun k y hy => by have := hh.rds k y hy; dsimp only at this; rwa [fullB_take] at this
      obtain ⟨av, nv, cv, rfl⟩ := own_sl hvh
      obtain ⟨ag, ng, cg, rfl⟩ := own_sl hvg
      have C1 := cat_any wr ag ng cg gs B hvg.rd hrds (by omega) (by rw [hgl]; omega)
      rw [hgl] at C1
      go_wp2_with fail
      refine C1.mono ?_
      rintro e W3 ⟨va, rfl, ha, hd1⟩
      obtain ⟨aa, na, ca, rfl⟩ := own_sl ha
      have C2 := cat_any W3 ag ng cg gs B (hvg.below hd1 (Nat.le_refl _)).rd (fun k x hx => (hrds k x hx).below hd1 (Nat.le_refl _)) (by omega) (by rw [hgl]; omega)
      rw [hgl] at C2
      clear C1
      go_wp2_with fail
      refine C2.mono ?_
      rintro e W4 ⟨vb, rfl, hbo, hd2⟩
      obtain ⟨ab, nb, cb, rfl⟩ := own_sl hbo
      have hd := hd1.trans (hd2.mono hd1.size)
      have ha4 := ha.below hd2 (Nat.le_refl _)
      have r1 := run_str (P := Try.prog) Try.underlying23 Try.underlying5 Try.underlying9 ha4.rd
      have r2 := run_str (P := Try.prog) Try.underlying23 Try.underlying5 Try.underlying9 hbo.rd
      have hh4 := (hh.below hd hli).congr (F' := spF B 0) (D' := spW B 0) (fun k _ => rfl) (fun k _ => rfl)
      have hvh4 := hvh.below hd (Nat.le_refl _)
      have hvg4 := hvg.below hd (Nat.le_refl _)
      have hb4 := hb.trans (hd.mono hb.size)
      have hA34 := hd1.size
      have hal : ∀ k, (Value.slice aa na ca).ownBlock = some k → k < W3.heap.size := fun k hk => (ha.lt k hk).2
      have hA4 := hd2.size
      clear C2 hrds ha hd1 hd2 hd hh hvh hvg hb
      obtain ⟨A0, hA0⟩ : ∃ A0, wr.heap.size = A0 := ⟨_, rfl⟩
      rw [hA0] at hli hA34 ha4
      clear hA0
      obtain ⟨A1, hA1⟩ : ∃ A1, W3.heap.size = A1 := ⟨_, rfl⟩
      rw [hA1] at hA34 hbo hA4 hal
      clear hA1
      obtain rfl := hvh4.len
      obtain rfl := hvg4.len
      have hg1 : gs.length ≤ ls.length := by omega
      have hg2 : ls.length ≤ gs.length := by omega
      have hh1 : hs.length ≤ ls.length := by omega
      have hh2 : ls.length ≤ hs.length := by omega
      clear hgl hhl
      go_wp2
      go_loopw [5, 69] (fun s5 s69 w5 => ∃ i : Nat, s69 = .int .i64 i ∧ i ≤ ls.length ∧ s5 = .string (strOf (catL (spD B) i)) ∧ Own w5 W2.heap.size 26 (.slice av hs.length cv) hs ∧ Own w5 W2.heap.size 23 (.slice ag gs.length cg) gs ∧ Hands w5 lo hs gs (spF B i) (spW B i) B ls.length ∧ Own w5 A0 5 (.slice aa na ca) (bytesV (catL B ls.length)) ∧ Own w5 A1 5 (.slice ab nb cb) (bytesV (catL B ls.length)) ∧ Below W2.heap.size W2 w5 ∧ A1 ≤ w5.heap.size) (fun _ s _ => ls.length - (intOf s).toNat)
      case atStart => exact ⟨0, rfl, Nat.zero_le _, rfl, hvh4, hvg4, hh4, ha4, hbo, hb4, hA4⟩
      case round =>
        clear r1 r2 ha4 hbo hh4 hvh4 hvg4 hb4 hA4
        obtain ⟨i, rfl, hi, rfl, hvh, hvg, hh, ha, hbo, hb, hA4⟩ := hrel
        by_cases hlt : i < ls.length
        · obtain ⟨x, hx⟩ : ∃ x, hs[i]? = some x := ⟨_, List.getElem?_eq_getElem (by omega)⟩
          obtain ⟨y, hy⟩ : ∃ y, gs[i]? = some y := ⟨_, List.getElem?_eq_getElem (by omega)⟩
          obtain ⟨p, g, c, vw, rfl, rfl, hB, n1, n2, hpi, hgi, hvi⟩ := hh.2.2 i x y hx hy
          have e1 : spF B i i = fullB B i := if_neg (Nat.lt_irrefl i)
          have e2 : spW B i i = fullB B i := if_neg (Nat.lt_irrefl i)
          rw [e1, e2] at hB
          clear e1 e2 n1 n2
          obtain ⟨qh, rfl⟩ := hvh.someAt (by omega)
          have hcx : wr.cell? ⟨qh, i, none⟩ = some (.pointer (some ⟨p, 0, none⟩)) := hvh.get hx
          have q1 : (i : Int) < hs.length := by omega
          have C1 := same_any wr _ p _ vw _ _ _ hB
          rw [show (fullB B i == fullB B i) = true from beq_self_eq_true _] at C1
          go_wp2_with fail
          refine C1.mono ?_
          rintro e w' ⟨d, rfl, rfl⟩
          have hvh1 := hvh.drewN d
          have hvg1 := hvg.drewN d
          have hh1 := hh.drewN d
          have ha1 := ha.drewN d
          have hbo1 := hbo.drewN d
          have hb1 := below_drewN hb d
          have hA5 : A1 ≤ (wr.drewN d).heap.size := hA4
          have hB1 := hB.kinds ((Eff.refl (fun _ => False) wr).drewN d) (fun b hb => hb.elim)
          clear hvh hvg hh ha hbo hb hB hcx C1 hA4
          generalize wr.drewN d = w1 at hvh1 hvg1 hh1 ha1 hbo1 hb1 hB1 hA5 ⊢
          have C2 := spoil_any w1 _ p _ vw _ _ _ hB1 (by rw [fullB_length]; omega) (by rw [fullB_length]; omega) (by have := HBK.out i; omega)
          go_wp2_with fail
          refine C2.mono ?_
          rintro e w2 ⟨rfl, hB2, e2⟩
          have hG : ∀ b, ((Value.slice (some ⟨g, 0, none⟩) (fullB B i).length c).ownBlock = some b ∨ vw.ownBlock = some b) → lo i ≤ b ∧ b < lo (i + 1) := by
            rintro b (hb | hb)
            · have := (hB1.f.lt b hb).1
              simp [Value.ownBlock] at hb; omega
            · exact ⟨(hB1.g.lt b hb).1, hvi b hb⟩
          have hB2' : HandB w2 (lo i) p (.slice (some ⟨g, 0, none⟩) (spoilB (fullB B i) (B i).length).length c) vw (spoilB (fullB B i) (B i).length) (copyB (fullB B i) (fullB B i) (B i).length) (B i).length := by rw [spoilB_length]; exact hB2
          have hle : (B i).length ≤ (spoilB (fullB B i) (B i).length).length := by rw [spoilB_length, fullB_length]; omega
          have hh2 := (hands_turn hh1 e2 hG hlt hx hy ⟨p, g, c, vw, rfl, rfl, hB2', hle, by rw [spoilB_length, copyB_length], hpi, hgi, hvi⟩).congr (F' := spF B (i + 1)) (D' := spW B (i + 1)) (fun k _ => spF_turn B i k) (fun k _ => spW_turn B i k)
          have hT : ∀ {b : Nat} {t : Nat} {v : Value} {xs : List Value}, Own w1 b t v xs → 5 ≠ t → ∀ k, v.ownBlock = some k → ¬ ((Value.slice (some ⟨g, 0, none⟩) (fullB B i).length c).ownBlock = some k ∨ vw.ownBlock = some k) := by
            rintro b t v xs ho hne k hk (hf | hf)
            · exact own_types hB1.f ho hne hf hk
            · exact own_types hB1.g ho hne hf hk
          have hvh2 := hvh1.eff e2 (hT hvh1 (by decide))
          have hvg2 := hvg1.eff e2 (hT hvg1 (by decide))
          have hmo := hh1.mono (show i + 1 ≤ ls.length by omega) (Nat.le_refl _)
          have hmo0 := hh1.mono (show 0 ≤ i by omega) (by omega)
          have ha2 := ha1.eff e2 (fun k hk hf => by have := (ha1.lt k hk).1; have := hG k hf; omega)
          have hbo2 := hbo1.eff e2 (fun k hk hf => by have := (hbo1.lt k hk).1; have := hG k hf; omega)
          have hb2 := hb1.trans (e2.below (B := W2.heap.size) (fun k hk => by have := hG k hk; omega) hb1.size)
          have hA6 := Nat.le_trans hA5 e2.size
          have C3 := give_any w2 (lo i) p g c vw _ _ _ hB2' hle
          clear hvh1 hvg1 hh1 ha1 hbo1 hb1 hB1 hB2 hB2' e2 hT hG C2 hmo hmo0 hle
          go_wp2_with fail
          refine C3.mono ?_
          rintro e w' ⟨d2, rfl, rfl⟩
          have hvh3 := hvh2.drewN d2
          have hvg3 := hvg2.drewN d2
          have hh3 := hh2.drewN d2
          have ha3 := ha2.drewN d2
          have hbo3 := hbo2.drewN d2
          have hb3 := below_drewN hb2 d2
          have hA7 : A1 ≤ (w2.drewN d2).heap.size := hA6
          clear hvh2 hvg2 hh2 ha2 hbo2 hb2 C3 hA5 hA6
          generalize w2.drewN d2 = w3 at hvh3 hvg3 hh3 ha3 hbo3 hb3 hA7 ⊢
          have r3 := run_str (P := Try.prog) Try.underlying23 Try.underlying5 Try.underlying9 (hh3.2.2 i _ _ hx hy).own.rd
          rw [spF_take B (i + 1) i (Nat.lt_succ_self i)] at r3
          have q5 : (strOf (catL (spD B) i)).size + (strOf (spD B i)).size ≤ 9223372036854775807 := by have := catL_mono B hi; have := HBK.out i; rw [strOf_size, strOf_size, catL_len (spD_length B), spD_length]; omega
          go_wp2
          go_roundw
          case rel => exact ⟨i + 1, by go_num, by omega, by rw [catL_succ, ← strOf_append], hvh3, hvg3, hh3, ha3, hbo3, hb3, hA7⟩
          case measure => simp [intOf]; omega
        · obtain rfl : i = ls.length := by omega
          have hrds : Rds wr gs (spD B) := fun k y hy => by have := hh.rds k y hy; dsimp only at this; rwa [spF_take B _ k (by have := (List.getElem?_eq_some_iff.1 hy).1; omega)] at this
          have hgl : gs.length = ls.length := by omega
          have C1 := cat_any wr ag _ cg gs (spD B) hvg.rd hrds (by omega) (by rw [hgl, catL_len (spD_length B)]; omega)
          rw [show catL (spD B) gs.length = catL (spD B) ls.length by rw [hgl]] at C1
          clear hgl hrds
          go_wp2_with fail
          refine C1.mono ?_
          rintro e W5 ⟨vc, rfl, hco, hd⟩
          obtain ⟨ac, nc, cc, rfl⟩ := own_sl hco
          have r5 := run_str (P := Try.prog) Try.underlying23 Try.underlying5 Try.underlying9 hco.rd
          have ha5 := ha.below hd (Nat.le_refl _)
          have hbo5 := hbo.below hd (Nat.le_refl _)
          have hvg5 := hvg.below hd (Nat.le_refl _)
          have hh5 := hh.below hd (by omega)
          have hb5 := hb.trans (hd.mono hb.size)
          have hbl : ∀ k, (Value.slice ab nb cb).ownBlock = some k → k < wr.heap.size := fun k hk => (hbo.lt k hk).2
          obtain ⟨A2, hA2⟩ : ∃ A2, wr.heap.size = A2 := ⟨_, rfl⟩
          have hA6 := hd.size
          rw [hA2] at hA4 hco hA6 hbl
          clear hA2 ha hbo hvg hvh hh hb hd C1 hlt hi
          obtain ⟨W6, hW6⟩ : ∃ W6, W6 = W5.alloc (.cells #[.slice none 0 0, .slice none 0 0, .slice none 0 0] 34) := ⟨_, rfl⟩
          have hd6 : Below W5.heap.size W5 W6 := by rw [hW6]; exact (Below.refl _ _).alloc (Nat.le_refl _) _
          have hbk : BookB W6 W5.heap.size W5.heap.size (.slice none 0 0) [] := ⟨by rw [hW6]; exact heap_alloc_new W5 _, Nat.le_refl _, own_nil _ _ _⟩
          have hsz6 := hd6.size
          have ha6 := ha5.below hd6 (Nat.le_refl _)
          have hbo6 := hbo5.below hd6 (Nat.le_refl _)
          have hco6 := hco.below hd6 (Nat.le_refl _)
          have hvg6 := hvg5.below hd6 (Nat.le_refl _)
          have hh6 := hh5.below hd6 (by omega)
          have hb6 := hb5.trans (hd6.mono hb5.size)
          have hB25 : W2.heap.size ≤ W5.heap.size := hb5.size
          have halb : ∀ k, (Value.slice aa na ca).ownBlock = some k → k < W5.heap.size := fun k hk => (ha5.lt k hk).2
          have hblb : ∀ k, (Value.slice ab nb cb).ownBlock = some k → k < W5.heap.size := fun k hk => (hbo5.lt k hk).2
          have hclb : ∀ k, (Value.slice ac nc cc).ownBlock = some k → k < W5.heap.size := fun k hk => (hco.lt k hk).2
          have hvgb : ∀ k, (Value.slice ag gs.length cg).ownBlock = some k → k < W5.heap.size := fun k hk => (hvg5.lt k hk).2
          clear ha5 hbo5 hco hvg5 hh5 hb5 hd6
          have C1 := bkB_any W6 _ _ _ [] hbk hsz6 (by simp) aa na ca
          go_wp2_with fail
          rw [← hW6]
          clear hW6
          refine C1.mono ?_
          rintro e w1 ⟨rfl, v1, hbk1, e1⟩
          have d1 := book_below hbk e1 hsz6
          have C2 := bkB_any w1 _ _ _ _ hbk1 (Nat.le_trans hsz6 d1.size) (by simp) ab nb cb
          go_wp2_with fail
          refine C2.mono ?_
          rintro e w2 ⟨rfl, v2, hbk2, e2⟩
          have d2 := book_below hbk1 e2 (Nat.le_trans hsz6 d1.size)
          have d12 := d1.trans d2
          have C3 := bkB_any w2 _ _ _ _ hbk2 (Nat.le_trans hsz6 d12.size) (by simp) ac nc cc
          go_wp2_with fail
          refine C3.mono ?_
          rintro e w3 ⟨rfl, v3, hbk3, e3⟩
          have d3 := book_below hbk2 e3 (Nat.le_trans hsz6 d12.size)
          have d13 := d12.trans d3
          clear C1 C2 C3 hbk hbk1 hbk2 e1 e2 e3 d1 d2 d3 d12
          have HH6 := Lib.hid hh6
          have HD13 := Lib.hid d13
          have HBK3 := Lib.hid hbk3
          clear hh6 d13 hbk3
          go_wp2
          go_loopw [104] (fun s w7 => ∃ (i : Nat) (v : Value), s = .int .i64 i ∧ i ≤ gs.length ∧ BookB w7 W5.heap.size W5.heap.size v ([.slice aa na ca, .slice ab nb cb, .slice ac nc cc] ++ (gs.take i).map cutV) ∧ Below W5.heap.size W6 w7) (fun s _ => gs.length - (intOf s).toNat)
          case atStart => exact ⟨0, v3, rfl, Nat.zero_le _, by simpa using HBK3.out, HD13.out⟩
          case round =>
            rename World => wr7
            obtain ⟨i, v, rfl, hi, hbk, hd⟩ := hrel
            by_cases hlt : i < gs.length
            · obtain ⟨x, hx⟩ : ∃ x, hs[i]? = some x := ⟨_, List.getElem?_eq_getElem (by omega)⟩
              obtain ⟨y, hy⟩ : ∃ y, gs[i]? = some y := ⟨_, List.getElem?_eq_getElem (by omega)⟩
              obtain ⟨p, g, c', vw, rfl, rfl, hB, n1, n2, hpi, hgi, hvi⟩ := HH6.out.2.2 i x y hx hy
              have hcap := own_cap hB.f
              have hmax : (c' : Int) ≤ 9223372036854775807 := by have := hcap.2; unfold maxLen at this; omega
              have q1 : ((B i).length : Int) ≤ c' := by omega
              have q2 : (B i).length ≤ c' := by omega
              have hvg7 := own_belowAt hvg6 hd hvgb
              obtain ⟨qg, rfl⟩ := hvg7.someAt (by omega)
              have hcy : wr7.cell? ⟨qg, i, none⟩ = some (.slice (some ⟨g, 0, none⟩) (B i).length c') := hvg7.get hy
              have hsz7 := Nat.le_trans hsz6 hd.size
              have hll : ([Value.slice aa na ca, .slice ab nb cb, .slice ac nc cc] ++ (gs.take i).map cutV).length ≤ 1000000000 := by simp; omega
              have C1 := bkB_any _ _ _ _ _ hbk hsz7 hll (some ⟨g, 0, none⟩) (B i).length (B i).length
              clear hcap hB hvg7 hpi hgi hvi n1 n2
              go_wp2_with fail
              refine C1.mono ?_
              rintro e w8 ⟨rfl, v8, hbk8, e8⟩
              have d8 := book_below hbk e8 hsz7
              go_wp2
              go_roundw
              case rel => exact ⟨i + 1, v8, by go_num, by omega, by rw [List.take_add_one, hy, List.map_append]; simpa [cutV] using hbk8, hd.trans d8⟩
              case measure => simp [intOf]; omega
            · obtain rfl : i = gs.length := by omega
              rw [List.take_length] at hbk
              have hh7 := HH6.out.below hd (by omega)
              have ha7 := own_base (own_belowAt ha6 hd halb) (Nat.zero_le _)
              have hb7 := own_base (own_belowAt hbo6 hd hblb) (Nat.zero_le _)
              have hc7 := own_base (own_belowAt hco6 hd hclb) (Nat.zero_le _)
              have hE : Each wr7 0 5 ([.slice aa na ca, .slice ab nb cb, .slice ac nc cc] ++ gs.map cutV) (conC B ls.length) :=
                each_cons ha7 (each_cons hb7 (each_cons hc7 hh7.cutEach))
              have hgA : ∀ (j : Nat) (y : Value) (k : Nat), (gs.map cutV)[j]? = some y → y.ownBlock = some k → k < A0 := fun j y k hy hk => by
                have := hh7.cutBlock hy hk
                have := hh7.mono (show j + 1 ≤ ls.length by omega) (Nat.le_refl _); omega
              have hA : Apart ([.slice aa na ca, .slice ab nb cb, .slice ac nc cc] ++ gs.map cutV) := by
                refine apart_cons (fun j y k hy hk hk2 => ?_) (apart_cons (fun j y k hy hk hk2 => ?_) (apart_cons (fun j y k hy hk hk2 => ?_) hh7.cutApart))
                · have h1 := hal k hk
                  have h2 := (ha6.lt k hk).1
                  match j, hy with
                  | 0, hy => simp at hy; subst hy; have := (hbo6.lt k hk2).1; omega
                  | 1, hy => simp at hy; subst hy; have := (hco6.lt k hk2).1; omega
                  | j + 2, hy => have := hgA j y k (by simpa using hy) hk2; omega
                · have h1 := hbl k hk
                  have h2 := (hbo6.lt k hk).1
                  match j, hy with
                  | 0, hy => simp at hy; subst hy; have := (hco6.lt k hk2).1; omega
                  | j + 1, hy => have := hgA j y k (by simpa using hy) hk2; omega
                · have h2 := (hco6.lt k hk).1
                  have := hgA j y k hy hk2; omega
              have C1 := un_bytes wr7 _ _ v _ (conC B ls.length) hbk (by simp) hE hA (by simp; omega) (conC_le B ls.length hn HBK.out)
              have hF : ∀ b, BlocksOf ([.slice aa na ca, .slice ab nb cb, .slice ac nc cc] ++ gs.map cutV) b → w.heap.size ≤ b := by
                rintro b ⟨k, x, hx, hb⟩
                have hs0 := HB0.out.size
                have hlo := hh7.mono (Nat.zero_le ls.length) (Nat.le_refl _)
                match k, hx with
                | 0, hx => simp at hx; subst hx; have := (ha6.lt b hb).1; omega
                | 1, hx => simp at hx; subst hx; have := (hbo6.lt b hb).1; omega
                | 2, hx => simp at hx; subst hx; have := (hco6.lt b hb).1; omega
                | k + 3, hx =>
                  have h1 := hh7.cutBlock (k := k) (by simpa using hx) hb
                  have := hh7.mono (Nat.zero_le k) (by omega)
                  omega
              have hdd := HB0.out.trans ((hb6.trans (hd.mono hB25)).mono HB0.out.size)
              clear hE hA hgA hbk hh7 ha7 hb7 hc7
              go_wp2_with fail
              refine C1.mono ?_
              rintro e w9 ⟨rfl, e9⟩
              go_wp2
              go_ret
              exact ⟨rfl, hdd.trans (e9.below hF hdd.size)⟩
end Go.Proofs.Ytmmflhippbegaaa
