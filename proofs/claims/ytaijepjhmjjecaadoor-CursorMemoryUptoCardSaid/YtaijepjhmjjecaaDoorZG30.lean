/- Merged: CurM0, ScanP, ScanS, CurM1, CurM2. -/
import Derived.Test.YtaijepjhmjjecaaDoorZG27
import Derived.Test.YtaijepjhmjjecaaDoorZPhK
import Derived.Test.YtaijepjhmjjecaaDoorZG21
import Derived.Test.YtaijepjhmjjecaaDoorZG25
import Derived.Test.YtaijepjhmjjecaaDoorZG15
/- CursorMemory: a cursor under a change below its base; bytes written over. -/
namespace Go.Proofs.YtaijepjhmjjecaaDoor
set_option linter.unusedVariables false
open Go.ChangeShapes Go.WideShapes Go.ChangeAt Go.RowKit

theorem ListAt.effL {F : Nat → Prop} {w w' : World} {base p : Nat} {im sv : Value} {b : List UInt8} {n t : Nat} {SS : List SkV} (h : ListAt w base p im sv b n t SS) (e : Eff F w w') (hF : ∀ k, base ≤ k → ¬ F k) : ListAt w' base p im sv b n t SS :=
  ⟨(e.block p (lt_of_heap h.blk) (hF p h.hp)).trans h.blk, h.hp, h.img.eff e (fun k hk => hF k (h.img.lt k hk).1), h.sk.eff e (fun k hk => hF k (h.sk.lt k hk).1)⟩
/-- A cursor under a change below its base. -/
theorem CurAt.effL {F : Nat → Prop} {w w' : World} {base q : Nat} {lp : Value} {ps : List PostV} {IM : List UInt8} {u mv : Nat} {told : Bool} (h : CurAt w base q lp ps IM u mv told) (e : Eff F w w') (hF : ∀ k, base ≤ k → ¬ F k) : CurAt w' base q lp ps IM u mv told := by
  obtain ⟨bk, rv, h⟩ := h
  refine ⟨bk, rv, (e.block q (lt_of_heap h.blk) (hF q h.hq)).trans h.blk, h.hq, h.lo, h.hu, ?_, ?_, h.sl⟩
  · rcases h.ls with h9 | ⟨p, im, sa, sc, h1, h2, h3⟩
    · exact .inl h9
    · exact .inr ⟨p, im, sa, sc, h1, h2.effL e hF, h3⟩
  · rcases h.rd with h9 | ⟨k, vs, h1, h2, h3⟩
    · exact .inl h9
    · exact .inr ⟨k, vs, h1, h2, h3.eff e (fun b hb => hF b (h3.ge b hb).1)⟩
theorem rd_takeV {w : World} {a : Option Addr} {n c : Nat} {xs : List Value} (h : Rd w (.slice a n c) xs) (k : Nat) (hk : k ≤ xs.length) : Rd w (.slice a k c) (xs.take k) := by
  obtain ⟨A, c', e, h1, h2⟩ := h
  injection e with e1 e2 e3
  subst e1 e3
  have hlen : (xs.take k).length = k := by rw [List.length_take]; omega
  refine ⟨a, c, by rw [hlen], by rw [hlen]; omega, fun h0 => ?_⟩
  rw [hlen] at h0
  obtain ⟨b, o, e, hg⟩ := h2 (by omega)
  refine ⟨b, o, e, fun j x hx => hg j x ?_⟩
  rw [List.getElem?_take] at hx
  split at hx
  · exact hx
  · cases hx
/-- The whole of the image with its room, written over from the front. -/
def flipB (x : UInt8) : UInt8 := x ^^^ 0x3c
theorem flip_all : ∀ n : Fin 256, bits BinOp.xor IntKind.u8 ((n.val : Nat) : Int) 60 = ((flipB (UInt8.ofNat n.val)).toNat : Nat) := by decide +kernel
theorem flip_bits (x : UInt8) : bits BinOp.xor IntKind.u8 (x.toNat : Nat) 60 = ((flipB x).toNat : Nat) := by
  have h := flip_all ⟨x.toNat, x.toNat_lt⟩
  simpa using h
/-- The state of the loop that turns the bytes. -/
structure FlS (w wr : World) (B0 base q : Nat) (lp : Value) (ps : List PostV) (IM : List UInt8) (A : Option Addr) (n C : Nat) (i : Nat) (bs : List UInt8) : Prop where
  own : Own wr B0 5 (.slice A n C) (bytesV ((bs.take i).map flipB ++ bs.drop i))
  cur : CurAt wr base q lp ps IM 0 0 false
  bel : Below B0 w wr
  low : ∀ b, (Value.slice A n C).ownBlock = some b → b < base
  bz : base ≤ wr.heap.size
theorem FlS.step {w wr : World} {B0 base q : Nat} {lp : Value} {ps : List PostV} {IM : List UInt8} {g n C i : Nat} {bs : List UInt8} (h : FlS w wr B0 base q lp ps IM (some ⟨g, 0, none⟩) n C i bs) (hi : i < bs.length) (hz : B0 ≤ wr.heap.size) :
    FlS w (wr.setCell ⟨g, i, none⟩ (.int .u8 ((flipB bs[i]).toNat : Nat))) B0 base q lp ps IM (some ⟨g, 0, none⟩) n C (i + 1) bs := by
  have hg := h.own.lt g rfl
  have hl := h.low g rfl
  have e : Eff (· = g) wr (wr.setCell ⟨g, i, none⟩ (.int .u8 ((flipB bs[i]).toNat : Nat))) := Eff.setCell (F := fun k => k = g) (Eff.refl _ wr) (p := ⟨g, i, none⟩) (fun _ => rfl) _
  refine ⟨?_, h.cur.effL e (fun k hk e9 => by omega), h.bel.trans (eff_below e hg.1 hz), h.low, Nat.le_trans h.bz e.size⟩
  refine own_to (h.own.set i _) ?_
  have e1 : (bs.take (i + 1)).map flipB ++ bs.drop (i + 1) = ((bs.take i).map flipB ++ bs.drop i).set i (flipB bs[i]) := by
    have hlen : ((bs.take i).map flipB).length = i := by rw [List.length_map, List.length_take]; omega
    rw [List.set_append_right _ _ (by omega), hlen, Nat.sub_self, List.drop_eq_getElem_cons hi, List.set_cons_zero, List.take_succ_eq_append_getElem hi, List.map_append, List.append_assoc]
    rfl
  rw [e1]
  simp [bytesV, List.map_set]
end Go.Proofs.YtaijepjhmjjecaaDoor

/- cursor, plain: the postings that CursorScan makes, its search, its moves. No program occurs here. -/
namespace Go.Proofs.YtaijepjhmjjecaaDoor
set_option linter.unusedVariables false

/-- The documents of the law's list: g the gaps. -/
def scD (g : Nat → Int) : Nat → Int
  | 0 => -1
  | i + 1 => scD g i + (1 + g i)
def scP (g : Int) (n : Nat) : List Int := (List.range n).map fun (k : Nat) => 7 * (k : Int) + g
theorem scP_succ (g : Int) (n : Nat) : scP g (n + 1) = scP g n ++ [7 * (n : Int) + g] := by simp [scP, List.range_succ]
theorem scP_length (g : Int) (n : Nat) : (scP g n).length = n := by simp [scP]
/-- The first m postings. -/
def scL (g : Nat → Int) (f : Nat → Nat) (m : Nat) : List PostV := (List.range m).map fun i => ⟨scD g (i + 1), scP (g i) (f i)⟩
theorem scL_succ (g : Nat → Int) (f : Nat → Nat) (m : Nat) : scL g f (m + 1) = scL g f m ++ [⟨scD g (m + 1), scP (g m) (f m)⟩] := by simp [scL, List.range_succ]
theorem scL_length (g : Nat → Int) (f : Nat → Nat) (m : Nat) : (scL g f m).length = m := by simp [scL]
theorem scD_in {g : Nat → Int} (hg : ∀ i, 0 ≤ g i ∧ g i ≤ 40) : ∀ i : Nat, -1 + (i : Int) ≤ scD g i ∧ scD g i ≤ -1 + 41 * (i : Int)
  | 0 => by simp [scD]
  | i + 1 => by
    have h1 := scD_in hg i
    have h2 := hg i
    show -1 + ((i + 1 : Nat) : Int) ≤ scD g i + (1 + g i) ∧ scD g i + (1 + g i) ≤ -1 + 41 * ((i + 1 : Nat) : Int)
    omega
theorem asc_snoc : ∀ (last : Int) (l : List Int) (z : Int), asc last l → (∀ x ∈ l, x < z) → last < z → z ≤ 9223372036854775807 → asc last (l ++ [z])
  | last, [], z, _, _, h1, h2 => ⟨h1, h2, trivial⟩
  | last, y :: r, z, h, hx, h1, h2 => ⟨h.1, h.2.1, asc_snoc y r z h.2.2 (fun x hx' => hx x (List.mem_cons_of_mem _ hx')) (hx y (List.mem_cons_self ..)) h2⟩
theorem scP_asc {g : Int} (hg : 0 ≤ g ∧ g ≤ 40) : ∀ n : Nat, n ≤ 10 → asc (-1) (scP g n)
  | 0, _ => trivial
  | n + 1, h => by
    rw [scP_succ]
    refine asc_snoc _ _ _ (scP_asc hg n (by omega)) (fun x hx => ?_) (by omega) (by omega)
    simp only [scP, List.mem_map, List.mem_range] at hx
    obtain ⟨k, hk, rfl⟩ := hx
    omega
theorem scL_last (g : Nat → Int) (f : Nat → Nat) : ∀ m, lastV (-1) (scL g f m) = scD g m
  | 0 => rfl
  | m + 1 => by rw [scL_succ, lastV_snoc]
theorem scL_ok {g : Nat → Int} (hg : ∀ i, 0 ≤ g i ∧ g i ≤ 40) {f : Nat → Nat} (hf : ∀ i, 1 ≤ f i ∧ f i ≤ 5) : ∀ m, m ≤ 1048576 → okV (-1) (scL g f m)
  | 0, _ => rfl
  | m + 1, h => by
    rw [scL_succ]
    refine okV_join (scL_ok hg hf m (by omega)) (okV_mk (goodV_mk ?_ ?_ ?_ ?_ ?_) rfl)
    · have := scD_in hg (m + 1); show 0 ≤ scD g (m + 1); omega
    · have := scD_in hg (m + 1); show scD g (m + 1) < _; omega
    · rw [scL_last]
      have := hg m
      show scD g m < scD g m + (1 + g m)
      omega
    · intro e
      have h1 := congrArg List.length e
      have := hf m
      simp only [scP_length, List.length_nil] at h1
      omega
    · exact scP_asc (hg m) (f m) (by have := hf m; omega)
theorem scL_total {g : Nat → Int} {f : Nat → Nat} (hf : ∀ i, 1 ≤ f i ∧ f i ≤ 5) : ∀ m, totalV (scL g f m) ≤ 5 * m
  | 0 => by simp [scL, totalV]
  | m + 1 => by
    have h1 := scL_total (g := g) hf m
    have h2 := hf m
    rw [scL_succ, totalV_append]
    have : totalV [⟨scD g (m + 1), scP (g m) (f m)⟩] = f m := by simp [totalV, scP_length]
    omega
theorem scL_totalS (g : Nat → Int) (f : Nat → Nat) (m : Nat) : totalV (scL g f (m + 1)) = totalV (scL g f m) + f m := by
  rw [scL_succ, totalV_append]
  simp [totalV, scP_length]
theorem scL_fit {g : Nat → Int} (hg : ∀ i, 0 ≤ g i ∧ g i ≤ 40) {f : Nat → Nat} (hf : ∀ i, 1 ≤ f i ∧ f i ≤ 5) (m : Nat) (hm : m ≤ 1048576) : FitP (scL g f m) := by
  intro p hp
  simp only [scL, List.mem_map, List.mem_range] at hp
  obtain ⟨i, hi, rfl⟩ := hp
  have h1 := scD_in hg (i + 1)
  have h2 := hf i
  have h3 := hg i
  refine ⟨⟨by show _ ≤ scD g (i + 1); omega, by show scD g (i + 1) ≤ _; omega⟩, fun x hx => ?_, by show (scP (g i) (f i)).length ≤ _; rw [scP_length]; omega⟩
  simp only [scP, List.mem_map, List.mem_range] at hx
  obtain ⟨k, hk, rfl⟩ := hx
  omega
/-! ### Where Advance comes to, place by place -/
theorem takeW_spec {α : Type} (p : α → Bool) : ∀ (l : List α), (∀ (i : Nat) (h : i < l.length), i < (l.takeWhile p).length → p l[i] = true) ∧ (∀ h : (l.takeWhile p).length < l.length, p l[(l.takeWhile p).length] = false)
  | [] => ⟨fun i h => by simp at h, fun h => by simp at h⟩
  | x :: r => by
    obtain ⟨h1, h2⟩ := takeW_spec p r
    by_cases hx : p x = true
    · rw [List.takeWhile_cons_of_pos hx]
      refine ⟨fun i h h9 => ?_, fun h => ?_⟩
      · cases i with
        | zero => exact hx
        | succ i => exact h1 i (by simpa using h) (by simpa using h9)
      · simpa using h2 (by simpa using h)
    · have hx' : p x = false := by simpa using hx
      rw [List.takeWhile_cons_of_neg hx]
      exact ⟨fun i h h9 => by simp at h9, fun h => by simpa using hx'⟩
theorem firstU_low {ps : List PostV} {u : Nat} {t : Int} (j : Nat) (hj : j < ps.length) (h1 : u ≤ j) (h2 : j < firstU ps u t) : ps[j].doc < t := by
  obtain ⟨i, rfl⟩ : ∃ i, j = u + i := ⟨j - u, by omega⟩
  unfold firstU at h2
  have h3 := (takeW_spec (fun p : PostV => decide (p.doc < t)) (ps.drop u)).1 i (by rw [List.length_drop]; omega) (by omega)
  rw [List.getElem_drop] at h3
  exact of_decide_eq_true h3
theorem firstU_stop {ps : List PostV} {u : Nat} {t : Int} (h : firstU ps u t < ps.length) : ¬ (ps[firstU ps u t]).doc < t := by
  have h3 := (takeW_spec (fun p : PostV => decide (p.doc < t)) (ps.drop u)).2 (by
    rw [List.length_drop]
    unfold firstU at h
    omega)
  rw [List.getElem_drop] at h3
  exact of_decide_eq_false h3
/-- The place behind Advance. -/
def advU (ps : List PostV) (u : Nat) (t : Int) : Nat := if stayU ps u t then u else firstU ps u t + 1
theorem advU_in {ps : List PostV} {u : Nat} (t : Int) (hu : u ≤ ps.length + 1) : u ≤ advU ps u t ∧ advU ps u t ≤ ps.length + 1 := by
  unfold advU
  split
  · omega
  · rename_i h
    unfold stayU at h
    have h1 := firstU_ge ps u t
    have h2 := firstU_le t (show u ≤ ps.length by omega)
    omega
theorem scan_go {ps : List PostV} (ok : okV (-1) ps) {u v : Nat} {t : Int} (hu : u ≤ ps.length + 1) (h1 : u ≤ v) (h2 : v < advU ps u t) : docU ps v < t ∧ docU ps v ≠ 2147483647 ∧ v ≤ ps.length := by
  unfold advU at h2
  split at h2
  · omega
  · rename_i h
    unfold stayU at h
    have h3 := firstU_le t (show u ≤ ps.length by omega)
    by_cases e : v = u
    · subst e
      refine ⟨by omega, ?_, by omega⟩
      unfold docU
      split
      · decide
      · split
        · rename_i h4 h5
          have := okV_doc ok _ h5
          omega
        · omega
    · obtain ⟨j, rfl⟩ : ∃ j, v = j + 1 := ⟨v - 1, by omega⟩
      have hj : j < ps.length := by omega
      rw [docU_at hj]
      have := okV_doc ok j hj
      have hlow := firstU_low (u := u) (t := t) j hj (by omega) (by omega)
      exact ⟨hlow, by omega, by omega⟩
theorem scan_end {ps : List PostV} {u : Nat} {t : Int} (hu : u ≤ ps.length + 1) : ¬ docU ps (advU ps u t) < t ∨ docU ps (advU ps u t) = 2147483647 := by
  unfold advU
  split
  · rename_i h
    unfold stayU at h
    rcases h with h | h
    · exact .inl (by omega)
    · exact .inr (docU_end (by omega))
  · by_cases hq : firstU ps u t < ps.length
    · rw [docU_at hq]; exact .inl (firstU_stop hq)
    · exact .inr (docU_end (by omega))
/-! ### Moves -/
def ptU (ps : List PostV) (u : Nat) : Nat := totalV (ps.take u)
theorem ptU_mono (ps : List PostV) {u v : Nat} (h : u ≤ v) : ptU ps u ≤ ptU ps v := by
  unfold ptU
  have h1 := totalV_split (ps.take v) u
  rw [List.take_take, Nat.min_eq_left h] at h1
  omega
theorem ptU_le (ps : List PostV) (u : Nat) : ptU ps u ≤ totalV ps := by
  unfold ptU
  have := totalV_split ps u
  omega
theorem ptU_pos {ps : List PostV} {u : Nat} (h : posU ps u ≠ []) : ptU ps (u - 1) + (posU ps u).length = ptU ps u := by
  unfold posU at h ⊢
  by_cases h0 : u = 0
  · rw [if_pos h0] at h; exact absurd rfl h
  · rw [if_neg h0] at h ⊢
    by_cases h1 : u - 1 < ps.length
    · rw [dif_pos h1] at h ⊢
      unfold ptU
      have h2 := totalV_take ps (u - 1) h1
      rw [show u - 1 + 1 = u by omega] at h2
      omega
    · rw [dif_neg h1] at h; exact absurd rfl h
/-- How many moves a cursor at u can have made. -/
def capU (ps : List PostV) (u : Nat) (told : Bool) : Nat := 2 * min u ps.length + (if u = ps.length + 1 then 1 else 0) + if told = true then ptU ps u else ptU ps (u - 1)
theorem capU_le (ps : List PostV) {u : Nat} (hu : u ≤ ps.length + 1) (told : Bool) : capU ps u told ≤ 2 * ps.length + 1 + totalV ps := by
  unfold capU
  have h1 := ptU_le ps u
  have h2 := ptU_le ps (u - 1)
  split <;> split <;> omega
theorem capU_max (ps : List PostV) (u : Nat) (told : Bool) : capU ps u told ≤ 2 * min u ps.length + (if u = ps.length + 1 then 1 else 0) + ptU ps u := by
  unfold capU
  have := ptU_mono ps (show u - 1 ≤ u by omega)
  have h2 : (if told = true then ptU ps u else ptU ps (u - 1)) ≤ ptU ps u := by split <;> omega
  exact Nat.add_le_add_left h2 _
theorem capU_to {ps : List PostV} {u q : Nat} {mv : Nat} {told : Bool} (h : mv ≤ capU ps u told) (hu : u ≤ q) (hq : q ≤ ps.length) : mv + costU u q ps.length ≤ capU ps (q + 1) false := by
  have h1 := capU_max ps u told
  have h2 := ptU_mono ps hu
  unfold capU
  simp only [Nat.add_sub_cancel]
  rw [if_neg (show ¬ (false = true) by decide)]
  rw [if_neg (show ¬ u = ps.length + 1 by omega)] at h1
  by_cases e : q = ps.length
  · have h3 := costU_fin (show u ≤ ps.length by omega)
    rw [e] at h2 ⊢
    rw [if_pos rfl]
    omega
  · have h3 := costU_move hu (show q < ps.length by omega)
    rw [if_neg (by omega)]
    omega
theorem capU_adv {ps : List PostV} {u : Nat} {mv : Nat} {told : Bool} (h : mv ≤ capU ps u told) (hu : u ≤ ps.length + 1) (t : Int) : (if stayU ps u t then mv else mv + costU u (firstU ps u t) ps.length) ≤ capU ps (if stayU ps u t then u else firstU ps u t + 1) (if stayU ps u t then told else false) := by
  split
  · exact h
  · rename_i h9
    unfold stayU at h9
    exact capU_to h (firstU_ge ps u t) (firstU_le t (by omega))
theorem capU_next {ps : List PostV} {u : Nat} {mv : Nat} {told : Bool} (h : mv ≤ capU ps u told) (hu : u ≤ ps.length + 1) : (if u = ps.length + 1 then mv else mv + costU u u ps.length) ≤ capU ps (if u = ps.length + 1 then u else u + 1) (if u = ps.length + 1 then told else false) := by
  split
  · exact h
  · exact capU_to h (Nat.le_refl _) (by omega)
theorem capU_posi {ps : List PostV} {u : Nat} {mv : Nat} {told : Bool} (h : mv ≤ capU ps u told) : (if posU ps u = [] ∨ told = true then mv else mv + (posU ps u).length) ≤ capU ps u (if posU ps u = [] then told else true) := by
  by_cases h1 : posU ps u = []
  · rw [if_pos (.inl h1), if_pos h1]; exact h
  · rw [if_neg h1]
    have h2 := ptU_pos h1
    unfold capU at h ⊢
    rw [if_pos (show true = true from rfl)]
    cases told with
    | true => rw [if_pos (.inr rfl)]; rw [if_pos rfl] at h; exact h
    | false =>
      rw [if_neg (by rintro (h9 | h9); exact h1 h9; cases h9)]
      rw [if_neg (show ¬ (false = true) by decide)] at h
      omega
end Go.Proofs.YtaijepjhmjjecaaDoor

/- cursor: two cursors over one list, their calls (for CursorScan). -/
namespace Go.Proofs.YtaijepjhmjjecaaDoor
set_option linter.unusedVariables false
open Go.ChangeShapes Go.WideShapes Go.ChangeAt Go.RowKit

/-- One cursor, its moves bounded, what lies below b0 as it was. -/
structure Sc1 (w X : World) (b0 base q : Nat) (lp : Value) (ps : List PostV) (IM : List UInt8) (u m : Nat) (t : Bool) : Prop where
  cur : CurAt X base q lp ps IM u m t
  cap : m ≤ capU ps u t
  bel : Below b0 w X
  hb : b0 ≤ base
  bz : base ≤ X.heap.size
  wz : b0 ≤ w.heap.size
theorem Sc1.hq {w X : World} {b0 base q : Nat} {lp : Value} {ps : List PostV} {IM : List UInt8} {u m : Nat} {t : Bool} (h : Sc1 w X b0 base q lp ps IM u m t) : b0 ≤ q ∧ q < X.heap.size := by
  obtain ⟨_, _, h1⟩ := h.cur
  exact ⟨Nat.le_trans h.hb h1.hq, lt_of_heap h1.blk⟩
theorem Sc1.moved {w X X' : World} {b0 base q : Nat} {lp : Value} {ps : List PostV} {IM : List UInt8} {u m u' m' : Nat} {t t' : Bool} (h : Sc1 w X b0 base q lp ps IM u m t) (e : Eff (· = q) X X') (hc : CurAt X' base q lp ps IM u' m' t') (hm : m' ≤ capU ps u' t') : Sc1 w X' b0 base q lp ps IM u' m' t' :=
  ⟨hc, hm, h.bel.trans (eff_below e h.hq.1 (Nat.le_trans h.wz h.bel.size)), h.hb, Nat.le_trans h.bz e.size, h.wz⟩
theorem Sc1.other {w X X' : World} {b0 base q q2 base2 : Nat} {lp lp2 : Value} {ps ps2 : List PostV} {IM IM2 : List UInt8} {u m u2 m2 : Nat} {t t2 : Bool} (h : Sc1 w X b0 base q lp ps IM u m t) (h2 : Sc1 w X b0 base2 q2 lp2 ps2 IM2 u2 m2 t2) (hne : q ≠ q2) (e : Eff (· = q2) X X') : Sc1 w X' b0 base q lp ps IM u m t := by
  obtain ⟨cs, hq2⟩ := h2.cur.blk
  exact ⟨h.cur.effT e (by rintro k rfl; exact ⟨cs, _, _, hq2, .inl rfl⟩) hne, h.cap, h.bel.trans (eff_below e h2.hq.1 (Nat.le_trans h.wz h.bel.size)), h.hb, Nat.le_trans h.bz e.size, h.wz⟩
theorem Sc1.below {w X X' : World} {b0 base q : Nat} {lp : Value} {ps : List PostV} {IM : List UInt8} {u m : Nat} {t : Bool} (h : Sc1 w X b0 base q lp ps IM u m t) (hb : Below X.heap.size X X') : Sc1 w X' b0 base q lp ps IM u m t :=
  ⟨h.cur.below hb (Nat.le_refl _), h.cap, h.bel.trans (hb.mono (Nat.le_trans h.wz h.bel.size)), h.hb, Nat.le_trans h.bz hb.size, h.wz⟩
theorem Sc1.small {w X : World} {b0 base q : Nat} {lp : Value} {ps : List PostV} {IM : List UInt8} {u m : Nat} {t : Bool} (h : Sc1 w X b0 base q lp ps IM u m t) (hT : totalV ps ≤ 20000000) : m ≤ 1000000000000000 ∧ u ≤ ps.length + 1 ∧ m ≤ 2 * ps.length + 1 + totalV ps := by
  obtain ⟨h1, -, h3⟩ := h.cur.lens
  have h4 := h.cap
  have h5 := capU_le ps h3 t
  omega
theorem Sc1.doc {w X : World} {b0 base q : Nat} {lp : Value} {ps : List PostV} {IM : List UInt8} {u m : Nat} {t : Bool} (h : Sc1 w X b0 base q lp ps IM u m t) :
    Calls Tryd.prog 30 #[.pointer (some ⟨q, 0, none⟩)] X fun e X' => e = .returned (.int .i64 (docU ps u)) ∧ X = X' := by
  obtain ⟨bk, rv, h1⟩ := h.cur
  exact docB_any X base q lp ps IM _ u m t bk rv h1
theorem Sc1.mov {w X : World} {b0 base q : Nat} {lp : Value} {ps : List PostV} {IM : List UInt8} {u m : Nat} {t : Bool} (h : Sc1 w X b0 base q lp ps IM u m t) :
    Calls Tryd.prog 29 #[.pointer (some ⟨q, 0, none⟩)] X fun e X' => e = .returned (.int .i64 (m : Nat)) ∧ X = X' := by
  obtain ⟨bk, rv, h1⟩ := h.cur
  exact movB_any X base q lp ps IM _ u m t bk rv h1
theorem Sc1.adv {w X : World} {b0 base q : Nat} {lp : Value} {ps : List PostV} {IM : List UInt8} {u m : Nat} {t : Bool} (h : Sc1 w X b0 base q lp ps IM u m t) (hT : totalV ps ≤ 20000000) (T : Int) (EA : Nat → Addr) (hS : Sent6 X EA) :
    Calls Tryd.prog 34 #[.pointer (some ⟨q, 0, none⟩), .int .i64 T] X fun e X' => e = .returned (.int .i64 (docU ps (advU ps u T))) ∧ (∃ m' t', Sc1 w X' b0 base q lp ps IM (advU ps u T) m' t' ∧ m ≤ m') ∧ Eff (· = q) X X' := by
  have hs := h.small hT
  refine (adv_any X base q lp ps IM u m t h.cur h.bz hs.1 T EA hS).mono fun e X' hp => ?_
  obtain ⟨rfl, hc, he⟩ := hp
  refine ⟨rfl, ⟨_, _, h.moved he hc (capU_adv h.cap hs.2.1 T), ?_⟩, he⟩
  split <;> omega
theorem Sc1.next {w X : World} {b0 base q : Nat} {lp : Value} {ps : List PostV} {IM : List UInt8} {u m : Nat} {t : Bool} (h : Sc1 w X b0 base q lp ps IM u m t) (hT : totalV ps ≤ 20000000) (hu : u ≤ ps.length) (EA : Nat → Addr) (hS : Sent6 X EA) :
    Calls Tryd.prog 16 #[.pointer (some ⟨q, 0, none⟩)] X fun e X' => e = .returned (.int .i64 (docU ps (u + 1))) ∧ (∃ m' t', Sc1 w X' b0 base q lp ps IM (u + 1) m' t') ∧ Eff (· = q) X X' := by
  have hs := h.small hT
  have C := next_any X base q lp ps IM u m t h.cur h.bz hs.1 EA hS
  have hk := capU_next h.cap hs.2.1
  rw [if_neg (show ¬ u = ps.length + 1 by omega), if_neg (show ¬ u = ps.length + 1 by omega), if_neg (show ¬ u = ps.length + 1 by omega)] at C hk
  refine C.mono fun e X' hp => ?_
  obtain ⟨rfl, hc, he⟩ := hp
  exact ⟨rfl, ⟨_, _, h.moved he hc hk⟩, he⟩
theorem Sc1.stay {w X : World} {b0 base q : Nat} {lp : Value} {ps : List PostV} {IM : List UInt8} {u m : Nat} {t : Bool} (h : Sc1 w X b0 base q lp ps IM u m t) (hT : totalV ps ≤ 20000000) (hu : u = ps.length + 1) (EA : Nat → Addr) (hS : Sent6 X EA) :
    Calls Tryd.prog 16 #[.pointer (some ⟨q, 0, none⟩)] X fun e X' => e = .returned (.int .i64 2147483647) ∧ Sc1 w X' b0 base q lp ps IM u m t ∧ Eff (· = q) X X' := by
  have hs := h.small hT
  have C := next_any X base q lp ps IM u m t h.cur h.bz hs.1 EA hS
  rw [if_pos hu, if_pos hu, if_pos hu, docU_end (show ps.length < u by omega)] at C
  refine C.mono fun e X' hp => ?_
  obtain ⟨rfl, hc, he⟩ := hp
  exact ⟨rfl, h.moved he hc h.cap, he⟩
theorem Sc1.freq {w X : World} {b0 base q : Nat} {lp : Value} {ps : List PostV} {IM : List UInt8} {u m : Nat} {t : Bool} (h : Sc1 w X b0 base q lp ps IM u m t) (EA : Nat → Addr) (hS : Sent6 X EA) :
    Calls Tryd.prog 17 #[.pointer (some ⟨q, 0, none⟩)] X fun e X' => e = .returned (.int .i64 ((posU ps u).length : Nat)) ∧ Sc1 w X' b0 base q lp ps IM u m t ∧ Eff (· = q) X X' := by
  refine (freq_any X base q lp ps IM u m t h.cur h.bz EA hS).mono fun e X' hp => ?_
  obtain ⟨rfl, hc, he⟩ := hp
  exact ⟨rfl, h.moved he hc h.cap, he⟩
theorem Sc1.posi {w X : World} {b0 base q : Nat} {lp : Value} {ps : List PostV} {IM : List UInt8} {u m : Nat} {t : Bool} (h : Sc1 w X b0 base q lp ps IM u m t) (hT : totalV ps ≤ 20000000) (EA : Nat → Addr) (hS : Sent6 X EA) :
    Calls Tryd.prog 19 #[.pointer (some ⟨q, 0, none⟩)] X fun e X' => ∃ v, e = .returned v ∧ Own X' X.heap.size 3 v (intL (posU ps u)) ∧ (∃ m' t', Sc1 w X' b0 base q lp ps IM u m' t') ∧ Eff (· = q) X X' := by
  have hs := h.small hT
  refine (posi_any X base q lp ps IM u m t h.cur h.bz hs.1 EA hS).mono fun e X' hp => ?_
  obtain ⟨v, rfl, ho, hc, he⟩ := hp
  exact ⟨v, rfl, ho, ⟨_, _, h.moved he hc (capU_posi h.cap)⟩, he⟩
/-- Two of them. -/
def Sc2 (w X : World) (b0 b1 q1 b2 q2 : Nat) (l1 l2 : Value) (ps : List PostV) (IM : List UInt8) (u1 m1 u2 : Nat) : Prop :=
  (∃ t1, Sc1 w X b0 b1 q1 l1 ps IM u1 m1 t1) ∧ (∃ m2 t2, Sc1 w X b0 b2 q2 l2 ps IM u2 m2 t2) ∧ q1 ≠ q2
theorem Sc2.bel {w X : World} {b0 b1 q1 b2 q2 : Nat} {l1 l2 : Value} {ps : List PostV} {IM : List UInt8} {u1 m1 u2 : Nat} (h : Sc2 w X b0 b1 q1 b2 q2 l1 l2 ps IM u1 m1 u2) : Below b0 w X ∧ u1 ≤ ps.length + 1 ∧ u2 ≤ ps.length + 1 := by
  obtain ⟨⟨t1, h1⟩, ⟨m2, t2, h2⟩, h3⟩ := h
  exact ⟨h1.bel, h1.cur.lens.2.2, h2.cur.lens.2.2⟩
theorem Sc2.below {w X X' : World} {b0 b1 q1 b2 q2 : Nat} {l1 l2 : Value} {ps : List PostV} {IM : List UInt8} {u1 m1 u2 : Nat} (h : Sc2 w X b0 b1 q1 b2 q2 l1 l2 ps IM u1 m1 u2) (hb : Below X.heap.size X X') : Sc2 w X' b0 b1 q1 b2 q2 l1 l2 ps IM u1 m1 u2 := by
  obtain ⟨⟨t1, h1⟩, ⟨m2, t2, h2⟩, h3⟩ := h
  exact ⟨⟨t1, h1.below hb⟩, ⟨m2, t2, h2.below hb⟩, h3⟩
section
variable {w X : World} {b0 b1 q1 b2 q2 : Nat} {l1 l2 : Value} {ps : List PostV} {IM : List UInt8} {u1 m1 u2 : Nat}
theorem Sc2.doc1 (h : Sc2 w X b0 b1 q1 b2 q2 l1 l2 ps IM u1 m1 u2) : Calls Tryd.prog 30 #[.pointer (some ⟨q1, 0, none⟩)] X fun e X' => e = .returned (.int .i64 (docU ps u1)) ∧ X = X' := by
  obtain ⟨⟨t1, h1⟩, -⟩ := h
  exact h1.doc
theorem Sc2.doc2 (h : Sc2 w X b0 b1 q1 b2 q2 l1 l2 ps IM u1 m1 u2) : Calls Tryd.prog 30 #[.pointer (some ⟨q2, 0, none⟩)] X fun e X' => e = .returned (.int .i64 (docU ps u2)) ∧ X = X' := by
  obtain ⟨-, ⟨m2, t2, h2⟩, -⟩ := h
  exact h2.doc
theorem Sc2.mov1 (h : Sc2 w X b0 b1 q1 b2 q2 l1 l2 ps IM u1 m1 u2) : Calls Tryd.prog 29 #[.pointer (some ⟨q1, 0, none⟩)] X fun e X' => e = .returned (.int .i64 (m1 : Nat)) ∧ X = X' := by
  obtain ⟨⟨t1, h1⟩, -⟩ := h
  exact h1.mov
theorem Sc2.adv1 (h : Sc2 w X b0 b1 q1 b2 q2 l1 l2 ps IM u1 m1 u2) (hT : totalV ps ≤ 20000000) (T : Int) (EA : Nat → Addr) (hS : Sent6 X EA) :
    Calls Tryd.prog 34 #[.pointer (some ⟨q1, 0, none⟩), .int .i64 T] X fun e X' => e = .returned (.int .i64 (docU ps (advU ps u1 T))) ∧ ∃ m', Sc2 w X' b0 b1 q1 b2 q2 l1 l2 ps IM (advU ps u1 T) m' u2 ∧ m1 ≤ m' := by
  obtain ⟨⟨t1, h1⟩, ⟨m2, t2, h2⟩, h3⟩ := h
  refine (h1.adv hT T EA hS).mono fun e X' hp => ?_
  obtain ⟨rfl, ⟨m', t', h4, h5⟩, he⟩ := hp
  exact ⟨rfl, m', ⟨⟨t', h4⟩, ⟨m2, t2, h2.other h1 (Ne.symm h3) he⟩, h3⟩, h5⟩
theorem Sc2.next2 (h : Sc2 w X b0 b1 q1 b2 q2 l1 l2 ps IM u1 m1 u2) (hT : totalV ps ≤ 20000000) (hu : u2 ≤ ps.length) (EA : Nat → Addr) (hS : Sent6 X EA) :
    Calls Tryd.prog 16 #[.pointer (some ⟨q2, 0, none⟩)] X fun e X' => e = .returned (.int .i64 (docU ps (u2 + 1))) ∧ Sc2 w X' b0 b1 q1 b2 q2 l1 l2 ps IM u1 m1 (u2 + 1) := by
  obtain ⟨⟨t1, h1⟩, ⟨m2, t2, h2⟩, h3⟩ := h
  refine (h2.next hT hu EA hS).mono fun e X' hp => ?_
  obtain ⟨rfl, ⟨m', t', h4⟩, he⟩ := hp
  exact ⟨rfl, ⟨t1, h1.other h2 h3 he⟩, ⟨m', t', h4⟩, h3⟩
theorem Sc2.freq1 (h : Sc2 w X b0 b1 q1 b2 q2 l1 l2 ps IM u1 m1 u2) (EA : Nat → Addr) (hS : Sent6 X EA) :
    Calls Tryd.prog 17 #[.pointer (some ⟨q1, 0, none⟩)] X fun e X' => e = .returned (.int .i64 ((posU ps u1).length : Nat)) ∧ Sc2 w X' b0 b1 q1 b2 q2 l1 l2 ps IM u1 m1 u2 ∧ Eff (· = q1) X X' := by
  obtain ⟨⟨t1, h1⟩, ⟨m2, t2, h2⟩, h3⟩ := h
  refine (h1.freq EA hS).mono fun e X' hp => ?_
  obtain ⟨rfl, h4, he⟩ := hp
  exact ⟨rfl, ⟨⟨t1, h4⟩, ⟨m2, t2, h2.other h1 (Ne.symm h3) he⟩, h3⟩, he⟩
theorem Sc2.freq2 (h : Sc2 w X b0 b1 q1 b2 q2 l1 l2 ps IM u1 m1 u2) (EA : Nat → Addr) (hS : Sent6 X EA) :
    Calls Tryd.prog 17 #[.pointer (some ⟨q2, 0, none⟩)] X fun e X' => e = .returned (.int .i64 ((posU ps u2).length : Nat)) ∧ Sc2 w X' b0 b1 q1 b2 q2 l1 l2 ps IM u1 m1 u2 ∧ Eff (· = q2) X X' := by
  obtain ⟨⟨t1, h1⟩, ⟨m2, t2, h2⟩, h3⟩ := h
  refine (h2.freq EA hS).mono fun e X' hp => ?_
  obtain ⟨rfl, h4, he⟩ := hp
  exact ⟨rfl, ⟨⟨t1, h1.other h2 h3 he⟩, ⟨m2, t2, h4⟩, h3⟩, he⟩
theorem Sc2.posi1 (h : Sc2 w X b0 b1 q1 b2 q2 l1 l2 ps IM u1 m1 u2) (hT : totalV ps ≤ 20000000) (EA : Nat → Addr) (hS : Sent6 X EA) :
    Calls Tryd.prog 19 #[.pointer (some ⟨q1, 0, none⟩)] X fun e X' => ∃ v, e = .returned v ∧ Own X' X.heap.size 3 v (intL (posU ps u1)) ∧ (∃ m', Sc2 w X' b0 b1 q1 b2 q2 l1 l2 ps IM u1 m' u2) ∧ Eff (· = q1) X X' ∧ q1 < X.heap.size := by
  obtain ⟨⟨t1, h1⟩, ⟨m2, t2, h2⟩, h3⟩ := h
  refine (h1.posi hT EA hS).mono fun e X' hp => ?_
  obtain ⟨v, rfl, ho, ⟨m', t', h4⟩, he⟩ := hp
  exact ⟨v, rfl, ho, ⟨m', ⟨t', h4⟩, ⟨m2, t2, h2.other h1 (Ne.symm h3) he⟩, h3⟩, he, h1.hq.2⟩
theorem Sc2.posi2 (h : Sc2 w X b0 b1 q1 b2 q2 l1 l2 ps IM u1 m1 u2) (hT : totalV ps ≤ 20000000) (EA : Nat → Addr) (hS : Sent6 X EA) :
    Calls Tryd.prog 19 #[.pointer (some ⟨q2, 0, none⟩)] X fun e X' => ∃ v, e = .returned v ∧ Own X' X.heap.size 3 v (intL (posU ps u2)) ∧ Sc2 w X' b0 b1 q1 b2 q2 l1 l2 ps IM u1 m1 u2 ∧ Eff (· = q2) X X' ∧ q2 < X.heap.size := by
  obtain ⟨⟨t1, h1⟩, ⟨m2, t2, h2⟩, h3⟩ := h
  refine (h2.posi hT EA hS).mono fun e X' hp => ?_
  obtain ⟨v, rfl, ho, ⟨m', t', h4⟩, he⟩ := hp
  exact ⟨v, rfl, ho, ⟨⟨t1, h1.other h2 h3 he⟩, ⟨m', t', h4⟩, h3⟩, he, h2.hq.2⟩
theorem Sc2.pos (h : Sc2 w X b0 b1 q1 b2 q2 l1 l2 ps IM u1 m1 u2) (u : Nat) : (posU ps u).length ≤ 100000000 := by
  obtain ⟨⟨t1, h1⟩, -⟩ := h
  exact posU_le h1.cur.lens.2.1 u
theorem own_cur1 (hs : Sc2 w X b0 b1 q1 b2 q2 l1 l2 ps IM u1 m1 u2) {X' : World} {base : Nat} {v : Value} {xs : List Value} (h : Own X base 3 v xs) (e : Eff (· = q1) X X') : Own X' base 3 v xs := by
  obtain ⟨⟨t1, h1⟩, -⟩ := hs
  obtain ⟨cs, hq⟩ := h1.cur.blk
  exact h.eff e (fun k hk e9 => h.ne_type (e9 ▸ hq) (by decide) hk)
theorem own_cur2 (hs : Sc2 w X b0 b1 q1 b2 q2 l1 l2 ps IM u1 m1 u2) {X' : World} {base : Nat} {v : Value} {xs : List Value} (h : Own X base 3 v xs) (e : Eff (· = q2) X X') : Own X' base 3 v xs := by
  obtain ⟨-, ⟨m2, t2, h2⟩, -⟩ := hs
  obtain ⟨cs, hq⟩ := h2.cur.blk
  exact h.eff e (fun k hk e9 => h.ne_type (e9 ▸ hq) (by decide) hk)
end
/-- A row of own under a cursor's block. -/
theorem own_curq {w w' : World} {base q : Nat} {v : Value} {xs : List Value} (h : Own w base 3 v xs) (e : Eff (· = q) w w') (hq : q < base) : Own w' base 3 v xs :=
  h.eff e (fun k hk e9 => by have := (h.lt k hk).1; omega)
end Go.Proofs.YtaijepjhmjjecaaDoor

/- CursorMemory: the positions that are kept: a row of lists, each in a block of its own. -/
namespace Go.Proofs.YtaijepjhmjjecaaDoor
set_option linter.unusedVariables false
open Go.ChangeShapes Go.WideShapes Go.ChangeAt Go.RowKit

structure KpS (wr : World) (B N : Nat) (v : Value) (vs : Nat → Value) (ys : Nat → List Int) : Prop where
  top : Own wr B 23 v ((List.range N).map vs)
  ow : OwnLI wr B N vs ys
theorem KpS.nil (wr : World) (B : Nat) (vs : Nat → Value) (ys : Nat → List Int) : KpS wr B 0 (.slice none 0 0) vs ys :=
  ⟨own_nil _ _ _, ⟨fun k hk => absurd hk (Nat.not_lt_zero _), fun k l b hk => absurd hk (Nat.not_lt_zero _)⟩⟩
theorem KpS.below {wr w' : World} {B N B' : Nat} {v : Value} {vs : Nat → Value} {ys : Nat → List Int} (h : KpS wr B N v vs ys) (hb : Below B' wr w') (hB : wr.heap.size ≤ B') : KpS w' B N v vs ys :=
  ⟨h.top.below hb hB, ⟨fun k hk => (h.ow.own k hk).below hb hB, h.ow.sep⟩⟩
/-- Under a cursor's own change. -/
theorem KpS.cur {wr w' : World} {B N q : Nat} {v : Value} {vs : Nat → Value} {ys : Nat → List Int} {cs : Array Value} {fr : Nat × Nat} (h : KpS wr B N v vs ys) (e : Eff (· = q) wr w') (hq : wr.heap[q]? = some (.cells cs 67 fr)) : KpS w' B N v vs ys :=
  ⟨h.top.eff e (fun k hk e9 => h.top.ne_type (e9 ▸ hq) (by decide) hk), ⟨fun k hk => (h.ow.own k hk).eff e (fun b hb e9 => (h.ow.own k hk).ne_type (e9 ▸ hq) (by decide) hb), h.ow.sep⟩⟩
theorem range_map_push {α : Type} (N : Nat) (vs : Nat → α) (x : α) : (List.range (N + 1)).map (fun k => if k < N then vs k else x) = (List.range N).map vs ++ [x] := by
  rw [List.range_succ, List.map_append]
  congr 1
  · exact List.map_congr_left fun k hk => by simp only [if_pos (List.mem_range.1 hk)]
  · simp
/-- A list more among the lists of own (the row not yet). -/
theorem OwnLI.push {wr : World} {B N : Nat} {vs : Nat → Value} {ys : Nat → List Int} (h : OwnLI wr B N vs ys) {x : Value} {y : List Int} (hx : Own wr B 3 x (intL y)) (hsep : ∀ k b, k < N → (vs k).ownBlock = some b → x.ownBlock ≠ some b) :
    OwnLI wr B (N + 1) (fun k => if k < N then vs k else x) (fun k => if k < N then ys k else y) := by
  refine ⟨fun k hk => ?_, fun k l b hk hl hkl hb => ?_⟩
  · by_cases e : k < N
    · simp only [if_pos e]; exact h.own k e
    · simp only [if_neg e]; exact hx
  · by_cases e : k < N
    · simp only [if_pos e] at hb
      by_cases e2 : l < N
      · simp only [if_pos e2]; exact h.sep k l b e e2 hkl hb
      · simp only [if_neg e2]; exact hsep k b e hb
    · simp only [if_neg e] at hb
      by_cases e2 : l < N
      · simp only [if_pos e2]; exact fun h9 => hsep l b e2 h9 hb
      · omega
theorem OwnLI.kept {wr w' : World} {B N B' : Nat} {vs : Nat → Value} {ys : Nat → List Int} (h : OwnLI wr B N vs ys) {v : Value} {xs : List Value} (hv : Own wr B' 23 v xs) (hg : wr.grownBy w' v.ownBlock) : OwnLI w' B N vs ys :=
  ⟨fun k hk => (h.own k hk).kept hg (kept_types (h.own k hk) hv (by decide)), h.sep⟩
/-- One list more. -/
theorem KpS.push {wr w' : World} {B N : Nat} {v v' x : Value} {vs : Nat → Value} {ys : Nat → List Int} {y : List Int} (h : KpS wr B N v vs ys) (hx : Own wr B 3 x (intL y)) (hsep : ∀ k b, k < N → (vs k).ownBlock = some b → x.ownBlock ≠ some b)
    (h1 : Own w' B 23 v' ((List.range N).map vs ++ [x])) (hg : wr.grownBy w' v.ownBlock) : KpS w' B (N + 1) v' (fun k => if k < N then vs k else x) (fun k => if k < N then ys k else y) :=
  ⟨by rw [range_map_push]; exact h1, (h.ow.push hx hsep).kept h.top hg⟩
/-- Two lists more. -/
theorem KpS.push2 {wr w' : World} {B N : Nat} {v v' x1 x2 : Value} {vs : Nat → Value} {ys : Nat → List Int} {y1 y2 : List Int} (h : KpS wr B N v vs ys) (hx1 : Own wr B 3 x1 (intL y1)) (hx2 : Own wr B 3 x2 (intL y2)) (hs1 : ∀ k b, k < N → (vs k).ownBlock = some b → x1.ownBlock ≠ some b) (hs2 : ∀ k b, k < N → (vs k).ownBlock = some b → x2.ownBlock ≠ some b) (h12 : ∀ b, x1.ownBlock = some b → x2.ownBlock ≠ some b)
    (h1 : Own w' B 23 v' ((List.range N).map vs ++ [x1, x2])) (hg : wr.grownBy w' v.ownBlock) : ∃ vs' ys', KpS w' B (N + 2) v' vs' ys' ∧ (∀ k, k < N → vs' k = vs k ∧ ys' k = ys k) ∧ vs' N = x1 ∧ vs' (N + 1) = x2 ∧ ys' N = y1 ∧ ys' (N + 1) = y2 := by
  have ha := h.ow.push hx1 hs1
  have hb := ha.push (x := x2) (y := y2) hx2 (fun k b hk hb h9 => by
    by_cases e : k < N
    · simp only [if_pos e] at hb; exact hs2 k b e hb h9
    · simp only [if_neg e] at hb; exact h12 b hb h9)
  refine ⟨_, _, ⟨?_, hb.kept h.top hg⟩, fun k hk => ?_, ?_, ?_, ?_, ?_⟩
  · rw [range_map_push, range_map_push, List.append_assoc]; exact h1
  · simp [hk, Nat.lt_succ_of_lt hk]
  · simp
  · simp
  · simp
  · simp
theorem KpS.go {w X X' : World} {base q u m : Nat} {lp : Value} {ps : List PostV} {IM : List UInt8} (h : GoS w X base q lp ps IM u m) {B N : Nat} {v : Value} {vs : Nat → Value} {ys : Nat → List Int} (hk : KpS X B N v vs ys) (e : Eff (· = q) X X') : KpS X' B N v vs ys := by
  obtain ⟨_, _, hc, _⟩ := h.cur
  obtain ⟨cs, hq⟩ := hc.blk
  exact hk.cur e hq
end Go.Proofs.YtaijepjhmjjecaaDoor

/- CursorMemory: a cursor beside a row of lists that grows; Open of whatever is taken. -/
namespace Go.Proofs.YtaijepjhmjjecaaDoor
set_option linter.unusedVariables false
open Go.ChangeShapes Go.WideShapes Go.ChangeAt Go.RowKit

theorem own_typed {w : World} {B : Nat} {t : TypeId} {v : Value} {xs : List Value} (h : Own w B t v xs) {k : Nat} (hk : v.ownBlock = some k) : ∃ cs fr, w.heap[k]? = some (.cells cs t fr) := by
  rcases h with ⟨rfl, _⟩ | ⟨g, cap, cur, rfl, _, hh, _⟩
  · simp [Value.ownBlock] at hk
  · have e : g = k := by simpa [Value.ownBlock] using hk
    subst e
    exact ⟨_, _, hh⟩
/-- A cursor under a change of blocks of lists of lists alone. -/
theorem CurAt.effI {F : Nat → Prop} {w w' : World} {base q : Nat} {lp : Value} {ps : List PostV} {IM : List UInt8} {u mv : Nat} {told : Bool} (h : CurAt w base q lp ps IM u mv told) (e : Eff F w w') (hF : ∀ k, F k → ∃ cs fr, w.heap[k]? = some (.cells cs 23 fr)) : CurAt w' base q lp ps IM u mv told := by
  obtain ⟨bk, rv, h⟩ := h
  refine ⟨bk, rv, (e.block q (lt_of_heap h.blk) (fun f => ?_)).trans h.blk, h.hq, h.lo, h.hu, ?_, ?_, h.sl⟩
  · obtain ⟨cs, fr, h9⟩ := hF q f
    exact absurd (heap_type h.blk h9) (by decide)
  · rcases h.ls with h9 | ⟨p, im, sa, sc, h1, h2, h3⟩
    · exact .inl h9
    · refine .inr ⟨p, im, sa, sc, h1, ⟨(e.block p (lt_of_heap h2.blk) (fun f => ?_)).trans h2.blk, h2.hp, h2.img.eff e (fun k hk f => ?_), h2.sk.eff e (fun k hk f => ?_)⟩, h3⟩
      · obtain ⟨cs, fr, h9⟩ := hF p f
        exact absurd (heap_type h2.blk h9) (by decide)
      · obtain ⟨cs, fr, h9⟩ := hF k f
        exact h2.img.ne_type h9 (by decide) hk
      · obtain ⟨cs, fr, h9⟩ := hF k f
        exact h2.sk.ne_type h9 (by decide) hk
  · rcases h.rd with h9 | ⟨k, vs, h1, h2, h3⟩
    · exact .inl h9
    · refine .inr ⟨k, vs, h1, h2, h3.eff e (fun b hb f => ?_)⟩
      obtain ⟨cs, fr, h9⟩ := hF b f
      rcases hb with hb | ⟨k, hk, hb⟩
      · exact row_ne_type h3.row h9 (by decide) hb
      · exact (h3.own k hk).ne_type h9 (by decide) hb
theorem GoS.grown {w X X' : World} {base q u m B' : Nat} {lp : Value} {ps : List PostV} {IM : List UInt8} (h : GoS w X base q lp ps IM u m) {v : Value} {xs : List Value} (hv : Own X B' 23 v xs) (hg : X.grownBy X' v.ownBlock) (hB : base ≤ B') : GoS w X' base q lp ps IM u m := by
  obtain ⟨mv, told, h1, h2⟩ := h.cur
  have he : Eff (fun q => v.ownBlock = some q) X X' := (Eff.refl _ X).grown hg (fun q hq _ => hq)
  exact ⟨⟨mv, told, h1.effI he (fun k hk => own_typed hv hk), h2⟩, h.bel.grown hg (Nat.le_trans h.bz h.bel.size) (fun k hk => Nat.le_trans hB (hv.lt k hk).1), h.bz⟩
theorem GoS.mono {w X : World} {base q u m m' : Nat} {lp : Value} {ps : List PostV} {IM : List UInt8} (h : GoS w X base q lp ps IM u m) (hm : m ≤ m') : GoS w X base q lp ps IM u m' := by
  obtain ⟨mv, told, h1, h2⟩ := h.cur
  exact ⟨⟨mv, told, h1, Nat.le_trans h2 hm⟩, h.bel, h.bz⟩
/-- A list that lies below. -/
theorem own_low {w w' : World} {B base : Nat} {t : TypeId} {v : Value} {xs : List Value} (h : Own w B t v xs) (hb : Below base w w') (hl : ∀ k, v.ownBlock = some k → k < base) : Own w' B t v xs := by
  rcases h with h | ⟨g, cap, cur, rfl, h1, hh, r⟩
  · exact .inl h
  · exact .inr ⟨g, cap, cur, rfl, h1, (hb.block g (hl g rfl)).trans hh, r⟩
theorem OwnLI.cut {w : World} {B N : Nat} {vs : Nat → Value} {ys : Nat → List Int} (h : OwnLI w B N vs ys) : OwnLI w B N vs (fun k => if k < N then ys k else []) :=
  ⟨fun k hk => by simp only [if_pos hk]; exact h.own k hk, h.sep⟩
set_option maxRecDepth 100000 in
/-- Open of bytes that are taken, whatever they hold. -/
theorem copen_some (w : World) (a : Option Addr) (nb cb : Nat) (b : List UInt8) (r : OpenR) (ho : openV b = some r) (him : b.length ≤ 1000000000) (hr : Rd w (.slice a nb cb) (bytesV b)) (EA : Nat → Addr) (hS : Sent6 w EA) :
    Calls Tryd.prog 14 #[.slice a nb cb] w fun e w' => (∃ q, e = .returned (.tuple #[.pointer (some ⟨q, 0, none⟩), .nilIface])) ∧ Below w.heap.size w w' := by
  have C1 := open_any w a nb cb b hr him EA hS
  have HOP := Lib.hid ho
  clear hr hS ho
  go_enter Tryd.func14, Tryd.ntmps14
  go_wp2_with fail
  with_reducible refine C1.mono ?_
  rintro e w1 ⟨h1, -, hb1⟩
  clear C1
  obtain ⟨p, im, sv, rfl, hl1⟩ := h1 _ HOP.out
  have C2 := newc_any w1 (.pointer (some ⟨p, 0, none⟩)) ⟨_, rfl⟩
  have HB := Lib.hid (hb1.alloc hb1.size (.cells (curC (-1) 0 (.pointer (some ⟨p, 0, none⟩)) (-1) (-1) (.slice none 0 0) false) 67))
  clear h1 hb1 hl1
  go_wp2_with fail
  with_reducible refine C2.mono ?_
  rintro e w2 ⟨rfl, rfl⟩
  clear C2
  generalize w1.alloc (.cells (curC (-1) 0 (.pointer (some ⟨p, 0, none⟩)) (-1) (-1) (.slice none 0 0) false) 67) = w2 at HB ⊢
  go_wp2
  go_ret2
  exact ⟨⟨_, rfl⟩, HB.out⟩
end Go.Proofs.YtaijepjhmjjecaaDoor
