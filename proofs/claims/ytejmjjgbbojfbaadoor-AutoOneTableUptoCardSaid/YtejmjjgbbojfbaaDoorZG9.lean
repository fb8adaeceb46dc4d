/- Merged: FuzzP, FuzzA. -/
import Derived.Test.YtejmjjgbbojfbaaDoorZG8
import Derived.Test.YtejmjjgbbojfbaaDoorZLev
import Derived.Test.YtejmjjgbbojfbaaDoorZFuzz2
/- A word's machine tells the number of edits. No program occurs here. -/
namespace Go.Proofs.YtejmjjgbbojfbaaDoor
set_option linter.unusedVariables false

theorem snocF {α : Type} {P : List α → Prop} (h0 : P []) (h1 : ∀ l x, P l → P (l ++ [x])) (l : List α) : P l := by
  have h : ∀ l : List α, P l.reverse := fun l => by
    induction l with
    | nil => exact h0
    | cons x l ih => rw [List.reverse_cons]; exact h1 _ _ ih
  rw [← List.reverse_reverse l]; exact h _
def fzOf (w : List UInt8) (m : Nat) (s : List UInt8) : List Nat := s.foldl (stepF w m) (startF w m)
theorem fzOf_snoc (w : List UInt8) (m : Nat) (s : List UInt8) (b : UInt8) : fzOf w m (s ++ [b]) = stepF w m (fzOf w m s) b := by unfold fzOf; rw [List.foldl_append]; rfl
theorem getD_map_range (f : Nat → Nat) (n i : Nat) (h : i < n) : ((List.range n).map f).getD i 0 = f i := by
  rw [List.getD_eq_getElem?_getD, List.getElem?_map, List.getElem?_range h]; rfl
theorem fzOf_length (w : List UInt8) (m : Nat) (s : List UInt8) : (fzOf w m s).length = w.length + 1 := by
  induction s using snocF with
  | h0 => simp [fzOf, startF]
  | h1 l x ih => rw [fzOf_snoc]; simp [stepF]
theorem fzOf_le (w : List UInt8) (m : Nat) (s : List UInt8) : ∀ x ∈ fzOf w m s, x ≤ m + 1 := by
  induction s using snocF with
  | h0 =>
    intro x hx
    obtain ⟨i, _, rfl⟩ := List.mem_map.1 hx
    exact Nat.min_le_right _ _
  | h1 l c ih =>
    rw [fzOf_snoc]
    intro x hx
    obtain ⟨i, _, rfl⟩ := List.mem_map.1 hx
    exact fz_le _ _ _ _ _
theorem fz_lev (w : List UInt8) (m : Nat) (s : List UInt8) : ∀ i, i ≤ w.length → (fzOf w m s).getD i 0 = min (lev (w.take i) s) (m + 1) := by
  induction s using snocF with
  | h0 =>
    intro i hi
    show (startF w m).getD i 0 = _
    unfold startF
    rw [getD_map_range _ _ _ (by omega), lev_nil_right, List.length_take, Nat.min_eq_left hi]
  | h1 s b ih =>
    intro i
    rw [fzOf_snoc]
    unfold stepF
    induction i with
    | zero =>
      intro _
      have h0 := ih 0 (Nat.zero_le _)
      rw [List.take_zero, lev_nil_left] at h0
      rw [getD_map_range _ _ _ (by omega), fz, h0, List.take_zero, lev_nil_left, List.length_append]
      simp only [List.length_singleton]; omega
    | succ i ihi =>
      intro hi
      have h0 := ih i (by omega)
      have h1 := ih (i + 1) hi
      have h2 := ihi (by omega)
      rw [getD_map_range _ _ _ (by omega)] at h2 ⊢
      have ht : w.take (i + 1) = w.take i ++ [w[i]'(by omega)] := by rw [List.take_add_one, List.getElem?_eq_getElem (by omega)]; rfl
      have hg : w.getD i 0 = w[i]'(by omega) := by rw [List.getD_eq_getElem?_getD, List.getElem?_eq_getElem (by omega)]; rfl
      rw [fz, h0, h1, h2, hg, ht, lev_snoc]
      rw [← ht]
      split <;> omega
theorem dead_fz {w : List UInt8} {m : Nat} {D : List Nat} (hl : D.length = w.length + 1) (h : ∀ x ∈ D, m < x) (b : UInt8) : ∀ x ∈ stepF w m D b, m < x := by
  have hD : ∀ i, i ≤ w.length → m < D.getD i 0 := fun i hi => by
    rw [List.getD_eq_getElem?_getD, List.getElem?_eq_getElem (by omega)]
    exact h _ (List.getElem_mem _)
  have key : ∀ i, i ≤ w.length → m < fz w m D b i := fun i => by
    induction i with
    | zero => intro hi; have := hD 0 hi; rw [fz]; omega
    | succ i ih =>
      intro hi
      have h1 := hD i (by omega)
      have h2 := hD (i + 1) hi
      have h3 := ih (by omega)
      rw [fz]; split <;> omega
  intro x hx
  obtain ⟨i, hi, rfl⟩ := List.mem_map.1 hx
  exact key i (by have := List.mem_range.1 hi; omega)
theorem strN_ne {l : List Nat} (h : 0 < l.length) : strN l ≠ ⟨#[]⟩ := fun e => by
  have := congrArg ByteArray.size e
  rw [strN, strOf_size, natB_length] at this
  have h2 : (⟨#[]⟩ : ByteArray).size = 0 := rfl
  omega
theorem run_fz (w : List UInt8) (m : Nat) (hm : m ≤ 2) (s : List UInt8) : (runM (fuzzM w m) s = ⟨#[]⟩ ∧ ∀ x ∈ fzOf w m s, m < x) ∨ (runM (fuzzM w m) s = strN (fzOf w m s)) := by
  induction s using snocF with
  | h0 => exact .inr rfl
  | h1 s b ih =>
    rw [runM_snoc, fzOf_snoc]
    rcases ih with ⟨h1, h2⟩ | h1
    · exact .inl ⟨by rw [h1]; rfl, dead_fz (fzOf_length _ _ _) h2 b⟩
    · rw [h1]
      unfold stepM
      rw [if_neg (strN_ne (by rw [fzOf_length]; omega))]
      show ((if (stepF w m (natsOf (strN (fzOf w m s))) b).any (fun x => decide (x ≤ m)) then strN (stepF w m (natsOf (strN (fzOf w m s))) b) else ⟨#[]⟩) = _ ∧ _) ∨ ((if (stepF w m (natsOf (strN (fzOf w m s))) b).any (fun x => decide (x ≤ m)) then strN (stepF w m (natsOf (strN (fzOf w m s))) b) else ⟨#[]⟩) = _)
      rw [natsOf_strN (fun x hx => by have := fzOf_le w m s x hx; omega)]
      cases hA : (stepF w m (fzOf w m s) b).any (fun x => decide (x ≤ m))
      · refine .inl ⟨by rw [if_neg (by simp)], fun x hx => ?_⟩
        have := List.any_eq_false.1 hA x hx
        simpa using this
      · exact .inr (by rw [if_pos rfl])
theorem acc_fz (w : List UInt8) (m : Nat) (hm : m ≤ 2) (s : List UInt8) : accM (fuzzM w m) s = decide (lev w s ≤ m) := by
  have hl := fz_lev w m s w.length (Nat.le_refl _)
  rw [List.take_length] at hl
  unfold accM
  rcases run_fz w m hm s with ⟨h1, h2⟩ | h1
  · rw [h1]
    have h3 : m < (fzOf w m s).getD w.length 0 := by
      rw [List.getD_eq_getElem?_getD, List.getElem?_eq_getElem (by rw [fzOf_length]; omega)]
      exact h2 _ (List.getElem_mem _)
    rw [decide_eq_false (show ¬ lev w s ≤ m by omega)]
    simp
  · rw [h1, decide_eq_true (strN_ne (by rw [fzOf_length]; omega)), Bool.true_and]
    show decide ((natsOf (strN (fzOf w m s))).getD w.length 0 ≤ m) = _
    rw [natsOf_strN (fun x hx => by have := fzOf_le w m s x hx; omega), hl]
    exact decide_eq_decide.2 (by omega)
theorem alive_acc {M : Mach} {s t : List UInt8} (h : accM M (s ++ t) = true) : aliveM M s = true := by
  unfold accM at h
  unfold aliveM
  have h1 : runM M (s ++ t) ≠ ⟨#[]⟩ := fun e => by rw [e] at h; simp at h
  exact decide_eq_true fun e => h1 (runM_dead M s t e)
end Go.Proofs.YtejmjjgbbojfbaaDoor

/- auto.Fuzzy: the automaton of a word and edits. -/
namespace Go.Proofs.YtejmjjgbbojfbaaDoor
set_option linter.unusedVariables false
open Go.ChangeShapes Go.WideShapes Go.ChangeAt Go.RowKit

theorem startF_len (w : List UInt8) (m : Nat) : (startF w m).length = w.length + 1 := by simp [startF]
theorem stepF_len (w : List UInt8) (m : Nat) (D : List Nat) (b : UInt8) : (stepF w m D b).length = w.length + 1 := by simp [stepF]
theorem startF_le (w : List UInt8) (m : Nat) : ∀ x ∈ startF w m, x ≤ m + 1 := fun x hx => by
  obtain ⟨i, _, rfl⟩ := List.mem_map.1 hx
  exact Nat.min_le_right _ _
theorem stepF_le (w : List UInt8) (m : Nat) (D : List Nat) (b : UInt8) : ∀ x ∈ stepF w m D b, x ≤ m + 1 := fun x hx => by
  obtain ⟨i, _, rfl⟩ := List.mem_map.1 hx
  exact fz_le _ _ _ _ _
theorem fuzzM_auto {w : World} {p : Nat} {s : ByteArray} {m : Nat} (hs : s.size ≤ 1000000000) (hm : m ≤ 2) (hc : w.cell? ⟨p, 0, none⟩ = some (.iface 79 (.agg #[.string s, .int .u8 (m : Nat)]))) : IsAuto w p (fuzzM s.data.toList m) := by
  have hsl : s.data.toList.length = s.size := Array.length_toList (xs := s.data)
  have key : ∀ D : List Nat, (∀ x ∈ D, x ≤ m + 1) → natsOf (strN D) = D := fun D h => natsOf_strN fun x hx => by have := h x hx; omega
  refine ⟨World.block_lt_of_cell? w _ hc, 79, .agg #[.string s, .int .u8 (m : Nat)], 112, 113, 111, fun d => ∃ D : List Nat, D.length = s.size + 1 ∧ (∀ x ∈ D, x ≤ m + 1) ∧ d = strN D, ⟨hc, fun d ⟨D, hD, _, e⟩ => by rw [e]; unfold strN; rw [strOf_size]; simp [natB]; omega⟩, ⟨fun w => by kernel_rfl, fun args w => by kernel_rfl⟩, ⟨fun w => by kernel_rfl, fun args w => by kernel_rfl⟩, ⟨fun w => by kernel_rfl, fun args w => by kernel_rfl⟩,
    fun _ => ⟨startF s.data.toList m, by rw [startF_len, hsl], startF_le _ _, rfl⟩, ?_, ?_⟩
  · rintro d b ⟨D, hD, hb, rfl⟩ _ hne
    refine ⟨stepF s.data.toList m D b, by rw [stepF_len, hsl], stepF_le _ _ _ _, ?_⟩
    show (if (stepF s.data.toList m (natsOf (strN D)) b).any (fun x => decide (x ≤ m)) then strN (stepF s.data.toList m (natsOf (strN D)) b) else ⟨#[]⟩) = _
    have hne' : (if (stepF s.data.toList m (natsOf (strN D)) b).any (fun x => decide (x ≤ m)) then strN (stepF s.data.toList m (natsOf (strN D)) b) else ⟨#[]⟩) ≠ (⟨#[]⟩ : ByteArray) := hne
    rw [key D hb] at hne' ⊢
    split
    · rfl
    · next h => rw [if_neg h] at hne'; exact absurd rfl hne'
  · intro w' _
    refine ⟨fstart_any w' s m hs hm, ?_, ?_⟩
    · rintro d b ⟨D, hD, hb, rfl⟩ _
      refine (fstep_any w' s m hs hm _ D rfl hD hb b).mono fun e w'' ⟨h1, h2⟩ => ⟨?_, h2⟩
      rw [h1]
      show _ = Ending.returned (.string (if (stepF s.data.toList m (natsOf (strN D)) b).any (fun x => decide (x ≤ m)) then strN (stepF s.data.toList m (natsOf (strN D)) b) else ⟨#[]⟩))
      rw [key D hb]; rfl
    · rintro d ⟨D, hD, hb, rfl⟩ _
      refine (facc_any w' s m hs hm _ D rfl hD hb).mono fun e w'' ⟨h1, h2⟩ => ⟨?_, h2⟩
      rw [h1]
      show _ = Ending.returned (.bool (decide ((natsOf (strN D)).getD s.data.toList.length 0 ≤ m)))
      rw [key D hb, hsl]
set_option maxRecDepth 100000 in
theorem fuzzy_ok (w : World) (s : ByteArray) (m : Nat) (hs : s.size ≤ 1000000000) (hm : m ≤ 2) :
    Calls Tryd.prog 14 #[.string s, .int .i64 (m : Nat)] w fun e w' => ∃ p, e = .returned (.tuple #[.pointer (some ⟨p, 0, none⟩), .nilIface]) ∧ w.heap.size ≤ p ∧ IsAuto w' p (fuzzM s.data.toList m) ∧ Below w.heap.size w w' := by
  have hn := heap_alloc_new w (.cells #[.iface 79 (.agg #[.string s, .int .u8 (m : Nat)])] 83)
  have HA := Lib.hid (fuzzM_auto (p := w.heap.size) hs hm (blk_cell hn 0))
  have HB := Lib.hid ((Below.refl w.heap.size w).alloc (Nat.le_refl _) (.cells #[.iface 79 (.agg #[.string s, .int .u8 (m : Nat)])] 83))
  have t1 : decide ((m : Int) < 0) = false := decide_eq_false (by omega)
  have t2 : decide (2 < (m : Int)) = false := decide_eq_false (by omega)
  have t3 : (m : Int) % 256 = (m : Int) := by omega
  clear hn
  go_enter Tryd.func14, Tryd.ntmps14
  go_wp2
  go_ret2
  exact ⟨_, rfl, Nat.le_refl _, HA.out, HB.out⟩
set_option maxRecDepth 100000 in
theorem fuzzy_err (w : World) (s : ByteArray) (n : Int) (hn : n < 0 ∨ 2 < n) (eR : Value) (hR : w.cell? ⟨1, 0, none⟩ = some eR) :
    Calls Tryd.prog 14 #[.string s, .int .i64 n] w fun e w' => e = .returned (.tuple #[.pointer none, eR]) ∧ Below w.heap.size w w' := by
  by_cases h : n < 0
  · clear hn
    go_enter Tryd.func14, Tryd.ntmps14
    go_wp2
    go_quiet (fail)
    go_wp2
    go_ret2
    exact ⟨rfl, below_drewN (Below.refl _ _) _⟩
  · have h2 : 2 < n := by omega
    clear hn
    go_enter Tryd.func14, Tryd.ntmps14
    go_wp2
    go_quiet (fail)
    go_wp2
    go_ret2
    exact ⟨rfl, below_drewN (Below.refl _ _) _⟩
end Go.Proofs.YtejmjjgbbojfbaaDoor
