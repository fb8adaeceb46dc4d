/- auto.Fuzzy: the automaton of a word and edits. -/
import Derived.Test.YtejmjjgbbojfbaaDoorFuzz2
import Derived.Test.YtejmjjgbbojfbaaDoorFuzzP
namespace Go.Proofs.YtejmjjgbbojfbaaDoor
set_option linter.unusedVariables false
open Go.ChangeShapes Go.WideShapes Go.ChangeAt Go.RowKit

theorem startF_len (w : List UInt8) (m : Nat) : (startF w m).length = w.length + 1 := by simp [startF]
theorem stepF_len (w : List UInt8) (m : Nat) (D : List Nat) (b : UInt8) : (stepF w m D b).length = w.length + 1 := by simp [stepF]
theorem startF_le (w : List UInt8) (m : Nat) : ∀ x ∈ startF w m, x ≤ m + 1 := fun x hx => by
  obtain ⟨i, _, rfl⟩ := List.mem_map.1 hx
  exact Nat.min_le_right _ _
theorem stepF_le (w : List UInt8) (m : Nat) (D : List Nat) (b : UInt8) : ∀ x ∈ stepF w m D b, x ≤ m + 1 := fun x hx => by
  obtain ⟨i, _, rfl⟩ := List.mem_map.1 hx
  exact fz_le _ _ _ _ _
theorem fuzzM_auto {w : World} {p : Nat} {s : ByteArray} {m : Nat} (hs : s.size ≤ 1000000000) (hm : m ≤ 2) (hc : w.cell? ⟨p, 0, none⟩ = some (.iface 79 (.agg #[.string s, .int .u8 (m : Nat)]))) : IsAuto w p (fuzzM s.data.toList m) := by
  have hsl : s.data.toList.length = s.size := Array.length_toList (xs := s.data)
  have key : ∀ D : List Nat, (∀ x ∈ D, x ≤ m + 1) → natsOf (strN D) = D := fun D h => natsOf_strN fun x hx => by have := h x hx; omega
  refine ⟨World.block_lt_of_cell? w _ hc, 79, .agg #[.string s, .int .u8 (m : Nat)], 112, 113, 111, fun d => ∃ D : List Nat, D.length = s.size + 1 ∧ (∀ x ∈ D, x ≤ m + 1) ∧ d = strN D, hc, ⟨fun w => by kernel_rfl, fun args w => by kernel_rfl⟩, ⟨fun w => by kernel_rfl, fun args w => by kernel_rfl⟩, ⟨fun w => by kernel_rfl, fun args w => by kernel_rfl⟩,
    fun _ => ⟨startF s.data.toList m, by rw [startF_len, hsl], startF_le _ _, rfl⟩, ?_, ?_⟩
  · rintro d b ⟨D, hD, hb, rfl⟩ _ hne
    refine ⟨stepF s.data.toList m D b, by rw [stepF_len, hsl], stepF_le _ _ _ _, ?_⟩
    show (if (stepF s.data.toList m (natsOf (strN D)) b).any (fun x => decide (x ≤ m)) then strN (stepF s.data.toList m (natsOf (strN D)) b) else ⟨#[]⟩) = _
    have hne' : (if (stepF s.data.toList m (natsOf (strN D)) b).any (fun x => decide (x ≤ m)) then strN (stepF s.data.toList m (natsOf (strN D)) b) else ⟨#[]⟩) ≠ (⟨#[]⟩ : ByteArray) := hne
    rw [key D hb] at hne' ⊢
    split
    · rfl
    · next h => rw [if_neg h] at hne'; exact absurd rfl hne'
  · intro w' _
    refine ⟨fstart_any w' s m hs hm, ?_, ?_⟩
    · rintro d b ⟨D, hD, hb, rfl⟩ _
      refine (fstep_any w' s m hs hm _ D rfl hD hb b).mono fun e w'' ⟨h1, h2⟩ => ⟨?_, h2⟩
      rw [h1]
      show _ = Ending.returned (.string (if (stepF s.data.toList m (natsOf (strN D)) b).any (fun x => decide (x ≤ m)) then strN (stepF s.data.toList m (natsOf (strN D)) b) else ⟨#[]⟩))
      rw [key D hb]; rfl
    · rintro d ⟨D, hD, hb, rfl⟩ _
      refine (facc_any w' s m hs hm _ D rfl hD hb).mono fun e w'' ⟨h1, h2⟩ => ⟨?_, h2⟩
      rw [h1]
      show _ = Ending.returned (.bool (decide ((natsOf (strN D)).getD s.data.toList.length 0 ≤ m)))
      rw [key D hb, hsl]
set_option maxRecDepth 100000 in
theorem fuzzy_ok (w : World) (s : ByteArray) (m : Nat) (hs : s.size ≤ 1000000000) (hm : m ≤ 2) :
    Calls Tryd.prog 14 #[.string s, .int .i64 (m : Nat)] w fun e w' => ∃ p, e = .returned (.tuple #[.pointer (some ⟨p, 0, none⟩), .nilIface]) ∧ w.heap.size ≤ p ∧ IsAuto w' p (fuzzM s.data.toList m) ∧ Below w.heap.size w w' := by
  have hn := heap_alloc_new w (.cells #[.iface 79 (.agg #[.string s, .int .u8 (m : Nat)])] 83)
  have HA := Lib.hid (fuzzM_auto (p := w.heap.size) hs hm (blk_cell hn 0))
  have HB := Lib.hid ((Below.refl w.heap.size w).alloc (Nat.le_refl _) (.cells #[.iface 79 (.agg #[.string s, .int .u8 (m : Nat)])] 83))
  have t1 : decide ((m : Int) < 0) = false := decide_eq_false (by omega)
  have t2 : decide (2 < (m : Int)) = false := decide_eq_false (by omega)
  have t3 : (m : Int) % 256 = (m : Int) := by omega
  clear hn
  go_enter Tryd.func14, Tryd.ntmps14
  go_wp2
  go_ret2
  exact ⟨_, rfl, Nat.le_refl _, HA.out, HB.out⟩
set_option maxRecDepth 100000 in
theorem fuzzy_err (w : World) (s : ByteArray) (n : Int) (hn : n < 0 ∨ 2 < n) (eR : Value) (hR : w.cell? ⟨1, 0, none⟩ = some eR) :
    Calls Tryd.prog 14 #[.string s, .int .i64 n] w fun e w' => e = .returned (.tuple #[.pointer none, eR]) ∧ Below w.heap.size w w' := by
  by_cases h : n < 0
  · clear hn
    go_enter Tryd.func14, Tryd.ntmps14
    go_wp2
    go_quiet (fail)
    go_wp2
    go_ret2
    exact ⟨rfl, below_drewN (Below.refl _ _) _⟩
  · have h2 : 2 < n := by omega
    clear hn
    go_enter Tryd.func14, Tryd.ntmps14
    go_wp2
    go_quiet (fail)
    go_wp2
    go_ret2
    exact ⟨rfl, below_drewN (Below.refl _ _) _⟩
end Go.Proofs.YtejmjjgbbojfbaaDoor
