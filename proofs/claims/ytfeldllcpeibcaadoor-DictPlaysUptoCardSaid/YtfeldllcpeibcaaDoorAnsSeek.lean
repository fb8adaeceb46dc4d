/- The law's answer: Seek; of whatever question. -/
import Derived.Test.YtfeldllcpeibcaaDoorAnswer
import Derived.Deep.RegionHeld3
namespace Go.Proofs.YtfeldllcpeibcaaDoor
set_option linter.unusedVariables false
open Go.ChangeShapes Go.WideShapes Go.ChangeAt Go.RowKit

set_option maxRecDepth 100000 in
set_option maxHeartbeats 2000000 in
theorem answer_seek (w : World) (base q : Nat) (v : Value) (es : List EntV) (hD : DictAt w base q v es) (hr : rising none es) (hel : es.length ≤ 1000000000) (a : Option Addr) (n c : Nat) (hl : RdEnt w a n es) (i : Int) (s : ByteArray) :
    Calls Tryd.prog 18 #[.pointer (some ⟨q, 0, none⟩), .slice a n c, .agg #[.int .i64 3, .int .i64 i, .string s]] w (AnsPost w) := by
  obtain ⟨W, hW⟩ : ∃ W, W = w.alloc (.cells #[.int .i64 3, .int .i64 i, .string s] 44) := ⟨_, rfl⟩
  have hbW : Below w.heap.size w W := by rw [hW]; exact (Below.refl _ _).alloc (Nat.le_refl _) _
  have hdW := hD.below hbW (Nat.le_refl _)
  have hlW := hl.below hbW (Nat.le_refl _)
  have hxW : W.heap[w.heap.size]? = some (.cells #[.int .i64 3, .int .i64 i, .string s] 44 (0, 0)) := by rw [hW]; exact heap_alloc_new w _
  have hzW : W.heap.size = w.heap.size + 1 := by rw [hW]; simp
  obtain ⟨S, hS⟩ : ∃ p, seekP es s.data.toList = p := ⟨_, rfl⟩
  have K1 : ∀ W', (W'.cell? ⟨w.heap.size, 2, none⟩ = some (.string s) ∧ Below W.heap.size W W') → Calls Tryd.prog 28 #[.pointer (some ⟨q, 0, none⟩), .string s] W' fun e w' => e = .returned (.int .i64 S) ∧ (w'.cell? ⟨w.heap.size, 2, none⟩ = some (.string s) ∧ Below W.heap.size W w') := fun W' h => by
    have := seek_any W' base q v es (hdW.below h.2 (Nat.le_refl _)) hr hel s
    rw [hS] at this
    exact this.mono fun e w' ⟨h1, h2⟩ => ⟨h1, by rw [h2.cell (p := ⟨w.heap.size, 2, none⟩) (by have := h.2.size; simp only; omega)]; exact h.1, h.2.trans (h2.mono h.2.size)⟩
  have K2 : ∀ W', (W'.cell? ⟨w.heap.size, 2, none⟩ = some (.string s) ∧ Below W.heap.size W W') → Calls Tryd.prog 46 #[.slice a n c, .string s] W' fun e w' => e = .returned (.int .i64 S) ∧ (w'.cell? ⟨w.heap.size, 2, none⟩ = some (.string s) ∧ Below W.heap.size W w') := fun W' h => by
    have := rseek_any W' a n c es (hlW.below h.2 (Nat.le_refl _)) hr hel s
    rw [hS] at this
    exact this.mono fun e w' ⟨h1, h2⟩ => ⟨h1, by rw [← h2]; exact h⟩
  have hS0 : W.drew.cell? ⟨w.heap.size, 2, none⟩ = some (.string s) ∧ Below W.heap.size W W.drew := ⟨blk_cell hxW 2, below_drewN (Below.refl _ _) 1⟩
  have HW := Lib.hid hW
  have HBW := Lib.hid hbW
  have HK1 := Lib.hid K1
  have HK2 := Lib.hid K2
  clear K1 K2 hdW hlW hxW hzW hbW hD hl hr hS
  rw [hW] at hS0
  clear hW
  go_enter Tryd.func18, Tryd.ntmps18
  go_upto_region 12 with fail
  rw [← HW.out] at hS0 ⊢
  go_region_held3 (fun w' => w'.cell? ⟨w.heap.size, 2, none⟩ = some (.string s) ∧ Below W.heap.size W w') (with_reducible assumption)
    ((first | (go_at_call 28; refine (HK1.out _ (by assumption)).mono ?_; rintro e w' ⟨rfl, hS'⟩) | (go_at_call 46; refine (HK2.out _ (by assumption)).mono ?_; rintro e w' ⟨rfl, hS'⟩)))
  all_goals
    go_wp2
    go_ret
    exact ⟨rfl, HBW.out.trans ((by first | exact hS'.2 | (rename_i h; exact h.2) : Below W.heap.size W _).mono HBW.out.size)⟩
/-- Whatever is asked: the answer is the document's. -/
theorem answer_any (w : World) (base q : Nat) (v : Value) (es : List EntV) (hD : DictAt w base q v es) (hr : rising none es) (hel : es.length ≤ 1000000000) (a : Option Addr) (n c : Nat) (hl : RdEnt w a n es) (k i : Int) (hi : i ≤ 9223372036854775807) (s : ByteArray) :
    Calls Tryd.prog 18 #[.pointer (some ⟨q, 0, none⟩), .slice a n c, .agg #[.int .i64 k, .int .i64 i, .string s]] w (AnsPost w) := by
  by_cases h1 : k = 1
  · subst h1
    by_cases h : i < 0 ∨ (es.length : Int) ≤ i
    · exact answer_out w base q v es hD hel a n c hl i h s
    · have := answer_in w base q v es hD hel a n c hl i.toNat (by omega) s
      rwa [show ((i.toNat : Nat) : Int) = i by omega] at this
  by_cases h2 : k = 2
  · subst h2; exact answer_find w base q v es hD hr hel a n c hl i s
  by_cases h3 : k = 3
  · subst h3; exact answer_seek w base q v es hD hr hel a n c hl i s
  by_cases h4 : k = 4
  · subst h4; exact answer_heads w base q v es hD hr hel a n c hl i s
  by_cases h5 : k = 5
  · subst h5; exact answer_walk w base q v es hD hel a n c hl i hi s
  by_cases h6 : k = 6
  · subst h6; exact answer_size w base q v es hD hel a n c hl.1 i s
  exact answer_else w q a n c k (by omega) i s
end Go.Proofs.YtfeldllcpeibcaaDoor
