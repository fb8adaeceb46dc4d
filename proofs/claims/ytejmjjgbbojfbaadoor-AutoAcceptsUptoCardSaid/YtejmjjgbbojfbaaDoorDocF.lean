/- The document's Accepts: of edits. -/
import Derived.Test.YtejmjjgbbojfbaaDoorDocA
import Derived.Test.YtejmjjgbbojfbaaDoorEdits
import Derived.Deep.RegionHeld3
namespace Go.Proofs.YtejmjjgbbojfbaaDoor
set_option linter.unusedVariables false
open Go.ChangeShapes Go.WideShapes Go.ChangeAt Go.RowKit

theorem kept12 {w W W' : World} {B : Nat} {v u : Value} (hS : W.cell? ⟨B, 1, none⟩ = some v ∧ W.cell? ⟨B, 2, none⟩ = some u ∧ Below w.heap.size w W) (hb : Below W.heap.size W W') : W'.cell? ⟨B, 1, none⟩ = some v ∧ W'.cell? ⟨B, 2, none⟩ = some u ∧ Below w.heap.size w W' :=
  have hB : B < W.heap.size := World.block_lt_of_cell? W _ hS.1
  ⟨by rw [hb.cell hB]; exact hS.1, by rw [hb.cell hB]; exact hS.2.1, hS.2.2.trans (hb.mono hS.2.2.size)⟩
set_option maxRecDepth 100000 in
set_option maxHeartbeats 4000000 in
theorem racc_fuzzy (w : World) (s x : ByteArray) (m : Nat) (hm : m ≤ 2) (lop lin : Bool) (ls : ByteArray) (hop hin : Bool) (hs : ByteArray) (h1 : s.size ≤ 1048576) (h2 : x.size ≤ 1048576) :
    Calls Tryd.prog 20 #[.agg #[.int .i64 4, .string s, .int .i64 (m : Nat), .bool lop, .bool lin, .string ls, .bool hop, .bool hin, .string hs], .string x] w fun e w' => e = .returned (.bool (decide (lev s.data.toList x.data.toList ≤ m))) ∧ Below w.heap.size w w' := by
  have hll := lev_len s.data.toList x.data.toList
  have hsl : s.data.toList.length = s.size := Array.length_toList (xs := s.data)
  have hxl : x.data.toList.length = x.size := Array.length_toList (xs := x.data)
  rw [hsl, hxl] at hll
  have HB := Lib.hid (fun o : Obj => (Below.refl w.heap.size w).alloc (Nat.le_refl _) o)
  obtain ⟨D, hD⟩ : ∃ D : Int, (x.size : Int) - (s.size : Int) = D := ⟨_, rfl⟩
  have q0 : IntKind.i64.wrap ((x.size : Int) - (s.size : Int)) = D := by rw [IntKind.wrap_i64]; omega
  have q1 : IntKind.i64.wrap (-D) = -D := by rw [IntKind.wrap_i64]; omega
  have qa : -9223372036854775808 ≤ (x.size : Int) - (s.size : Int) := by omega
  obtain ⟨mi, hmi⟩ : ∃ mi : Int, ((m : Nat) : Int) = mi := ⟨_, rfl⟩
  rw [hmi]
  by_cases hd1 : mi < D
  · have hres : decide (lev s.data.toList x.data.toList ≤ m) = false := decide_eq_false (by omega)
    rw [hres]
    have t1 : decide (mi < D) = true := decide_eq_true hd1
    clear hres hll hsl hxl hd1 hmi
    go_enter Tryd.func20, Tryd.ntmps20
    go_wp2
    go_ret
    exact ⟨rfl, HB.out _⟩
  · have t1 : decide (mi < D) = false := decide_eq_false hd1
    by_cases hd2 : mi < -D
    · have hres : decide (lev s.data.toList x.data.toList ≤ m) = false := decide_eq_false (by omega)
      rw [hres]
      have t2 : decide (mi < -D) = true := decide_eq_true hd2
      clear hres hll hsl hxl hd1 hd2 hmi
      go_enter Tryd.func20, Tryd.ntmps20
      go_wp2
      go_ret
      exact ⟨rfl, HB.out _⟩
    · have t2 : decide (mi < -D) = false := decide_eq_false hd2
      have K : ∀ W : World, (W.cell? ⟨w.heap.size, 1, none⟩ = some (.string s) ∧ W.cell? ⟨w.heap.size, 2, none⟩ = some (.int .i64 mi) ∧ Below w.heap.size w W) → Calls Tryd.prog 48 #[.string s, .string x, .int .i64 mi] W fun e W' => e = .returned (.int .i64 (edI s x mi)) ∧ (W'.cell? ⟨w.heap.size, 1, none⟩ = some (.string s) ∧ W'.cell? ⟨w.heap.size, 2, none⟩ = some (.int .i64 mi) ∧ Below w.heap.size w W') :=
        fun W hS => (rEdits_any s x mi W h1 h2 (by omega) (by omega)).mono fun e W' ⟨h1, h2⟩ => ⟨h1, kept12 hS h2⟩
      have hres : decide (lev s.data.toList x.data.toList ≤ m) = decide (edI s x mi ≤ mi) := by
        unfold edI
        subst hmi
        rw [decide_eq_decide]
        omega
      rw [hres]
      obtain ⟨r, hr⟩ : ∃ r, edI s x mi = r := ⟨_, rfl⟩
      rw [hr] at K ⊢
      have HK := Lib.hid K
      clear hres hll hsl hxl hd1 hd2 hmi K hr
      obtain ⟨ob, hob⟩ : ∃ ob, ob = Obj.cells #[.int .i64 4, .string s, .int .i64 mi, .bool lop, .bool lin, .string ls, .bool hop, .bool hin, .string hs] 41 := ⟨_, rfl⟩
      have hS : (w.alloc ob).drew.cell? ⟨w.heap.size, 1, none⟩ = some (.string s) ∧ (w.alloc ob).drew.cell? ⟨w.heap.size, 2, none⟩ = some (.int .i64 mi) ∧ Below w.heap.size w (w.alloc ob).drew := by
        have hh := (heap_alloc_new w ob).trans (congrArg some hob)
        exact ⟨blk_cell hh 1, blk_cell hh 2, below_drewN (HB.out ob) 1⟩
      rw [hob] at hS
      clear hob
      go_enter Tryd.func20, Tryd.ntmps20
      go_upto_region 13 with fail
      go_region_held3 (fun w' => w'.cell? ⟨w.heap.size, 1, none⟩ = some (.string s) ∧ w'.cell? ⟨w.heap.size, 2, none⟩ = some (.int .i64 mi) ∧ Below w.heap.size w w') (assumption)
        (first | (go_at_call 48; refine (HK.out _ (by assumption)).mono ?_; rintro e w' ⟨rfl, hS'⟩))
      all_goals
        go_wp2
        go_ret
        exact ⟨rfl, by first | exact hS'.2.2 | (rename_i h; exact h.2.2)⟩
end Go.Proofs.YtejmjjgbbojfbaaDoor
