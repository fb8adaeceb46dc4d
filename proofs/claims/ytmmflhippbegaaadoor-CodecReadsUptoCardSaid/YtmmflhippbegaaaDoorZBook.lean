/- concordhand: a book of lists of bytes, with the look at it. -/
import Derived.Test.YtmmflhippbegaaaDoorZUns
namespace Go.Proofs.YtmmflhippbegaaaDoor
set_option linter.unusedVariables false
open Go.ChangeShapes Go.WideShapes Go.ChangeAt Go.RowKit

set_option maxRecDepth 100000 in
set_option maxHeartbeats 1000000 in
theorem uI_nil (w : World) (p : Nat) (vb vt : Value)
    (hp : w.heap[p]? = some (.cells #[vb, .slice none 0 0, vt] 43 (0, 0))) :
    Calls Tryd.prog 64 #[.pointer (some ⟨p, 0, none⟩)] w fun e w' => e = .returned (.bool true) ∧ Eff (fun _ => False) w w' := by
  have hcp : w.cell? ⟨p, 1, none⟩ = some (.slice none 0 0) := by rw [cell_of_row _ _ _ _ _ _ hp]; rfl
  have hc2 : (w.alloc (.cells #[] 23)).cell? ⟨p, 1, none⟩ = some (.slice none 0 0) := ((Eff.refl (fun _ => False) w).alloc _).cell (fun h => h) hcp
  go_enter Tryd.func64, Tryd.ntmps64
  go_wp2
  go_loopw [24] (fun s wr => s = .int .i64 0 ∧ w = wr) (fun s _ => 0)
  case atStart => exact ⟨rfl, rfl⟩
  case round =>
    obtain ⟨rfl, rfl⟩ := hrel
    go_wp2
    go_loopw [6, 48] (fun s6 s wr2 => s = .int .i64 0 ∧ s6 = .slice (some ⟨w.heap.size, 0, none⟩) 0 0 ∧ w.alloc (.cells #[] 23) = wr2) (fun _ s _ => 0)
    case atStart => exact ⟨rfl, rfl, rfl⟩
    case round =>
      obtain ⟨rfl, rfl, rfl⟩ := hrel
      go_wp2
      go_loopw [91] (fun s wr2 => s = .int .i64 0 ∧ w.alloc (.cells #[] 23) = wr2) (fun s _ => 0)
      case atStart => exact ⟨rfl, rfl⟩
      case round =>
        obtain ⟨rfl, rfl⟩ := hrel
        go_wp2
        go_loopw [116] (fun s wr2 => s = .int .i64 0 ∧ w.alloc (.cells #[] 23) = wr2) (fun s _ => 0)
        case atStart => exact ⟨rfl, rfl⟩
        case round =>
          obtain ⟨rfl, rfl⟩ := hrel
          go_wp2
          go_ret
          exact ⟨rfl, (Eff.refl _ _).alloc _⟩

set_option maxRecDepth 100000 in
set_option maxHeartbeats 1000000 in
theorem uT_nil (w : World) (p : Nat) (vb vi : Value)
    (hp : w.heap[p]? = some (.cells #[vb, vi, .slice none 0 0] 43 (0, 0))) :
    Calls Tryd.prog 65 #[.pointer (some ⟨p, 0, none⟩)] w fun e w' => e = .returned (.bool true) ∧ Eff (fun _ => False) w w' := by
  have hcp : w.cell? ⟨p, 2, none⟩ = some (.slice none 0 0) := by rw [cell_of_row _ _ _ _ _ _ hp]; rfl
  have hc2 : (w.alloc (.cells #[] 44)).cell? ⟨p, 2, none⟩ = some (.slice none 0 0) := ((Eff.refl (fun _ => False) w).alloc _).cell (fun h => h) hcp
  go_enter Tryd.func65, Tryd.ntmps65
  go_wp2
  go_loopw [24] (fun s wr => s = .int .i64 0 ∧ w = wr) (fun s _ => 0)
  case atStart => exact ⟨rfl, rfl⟩
  case round =>
    obtain ⟨rfl, rfl⟩ := hrel
    go_wp2
    go_loopw [6, 48] (fun s6 s wr2 => s = .int .i64 0 ∧ s6 = .slice (some ⟨w.heap.size, 0, none⟩) 0 0 ∧ w.alloc (.cells #[] 44) = wr2) (fun _ s _ => 0)
    case atStart => exact ⟨rfl, rfl, rfl⟩
    case round =>
      obtain ⟨rfl, rfl, rfl⟩ := hrel
      go_wp2
      go_loopw [91] (fun s wr2 => s = .int .i64 0 ∧ w.alloc (.cells #[] 44) = wr2) (fun s _ => 0)
      case atStart => exact ⟨rfl, rfl⟩
      case round =>
        obtain ⟨rfl, rfl⟩ := hrel
        go_wp2
        go_loopw [116] (fun s wr2 => s = .int .i64 0 ∧ w.alloc (.cells #[] 44) = wr2) (fun s _ => 0)
        case atStart => exact ⟨rfl, rfl⟩
        case round =>
          obtain ⟨rfl, rfl⟩ := hrel
          go_wp2
          go_ret
          exact ⟨rfl, (Eff.refl _ _).alloc _⟩

/-- A book of lists of bytes alone, at block p. -/
structure BookB (w : World) (base p : Nat) (v : Value) (ls : List Value) : Prop where
  blk : w.heap[p]? = some (.cells #[v, .slice none 0 0, .slice none 0 0] 43 (0, 0))
  hp : base ≤ p
  own : Own w base 37 v ls

set_option maxRecDepth 100000 in
set_option maxHeartbeats 1000000 in
theorem bkB_any (w : World) (base p : Nat) (v : Value) (ls : List Value) (h : BookB w base p v ls) (hb : base ≤ w.heap.size) (hl : ls.length ≤ 1000000000) (a : Option Addr) (n c : Nat) :
    Calls Tryd.prog 19 #[.pointer (some ⟨p, 0, none⟩), .slice a n c] w fun e w' => e = .returned (.tuple #[]) ∧ ∃ v', BookB w' base p v' (ls ++ [.slice a n c]) ∧ Eff (fun k => k = p ∨ v.ownBlock = some k) w w' := by
  have hc0 : w.cell? ⟨p, 0, none⟩ = some v := blk_cell h.blk 0
  have hll : ls.length < 1000000000000 := by omega
  obtain ⟨av, nv, cv, rfl⟩ := own_sl h.own
  have hbo := h.own
  have HB := Lib.hid h.blk
  go_enter Tryd.func19, Tryd.ntmps19
  go_wp2_with (at_builtin; with_reducible refine ap1' elLists rfl hbo hll hb rfl _ _ rfl rfl rfl ?_)
  intro v' w1 g1 g2 g3 g4
  have hp1 := Lib.hid ((g4.block _ (lt_of_heap HB.out) (fun e => h.own.ne_type HB.out (by decide) e.symm)).trans HB.out)
  obtain ⟨a1, n1, c1, rfl⟩ := own_sl g1
  have hc1 : w1.cell? ⟨p, 0, none⟩ = some (.slice av nv cv) := blk_cell hp1.out 0
  have hf1 : w1.frozen? ⟨p, 0, none⟩ = false := blk_frozen hp1.out 0
  go_wp2
  go_end0
  have hp2 := blk_set hp1.out 0 (.slice a1 n1 c1)
  exact ⟨rfl, _, ⟨hp2, h.hp, g1.setOther (g1.ne_type hp1.out (by decide)) _⟩, (((Eff.refl _ _).grown g4 (fun k hk _ => .inr hk)).setCell (p := ⟨p, 0, none⟩) (fun _ => .inl rfl) _)⟩

set_option maxRecDepth 100000 in
set_option maxHeartbeats 1000000 in
theorem un_bytes (w : World) (base p : Nat) (v : Value) (ls : List Value) (C : Nat → List Value) (h : BookB w base p v ls) (h0 : 0 < ls.length)
    (hls : Each w 0 5 ls C) (hap : Apart ls) (hm : ls.length ≤ 2000000) (hC : ∀ k, (C k).length ≤ 1000000000) :
    Calls Tryd.prog 21 #[.pointer (some ⟨p, 0, none⟩)] w fun e w' => e = .returned (.bool true) ∧ Eff (BlocksOf ls) w w' := by
  obtain ⟨av, nv, cv, rfl⟩ := own_sl h.own
  obtain rfl := h.own.len
  obtain ⟨q, rfl⟩ := h.own.someAt h0
  have hFp : ¬ BlocksOf ls p := fun ⟨k, x, hx, hb⟩ => (hls k x hx).ne_type h.blk (by decide) hb
  have H1 := uB_some w p q cv _ _ ls C h.blk (own_base h.own (Nat.zero_le _)) hls hap hm hC
  have HB := Lib.hid h.blk
  go_enter Tryd.func21, Tryd.ntmps21
  go_wp2_with (with_reducible refine H1.mono ?_)
  rintro e w1 ⟨rfl, e1⟩
  have hb1 : w1.heap[p]? = some (.cells #[.slice (some ⟨q, 0, none⟩) ls.length cv, .slice none 0 0, .slice none 0 0] 43 (0, 0)) := (e1.block p (lt_of_heap HB.out) hFp).trans HB.out
  have HB1 := Lib.hid hb1
  have H2 := uI_nil w1 p _ _ hb1
  clear hb1 H1
  go_wp2_with (with_reducible refine H2.mono ?_)
  rintro e w2 ⟨rfl, e2⟩
  have hb2 : w2.heap[p]? = some (.cells #[.slice (some ⟨q, 0, none⟩) ls.length cv, .slice none 0 0, .slice none 0 0] 43 (0, 0)) := (e2.block p (lt_of_heap HB1.out) (fun h => h)).trans HB1.out
  have H3 := uT_nil w2 p _ _ hb2
  clear hb2 H2
  go_wp2_with (with_reducible refine H3.mono ?_)
  rintro e w3 ⟨rfl, e3⟩
  clear H3
  go_wp2
  go_ret
  exact ⟨rfl, (e1.trans e2 (fun _ h => h.elim)).trans e3 (fun _ h => h.elim)⟩
end Go.Proofs.YtmmflhippbegaaaDoor
