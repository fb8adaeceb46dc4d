/- posts: Block, Skip. -/
import Derived.Test.YthnpbfadblcicaaDoorZBlkA
import Derived.Handy
namespace Go.Proofs.YthnpbfadblcicaaDoor
set_option linter.unusedVariables false
open Go.ChangeShapes Go.WideShapes Go.ChangeAt Go.RowKit

set_option maxRecDepth 100000 in
set_option maxHeartbeats 4000000 in
theorem block_any (w : World) (p : Nat) (im : Value) (sa : Option Addr) (sc : Nat) (b : List UInt8) (n t : Nat) (S : List SkV) (cs : List (List PostV)) (B : Nat) (h : ListAt w B p im (.slice sa S.length sc) b n t S) (hok : BlkOk b S cs) (hb : b.length ≤ 1000000000) (k : Nat) (hk : k < S.length) (hk2 : k < cs.length) (EA : Nat → Addr) (hS : Sent7 w EA) :
    Calls Tryd.prog 21 #[.pointer (some ⟨p, 0, none⟩), .int .i64 (k : Nat)] w fun e w' => ∃ A N C vs, e = .returned (.slice A N C) ∧ RowP w' w.heap.size (.slice A N C) cs[k] vs ∧ Below w.heap.size w w' := by
  obtain ⟨o1, o2, o3, -, o5, o6, o7⟩ := hok.at_ k hk hk2
  have hsl := hok.sl
  obtain ⟨ps, hps⟩ : ∃ ps, cs[k] = ps := ⟨_, rfl⟩
  rw [hps] at o1 ⊢
  obtain ⟨x, hx⟩ : ∃ x, S[k] = x := ⟨_, rfl⟩
  rw [hx] at o1 o5 o6 o7
  obtain ⟨la, dc, at_, sz⟩ := x
  simp only at o1 o5 o6 o7
  obtain ⟨PB, hPB⟩ : ∃ PB, (b.drop at_).take sz = PB := ⟨_, rfl⟩
  have hPl : PB.length = sz := by rw [← hPB, List.length_take, List.length_drop]; omega
  rw [hPB] at o1
  obtain ⟨bs, hbs⟩ : ∃ bs, lastS (S.take k) = bs := ⟨_, rfl⟩
  rw [hbs] at o1 o2 o3
  obtain ⟨g, rfl, -, -, hc⟩ := h.sk.at_ k hk
  rw [hx] at hc
  have p3 : w.cell? ⟨p, 3, none⟩ = some (.slice (some ⟨g, 0, none⟩) S.length sc) := blk_cell h.blk 3
  have c1 : w.cell? ⟨g, k * 4 + 1, none⟩ = some (.int .i64 (dc : Nat)) := hc 1 _ rfl
  have t0 : decide (S.length ≤ k) = false := decide_eq_false (by omega)
  have i1 : (k : Int) < (S.length : Int) := by omega
  have hgl : g < w.heap.size := World.block_lt_of_cell? w _ c1
  have hpl := lt_of_heap h.blk
  have hC2 : ∀ W', ListAt W' B p im (.slice (some ⟨g, 0, none⟩) S.length sc) b n t S → Calls Tryd.prog 43 #[.pointer (some ⟨p, 0, none⟩), .int .i64 (k : Nat)] W' fun e w' => ∃ A N C, e = .returned (.slice A N C) ∧ Rd w' (.slice A N C) (bytesV PB) ∧ ListAt w' B p im (.slice (some ⟨g, 0, none⟩) S.length sc) b n t S ∧ Below W'.heap.size W' w' := fun W' ho => by
    have h9 := piece_any W' B p _ _ b n t S ho hb k hk (by omega) (by rw [hx]; simp only; omega)
    rw [hx] at h9
    simp only [hPB] at h9
    refine h9.mono ?_
    rintro e w' ⟨A, N, C, rfl, hrd, hbb⟩
    exact ⟨A, N, C, rfl, hrd, ho.below hbb (Nat.le_refl _), hbb⟩
  have hC3 : ∀ W', ListAt W' B p im (.slice (some ⟨g, 0, none⟩) S.length sc) b n t S → Calls Tryd.prog 44 #[.pointer (some ⟨p, 0, none⟩), .int .i64 (k : Nat)] W' fun e w' => e = .returned (.int .i64 bs) ∧ W' = w' := fun W' ho => by
    have h9 := base_any W' B p _ _ b n t S ho k (Nat.le_of_lt hk) (by omega)
    rw [hbs] at h9
    exact h9
  have hC4 : ∀ W' A N C, Below w.heap.size w W' → Rd W' (.slice A N C) (bytesV PB) → Calls Tryd.prog 42 #[.slice A N C, .int .i64 bs, .int .i64 (dc : Nat)] W' (UnpPost W' bs dc PB) := fun W' A N C ho hrd =>
    unp_any W' A N C PB hrd (by omega) bs o2 o3 dc o7 EA (hS.below ho)
  have HL := Lib.hid h
  have HC2 := Lib.hid hC2
  have HC3 := Lib.hid hC3
  have HC4 := Lib.hid hC4
  have HU := Lib.hid o1
  clear h hok hS hC2 hC3 hC4 o1 o2 o3 o5 o6 o7 hx hps hbs hPB hc hk hk2
  go_enter Tryd.func21, Tryd.ntmps21
  go_upto_region 3 with fail
  go_cut [5, 6] (fun s5 s6 wx => ∃ A N C vs, s5 = .slice A N C ∧ s6 = .bool true ∧ RowP wx w.heap.size (.slice A N C) ps vs ∧ Below w.heap.size w wx)
  case first =>
    have hl0 : ListAt w.drew B p im (.slice (some ⟨g, 0, none⟩) S.length sc) b n t S := HL.out.drewN 1
    have hb0 : Below w.heap.size w w.drew := (Below.refl _ w).drew
    have q3 : w.drew.cell? ⟨p, 3, none⟩ = some (.slice (some ⟨g, 0, none⟩) S.length sc) := p3
    have q1 : w.drew.cell? ⟨g, k * 4 + 1, none⟩ = some (.int .i64 (dc : Nat)) := c1
    go_region_with (first
      | (go_at_call 43; (with_reducible refine (HC2.out _ hl0).mono ?_); rintro e w5 ⟨A5, N5, C5, rfl, hrd5, hl5, hbb5⟩; have q35 := (hbb5.cell (p := ⟨p, 3, none⟩) hpl).trans q3; have q15 := (hbb5.cell (p := ⟨g, k * 4 + 1, none⟩) hgl).trans q1)
      | (go_at_call 44; (first | with_reducible refine (HC3.out _ hl0).mono ?_ | with_reducible refine (HC3.out _ hl5).mono ?_); rintro e w6 ⟨rfl, rfl⟩)
      | (go_at_call 42; (with_reducible refine (HC4.out _ _ _ _ (hb0.trans (hbb5.mono (Nat.le_refl _))) hrd5).mono ?_); rintro e w7 ⟨h7, -⟩; obtain ⟨A7, N7, C7, vs7, rfl, hrow7, hb7⟩ := h7 ps HU.out))
    all_goals
      go_wp2
      go_meet
      exact ⟨A7, N7, C7, vs7, rfl, rfl, hrow7.mono hbb5.size, (hb0.trans (hbb5.mono (Nat.le_refl _))).trans (hb7.mono hbb5.size)⟩
  case rest =>
    obtain ⟨A7, N7, C7, vs7, rfl, rfl, hrow, hbb⟩ := hcut
    have HROW := Lib.hid hrow
    have HBB := Lib.hid hbb
    clear hrow hbb p3 c1 t0 i1
    go_wp2
    go_ret
    exact ⟨_, _, _, _, rfl, HROW.out, HBB.out⟩
theorem block_out (w : World) (p : Nat) (im : Value) (sa : Option Addr) (sc : Nat) (b : List UInt8) (n t : Nat) (S : List SkV) (B : Nat) (h : ListAt w B p im (.slice sa S.length sc) b n t S) (k : Int) (hk : k < 0 ∨ (S.length : Int) ≤ k) :
    Calls Tryd.prog 21 #[.pointer (some ⟨p, 0, none⟩), .int .i64 k] w fun e w' => e = .returned (.slice none 0 0) ∧ w = w' := by
  have p3 : w.cell? ⟨p, 3, none⟩ = some (.slice sa S.length sc) := blk_cell h.blk 3
  by_cases h0 : k < 0
  · have t0 : decide (k < 0) = true := decide_eq_true h0
    clear hk
    go_enter Tryd.func21, Tryd.ntmps21
    go_wp2
    go_ret
    exact ⟨rfl, rfl⟩
  · have t0 : decide (k < 0) = false := decide_eq_false h0
    have t1 : decide ((S.length : Int) ≤ k) = true := decide_eq_true (by omega)
    clear hk
    go_enter Tryd.func21, Tryd.ntmps21
    go_wp2
    go_ret
    exact ⟨rfl, rfl⟩
end Go.Proofs.YthnpbfadblcicaaDoor
