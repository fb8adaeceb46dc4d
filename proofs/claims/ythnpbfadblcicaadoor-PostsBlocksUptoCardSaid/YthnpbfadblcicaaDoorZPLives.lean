/- posts: Docs, Total, Blocks; the law's lives. -/
import Derived.Test.YthnpbfadblcicaaDoorZPOpen
import Derived.Test.YthnpbfadblcicaaDoorZEncode
namespace Go.Proofs.YthnpbfadblcicaaDoor
set_option linter.unusedVariables false
open Go.ChangeShapes Go.WideShapes Go.ChangeAt Go.RowKit

theorem docs_any (w : World) (B p : Nat) (im sv : Value) (b : List UInt8) (n t : Nat) (SS : List SkV) (h : ListAt w B p im sv b n t SS) : Calls Tryd.prog 15 #[.pointer (some ⟨p, 0, none⟩)] w fun e w' => e = .returned (.int .i64 (n : Nat)) ∧ w = w' := by
  have c1 : w.cell? ⟨p, 1, none⟩ = some (.int .i64 (n : Nat)) := blk_cell h.blk 1
  go_enter Tryd.func15, Tryd.ntmps15
  go_wp2
  go_ret
  exact ⟨rfl, rfl⟩
theorem total_any (w : World) (B p : Nat) (im sv : Value) (b : List UInt8) (n t : Nat) (SS : List SkV) (h : ListAt w B p im sv b n t SS) : Calls Tryd.prog 16 #[.pointer (some ⟨p, 0, none⟩)] w fun e w' => e = .returned (.int .i64 (t : Nat)) ∧ w = w' := by
  have c1 : w.cell? ⟨p, 2, none⟩ = some (.int .i64 (t : Nat)) := blk_cell h.blk 2
  go_enter Tryd.func16, Tryd.ntmps16
  go_wp2
  go_ret
  exact ⟨rfl, rfl⟩
theorem blocks_any (w : World) (B p : Nat) (im sv : Value) (b : List UInt8) (n t : Nat) (SS : List SkV) (h : ListAt w B p im sv b n t SS) : Calls Tryd.prog 18 #[.pointer (some ⟨p, 0, none⟩)] w fun e w' => e = .returned (.int .i64 (SS.length : Nat)) ∧ w = w' := by
  obtain ⟨sa, sc, rfl⟩ := h.sk.sl
  have c1 : w.cell? ⟨p, 3, none⟩ = some (.slice sa SS.length sc) := blk_cell h.blk 3
  go_enter Tryd.func18, Tryd.ntmps18
  go_wp2
  go_ret
  exact ⟨rfl, rfl⟩
def PL : List PostV := [⟨2, [1, 4]⟩, ⟨5, [0]⟩]
theorem okL : okV (-1) PL := by unfold okV PL; decide
theorem fitL : FitP PL := by
  intro p hp
  simp only [PL, List.mem_cons, List.not_mem_nil, or_false] at hp
  rcases hp with rfl | rfl
  · exact ⟨⟨by decide, by decide⟩, fun z hz => by simp only [List.mem_cons, List.not_mem_nil, or_false] at hz; omega, by decide⟩
  · exact ⟨⟨by decide, by decide⟩, fun z hz => by simp only [List.mem_cons, List.not_mem_nil, or_false] at hz; omega, by decide⟩
theorem chpL : chp PL = [PL] := by
  rw [chp_cons (by unfold PL; simp)]
  rw [show PL.drop 16 = [] from rfl, chp_nil]; rfl
theorem packL1 : packB [2, 2] = [2, 10] := by decide
theorem packL2 : packB [1, 0] = [1, 1] := by decide
theorem blockL : blockB (-1) PL = [2, 2, 10, 2, 1, 1, 1, 2, 0] := by
  unfold blockB
  rw [show gapsD (-1) PL = [2, 2] from rfl, show freqV PL = [1, 0] from rfl]
  unfold pckB
  rw [packL1, packL2]
  simp [tailV, PL, gapsB, uvar_small]
theorem imageL : imageV PL = [2, 3, 5, 9, 2, 2, 10, 2, 1, 1, 1, 2, 0] := by
  unfold imageV
  rw [chpL, show blksV (-1) [PL] = [(5, blockB (-1) PL)] from rfl, blockL, show PL.length = 2 from rfl, show totalV PL = 3 from rfl]
  simp [headV, bodyV, uvar_small]
theorem rd_lives (w : World) : RdPost (((w.alloc (.cells #[.int .i64 1, .int .i64 4] 3)).alloc (.cells #[.int .i64 0] 3)).alloc (.cells #[.int .i64 2, .slice (some ⟨w.heap.size, 0, none⟩) 2 2, .int .i64 5, .slice (some ⟨w.heap.size + 1, 0, none⟩) 1 1] 53)) (some ⟨w.heap.size + 1 + 1, 0, none⟩) 2 PL := by
  have h1 := ((own_lit w w.heap.size 3 (intL [1, 4]) (Nat.le_refl _) (by decide)).alloc (.cells #[.int .i64 0] 3)).alloc (.cells #[.int .i64 2, .slice (some ⟨w.heap.size, 0, none⟩) 2 2, .int .i64 5, .slice (some ⟨w.heap.size + 1, 0, none⟩) 1 1] 53)
  have h2 := (own_lit (w.alloc (.cells #[.int .i64 1, .int .i64 4] 3)) w.heap.size 3 (intL [0]) (by simp) (by decide)).alloc (.cells #[.int .i64 2, .slice (some ⟨w.heap.size, 0, none⟩) 2 2, .int .i64 5, .slice (some ⟨w.heap.size + 1, 0, none⟩) 1 1] 53)
  have h3 := heap_alloc_new ((w.alloc (.cells #[.int .i64 1, .int .i64 4] 3)).alloc (.cells #[.int .i64 0] 3)) (.cells #[.int .i64 2, .slice (some ⟨w.heap.size, 0, none⟩) 2 2, .int .i64 5, .slice (some ⟨w.heap.size + 1, 0, none⟩) 1 1] 53)
  rw [World.size_alloc, World.size_alloc] at h3
  rw [World.size_alloc] at h2
  refine ⟨rfl, fun _ => ⟨w.heap.size + 1 + 1, 0, rfl, fun i hi => ?_⟩⟩
  match i, hi with
  | 0, hi => exact ⟨blk_cell h3 0, _, _, blk_cell h3 1, h1.rd⟩
  | 1, hi => exact ⟨blk_cell h3 2, _, _, blk_cell h3 3, h2.rd⟩
set_option maxRecDepth 100000 in
set_option maxHeartbeats 2000000 in
theorem lives_any (w : World) (EA : Nat → Addr) (hS : Sent7 w EA) : Calls Tryd.prog 9 #[] w fun e w' => e = .returned (.bool true) ∧ Below w.heap.size w w' := by
  have hbA : Below w.heap.size w (((w.alloc (.cells #[.int .i64 1, .int .i64 4] 3)).alloc (.cells #[.int .i64 0] 3)).alloc (.cells #[.int .i64 2, .slice (some ⟨w.heap.size, 0, none⟩) 2 2, .int .i64 5, .slice (some ⟨w.heap.size + 1, 0, none⟩) 1 1] 53)) :=
    (((Below.refl _ w).alloc (Nat.le_refl _) _).alloc (by simp) _).alloc (by simp; omega) _
  have C1 := encode_any _ _ 2 2 PL (rd_lives w) (Nat.le_refl _) fitL (by decide) (by decide) EA (hS.below hbA)
  have HBA := Lib.hid hbA
  have HS := Lib.hid hS
  clear hbA hS
  go_enter Tryd.func9, Tryd.ntmps9
  go_wp2_with fail
  with_reducible refine C1.mono ?_
  rintro e w1 ⟨h1, -⟩
  clear C1
  obtain ⟨A, N, C, rfl, ho, hb⟩ := h1 okL
  have hb1 := HBA.out.trans (hb.mono HBA.out.size)
  rw [imageL] at ho
  have r1 := run_str (P := Tryd.prog) Tryd.underlying24 Tryd.underlying5 Tryd.underlying9 ho.rd
  rw [show strOf [2, 3, 5, 9, 2, 2, 10, 2, 1, 1, 1, 2, 0] = ⟨#[2, 3, 5, 9, 2, 2, 10, 2, 1, 1, 1, 2, 0]⟩ from rfl] at r1
  have hop := openV_of okL fitL (by decide) (by decide)
  rw [imageL] at hop
  have C2 := open_any w1 A N C _ ho.rd (by decide) EA (HS.out.below hb1)
  have HB1 := Lib.hid hb1
  have HOP := Lib.hid hop
  clear h1 ho hb hb1 hop
  go_wp2_with fail
  with_reducible refine C2.mono ?_
  rintro e w2 ⟨h2, -, hb2⟩
  clear C2 r1
  obtain ⟨p, im, sv, rfl, hl⟩ := h2 _ HOP.out
  have hb12 := HB1.out.trans (hb2.mono HB1.out.size)
  have D1 := docs_any w2 _ p im sv _ _ _ _ hl
  have D2 := total_any w2 _ p im sv _ _ _ _ hl
  have D3 := blocks_any w2 _ p im sv _ _ _ _ hl
  rw [show PL.length = 2 from rfl] at D1
  rw [show totalV PL = 3 from rfl] at D2
  rw [chpL, skV_len] at D3
  have HB2 := Lib.hid hb12
  clear h2 hb2 hb12 hl
  go_wp2_with fail
  with_reducible refine D1.mono ?_
  rintro e w3 ⟨rfl, rfl⟩
  go_wp2_with fail
  with_reducible refine D2.mono ?_
  rintro e w3 ⟨rfl, rfl⟩
  go_wp2_with fail
  with_reducible refine D3.mono ?_
  rintro e w3 ⟨rfl, rfl⟩
  go_wp2
  go_ret
  exact ⟨rfl, HB2.out⟩
end Go.Proofs.YthnpbfadblcicaaDoor
