/- codec.Writer: Bytes; the law's fixed fact 'lives'. -/
import Derived.Test.YtmmflhippbegaaaDoorZWriter
import Derived.Test.YtmmflhippbegaaaDoorZReader
namespace Go.Proofs.YtmmflhippbegaaaDoor
set_option linter.unusedVariables false
open Go.ChangeShapes Go.WideShapes Go.ChangeAt Go.RowKit

theorem cat_one (w : World) (v : Value) (bs : List UInt8) (hr : Rd w v (bytesV bs)) (hn : bs.length ≤ 1000000000) :
    Calls Tryd.prog 45 #[.slice (some ⟨w.heap.size, 0, none⟩) 1 1] (w.alloc (.cells #[v] 37)) fun e w' => ∃ v', e = .returned v' ∧ Own w' w.heap.size 5 v' (bytesV bs) ∧ Below w.heap.size w w' := by
  have hB0 : Below w.heap.size w (w.alloc (.cells #[v] 37)) := (Below.refl _ _).alloc (Nat.le_refl _) _
  have hr1 := hr.below hB0 (Nat.le_refl _)
  have hls : Rd (w.alloc (.cells #[v] 37)) (.slice (some ⟨w.heap.size, 0, none⟩) 1 1) [v] := (own_one w w.heap.size 37 _ (Nat.le_refl _)).rd
  have hBs : Rds (w.alloc (.cells #[v] 37)) [v] (fun _ => bs) := fun k x hx => by
    match k, hx with
    | 0, hx => simp at hx; subst hx; exact hr1
    | k + 1, hx => simp at hx
  have hcl : catL (fun _ => bs) 1 = bs := by simp [catL]
  have C1 := cat_any _ _ 1 1 _ _ hls hBs (by simp) (by simpa [hcl] using hn)
  rw [show [v].length = 1 from rfl, hcl] at C1
  refine C1.mono ?_
  rintro e w1 ⟨v, rfl, ho, hb⟩
  exact ⟨v, rfl, own_base ho (by simp), hB0.trans (hb.mono (by simp))⟩
set_option maxRecDepth 100000 in
theorem wbytes_any (w : World) (base p : Nat) (v : Value) (bs : List UInt8) (h : Wr w base p v bs) (hl : bs.length ≤ 1000000000) :
    Calls Tryd.prog 18 #[.pointer (some ⟨p, 0, none⟩)] w fun e w' => ∃ v', e = .returned v' ∧ Own w' w.heap.size 5 v' (bytesV bs) ∧ Below w.heap.size w w' := by
  have hc := h.read
  have C1 := cat_one w v bs h.own.rd hl
  obtain ⟨a, n, c, rfl⟩ := own_sl h.own
  go_enter Tryd.func18, Tryd.ntmps18
  go_wp2_with fail
  refine C1.mono ?_
  rintro e w1 ⟨v', rfl, ho, hb⟩
  go_wp2
  go_ret
  exact ⟨_, rfl, ho, hb⟩

theorem uvar300 : uvar 300 = [172, 2] := by rw [uvar_big (by decide), uvar_small (by decide)]; rfl
theorem get300 : getU ([172, 2, 7] : List UInt8) = .ok (300, 2) := by
  have := getU_uvar 300 (by decide) [7]
  rw [uvar300] at this; exact this

set_option maxRecDepth 100000 in
set_option maxHeartbeats 1000000 in
theorem lives_any (w : World) (EV : Nat → Value) (hS : w.cell? ⟨2, 0, none⟩ = some (EV 1)) (hV : w.cell? ⟨4, 0, none⟩ = some (EV 2)) :
    Calls Tryd.prog 10 #[] w fun e w' => e = .returned (.bool true) ∧ Below w.heap.size w w' := by
  go_enter Tryd.func10, Tryd.ntmps10
  go_wp2_with fail
  refine (nw_any w).mono ?_
  rintro e w' ⟨rfl, rfl⟩
  have hw0 := wr_new w
  have hb0 : Below w.heap.size w (w.alloc (.cells #[.slice none 0 0] 87)) := (Below.refl _ _).alloc (Nat.le_refl _) _
  generalize w.alloc (.cells #[.slice none 0 0] 87) = w1 at hw0 hb0 ⊢
  have C1 := wuv_any w1 _ _ _ _ hw0 hb0.size (by simp) 300 (by decide)
  go_wp2_with fail
  refine C1.mono ?_
  rintro e w2 ⟨rfl, v2, hw2, hwr2⟩
  rw [List.nil_append, uvar300] at hw2
  have hb2 := hb0.trans (hwr2.below hw0 hb0.size)
  clear C1 hwr2 hw0 hb0
  have hlit : Rd (w2.alloc (.cells #[.int .u8 172, .int .u8 2, .int .u8 7] 5)) (.slice (some ⟨w2.heap.size, 0, none⟩) 3 3) (bytesV [172, 2, 7]) := (own_lit w2 w2.heap.size 5 (bytesV [172, 2, 7]) (Nat.le_refl _) (by decide)).rd
  have C2 := nr_any _ _ 3 3 _ hlit (by simp)
  have hb2a : Below w2.heap.size w2 (w2.alloc (.cells #[.int .u8 172, .int .u8 2, .int .u8 7] 5)) := (Below.refl _ _).alloc (Nat.le_refl _) _
  have HB2A := Lib.hid hb2a
  clear hlit hb2a
  go_wp2_with fail
  refine C2.mono ?_
  rintro e w3 ⟨p, v3, rfl, hr3, hb3⟩
  have hb23 := HB2A.out.trans (hb3.mono (by simp))
  have hb3w := hb2.trans (hb23.mono hb2.size)
  have hw3 := hw2.eff (F := fun _ => False) (Eff.of_below hb23 _) (fun _ _ h => h)
  have hp3 : w2.heap.size ≤ p := Nat.le_trans (by simp) hr3.hp
  have hsz : w.heap.size ≤ p := Nat.le_trans hb2.size hp3
  clear C2 HB2A hb2 hw2 hb3 
  have C3 := wbytes_any w3 _ _ _ _ hw3 (by simp)
  go_wp2_with fail
  refine C3.mono ?_
  rintro e w4 ⟨v4, rfl, ho4, hb4⟩
  obtain ⟨a4, n4, c4, rfl⟩ := own_sl ho4
  have r1 := run_str (P := Tryd.prog) Tryd.underlying37 Tryd.underlying5 Tryd.underlying9 ho4.rd
  have hb4w := hb3w.trans (hb4.mono hb3w.size)
  have hw4 := hw3.eff (F := fun _ => False) (Eff.of_below hb4 _) (fun _ _ h => h)
  have hr4 := hr3.eff (F := fun _ => False) (Eff.of_below hb4 _) (fun _ _ h => h)
  have C4 := wlen_any w4 _ _ _ _ hw4
  rw [show ([172, 2] : List UInt8).length = 2 from rfl] at C4
  rw [show strOf [172, 2] = ⟨#[172, 2]⟩ from rfl] at r1
  clear C3 ho4 hw3 hr3
  go_wp2_with fail
  refine C4.mono ?_
  rintro e w' ⟨rfl, rfl⟩
  have hS4 : w4.cell? ⟨2, 0, none⟩ = some (EV 1) := by rw [hb4w.cell (World.block_lt_of_cell? w _ hS)]; exact hS
  have hV4 : w4.cell? ⟨4, 0, none⟩ = some (EV 2) := by rw [hb4w.cell (World.block_lt_of_cell? w _ hV)]; exact hV
  have C5 := ruv_any w4 _ p _ _ 0 hr4 EV hS4 hV4
  clear C4 hw4 hS4 hV4 r1
  go_wp2_with fail
  refine C5.mono ?_
  rintro e w5 ⟨_, h5⟩
  obtain ⟨rfl, hr5, he5⟩ := h5 300 2 get300
  clear h5 C5
  rw [Nat.zero_add] at hr5
  have hb5 := hb4w.trans (he5.below (B := w.heap.size) (fun i hi => by subst hi; exact hsz) hb4w.size)
  have C6 := rat_any w5 _ _ _ _ _ hr5
  have C7 := rleft_any w5 _ _ _ _ _ hr5
  clear hr4 he5
  rw [show (([172, 2, 7] : List UInt8).length : Int) - ((2 : Nat) : Int) = 1 from rfl] at C7
  go_wp2_with fail
  refine C6.mono ?_
  rintro e w' ⟨rfl, rfl⟩
  go_wp2_with fail
  refine C7.mono ?_
  rintro e w' ⟨rfl, d, rfl⟩
  go_wp2
  go_ret
  exact ⟨rfl, below_drewN hb5 _⟩
end Go.Proofs.YtmmflhippbegaaaDoor
