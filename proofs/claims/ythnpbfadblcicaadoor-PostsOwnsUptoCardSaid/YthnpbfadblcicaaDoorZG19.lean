/- Merged: PLives, REncode. -/
import Derived.Test.YthnpbfadblcicaaDoorZPOpen
import Derived.Test.YthnpbfadblcicaaDoorZEncode
import Derived.Test.YthnpbfadblcicaaDoorZPDocs
import Derived.Test.YthnpbfadblcicaaDoorZG12
/- posts: the law's lives. -/
namespace Go.Proofs.YthnpbfadblcicaaDoor
set_option linter.unusedVariables false
open Go.ChangeShapes Go.WideShapes Go.ChangeAt Go.RowKit

def PL : List PostV := [⟨2, [1, 4]⟩, ⟨5, [0]⟩]
theorem okL : okV (-1) PL := by unfold okV PL; decide
theorem fitL : FitP PL := by
  intro p hp
  simp only [PL, List.mem_cons, List.not_mem_nil, or_false] at hp
  rcases hp with rfl | rfl
  · exact ⟨⟨by decide, by decide⟩, fun z hz => by simp only [List.mem_cons, List.not_mem_nil, or_false] at hz; omega, by decide⟩
  · exact ⟨⟨by decide, by decide⟩, fun z hz => by simp only [List.mem_cons, List.not_mem_nil, or_false] at hz; omega, by decide⟩
theorem chpL : chp PL = [PL] := by
  rw [chp_cons (by unfold PL; simp)]
  rw [show PL.drop 16 = [] from rfl, chp_nil]; rfl
theorem packL1 : packB [2, 2] = [2, 10] := by decide
theorem packL2 : packB [1, 0] = [1, 1] := by decide
theorem blockL : blockB (-1) PL = [2, 2, 10, 2, 1, 1, 1, 2, 0] := by
  unfold blockB
  rw [show gapsD (-1) PL = [2, 2] from rfl, show freqV PL = [1, 0] from rfl]
  unfold pckB
  rw [packL1, packL2]
  simp [tailV, PL, gapsB, uvar_small]
theorem imageL : imageV PL = [2, 3, 5, 9, 2, 2, 10, 2, 1, 1, 1, 2, 0] := by
  unfold imageV
  rw [chpL, show blksV (-1) [PL] = [(5, blockB (-1) PL)] from rfl, blockL, show PL.length = 2 from rfl, show totalV PL = 3 from rfl]
  simp [headV, bodyV, uvar_small]
theorem rd_lives (w : World) : RdPost (((w.alloc (.cells #[.int .i64 1, .int .i64 4] 3)).alloc (.cells #[.int .i64 0] 3)).alloc (.cells #[.int .i64 2, .slice (some ⟨w.heap.size, 0, none⟩) 2 2, .int .i64 5, .slice (some ⟨w.heap.size + 1, 0, none⟩) 1 1] 53)) (some ⟨w.heap.size + 1 + 1, 0, none⟩) 2 PL := by
  have h1 := ((own_lit w w.heap.size 3 (intL [1, 4]) (Nat.le_refl _) (by decide)).alloc (.cells #[.int .i64 0] 3)).alloc (.cells #[.int .i64 2, .slice (some ⟨w.heap.size, 0, none⟩) 2 2, .int .i64 5, .slice (some ⟨w.heap.size + 1, 0, none⟩) 1 1] 53)
  have h2 := (own_lit (w.alloc (.cells #[.int .i64 1, .int .i64 4] 3)) w.heap.size 3 (intL [0]) (by simp) (by decide)).alloc (.cells #[.int .i64 2, .slice (some ⟨w.heap.size, 0, none⟩) 2 2, .int .i64 5, .slice (some ⟨w.heap.size + 1, 0, none⟩) 1 1] 53)
  have h3 := heap_alloc_new ((w.alloc (.cells #[.int .i64 1, .int .i64 4] 3)).alloc (.cells #[.int .i64 0] 3)) (.cells #[.int .i64 2, .slice (some ⟨w.heap.size, 0, none⟩) 2 2, .int .i64 5, .slice (some ⟨w.heap.size + 1, 0, none⟩) 1 1] 53)
  rw [World.size_alloc, World.size_alloc] at h3
  rw [World.size_alloc] at h2
  refine ⟨rfl, fun _ => ⟨w.heap.size + 1 + 1, 0, rfl, fun i hi => ?_⟩⟩
  match i, hi with
  | 0, hi => exact ⟨blk_cell h3 0, _, _, blk_cell h3 1, h1.rd⟩
  | 1, hi => exact ⟨blk_cell h3 2, _, _, blk_cell h3 3, h2.rd⟩
set_option maxRecDepth 100000 in
set_option maxHeartbeats 2000000 in
theorem lives_any (w : World) (EA : Nat → Addr) (hS : Sent7 w EA) : Calls Tryd.prog 9 #[] w fun e w' => e = .returned (.bool true) ∧ Below w.heap.size w w' := by
  have hbA : Below w.heap.size w (((w.alloc (.cells #[.int .i64 1, .int .i64 4] 3)).alloc (.cells #[.int .i64 0] 3)).alloc (.cells #[.int .i64 2, .slice (some ⟨w.heap.size, 0, none⟩) 2 2, .int .i64 5, .slice (some ⟨w.heap.size + 1, 0, none⟩) 1 1] 53)) :=
    (((Below.refl _ w).alloc (Nat.le_refl _) _).alloc (by simp) _).alloc (by simp; omega) _
  have C1 := encode_any _ _ 2 2 PL (rd_lives w) (Nat.le_refl _) fitL (by decide) (by decide) EA (hS.below hbA)
  have HBA := Lib.hid hbA
  have HS := Lib.hid hS
  clear hbA hS
  go_enter Tryd.func9, Tryd.ntmps9
  go_wp2_with fail
  with_reducible refine C1.mono ?_
  rintro e w1 ⟨h1, -⟩
  clear C1
  obtain ⟨A, N, C, rfl, ho, hb⟩ := h1 okL
  have hb1 := HBA.out.trans (hb.mono HBA.out.size)
  rw [imageL] at ho
  have r1 := run_str (P := Tryd.prog) Tryd.underlying24 Tryd.underlying5 Tryd.underlying9 ho.rd
  rw [show strOf [2, 3, 5, 9, 2, 2, 10, 2, 1, 1, 1, 2, 0] = ⟨#[2, 3, 5, 9, 2, 2, 10, 2, 1, 1, 1, 2, 0]⟩ from rfl] at r1
  have hop := openV_of okL fitL (by decide) (by decide)
  rw [imageL] at hop
  have C2 := open_any w1 A N C _ ho.rd (by decide) EA (HS.out.below hb1)
  have HB1 := Lib.hid hb1
  have HOP := Lib.hid hop
  clear h1 ho hb hb1 hop
  go_wp2_with fail
  with_reducible refine C2.mono ?_
  rintro e w2 ⟨h2, -, hb2⟩
  clear C2 r1
  obtain ⟨p, im, sv, rfl, hl⟩ := h2 _ HOP.out
  have hb12 := HB1.out.trans (hb2.mono HB1.out.size)
  have D1 := docs_any w2 _ p im sv _ _ _ _ hl
  have D2 := total_any w2 _ p im sv _ _ _ _ hl
  have D3 := blocks_any w2 _ p im sv _ _ _ _ hl
  rw [show PL.length = 2 from rfl] at D1
  rw [show totalV PL = 3 from rfl] at D2
  rw [chpL, skV_len] at D3
  have HB2 := Lib.hid hb12
  clear h2 hb2 hb12 hl
  go_wp2_with fail
  with_reducible refine D1.mono ?_
  rintro e w3 ⟨rfl, rfl⟩
  go_wp2_with fail
  with_reducible refine D2.mono ?_
  rintro e w3 ⟨rfl, rfl⟩
  go_wp2_with fail
  with_reducible refine D3.mono ?_
  rintro e w3 ⟨rfl, rfl⟩
  go_wp2
  go_ret
  exact ⟨rfl, HB2.out⟩
end Go.Proofs.YthnpbfadblcicaaDoor

/- posts: the document's Encode. -/
namespace Go.Proofs.YthnpbfadblcicaaDoor
set_option linter.unusedVariables false
open Go.ChangeShapes Go.WideShapes Go.ChangeAt Go.RowKit

/-- What the document's Encode answers and leaves. -/
def REncPost (w : World) (ps : List PostV) (e : Ending) (w' : World) : Prop :=
  (okV (-1) ps → ∃ A N C, e = .returned (.tuple #[.slice A N C, .int .i64 0]) ∧ Own w' w.heap.size 5 (.slice A N C) (bytesV (imageV ps)) ∧ Below w.heap.size w w') ∧
  (¬ okV (-1) ps → e = .returned (.tuple #[.slice none 0 0, .int .i64 (checkV (-1) ps : Nat)]) ∧ Below w.heap.size w w')
theorem image_sk (ps : List PostV) (q : Nat) : imageV ps = ((uvar ps.length ++ uvar (totalV ps)) ++ hdS (-1) (skV (-1) q (chp ps))) ++ bodyV (blksV (-1) (chp ps)) := by
  rw [hdS_sk, imageV]; simp only [List.append_assoc]
set_option maxRecDepth 100000 in
set_option maxHeartbeats 8000000 in
theorem renc_any (w : World) (a : Option Addr) (n c : Nat) (ps : List PostV) (hr : RdPost w a n ps) (hnc : n ≤ c) (hf : FitP ps) (hl : ps.length ≤ 31000000) (hT : totalV ps ≤ 31000000) (EA : Nat → Addr) (hS : Sent6 w EA) :
    Calls Tryd.prog 11 #[.slice a n c] w (REncPost w ps) := by
  have E1 := rchk8_any w a n c ps hr hf (by omega) EA hS
  by_cases ok : okV (-1) ps
  · have hck : checkV (-1) ps = 0 := ok
    rw [hck] at E1
    obtain ⟨hHV, hBV⟩ := blks_le2 _ (-1) ps (Nat.le_refl _) hf ok (by omega) (by omega) (by omega)
    have hsl := sk_len_le _ (-1) 0 ps (Nat.le_refl _)
    have him := image_sk ps 0
    have HIM := Lib.hid him
    have HR := Lib.hid hr
    have HF := Lib.hid hf
    have HOK := Lib.hid ok
    clear hr hf him hS hck
    go_enter Tryd.func11, Tryd.ntmps11
    go_wp2_with fail
    with_reducible refine E1.mono ?_
    rintro e w1 ⟨rfl, hb1⟩
    clear E1
    have E2 := rskips_any w1 a n c ps (HR.out.below hb1 (Nat.le_refl _)) hnc HF.out HOK.out hl hT
    have HB1 := Lib.hid hb1
    clear hb1
    go_wp2_with fail
    with_reducible refine E2.mono ?_
    rintro e w2 ⟨A, N, C, A2, N2, C2, rfl, hs2, ho2, hb2⟩
    clear E2
    have hb12 := HB1.out.trans (hb2.mono HB1.out.size)
    have E3 := rhead_any w2 a n c ps (HR.out.below hb12 (Nat.le_refl _)) hl hT _ A N C _ hs2 (sk_ok _ (-1) 0 ps (Nat.le_refl _) HF.out HOK.out (by omega) hT) (by omega)
    obtain ⟨HD, hHD⟩ : ∃ HD, (uvar ps.length ++ uvar (totalV ps)) ++ hdS (-1) (skV (-1) 0 (chp ps)) = HD := ⟨_, rfl⟩
    rw [hHD] at E3
    have HS2 := Lib.hid hs2
    have HO2 := Lib.hid ho2
    have HB2 := Lib.hid hb12
    clear hs2 ho2 hb2 hb12
    go_wp2_with fail
    with_reducible refine E3.mono ?_
    rintro e w3 ⟨v3, rfl, ho3, hb3⟩
    clear E3
    obtain ⟨A3, N3, C3, rfl⟩ := own_sl ho3
    have hb23 := HB2.out.trans (hb3.mono HB2.out.size)
    have ho23 := HO2.out.below hb3 (Nat.le_refl _)
    have ho33 := own_base ho3 (base' := w.heap.size) HB2.out.size
    have hhd := hdS_le (-1) _ (sk_ok _ (-1) 0 ps (Nat.le_refl _) HF.out HOK.out (by omega) hT) (by omega)
    have u1 := (uvar_le ps.length (by omega)).2
    have u2 := (uvar_le (totalV ps) (by omega)).2
    have hl3 : (bytesV HD).length + (bytesV (bodyV (blksV (-1) (chp ps)))).length < 1000000000001 := by
      rw [bytesV_length, bytesV_length, ← hHD, List.length_append, List.length_append]; omega
    have hz3 := hb23.size
    have HO3 := Lib.hid ho33
    have HRD3 := Lib.hid ho23.rd
    have H1A := Lib.hid (bytesV_one (bodyV (blksV (-1) (chp ps))))
    have HL3 := Lib.hid hl3
    have HB3 := Lib.hid hb23
    clear ho33 ho23 ho3 hb3 hl3 hb23 hhd
    go_wp2_with (at_builtin; with_reducible refine apN elBytes HO3.out HRD3.out H1A.out HL3.out hz3 rfl _ _ rfl rfl rfl ?_)
    intro v4 w4 k1 k2 k3 k4
    have hb4 := HB3.out.grown k4 hz3 (fun k hk => (HO3.out.lt k hk).1)
    rw [← bytesV_append, ← hHD, ← HIM.out] at k1
    obtain ⟨A4, N4, C4, rfl⟩ := own_sl k1
    have HO4 := Lib.hid k1
    have HB4 := Lib.hid hb4
    clear k1 k2 k3 k4 hb4
    go_wp2
    go_ret2
    exact ⟨fun _ => ⟨_, _, _, rfl, HO4.out, HB4.out⟩, fun h => absurd HOK.out h⟩
  · obtain ⟨G, hG⟩ : ∃ G, checkV (-1) ps = G := ⟨_, rfl⟩
    have hg0 : G ≠ 0 := fun e => ok (hG.trans e)
    have t0 : ((G : Int) != 0) = true := by simp; omega
    have HG := Lib.hid hG
    rw [hG] at E1
    clear hr hf hS hG
    go_enter Tryd.func11, Tryd.ntmps11
    go_wp2_with fail
    with_reducible refine E1.mono ?_
    rintro e w1 ⟨rfl, hb1⟩
    clear E1
    have HB1 := Lib.hid hb1
    clear hb1 hg0
    go_wp2
    go_ret2
    exact ⟨fun h => absurd h ok, fun _ => ⟨by rw [HG.out]; rfl, HB1.out⟩⟩
end Go.Proofs.YthnpbfadblcicaaDoor
