/- posts: the document's Encode. -/
import Derived.Test.YthnpbfadblcicaaDoorZG8
namespace Go.Proofs.YthnpbfadblcicaaDoor
set_option linter.unusedVariables false
open Go.ChangeShapes Go.WideShapes Go.ChangeAt Go.RowKit

/-- What the document's Encode answers and leaves. -/
def REncPost (w : World) (ps : List PostV) (e : Ending) (w' : World) : Prop :=
  (okV (-1) ps → ∃ A N C, e = .returned (.tuple #[.slice A N C, .int .i64 0]) ∧ Own w' w.heap.size 5 (.slice A N C) (bytesV (imageV ps)) ∧ Below w.heap.size w w') ∧
  (¬ okV (-1) ps → e = .returned (.tuple #[.slice none 0 0, .int .i64 (checkV (-1) ps : Nat)]) ∧ Below w.heap.size w w')
theorem image_sk (ps : List PostV) (q : Nat) : imageV ps = ((uvar ps.length ++ uvar (totalV ps)) ++ hdS (-1) (skV (-1) q (chp ps))) ++ bodyV (blksV (-1) (chp ps)) := by
  rw [hdS_sk, imageV]; simp only [List.append_assoc]
set_option maxRecDepth 100000 in
set_option maxHeartbeats 8000000 in
theorem renc_any (w : World) (a : Option Addr) (n c : Nat) (ps : List PostV) (hr : RdPost w a n ps) (hnc : n ≤ c) (hf : FitP ps) (hl : ps.length ≤ 1048576) (hT : totalV ps ≤ 20000000) (EA : Nat → Addr) (hS : Sent7 w EA) :
    Calls Tryd.prog 11 #[.slice a n c] w (REncPost w ps) := by
  have E1 := rchk8_any w a n c ps hr hf (by omega) EA hS
  by_cases ok : okV (-1) ps
  · have hck : checkV (-1) ps = 0 := ok
    rw [hck] at E1
    obtain ⟨hHV, hBV⟩ := blks_le _ (-1) ps (Nat.le_refl _) hf ok (by omega) (by omega) (by omega)
    have hsl := sk_len_le _ (-1) 0 ps (Nat.le_refl _)
    have him := image_sk ps 0
    have HIM := Lib.hid him
    have HR := Lib.hid hr
    have HF := Lib.hid hf
    have HOK := Lib.hid ok
    clear hr hf him hS hck
    go_enter Tryd.func11, Tryd.ntmps11
    go_wp2_with fail
    with_reducible refine E1.mono ?_
    rintro e w1 ⟨rfl, hb1⟩
    clear E1
    have E2 := rskips_any w1 a n c ps (HR.out.below hb1 (Nat.le_refl _)) hnc HF.out HOK.out hl hT
    have HB1 := Lib.hid hb1
    clear hb1
    go_wp2_with fail
    with_reducible refine E2.mono ?_
    rintro e w2 ⟨A, N, C, A2, N2, C2, rfl, hs2, ho2, hb2⟩
    clear E2
    have hb12 := HB1.out.trans (hb2.mono HB1.out.size)
    have E3 := rhead_any w2 a n c ps (HR.out.below hb12 (Nat.le_refl _)) hl hT _ A N C _ hs2 (sk_ok _ (-1) 0 ps (Nat.le_refl _) HF.out HOK.out (by omega) hT) (by omega)
    obtain ⟨HD, hHD⟩ : ∃ HD, (uvar ps.length ++ uvar (totalV ps)) ++ hdS (-1) (skV (-1) 0 (chp ps)) = HD := ⟨_, rfl⟩
    rw [hHD] at E3
    have HS2 := Lib.hid hs2
    have HO2 := Lib.hid ho2
    have HB2 := Lib.hid hb12
    clear hs2 ho2 hb2 hb12
    go_wp2_with fail
    with_reducible refine E3.mono ?_
    rintro e w3 ⟨v3, rfl, ho3, hb3⟩
    clear E3
    obtain ⟨A3, N3, C3, rfl⟩ := own_sl ho3
    have hb23 := HB2.out.trans (hb3.mono HB2.out.size)
    have ho23 := HO2.out.below hb3 (Nat.le_refl _)
    have ho33 := own_base ho3 (base' := w.heap.size) HB2.out.size
    have hhd := hdS_le (-1) _ (sk_ok _ (-1) 0 ps (Nat.le_refl _) HF.out HOK.out (by omega) hT) (by omega)
    have u1 := (uvar_le ps.length (by omega)).2
    have u2 := (uvar_le (totalV ps) (by omega)).2
    have hl3 : (bytesV HD).length + (bytesV (bodyV (blksV (-1) (chp ps)))).length < 1000000000001 := by
      rw [bytesV_length, bytesV_length, ← hHD, List.length_append, List.length_append]; omega
    have hz3 := hb23.size
    have HO3 := Lib.hid ho33
    have HRD3 := Lib.hid ho23.rd
    have H1A := Lib.hid (bytesV_one (bodyV (blksV (-1) (chp ps))))
    have HL3 := Lib.hid hl3
    have HB3 := Lib.hid hb23
    clear ho33 ho23 ho3 hb3 hl3 hb23 hhd
    go_wp2_with (at_builtin; with_reducible refine apN elBytes HO3.out HRD3.out H1A.out HL3.out hz3 rfl _ _ rfl rfl rfl ?_)
    intro v4 w4 k1 k2 k3 k4
    have hb4 := HB3.out.grown k4 hz3 (fun k hk => (HO3.out.lt k hk).1)
    rw [← bytesV_append, ← hHD, ← HIM.out] at k1
    obtain ⟨A4, N4, C4, rfl⟩ := own_sl k1
    have HO4 := Lib.hid k1
    have HB4 := Lib.hid hb4
    clear k1 k2 k3 k4 hb4
    go_wp2
    go_ret2
    exact ⟨fun _ => ⟨_, _, _, rfl, HO4.out, HB4.out⟩, fun h => absurd HOK.out h⟩
  · obtain ⟨G, hG⟩ : ∃ G, checkV (-1) ps = G := ⟨_, rfl⟩
    have hg0 : G ≠ 0 := fun e => ok (hG.trans e)
    have t0 : ((G : Int) != 0) = true := by simp; omega
    have HG := Lib.hid hG
    rw [hG] at E1
    clear hr hf hS hG
    go_enter Tryd.func11, Tryd.ntmps11
    go_wp2_with fail
    with_reducible refine E1.mono ?_
    rintro e w1 ⟨rfl, hb1⟩
    clear E1
    have HB1 := Lib.hid hb1
    clear hb1 hg0
    go_wp2
    go_ret2
    exact ⟨fun h => absurd h ok, fun _ => ⟨by rw [HG.out]; rfl, HB1.out⟩⟩
end Go.Proofs.YthnpbfadblcicaaDoor
