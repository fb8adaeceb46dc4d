/- codec.Writer: Bytes. -/
import Derived.Test.YthnpbfadblcicaaDoorZWriter
import Derived.Test.YthnpbfadblcicaaDoorZCat
namespace Go.Proofs.YthnpbfadblcicaaDoor
set_option linter.unusedVariables false
open Go.ChangeShapes Go.WideShapes Go.ChangeAt Go.RowKit

theorem cat_one (w : World) (v : Value) (bs : List UInt8) (hr : Rd w v (bytesV bs)) (hn : bs.length ≤ 1000000000) :
    Calls Tryd.prog 35 #[.slice (some ⟨w.heap.size, 0, none⟩) 1 1] (w.alloc (.cells #[v] 24)) fun e w' => ∃ v', e = .returned v' ∧ Own w' w.heap.size 5 v' (bytesV bs) ∧ Below w.heap.size w w' := by
  have hB0 : Below w.heap.size w (w.alloc (.cells #[v] 24)) := (Below.refl _ _).alloc (Nat.le_refl _) _
  have hr1 := hr.below hB0 (Nat.le_refl _)
  have hls : Rd (w.alloc (.cells #[v] 24)) (.slice (some ⟨w.heap.size, 0, none⟩) 1 1) [v] := (own_one w w.heap.size 24 _ (Nat.le_refl _)).rd
  have hBs : Rds (w.alloc (.cells #[v] 24)) [v] (fun _ => bs) := fun k x hx => by
    match k, hx with
    | 0, hx => simp at hx; subst hx; exact hr1
    | k + 1, hx => simp at hx
  have hcl : catL (fun _ => bs) 1 = bs := by simp [catL]
  have C1 := cat_any _ _ 1 1 _ _ hls hBs (by simp) (by simpa [hcl] using hn)
  rw [show [v].length = 1 from rfl, hcl] at C1
  refine C1.mono ?_
  rintro e w1 ⟨v, rfl, ho, hb⟩
  exact ⟨v, rfl, own_base ho (by simp), hB0.trans (hb.mono (by simp))⟩
set_option maxRecDepth 100000 in
theorem wbytes_any (w : World) (base p : Nat) (v : Value) (bs : List UInt8) (h : Wr w base p v bs) (hl : bs.length ≤ 1000000000) :
    Calls Tryd.prog 36 #[.pointer (some ⟨p, 0, none⟩)] w fun e w' => ∃ v', e = .returned v' ∧ Own w' w.heap.size 5 v' (bytesV bs) ∧ Below w.heap.size w w' := by
  have hc := h.read
  have C1 := cat_one w v bs h.own.rd hl
  obtain ⟨a, n, c, rfl⟩ := own_sl h.own
  go_enter Tryd.func36, Tryd.ntmps36
  go_wp2_with fail
  refine C1.mono ?_
  rintro e w1 ⟨v', rfl, ho, hb⟩
  go_wp2
  go_ret
  exact ⟨_, rfl, ho, hb⟩
end Go.Proofs.YthnpbfadblcicaaDoor
