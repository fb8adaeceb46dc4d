/- concordhand.Book: Bytes and Ints, with what lies apart told. -/
import Derived.Test.YtmmflhippbegaaaDoorZBook2
import Derived.Test.YtmmflhippbegaaaDoorZWriter
namespace Go.Proofs.YtmmflhippbegaaaDoor
set_option linter.unusedVariables false
open Go.ChangeShapes Go.WideShapes Go.ChangeAt Go.RowKit

set_option maxRecDepth 100000 in
set_option maxHeartbeats 1000000 in
theorem bkB_g (w : World) (base p : Nat) (vb vi : Value) (lb li : List Value) (h : BookX w base p vb vi lb li) (hb : base ≤ w.heap.size) (hl : lb.length ≤ 1000000000) (a : Option Addr) (n c : Nat) :
    Calls Tryd.prog 19 #[.pointer (some ⟨p, 0, none⟩), .slice a n c] w fun e w' => e = .returned (.tuple #[]) ∧ ∃ v', BookX w' base p v' vi (lb ++ [.slice a n c]) li ∧ Eff (BkB p vb vi) w w' ∧ Fresh w.heap.size vb v' := by
  have hc0 : w.cell? ⟨p, 0, none⟩ = some vb := blk_cell h.blk 0
  have hll : lb.length < 1000000000000 := by omega
  obtain ⟨av, nv, cv, rfl⟩ := own_sl h.ob
  have hbo := h.ob
  have H := Lib.hid h
  clear h
  go_enter Tryd.func19, Tryd.ntmps19
  go_wp2_with (at_builtin; with_reducible refine ap1' elLists rfl hbo hll hb rfl _ _ rfl rfl rfl ?_)
  intro v' w1 g1 g2 g3 g4
  have hp1 := Lib.hid ((g4.block _ (lt_of_heap H.out.blk) (fun e => hbo.ne_type H.out.blk (by decide) e.symm)).trans H.out.blk)
  have ho1 := Lib.hid (H.out.oi.kept g4 (by
    cases hv : vi.ownBlock with
    | none => exact .inl rfl
    | some k => exact .inr (fun e => own_types hbo H.out.oi (by decide) e.symm hv)))
  obtain ⟨a1, n1, c1, rfl⟩ := own_sl g1
  have hc1 : w1.cell? ⟨p, 0, none⟩ = some (.slice av nv cv) := blk_cell hp1.out 0
  have hf1 : w1.frozen? ⟨p, 0, none⟩ = false := blk_frozen hp1.out 0
  have G3 := Lib.hid g3
  clear g3
  go_wp2
  go_end0
  have hp2 := blk_set hp1.out 0 (.slice a1 n1 c1)
  exact ⟨rfl, _, ⟨hp2, H.out.hp, g1.setOther (g1.ne_type hp1.out (by decide)) _, ho1.out.setOther (ho1.out.ne_type hp1.out (by decide)) _, fun e => by simp at e, H.out.ni⟩, (((Eff.refl _ _).grown g4 (fun k hk _ => .inr (.inl hk))).setCell (p := ⟨p, 0, none⟩) (fun _ => .inl rfl) _), fun k hk => by
    rcases G3.out with h | h
    · rw [h] at hk; exact .inl hk
    · rw [h.1] at hk; injection hk with hk; exact .inr (by omega)⟩

set_option maxRecDepth 100000 in
set_option maxHeartbeats 1000000 in
theorem bkI_g (w : World) (base p : Nat) (vb vi : Value) (lb li : List Value) (h : BookX w base p vb vi lb li) (hb : base ≤ w.heap.size) (hl : li.length ≤ 1000000000) (a : Option Addr) (n c : Nat) :
    Calls Tryd.prog 41 #[.pointer (some ⟨p, 0, none⟩), .slice a n c] w fun e w' => e = .returned (.tuple #[]) ∧ ∃ v', BookX w' base p vb v' lb (li ++ [.slice a n c]) ∧ Eff (BkB p vb vi) w w' ∧ Fresh w.heap.size vi v' := by
  have hc0 : w.cell? ⟨p, 1, none⟩ = some vi := blk_cell h.blk 1
  have hll : li.length < 1000000000000 := by omega
  obtain ⟨av, nv, cv, rfl⟩ := own_sl h.oi
  have hbo := h.oi
  have H := Lib.hid h
  clear h
  go_enter Tryd.func41, Tryd.ntmps41
  go_wp2_with (at_builtin; with_reducible refine ap1' elIntLists rfl hbo hll hb rfl _ _ rfl rfl rfl ?_)
  intro v' w1 g1 g2 g3 g4
  have hp1 := Lib.hid ((g4.block _ (lt_of_heap H.out.blk) (fun e => hbo.ne_type H.out.blk (by decide) e.symm)).trans H.out.blk)
  have ho1 := Lib.hid (H.out.ob.kept g4 (by
    cases hv : vb.ownBlock with
    | none => exact .inl rfl
    | some k => exact .inr (fun e => own_types hbo H.out.ob (by decide) e.symm hv)))
  obtain ⟨a1, n1, c1, rfl⟩ := own_sl g1
  have hc1 : w1.cell? ⟨p, 1, none⟩ = some (.slice av nv cv) := blk_cell hp1.out 1
  have hf1 : w1.frozen? ⟨p, 1, none⟩ = false := blk_frozen hp1.out 1
  have G3 := Lib.hid g3
  clear g3
  go_wp2
  go_end0
  have hp2 := blk_set hp1.out 1 (.slice a1 n1 c1)
  exact ⟨rfl, _, ⟨hp2, H.out.hp, ho1.out.setOther (ho1.out.ne_type hp1.out (by decide)) _, g1.setOther (g1.ne_type hp1.out (by decide)) _, H.out.nb, fun e => by simp at e⟩, (((Eff.refl _ _).grown g4 (fun k hk _ => .inr (.inr hk))).setCell (p := ⟨p, 1, none⟩) (fun _ => .inl rfl) _), fun k hk => by
    rcases G3.out with h | h
    · rw [h] at hk; exact .inl hk
    · rw [h.1] at hk; injection hk with hk; exact .inr (by omega)⟩
end Go.Proofs.YtmmflhippbegaaaDoor
