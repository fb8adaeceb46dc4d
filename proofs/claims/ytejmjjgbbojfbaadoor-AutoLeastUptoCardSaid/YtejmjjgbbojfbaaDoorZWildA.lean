/- auto.Wild: the automaton of a pattern; lives. -/
import Derived.Test.YtejmjjgbbojfbaaDoorZWild3
namespace Go.Proofs.YtejmjjgbbojfbaaDoor
set_option linter.unusedVariables false
open Go.ChangeShapes Go.WideShapes Go.ChangeAt Go.RowKit

theorem stepL_length (es : List PEl) (D : List Bool) (b : UInt8) : (stepL es D b).length = D.length := by unfold stepL; rw [closeI_length, stepI_length]
theorem startL_length (es : List PEl) : (startL es).length = es.length + 1 := by unfold startL; rw [closeI_length]; simp
theorem elems_len : ∀ (s : List UInt8) (es : List PEl), elems s = some es → es.length ≤ s.length
  | [], es, h => by rw [elems] at h; injection h with h; rw [← h]; simp
  | [c], es, h => by
    rw [elems] at h
    split at h
    · injection h with h; rw [← h]; simp
    · split at h
      · injection h with h; rw [← h]; simp
      · split at h
        · cases h
        · injection h with h; rw [← h]; simp
  | c :: d :: r, es, h => by
    have key : ∀ (r' : List UInt8) (e : PEl), (∀ es, elems r' = some es → es.length ≤ r'.length) → r'.length ≤ r.length + 1 → (elems r').map (e :: ·) = some es → es.length ≤ (c :: d :: r).length := fun r' e ih hl h => by
      cases hr : elems r' with
      | none => rw [hr] at h; cases h
      | some x =>
        rw [hr] at h; injection h with h
        have := ih x hr
        rw [← h]; simp; omega
    rw [elems] at h
    split at h
    · exact key (d :: r) _ (elems_len (d :: r)) (by simp) h
    · split at h
      · exact key (d :: r) _ (elems_len (d :: r)) (by simp) h
      · split at h
        · exact key r _ (elems_len r) (by simp) h
        · exact key (d :: r) _ (elems_len (d :: r)) (by simp) h
theorem wildM_auto {w : World} {p : Nat} {a : Option Addr} {n c : Nat} {es : List PEl} (hr : RdE w (.slice a n c) es) (hes : es.length ≤ 1000000000) (hc : w.cell? ⟨p, 0, none⟩ = some (.iface 93 (.agg #[.slice a n c]))) : IsAuto w p (wildM es) := by
  refine ⟨World.block_lt_of_cell? w _ hc, 93, .agg #[.slice a n c], 115, 116, 114, fun d => ∃ D : List Bool, D.length = es.length + 1 ∧ d = strB D, ⟨hc, fun d ⟨D, hD, e⟩ => by rw [e]; unfold strB; rw [strOf_size]; simp [bitsB]; omega⟩, ⟨fun w => by kernel_rfl, fun args w => by kernel_rfl⟩, ⟨fun w => by kernel_rfl, fun args w => by kernel_rfl⟩, ⟨fun w => by kernel_rfl, fun args w => by kernel_rfl⟩,
    fun _ => ⟨startL es, startL_length es, rfl⟩, ?_, ?_⟩
  · rintro d b ⟨D, hD, rfl⟩ _ hne
    refine ⟨stepL es D b, by rw [stepL_length]; exact hD, ?_⟩
    show (if (stepL es (boolsOf (strB D)) b).any id then strB (stepL es (boolsOf (strB D)) b) else ⟨#[]⟩) = _
    have hne' : (if (stepL es (boolsOf (strB D)) b).any id then strB (stepL es (boolsOf (strB D)) b) else ⟨#[]⟩) ≠ (⟨#[]⟩ : ByteArray) := hne
    rw [boolsOf_strB] at hne' ⊢
    split
    · rfl
    · next h => rw [if_neg h] at hne'; exact absurd rfl hne'
  · intro w' hb
    have hr' := hr.below hb
    refine ⟨wstart_any w' a n c es hr' hes, ?_, ?_⟩
    · rintro d b ⟨D, hD, rfl⟩ _
      refine (wstep_any w' a n c es hr' hes _ D rfl hD b).mono fun e w'' ⟨h1, h2⟩ => ⟨?_, h2⟩
      rw [h1]
      show _ = Ending.returned (.string (if (stepL es (boolsOf (strB D)) b).any id then strB (stepL es (boolsOf (strB D)) b) else ⟨#[]⟩))
      rw [boolsOf_strB]; rfl
    · rintro d ⟨D, hD, rfl⟩ _
      refine (wacc_any w' a n c es hr' hes _ D rfl hD).mono fun e w'' ⟨h1, h2⟩ => ⟨?_, h2⟩
      rw [h1]
      show _ = Ending.returned (.bool ((boolsOf (strB D)).getD es.length false))
      rw [boolsOf_strB]
/-- What Wild answers. -/
def WildPost (w : World) (s : ByteArray) (eP : Value) (e : Ending) (w' : World) : Prop :=
  (∀ es, elems s.data.toList = some es → ∃ p, e = .returned (.tuple #[.pointer (some ⟨p, 0, none⟩), .nilIface]) ∧ w.heap.size ≤ p ∧ IsAuto w' p (wildM es) ∧ Below w.heap.size w w') ∧
  (elems s.data.toList = none → e = .returned (.tuple #[.pointer none, eP]) ∧ Below w.heap.size w w')
set_option maxRecDepth 100000 in
set_option maxHeartbeats 1000000 in
theorem wild_any (w : World) (s : ByteArray) (hs : s.size ≤ 1000000000) (eP : Value) (hP : w.cell? ⟨2, 0, none⟩ = some eP) :
    Calls Tryd.prog 23 #[.string s] w (WildPost w s eP) := by
  have C0 := elements_any w s (by omega)
  have hsl : s.size = s.data.toList.length := (Array.length_toList (xs := s.data)).symm
  cases hes : elems s.data.toList with
  | none =>
    have HES := Lib.hid hes
    clear hes hsl
    go_enter Tryd.func23, Tryd.ntmps23
    go_wp2_with fail
    refine C0.mono ?_
    rintro e w1 ⟨_, h2⟩
    obtain ⟨rfl, hb1⟩ := h2 HES.out
    have hP1 : w1.cell? ⟨2, 0, none⟩ = some eP := by rw [hb1.cell (World.block_lt_of_cell? w _ hP)]; exact hP
    have HB := Lib.hid hb1
    clear C0 h2 hb1
    go_wp2
    go_quiet (fail)
    go_wp2
    go_ret2
    exact ⟨fun es h => absurd (HES.out.symm.trans h) (by simp), fun _ => ⟨rfl, below_drewN HB.out _⟩⟩
  | some es =>
    have hel := elems_len _ _ hes
    have hel2 : es.length ≤ 1000000000 := by omega
    have HES := Lib.hid hes
    clear hes hsl hel
    go_enter Tryd.func23, Tryd.ntmps23
    go_wp2_with fail
    refine C0.mono ?_
    rintro e w1 ⟨h1, _⟩
    obtain ⟨v, rfl, hrow, hb1⟩ := h1 es HES.out
    obtain ⟨a, c, rfl⟩ := hrow.sl
    have hrd := hrow.rd
    have hn := heap_alloc_new w1 (.cells #[.iface 93 (.agg #[.slice a es.length c])] 83)
    have hb2 : Below w1.heap.size w1 (w1.alloc (.cells #[.iface 93 (.agg #[.slice a es.length c])] 83)) := (Below.refl _ _).alloc (Nat.le_refl _) _
    have ha := wildM_auto (p := w1.heap.size) (hrd.below hb2) hel2 (blk_cell hn 0)
    have HA := Lib.hid ha
    have HB := Lib.hid (hb1.trans (hb2.mono hb1.size))
    have HSZ := Lib.hid hb1.size
    clear C0 h1 hrow hrd hn ha hb1 hb2
    go_wp2
    go_ret2
    exact ⟨fun es' h => by
      have : es = es' := Option.some.inj (HES.out.symm.trans h)
      subst this
      exact ⟨w1.heap.size, rfl, HSZ.out, HA.out, HB.out⟩, fun h => absurd (HES.out.symm.trans h) (by simp)⟩

def livesE : List PEl := [(0, 97), (1, 0), (0, 98), (2, 0)]
theorem lives1 : accM (wildM livesE) [97, 120, 98] = true := by decide +kernel
theorem lives2 : accM (wildM livesE) [97, 120, 98, 121, 121] = true := by decide +kernel
theorem lives3 : aliveM (wildM livesE) [97] = true := by decide +kernel
theorem lives4 : accM (wildM livesE) [97, 98] = false := by decide +kernel
theorem lives5 : aliveM (wildM livesE) [98] = false := by decide +kernel
set_option maxRecDepth 100000 in
theorem lives_any (w : World) (eP : Value) (hP : w.cell? ⟨2, 0, none⟩ = some eP) :
    Calls Tryd.prog 13 #[] w fun e w' => e = .returned (.bool true) ∧ Below w.heap.size w w' := by
  have C0 := wild_any w ⟨#[97, 63, 98, 42]⟩ (by decide) eP hP
  go_enter Tryd.func13, Tryd.ntmps13
  go_wp2_with fail
  refine C0.mono ?_
  rintro e w1 ⟨h1, _⟩
  obtain ⟨p, rfl, _, ha1, hb1⟩ := h1 livesE rfl
  have C1 := accepts_any w1 p _ ha1 ⟨#[97, 120, 98]⟩ (by decide)
  rw [show accM (wildM livesE) (⟨#[97, 120, 98]⟩ : ByteArray).data.toList = true from lives1] at C1
  have HA1 := Lib.hid ha1
  have HB1 := Lib.hid hb1
  clear C0 h1 ha1 hb1
  go_wp2_with fail
  refine C1.mono ?_
  rintro e w2 ⟨rfl, hb2⟩
  have ha2 := HA1.out.below hb2
  have C2 := accepts_any w2 p _ ha2 ⟨#[97, 120, 98, 121, 121]⟩ (by decide)
  rw [show accM (wildM livesE) (⟨#[97, 120, 98, 121, 121]⟩ : ByteArray).data.toList = true from lives2] at C2
  have HA2 := Lib.hid ha2
  have HB2 := Lib.hid (HB1.out.trans (hb2.mono HB1.out.size))
  clear C1 ha2 hb2
  go_wp2_with fail
  refine C2.mono ?_
  rintro e w3 ⟨rfl, hb3⟩
  have ha3 := HA2.out.below hb3
  have C3 := alive_any w3 p _ ha3 ⟨#[97]⟩ (by decide)
  rw [show aliveM (wildM livesE) (⟨#[97]⟩ : ByteArray).data.toList = true from lives3] at C3
  have HA3 := Lib.hid ha3
  have HB3 := Lib.hid (HB2.out.trans (hb3.mono HB2.out.size))
  clear C2 ha3 hb3
  go_wp2_with fail
  refine C3.mono ?_
  rintro e w4 ⟨rfl, hb4⟩
  have ha4 := HA3.out.below hb4
  have C4 := accepts_any w4 p _ ha4 ⟨#[97, 98]⟩ (by decide)
  rw [show accM (wildM livesE) (⟨#[97, 98]⟩ : ByteArray).data.toList = false from lives4] at C4
  have HA4 := Lib.hid ha4
  have HB4 := Lib.hid (HB3.out.trans (hb4.mono HB3.out.size))
  clear C3 ha4 hb4
  go_wp2_with fail
  refine C4.mono ?_
  rintro e w5 ⟨rfl, hb5⟩
  have ha5 := HA4.out.below hb5
  have C5 := alive_any w5 p _ ha5 ⟨#[98]⟩ (by decide)
  rw [show aliveM (wildM livesE) (⟨#[98]⟩ : ByteArray).data.toList = false from lives5] at C5
  have HB5 := Lib.hid (HB4.out.trans (hb5.mono HB4.out.size))
  clear C4 ha5 hb5
  go_wp2_with fail
  refine C5.mono ?_
  rintro e w6 ⟨rfl, hb6⟩
  have HB6 := Lib.hid (HB5.out.trans (hb6.mono HB5.out.size))
  clear C5 hb6
  go_wp2
  go_ret
  exact ⟨rfl, HB6.out⟩
end Go.Proofs.YtejmjjgbbojfbaaDoor
