/- cursor: first. -/
import Derived.Test.YtaijepjhmjjecaaDoorZG20
import Derived.Test.YtaijepjhmjjecaaDoorZG20
import Derived.Deep.RegionHeld3
namespace Go.Proofs.YtaijepjhmjjecaaDoor
set_option linter.unusedVariables false
open Go.ChangeShapes Go.WideShapes Go.ChangeAt Go.RowKit

/-- The last document of block i. -/
def lastF (ps : List PostV) (i : Nat) : Int := if h : min (16 * i + 15) (ps.length - 1) < ps.length then (ps[min (16 * i + 15) (ps.length - 1)]).doc else 0
theorem lastF_sk {ps : List PostV} {i : Nat} (h2 : i < (skV (-1) (headL ps) (chp ps)).length) : ((skV (-1) (headL ps) (chp ps))[i]).last = lastF ps i := by
  obtain ⟨hl, he⟩ := blk_last i (by rwa [skV_len] at h2) h2
  rw [he]; unfold lastF; rw [dif_pos hl]
theorem lastF_mono {ps : List PostV} (ok : okV (-1) ps) {i j : Nat} (h : i ≤ j) : lastF ps i ≤ lastF ps j := by
  unfold lastF
  by_cases h0 : ps.length = 0
  · rw [dif_neg (by omega), dif_neg (by omega)]; exact Int.le_refl _
  · rw [dif_pos (by omega), dif_pos (by omega)]
    exact okV_le_le ok (by omega) (by omega)
/-- How many blocks from a on end ahead of t. -/
def seekB (ps : List PostV) (a m : Nat) (t : Int) : Nat := ((List.range m).takeWhile fun i => decide (lastF ps (a + i) < t)).length
theorem takeW_range (p : Nat → Bool) (hp : ∀ i j, i ≤ j → p j = true → p i = true) : ∀ m : Nat, ((List.range m).takeWhile p).length ≤ m ∧ (∀ i, i < ((List.range m).takeWhile p).length → p i = true) ∧ (∀ i, ((List.range m).takeWhile p).length ≤ i → i < m → p i = false)
  | 0 => ⟨by simp, fun i h => by simp at h, fun i h h2 => by omega⟩
  | m + 1 => by
    obtain ⟨i1, i2, i3⟩ := takeW_range p hp m
    rw [List.range_succ]
    by_cases hf : ((List.range m).takeWhile p).length = m
    · have hall : ∀ x ∈ List.range m, p x = true := fun x hx => i2 x (by rw [hf]; exact List.mem_range.1 hx)
      rw [List.takeWhile_append_of_pos hall]
      by_cases hm : p m = true
      · have e : [m].takeWhile p = [m] := by simp [hm]
        rw [e, List.length_append, List.length_range, List.length_singleton]
        exact ⟨Nat.le_refl _, fun i h => by
          rcases Nat.lt_or_eq_of_le (Nat.lt_succ_iff.1 h) with h9 | h9
          · exact hall i (List.mem_range.2 h9)
          · subst h9; exact hm, fun i h h2 => by omega⟩
      · have e : [m].takeWhile p = [] := by simp [hm]
        rw [e, List.append_nil, List.length_range]
        exact ⟨Nat.le_succ _, fun i h => hall i (List.mem_range.2 h), fun i h h2 => by
          obtain rfl : i = m := by omega
          simpa using hm⟩
    · have hlt : ((List.range m).takeWhile p).length < m := by omega
      have hno := i3 _ (Nat.le_refl _) hlt
      have e : (List.range m ++ [m]).takeWhile p = (List.range m).takeWhile p := by
        rw [List.takeWhile_append]
        rw [if_neg (by rw [List.length_range]; omega)]
      rw [e]
      refine ⟨by omega, i2, fun i h h2 => ?_⟩
      cases hpi : p i with
      | false => rfl
      | true => rw [hp _ i h hpi] at hno; cases hno
set_option maxRecDepth 100000 in
set_option maxHeartbeats 4000000 in
theorem firstc_any (w : World) (base q : Nat) (lp : Value) (ps : List PostV) (IM : List UInt8) (d : Int) (u mv : Nat) (told : Bool) (bk : Int) (rv : Value) (h : CurB w base q lp ps IM d u mv told bk rv) (B1 B2 B3 : Nat) (c1 : w.cell? ⟨B1, 0, none⟩ = some (.pointer (some ⟨q, 0, none⟩))) (fr : Nat) (c2 : w.cell? ⟨B2, 0, none⟩ = some (.int .i64 (fr : Nat))) (t : Int) (c3 : w.cell? ⟨B3, 0, none⟩ = some (.int .i64 t))
    (i : Nat) (hi : fr + i < (chp ps).length) :
    Calls Tryd.prog 87 #[.int .i64 (i : Nat), .pointer (some ⟨B1, 0, none⟩), .pointer (some ⟨B2, 0, none⟩), .pointer (some ⟨B3, 0, none⟩)] w fun e w' => e = .returned (.bool (decide (t ≤ lastF ps (fr + i)))) ∧ Below w.heap.size w w' := by
  have cl := blk_cell h.blk 2
  rcases h.ls with ⟨-, h9⟩ | ⟨pl, im, sa, sc, rfl, hl0, hok⟩
  · subst h9; rw [chp_nil] at hi; simp at hi
  have c5 : w.cell? ⟨q, 2, none⟩ = some (.pointer (some ⟨pl, 0, none⟩)) := cl
  have hSl : (skV (-1) (headL ps) (chp ps)).length ≤ 2000000000 := by have := hok.bk.sl; omega
  have hk : fr + i < (skV (-1) (headL ps) (chp ps)).length := by rw [skV_len]; exact hi
  have D1 : ∀ W : World, Below w.heap.size w W → Calls Tryd.prog 88 #[.pointer (some ⟨pl, 0, none⟩), .int .i64 ((fr + i : Nat) : Int)] W _ := fun W hW => skip_in W pl base im _ IM _ _ _ (hl0.below hW (Nat.le_refl _)) hSl (fr + i) hk
  simp only [lastF_sk hk] at D1
  obtain ⟨LA, hLA⟩ : ∃ LA, lastF ps (fr + i) = LA := ⟨_, rfl⟩
  obtain ⟨x, hx⟩ : ∃ x, (skV (-1) (headL ps) (chp ps))[fr + i] = x := ⟨_, rfl⟩
  simp only [hLA, hx] at D1
  rw [hLA]
  obtain ⟨la, dc, at_, sz⟩ := x
  simp only at D1
  have hlen : fr + i ≤ 2000000000 := by omega
  have s1 : IntKind.i64.wrap ((fr : Int) + (i : Int)) = ((fr + i : Nat) : Int) := by rw [show (fr : Int) + (i : Int) = ((fr + i : Nat) : Int) by omega]; exact IntWalk.i64_in _ (by omega)
  obtain ⟨k, hke⟩ : ∃ k, fr + i = k := ⟨_, rfl⟩
  simp only [hke] at D1
  rw [hke] at s1
  have hb3 : B3 < w.heap.size := World.block_lt_of_cell? w _ c3
  have HD := Lib.hid D1
  have hbd : Below w.heap.size w w.drew := below_drewN (Below.refl w.heap.size w) 1
  have hbd2 : Below w.heap.size w (w.alloc (.cells #[.int .i64 0, .int .i64 0, .int .i64 0, .int .i64 0] 117)).drew := below_drewN ((Below.refl w.heap.size w).alloc (Nat.le_refl _) _) 1
  clear h hl0 hok hSl hk hLA hx hi cl hke hlen D1
  go_enter Tryd.func87, Tryd.ntmps87
  go_wp2
  -- HAND
  have hne1 : ¬ (w.heap.size = B3) := by omega
  have hcs : ∀ W : World, Below w.heap.size w W → W.cell? ⟨B1, 0, none⟩ = some (.pointer (some ⟨q, 0, none⟩)) ∧ W.cell? ⟨B2, 0, none⟩ = some (.int .i64 (fr : Nat)) ∧ W.cell? ⟨q, 2, none⟩ = some (.pointer (some ⟨pl, 0, none⟩)) ∧ W.cell? ⟨B3, 0, none⟩ = some (.int .i64 t) := fun W hW =>
    ⟨(hW.cell (p := ⟨B1, 0, none⟩) (World.block_lt_of_cell? w _ c1)).trans c1, (hW.cell (p := ⟨B2, 0, none⟩) (World.block_lt_of_cell? w _ c2)).trans c2, (hW.cell (p := ⟨q, 2, none⟩) (World.block_lt_of_cell? w _ c5)).trans c5, (hW.cell (p := ⟨B3, 0, none⟩) (World.block_lt_of_cell? w _ c3)).trans c3⟩
  have HCS := Lib.hid hcs
  clear hcs hbd2
  go_upto_region 1 with fail
  refine wp_region_noPanic ?_
  refine wp_region_held_drew (S := fun W => Below w.heap.size w W) (by kernel_rfl) hbd (fun hHeld => ?_)
  obtain ⟨X0, hX0⟩ : ∃ X0, X0 = w.drew := ⟨_, rfl⟩
  rw [← hX0] at hbd hHeld ⊢
  clear hX0 c1 c2 c5 c3
  refine wpAnyH_take (i := 0) (v := ?_) rfl (by kernel_rfl) (by kernel_rfl) (by kernel_rfl) (fun _ _ _ h => h) (Or.inl ⟨by kernel_rfl, ?_⟩) hHeld ?_
  rotate_left
  · intro w hSw; obtain ⟨d1, d2, d5, d3⟩ := HCS.out w hSw; go_simp; try with_reducible rfl
  refine wpAnyH_take (i := 1) (v := ?_) rfl (by kernel_rfl) (by kernel_rfl) (by kernel_rfl) (fun _ _ _ h => h) (Or.inl ⟨by kernel_rfl, ?_⟩) hHeld ?_
  rotate_left
  · intro w hSw; obtain ⟨d1, d2, d5, d3⟩ := HCS.out w hSw; go_simp; try with_reducible rfl
  refine wpAnyH_take (i := 2) (v := ?_) rfl (by kernel_rfl) (by kernel_rfl) (by kernel_rfl) (fun _ _ _ h => h) (Or.inl ⟨by kernel_rfl, ?_⟩) hHeld ?_
  rotate_left
  · intro w hSw; obtain ⟨d1, d2, d5, d3⟩ := HCS.out w hSw; go_simp; try with_reducible rfl
  refine wpAnyH_take (i := 3) (v := ?_) rfl (by kernel_rfl) (by kernel_rfl) (by kernel_rfl) (fun _ _ _ h => h) (Or.inl ⟨by kernel_rfl, ?_⟩) hHeld ?_
  rotate_left
  · intro w hSw; obtain ⟨d1, d2, d5, d3⟩ := HCS.out w hSw; go_simp; try with_reducible rfl
  refine wpAnyH_take (i := 4) (v := ?_) rfl (by kernel_rfl) (by kernel_rfl) (by kernel_rfl) (fun _ _ _ h => h) (Or.inl ⟨by kernel_rfl, ?_⟩) hHeld ?_
  rotate_left
  · intro w hSw; obtain ⟨d1, d2, d5, d3⟩ := HCS.out w hSw; go_simp; try with_reducible rfl
  refine wpAnyH_take (i := 5) (v := ?_) rfl (by kernel_rfl) (by kernel_rfl) (by kernel_rfl) (fun _ _ _ h => h) (Or.inl ⟨by kernel_rfl, ?_⟩) hHeld ?_
  rotate_left
  · intro w hSw; obtain ⟨d1, d2, d5, d3⟩ := HCS.out w hSw; go_simp; try with_reducible rfl
  refine wpAnyH_take (i := 6) (v := ?_) rfl (by kernel_rfl) (by kernel_rfl) (by kernel_rfl) (fun _ _ _ h => h) (Or.inl ⟨by kernel_rfl, ?_⟩) hHeld ?_
  rotate_left
  · intro w hSw; obtain ⟨d1, d2, d5, d3⟩ := HCS.out w hSw; go_simp; try with_reducible rfl
  refine wpAnyH_ready (rs := [7, 11]) (by kernel_rfl) (by simp) ?_
  refine AllReadyH.cons rfl (fun KK hKK => ?_) ?_
  · rw [if_pos (by kernel_rfl)]
    go_simp
    go_wp2_with (go_at_call 88; (with_reducible refine (HD.out _ (hbd)).mono ?_); rintro e w2 ⟨rfl, hb2⟩)
    have hbw : Below w.heap.size w w2 := (hbd).trans (hb2.mono (hbd).size)
    refine hKK.out _ _ hbw (fun hHeld => ?_)
    clear hKK KK
    refine wpAnyH_take (i := 8) (v := ?_) rfl (by kernel_rfl) (by kernel_rfl) (by kernel_rfl) (fun _ _ _ h => h) (Or.inl ⟨by kernel_rfl, ?_⟩) hHeld ?_
    rotate_left
    · intro w hSw; obtain ⟨d1, d2, d5, d3⟩ := HCS.out w hSw; go_simp; try with_reducible rfl
    refine wpAnyH_take (i := 9) (v := ?_) rfl (by kernel_rfl) (by kernel_rfl) (by kernel_rfl) (fun _ _ _ h => h) (Or.inl ⟨by kernel_rfl, ?_⟩) hHeld ?_
    rotate_left
    · intro w hSw; obtain ⟨d1, d2, d5, d3⟩ := HCS.out w hSw; go_simp; try with_reducible rfl
    refine wpAnyH_take (i := 10) (v := ?_) rfl (by kernel_rfl) (by kernel_rfl) (by kernel_rfl) (fun _ _ _ h => h) (Or.inl ⟨by kernel_rfl, ?_⟩) hHeld ?_
    rotate_left
    · intro w hSw; obtain ⟨d1, d2, d5, d3⟩ := HCS.out w hSw; go_simp; try with_reducible rfl
    refine wpAnyH_ready (rs := [11]) (by kernel_rfl) (by simp) ?_
    refine AllReadyH.cons rfl (fun KK hKK => ?_) ?_
    · rw [if_pos (by kernel_rfl)]
      go_simp
      have hba := (hbw).alloc (hbw).size (.cells #[.int .i64 0, .int .i64 0, .int .i64 0, .int .i64 0] 117)
      have hga := heap_alloc_new w2 (.cells #[.int .i64 0, .int .i64 0, .int .i64 0, .int .i64 0] 117)
      have hge : w.heap.size ≤ w2.heap.size := (hbw).size
      refine hKK.out _ _ hba (fun hHeld => ?_)
      clear hKK KK
      generalize w2.alloc (.cells #[.int .i64 0, .int .i64 0, .int .i64 0, .int .i64 0] 117) = XA at hba hga hHeld ⊢
      generalize w2.heap.size = GA at hga hge ⊢
      have z0 := blk_cell hga 0
      have z1 := blk_cell hga 1
      have z2 := blk_cell hga 2
      have z3 := blk_cell hga 3
      have y0 := blk_frozen hga 0
      have y1 := blk_frozen hga 1
      have y2 := blk_frozen hga 2
      have y3 := blk_frozen hga 3
      refine wpAnyH_ready (rs := [12]) (by kernel_rfl) (by simp) ?_
      refine AllReadyH.cons rfl (fun KK hKK => ?_) ?_
      · rw [if_pos (by kernel_rfl)]
        go_simp
        have hs0 := blk_set hga 0 (.int .i64 LA)
        have hs1 := blk_set hs0 1 (.int .i64 (dc : Nat))
        have hs2 := blk_set hs1 2 (.int .i64 (at_ : Nat))
        have hs3 := blk_set hs2 3 (.int .i64 (sz : Nat))
        have hbs := ((((hba).setCell (p := ⟨GA, 0, none⟩) hge (.int .i64 LA)).setCell (p := ⟨GA, 1, none⟩) hge (.int .i64 (dc : Nat))).setCell (p := ⟨GA, 2, none⟩) hge (.int .i64 (at_ : Nat))).setCell (p := ⟨GA, 3, none⟩) hge (.int .i64 (sz : Nat))
        refine hKK.out _ _ hbs (fun hHeld => ?_)
        clear hKK KK z0 z1 z2 z3 y0 y1 y2 y3 hs0 hs1 hs2
        generalize (((XA.setCell ⟨GA, 0, none⟩ (.int .i64 LA)).setCell ⟨GA, 1, none⟩ (.int .i64 (dc : Nat))).setCell ⟨GA, 2, none⟩ (.int .i64 (at_ : Nat))).setCell ⟨GA, 3, none⟩ (.int .i64 (sz : Nat)) = XE at hbs hs3 hHeld ⊢
        refine wpAnyH_take (i := 13) (v := ?_) rfl (by kernel_rfl) (by kernel_rfl) (by kernel_rfl) (fun _ _ _ h => h) (Or.inl ⟨by kernel_rfl, ?_⟩) hHeld ?_
        rotate_left
        · intro w hSw; obtain ⟨d1, d2, d5, d3⟩ := HCS.out w hSw; go_simp; try with_reducible rfl
        refine wpAnyH_done (by kernel_rfl) ?_ _
        refine NoPanic.normal ?_
        have x0 := blk_cell hs3 0
        obtain ⟨-, -, -, x3⟩ := HCS.out XE hbs
        have HB := Lib.hid hbs
        clear hs3 hga hbs hHeld
        go_wp2
        go_ret
        exact ⟨rfl, HB.out⟩
      exact AllReadyH.nil
    exact AllReadyH.nil
  refine AllReadyH.cons rfl (fun KK hKK => ?_) ?_
  · rw [if_pos (by kernel_rfl)]
    go_simp
    have hba := (hbd).alloc (hbd).size (.cells #[.int .i64 0, .int .i64 0, .int .i64 0, .int .i64 0] 117)
    have hga := heap_alloc_new X0 (.cells #[.int .i64 0, .int .i64 0, .int .i64 0, .int .i64 0] 117)
    have hge : w.heap.size ≤ X0.heap.size := (hbd).size
    refine hKK.out _ _ hba (fun hHeld => ?_)
    clear hKK KK
    generalize X0.alloc (.cells #[.int .i64 0, .int .i64 0, .int .i64 0, .int .i64 0] 117) = XA at hba hga hHeld ⊢
    generalize X0.heap.size = GA at hga hge ⊢
    refine wpAnyH_ready (rs := [7]) (by kernel_rfl) (by simp) ?_
    refine AllReadyH.cons rfl (fun KK hKK => ?_) ?_
    · rw [if_pos (by kernel_rfl)]
      go_simp
      go_wp2_with (go_at_call 88; (with_reducible refine (HD.out _ (hba)).mono ?_); rintro e w2 ⟨rfl, hb2⟩)
      have hbw : Below w.heap.size w w2 := (hba).trans (hb2.mono (hba).size)
      have hga := (hb2.block GA (lt_of_heap hga)).trans hga
      refine hKK.out _ _ hbw (fun hHeld => ?_)
      clear hKK KK
      refine wpAnyH_take (i := 8) (v := ?_) rfl (by kernel_rfl) (by kernel_rfl) (by kernel_rfl) (fun _ _ _ h => h) (Or.inl ⟨by kernel_rfl, ?_⟩) hHeld ?_
      rotate_left
      · intro w hSw; obtain ⟨d1, d2, d5, d3⟩ := HCS.out w hSw; go_simp; try with_reducible rfl
      refine wpAnyH_take (i := 9) (v := ?_) rfl (by kernel_rfl) (by kernel_rfl) (by kernel_rfl) (fun _ _ _ h => h) (Or.inl ⟨by kernel_rfl, ?_⟩) hHeld ?_
      rotate_left
      · intro w hSw; obtain ⟨d1, d2, d5, d3⟩ := HCS.out w hSw; go_simp; try with_reducible rfl
      refine wpAnyH_take (i := 10) (v := ?_) rfl (by kernel_rfl) (by kernel_rfl) (by kernel_rfl) (fun _ _ _ h => h) (Or.inl ⟨by kernel_rfl, ?_⟩) hHeld ?_
      rotate_left
      · intro w hSw; obtain ⟨d1, d2, d5, d3⟩ := HCS.out w hSw; go_simp; try with_reducible rfl
      have z0 := blk_cell hga 0
      have z1 := blk_cell hga 1
      have z2 := blk_cell hga 2
      have z3 := blk_cell hga 3
      have y0 := blk_frozen hga 0
      have y1 := blk_frozen hga 1
      have y2 := blk_frozen hga 2
      have y3 := blk_frozen hga 3
      refine wpAnyH_ready (rs := [12]) (by kernel_rfl) (by simp) ?_
      refine AllReadyH.cons rfl (fun KK hKK => ?_) ?_
      · rw [if_pos (by kernel_rfl)]
        go_simp
        have hs0 := blk_set hga 0 (.int .i64 LA)
        have hs1 := blk_set hs0 1 (.int .i64 (dc : Nat))
        have hs2 := blk_set hs1 2 (.int .i64 (at_ : Nat))
        have hs3 := blk_set hs2 3 (.int .i64 (sz : Nat))
        have hbs := ((((hbw).setCell (p := ⟨GA, 0, none⟩) hge (.int .i64 LA)).setCell (p := ⟨GA, 1, none⟩) hge (.int .i64 (dc : Nat))).setCell (p := ⟨GA, 2, none⟩) hge (.int .i64 (at_ : Nat))).setCell (p := ⟨GA, 3, none⟩) hge (.int .i64 (sz : Nat))
        refine hKK.out _ _ hbs (fun hHeld => ?_)
        clear hKK KK z0 z1 z2 z3 y0 y1 y2 y3 hs0 hs1 hs2
        generalize (((w2.setCell ⟨GA, 0, none⟩ (.int .i64 LA)).setCell ⟨GA, 1, none⟩ (.int .i64 (dc : Nat))).setCell ⟨GA, 2, none⟩ (.int .i64 (at_ : Nat))).setCell ⟨GA, 3, none⟩ (.int .i64 (sz : Nat)) = XE at hbs hs3 hHeld ⊢
        refine wpAnyH_take (i := 13) (v := ?_) rfl (by kernel_rfl) (by kernel_rfl) (by kernel_rfl) (fun _ _ _ h => h) (Or.inl ⟨by kernel_rfl, ?_⟩) hHeld ?_
        rotate_left
        · intro w hSw; obtain ⟨d1, d2, d5, d3⟩ := HCS.out w hSw; go_simp; try with_reducible rfl
        refine wpAnyH_done (by kernel_rfl) ?_ _
        refine NoPanic.normal ?_
        have x0 := blk_cell hs3 0
        obtain ⟨-, -, -, x3⟩ := HCS.out XE hbs
        have HB := Lib.hid hbs
        clear hs3 hga hbs hHeld
        go_wp2
        go_ret
        exact ⟨rfl, HB.out⟩
      exact AllReadyH.nil
    exact AllReadyH.nil
  exact AllReadyH.nil
end Go.Proofs.YtaijepjhmjjecaaDoor
