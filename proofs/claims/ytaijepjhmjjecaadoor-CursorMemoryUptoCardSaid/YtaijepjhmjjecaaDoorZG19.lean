/- Merged: CurF, RSrt, PhB. -/
import Derived.Test.YtaijepjhmjjecaaDoorZG18
import Derived.Test.YtaijepjhmjjecaaDoorZG18
import Derived.Deep.RegionHeld3
import Derived.Test.YtaijepjhmjjecaaDoorZG17
/- cursor: first. -/
namespace Go.Proofs.YtaijepjhmjjecaaDoor
set_option linter.unusedVariables false
open Go.ChangeShapes Go.WideShapes Go.ChangeAt Go.RowKit

/-- The last document of block i. -/
def lastF (ps : List PostV) (i : Nat) : Int := if h : min (16 * i + 15) (ps.length - 1) < ps.length then (ps[min (16 * i + 15) (ps.length - 1)]).doc else 0
theorem lastF_sk {ps : List PostV} {i : Nat} (h2 : i < (skV (-1) (headL ps) (chp ps)).length) : ((skV (-1) (headL ps) (chp ps))[i]).last = lastF ps i := by
  obtain ⟨hl, he⟩ := blk_last i (by rwa [skV_len] at h2) h2
  rw [he]; unfold lastF; rw [dif_pos hl]
theorem lastF_mono {ps : List PostV} (ok : okV (-1) ps) {i j : Nat} (h : i ≤ j) : lastF ps i ≤ lastF ps j := by
  unfold lastF
  by_cases h0 : ps.length = 0
  · rw [dif_neg (by omega), dif_neg (by omega)]; exact Int.le_refl _
  · rw [dif_pos (by omega), dif_pos (by omega)]
    exact okV_le_le ok (by omega) (by omega)
/-- How many blocks from a on end ahead of t. -/
def seekB (ps : List PostV) (a m : Nat) (t : Int) : Nat := ((List.range m).takeWhile fun i => decide (lastF ps (a + i) < t)).length
theorem takeW_range (p : Nat → Bool) (hp : ∀ i j, i ≤ j → p j = true → p i = true) : ∀ m : Nat, ((List.range m).takeWhile p).length ≤ m ∧ (∀ i, i < ((List.range m).takeWhile p).length → p i = true) ∧ (∀ i, ((List.range m).takeWhile p).length ≤ i → i < m → p i = false)
  | 0 => ⟨by simp, fun i h => by simp at h, fun i h h2 => by omega⟩
  | m + 1 => by
    obtain ⟨i1, i2, i3⟩ := takeW_range p hp m
    rw [List.range_succ]
    by_cases hf : ((List.range m).takeWhile p).length = m
    · have hall : ∀ x ∈ List.range m, p x = true := fun x hx => i2 x (by rw [hf]; exact List.mem_range.1 hx)
      rw [List.takeWhile_append_of_pos hall]
      by_cases hm : p m = true
      · have e : [m].takeWhile p = [m] := by simp [hm]
        rw [e, List.length_append, List.length_range, List.length_singleton]
        exact ⟨Nat.le_refl _, fun i h => by
          rcases Nat.lt_or_eq_of_le (Nat.lt_succ_iff.1 h) with h9 | h9
          · exact hall i (List.mem_range.2 h9)
          · subst h9; exact hm, fun i h h2 => by omega⟩
      · have e : [m].takeWhile p = [] := by simp [hm]
        rw [e, List.append_nil, List.length_range]
        exact ⟨Nat.le_succ _, fun i h => hall i (List.mem_range.2 h), fun i h h2 => by
          obtain rfl : i = m := by omega
          simpa using hm⟩
    · have hlt : ((List.range m).takeWhile p).length < m := by omega
      have hno := i3 _ (Nat.le_refl _) hlt
      have e : (List.range m ++ [m]).takeWhile p = (List.range m).takeWhile p := by
        rw [List.takeWhile_append]
        rw [if_neg (by rw [List.length_range]; omega)]
      rw [e]
      refine ⟨by omega, i2, fun i h h2 => ?_⟩
      cases hpi : p i with
      | false => rfl
      | true => rw [hp _ i h hpi] at hno; cases hno
set_option maxRecDepth 100000 in
set_option maxHeartbeats 4000000 in
theorem firstc_any (w : World) (base q : Nat) (lp : Value) (ps : List PostV) (IM : List UInt8) (d : Int) (u mv : Nat) (told : Bool) (bk : Int) (rv : Value) (h : CurB w base q lp ps IM d u mv told bk rv) (B1 B2 B3 : Nat) (c1 : w.cell? ⟨B1, 0, none⟩ = some (.pointer (some ⟨q, 0, none⟩))) (fr : Nat) (c2 : w.cell? ⟨B2, 0, none⟩ = some (.int .i64 (fr : Nat))) (t : Int) (c3 : w.cell? ⟨B3, 0, none⟩ = some (.int .i64 t))
    (i : Nat) (hi : fr + i < (chp ps).length) :
    Calls Tryd.prog 87 #[.int .i64 (i : Nat), .pointer (some ⟨B1, 0, none⟩), .pointer (some ⟨B2, 0, none⟩), .pointer (some ⟨B3, 0, none⟩)] w fun e w' => e = .returned (.bool (decide (t ≤ lastF ps (fr + i)))) ∧ Below w.heap.size w w' := by
  have cl := blk_cell h.blk 2
  rcases h.ls with ⟨-, h9⟩ | ⟨pl, im, sa, sc, rfl, hl0, hok⟩
  · subst h9; rw [chp_nil] at hi; simp at hi
  have c5 : w.cell? ⟨q, 2, none⟩ = some (.pointer (some ⟨pl, 0, none⟩)) := cl
  have hSl : (skV (-1) (headL ps) (chp ps)).length ≤ 2000000000 := by have := hok.bk.sl; omega
  have hk : fr + i < (skV (-1) (headL ps) (chp ps)).length := by rw [skV_len]; exact hi
  have D1 : ∀ W : World, Below w.heap.size w W → Calls Tryd.prog 88 #[.pointer (some ⟨pl, 0, none⟩), .int .i64 ((fr + i : Nat) : Int)] W _ := fun W hW => skip_in W pl base im _ IM _ _ _ (hl0.below hW (Nat.le_refl _)) hSl (fr + i) hk
  simp only [lastF_sk hk] at D1
  obtain ⟨LA, hLA⟩ : ∃ LA, lastF ps (fr + i) = LA := ⟨_, rfl⟩
  obtain ⟨x, hx⟩ : ∃ x, (skV (-1) (headL ps) (chp ps))[fr + i] = x := ⟨_, rfl⟩
  simp only [hLA, hx] at D1
  rw [hLA]
  obtain ⟨la, dc, at_, sz⟩ := x
  simp only at D1
  have hlen : fr + i ≤ 2000000000 := by omega
  have s1 : IntKind.i64.wrap ((fr : Int) + (i : Int)) = ((fr + i : Nat) : Int) := by rw [show (fr : Int) + (i : Int) = ((fr + i : Nat) : Int) by omega]; exact IntWalk.i64_in _ (by omega)
  obtain ⟨k, hke⟩ : ∃ k, fr + i = k := ⟨_, rfl⟩
  simp only [hke] at D1
  rw [hke] at s1
  have hb3 : B3 < w.heap.size := World.block_lt_of_cell? w _ c3
  have HD := Lib.hid D1
  have hbd : Below w.heap.size w w.drew := below_drewN (Below.refl w.heap.size w) 1
  have hbd2 : Below w.heap.size w (w.alloc (.cells #[.int .i64 0, .int .i64 0, .int .i64 0, .int .i64 0] 117)).drew := below_drewN ((Below.refl w.heap.size w).alloc (Nat.le_refl _) _) 1
  clear h hl0 hok hSl hk hLA hx hi cl hke hlen D1
  go_enter Tryd.func87, Tryd.ntmps87
  go_wp2
  -- HAND
  have hne1 : ¬ (w.heap.size = B3) := by omega
  have hcs : ∀ W : World, Below w.heap.size w W → W.cell? ⟨B1, 0, none⟩ = some (.pointer (some ⟨q, 0, none⟩)) ∧ W.cell? ⟨B2, 0, none⟩ = some (.int .i64 (fr : Nat)) ∧ W.cell? ⟨q, 2, none⟩ = some (.pointer (some ⟨pl, 0, none⟩)) ∧ W.cell? ⟨B3, 0, none⟩ = some (.int .i64 t) := fun W hW =>
    ⟨(hW.cell (p := ⟨B1, 0, none⟩) (World.block_lt_of_cell? w _ c1)).trans c1, (hW.cell (p := ⟨B2, 0, none⟩) (World.block_lt_of_cell? w _ c2)).trans c2, (hW.cell (p := ⟨q, 2, none⟩) (World.block_lt_of_cell? w _ c5)).trans c5, (hW.cell (p := ⟨B3, 0, none⟩) (World.block_lt_of_cell? w _ c3)).trans c3⟩
  have HCS := Lib.hid hcs
  clear hcs hbd2
  go_upto_region 1 with fail
  refine wp_region_noPanic ?_
  refine wp_region_held_drew (S := fun W => Below w.heap.size w W) (by kernel_rfl) hbd (fun hHeld => ?_)
  obtain ⟨X0, hX0⟩ : ∃ X0, X0 = w.drew := ⟨_, rfl⟩
  rw [← hX0] at hbd hHeld ⊢
  clear hX0 c1 c2 c5 c3
  refine wpAnyH_take (i := 0) (v := ?_) rfl (by kernel_rfl) (by kernel_rfl) (by kernel_rfl) (fun _ _ _ h => h) (Or.inl ⟨by kernel_rfl, ?_⟩) hHeld ?_
  rotate_left
  · intro w hSw; obtain ⟨d1, d2, d5, d3⟩ := HCS.out w hSw; go_simp; try with_reducible rfl
  refine wpAnyH_take (i := 1) (v := ?_) rfl (by kernel_rfl) (by kernel_rfl) (by kernel_rfl) (fun _ _ _ h => h) (Or.inl ⟨by kernel_rfl, ?_⟩) hHeld ?_
  rotate_left
  · intro w hSw; obtain ⟨d1, d2, d5, d3⟩ := HCS.out w hSw; go_simp; try with_reducible rfl
  refine wpAnyH_take (i := 2) (v := ?_) rfl (by kernel_rfl) (by kernel_rfl) (by kernel_rfl) (fun _ _ _ h => h) (Or.inl ⟨by kernel_rfl, ?_⟩) hHeld ?_
  rotate_left
  · intro w hSw; obtain ⟨d1, d2, d5, d3⟩ := HCS.out w hSw; go_simp; try with_reducible rfl
  refine wpAnyH_take (i := 3) (v := ?_) rfl (by kernel_rfl) (by kernel_rfl) (by kernel_rfl) (fun _ _ _ h => h) (Or.inl ⟨by kernel_rfl, ?_⟩) hHeld ?_
  rotate_left
  · intro w hSw; obtain ⟨d1, d2, d5, d3⟩ := HCS.out w hSw; go_simp; try with_reducible rfl
  refine wpAnyH_take (i := 4) (v := ?_) rfl (by kernel_rfl) (by kernel_rfl) (by kernel_rfl) (fun _ _ _ h => h) (Or.inl ⟨by kernel_rfl, ?_⟩) hHeld ?_
  rotate_left
  · intro w hSw; obtain ⟨d1, d2, d5, d3⟩ := HCS.out w hSw; go_simp; try with_reducible rfl
  refine wpAnyH_take (i := 5) (v := ?_) rfl (by kernel_rfl) (by kernel_rfl) (by kernel_rfl) (fun _ _ _ h => h) (Or.inl ⟨by kernel_rfl, ?_⟩) hHeld ?_
  rotate_left
  · intro w hSw; obtain ⟨d1, d2, d5, d3⟩ := HCS.out w hSw; go_simp; try with_reducible rfl
  refine wpAnyH_take (i := 6) (v := ?_) rfl (by kernel_rfl) (by kernel_rfl) (by kernel_rfl) (fun _ _ _ h => h) (Or.inl ⟨by kernel_rfl, ?_⟩) hHeld ?_
  rotate_left
  · intro w hSw; obtain ⟨d1, d2, d5, d3⟩ := HCS.out w hSw; go_simp; try with_reducible rfl
  refine wpAnyH_ready (rs := [7, 11]) (by kernel_rfl) (by simp) ?_
  refine AllReadyH.cons rfl (fun KK hKK => ?_) ?_
  · rw [if_pos (by kernel_rfl)]
    go_simp
    go_wp2_with (go_at_call 88; (with_reducible refine (HD.out _ (hbd)).mono ?_); rintro e w2 ⟨rfl, hb2⟩)
    have hbw : Below w.heap.size w w2 := (hbd).trans (hb2.mono (hbd).size)
    refine hKK.out _ _ hbw (fun hHeld => ?_)
    clear hKK KK
    refine wpAnyH_take (i := 8) (v := ?_) rfl (by kernel_rfl) (by kernel_rfl) (by kernel_rfl) (fun _ _ _ h => h) (Or.inl ⟨by kernel_rfl, ?_⟩) hHeld ?_
    rotate_left
    · intro w hSw; obtain ⟨d1, d2, d5, d3⟩ := HCS.out w hSw; go_simp; try with_reducible rfl
    refine wpAnyH_take (i := 9) (v := ?_) rfl (by kernel_rfl) (by kernel_rfl) (by kernel_rfl) (fun _ _ _ h => h) (Or.inl ⟨by kernel_rfl, ?_⟩) hHeld ?_
    rotate_left
    · intro w hSw; obtain ⟨d1, d2, d5, d3⟩ := HCS.out w hSw; go_simp; try with_reducible rfl
    refine wpAnyH_take (i := 10) (v := ?_) rfl (by kernel_rfl) (by kernel_rfl) (by kernel_rfl) (fun _ _ _ h => h) (Or.inl ⟨by kernel_rfl, ?_⟩) hHeld ?_
    rotate_left
    · intro w hSw; obtain ⟨d1, d2, d5, d3⟩ := HCS.out w hSw; go_simp; try with_reducible rfl
    refine wpAnyH_ready (rs := [11]) (by kernel_rfl) (by simp) ?_
    refine AllReadyH.cons rfl (fun KK hKK => ?_) ?_
    · rw [if_pos (by kernel_rfl)]
      go_simp
      have hba := (hbw).alloc (hbw).size (.cells #[.int .i64 0, .int .i64 0, .int .i64 0, .int .i64 0] 117)
      have hga := heap_alloc_new w2 (.cells #[.int .i64 0, .int .i64 0, .int .i64 0, .int .i64 0] 117)
      have hge : w.heap.size ≤ w2.heap.size := (hbw).size
      refine hKK.out _ _ hba (fun hHeld => ?_)
      clear hKK KK
      generalize w2.alloc (.cells #[.int .i64 0, .int .i64 0, .int .i64 0, .int .i64 0] 117) = XA at hba hga hHeld ⊢
      generalize w2.heap.size = GA at hga hge ⊢
      have z0 := blk_cell hga 0
      have z1 := blk_cell hga 1
      have z2 := blk_cell hga 2
      have z3 := blk_cell hga 3
      have y0 := blk_frozen hga 0
      have y1 := blk_frozen hga 1
      have y2 := blk_frozen hga 2
      have y3 := blk_frozen hga 3
      refine wpAnyH_ready (rs := [12]) (by kernel_rfl) (by simp) ?_
      refine AllReadyH.cons rfl (fun KK hKK => ?_) ?_
      · rw [if_pos (by kernel_rfl)]
        go_simp
        have hs0 := blk_set hga 0 (.int .i64 LA)
        have hs1 := blk_set hs0 1 (.int .i64 (dc : Nat))
        have hs2 := blk_set hs1 2 (.int .i64 (at_ : Nat))
        have hs3 := blk_set hs2 3 (.int .i64 (sz : Nat))
        have hbs := ((((hba).setCell (p := ⟨GA, 0, none⟩) hge (.int .i64 LA)).setCell (p := ⟨GA, 1, none⟩) hge (.int .i64 (dc : Nat))).setCell (p := ⟨GA, 2, none⟩) hge (.int .i64 (at_ : Nat))).setCell (p := ⟨GA, 3, none⟩) hge (.int .i64 (sz : Nat))
        refine hKK.out _ _ hbs (fun hHeld => ?_)
        clear hKK KK z0 z1 z2 z3 y0 y1 y2 y3 hs0 hs1 hs2
        generalize (((XA.setCell ⟨GA, 0, none⟩ (.int .i64 LA)).setCell ⟨GA, 1, none⟩ (.int .i64 (dc : Nat))).setCell ⟨GA, 2, none⟩ (.int .i64 (at_ : Nat))).setCell ⟨GA, 3, none⟩ (.int .i64 (sz : Nat)) = XE at hbs hs3 hHeld ⊢
        refine wpAnyH_take (i := 13) (v := ?_) rfl (by kernel_rfl) (by kernel_rfl) (by kernel_rfl) (fun _ _ _ h => h) (Or.inl ⟨by kernel_rfl, ?_⟩) hHeld ?_
        rotate_left
        · intro w hSw; obtain ⟨d1, d2, d5, d3⟩ := HCS.out w hSw; go_simp; try with_reducible rfl
        refine wpAnyH_done (by kernel_rfl) ?_ _
        refine NoPanic.normal ?_
        have x0 := blk_cell hs3 0
        obtain ⟨-, -, -, x3⟩ := HCS.out XE hbs
        have HB := Lib.hid hbs
        clear hs3 hga hbs hHeld
        go_wp2
        go_ret
        exact ⟨rfl, HB.out⟩
      exact AllReadyH.nil
    exact AllReadyH.nil
  refine AllReadyH.cons rfl (fun KK hKK => ?_) ?_
  · rw [if_pos (by kernel_rfl)]
    go_simp
    have hba := (hbd).alloc (hbd).size (.cells #[.int .i64 0, .int .i64 0, .int .i64 0, .int .i64 0] 117)
    have hga := heap_alloc_new X0 (.cells #[.int .i64 0, .int .i64 0, .int .i64 0, .int .i64 0] 117)
    have hge : w.heap.size ≤ X0.heap.size := (hbd).size
    refine hKK.out _ _ hba (fun hHeld => ?_)
    clear hKK KK
    generalize X0.alloc (.cells #[.int .i64 0, .int .i64 0, .int .i64 0, .int .i64 0] 117) = XA at hba hga hHeld ⊢
    generalize X0.heap.size = GA at hga hge ⊢
    refine wpAnyH_ready (rs := [7]) (by kernel_rfl) (by simp) ?_
    refine AllReadyH.cons rfl (fun KK hKK => ?_) ?_
    · rw [if_pos (by kernel_rfl)]
      go_simp
      go_wp2_with (go_at_call 88; (with_reducible refine (HD.out _ (hba)).mono ?_); rintro e w2 ⟨rfl, hb2⟩)
      have hbw : Below w.heap.size w w2 := (hba).trans (hb2.mono (hba).size)
      have hga := (hb2.block GA (lt_of_heap hga)).trans hga
      refine hKK.out _ _ hbw (fun hHeld => ?_)
      clear hKK KK
      refine wpAnyH_take (i := 8) (v := ?_) rfl (by kernel_rfl) (by kernel_rfl) (by kernel_rfl) (fun _ _ _ h => h) (Or.inl ⟨by kernel_rfl, ?_⟩) hHeld ?_
      rotate_left
      · intro w hSw; obtain ⟨d1, d2, d5, d3⟩ := HCS.out w hSw; go_simp; try with_reducible rfl
      refine wpAnyH_take (i := 9) (v := ?_) rfl (by kernel_rfl) (by kernel_rfl) (by kernel_rfl) (fun _ _ _ h => h) (Or.inl ⟨by kernel_rfl, ?_⟩) hHeld ?_
      rotate_left
      · intro w hSw; obtain ⟨d1, d2, d5, d3⟩ := HCS.out w hSw; go_simp; try with_reducible rfl
      refine wpAnyH_take (i := 10) (v := ?_) rfl (by kernel_rfl) (by kernel_rfl) (by kernel_rfl) (fun _ _ _ h => h) (Or.inl ⟨by kernel_rfl, ?_⟩) hHeld ?_
      rotate_left
      · intro w hSw; obtain ⟨d1, d2, d5, d3⟩ := HCS.out w hSw; go_simp; try with_reducible rfl
      have z0 := blk_cell hga 0
      have z1 := blk_cell hga 1
      have z2 := blk_cell hga 2
      have z3 := blk_cell hga 3
      have y0 := blk_frozen hga 0
      have y1 := blk_frozen hga 1
      have y2 := blk_frozen hga 2
      have y3 := blk_frozen hga 3
      refine wpAnyH_ready (rs := [12]) (by kernel_rfl) (by simp) ?_
      refine AllReadyH.cons rfl (fun KK hKK => ?_) ?_
      · rw [if_pos (by kernel_rfl)]
        go_simp
        have hs0 := blk_set hga 0 (.int .i64 LA)
        have hs1 := blk_set hs0 1 (.int .i64 (dc : Nat))
        have hs2 := blk_set hs1 2 (.int .i64 (at_ : Nat))
        have hs3 := blk_set hs2 3 (.int .i64 (sz : Nat))
        have hbs := ((((hbw).setCell (p := ⟨GA, 0, none⟩) hge (.int .i64 LA)).setCell (p := ⟨GA, 1, none⟩) hge (.int .i64 (dc : Nat))).setCell (p := ⟨GA, 2, none⟩) hge (.int .i64 (at_ : Nat))).setCell (p := ⟨GA, 3, none⟩) hge (.int .i64 (sz : Nat))
        refine hKK.out _ _ hbs (fun hHeld => ?_)
        clear hKK KK z0 z1 z2 z3 y0 y1 y2 y3 hs0 hs1 hs2
        generalize (((w2.setCell ⟨GA, 0, none⟩ (.int .i64 LA)).setCell ⟨GA, 1, none⟩ (.int .i64 (dc : Nat))).setCell ⟨GA, 2, none⟩ (.int .i64 (at_ : Nat))).setCell ⟨GA, 3, none⟩ (.int .i64 (sz : Nat)) = XE at hbs hs3 hHeld ⊢
        refine wpAnyH_take (i := 13) (v := ?_) rfl (by kernel_rfl) (by kernel_rfl) (by kernel_rfl) (fun _ _ _ h => h) (Or.inl ⟨by kernel_rfl, ?_⟩) hHeld ?_
        rotate_left
        · intro w hSw; obtain ⟨d1, d2, d5, d3⟩ := HCS.out w hSw; go_simp; try with_reducible rfl
        refine wpAnyH_done (by kernel_rfl) ?_ _
        refine NoPanic.normal ?_
        have x0 := blk_cell hs3 0
        obtain ⟨-, -, -, x3⟩ := HCS.out XE hbs
        have HB := Lib.hid hbs
        clear hs3 hga hbs hHeld
        go_wp2
        go_ret
        exact ⟨rfl, HB.out⟩
      exact AllReadyH.nil
    exact AllReadyH.nil
  exact AllReadyH.nil
end Go.Proofs.YtaijepjhmjjecaaDoor

/- cursor: the document's sorted, between. -/
namespace Go.Proofs.YtaijepjhmjjecaaDoor
set_option linter.unusedVariables false
open Go.ChangeShapes Go.WideShapes Go.ChangeAt Go.RowKit

theorem rd_fst {w : World} {a : Option Addr} {n c : Nat} {xs : List Value} (h : Rd w (.slice a n c) xs) (k : Nat) (hk : k ≤ xs.length) : Rd w (.slice a k c) (xs.take k) := by
  obtain ⟨A, c', e, hc, hr⟩ := h
  injection e with e1 e2 e3
  subst e1 e2 e3
  refine ⟨a, c, by rw [List.length_take, Nat.min_eq_left hk], by rw [List.length_take]; omega, fun h0 => ?_⟩
  obtain ⟨b, o, ha, hcell⟩ := hr (by rw [List.length_take] at h0; omega)
  exact ⟨b, o, ha, fun j x hx => hcell j x (by rw [List.getElem?_take] at hx; split at hx; exact hx; cases hx)⟩
theorem rd_from {w : World} {b o n c : Nat} {xs : List Value} (h : Rd w (.slice (some ⟨b, o, none⟩) n c) xs) (k : Nat) (hk : k < xs.length) : Rd w (.slice (some ⟨b, o + k, none⟩) (n - k) (c - k)) (xs.drop k) := by
  obtain ⟨A, c', e, hc, hr⟩ := h
  injection e with e1 e2 e3
  subst e1 e2 e3
  refine ⟨_, c - k, by rw [List.length_drop], by rw [List.length_drop]; omega, fun h0 => ⟨b, o + k, rfl, fun j x hx => ?_⟩⟩
  obtain ⟨b', o', ha, hcell⟩ := hr (by omega)
  injection ha with ha
  injection ha with h1 h2 _
  subst h1 h2
  rw [Nat.add_assoc]
  exact hcell (k + j) x (by rwa [List.getElem?_drop] at hx)
def InR (l : List Int) : Prop := ∀ x ∈ l, 0 ≤ x ∧ x ≤ 2147483646
set_option maxRecDepth 100000 in
set_option maxHeartbeats 4000000 in
theorem rsrt_any : ∀ (N : Nat) (w : World) (a : Option Addr) (n c : Nat) (l : List Int) (less : Int), l.length ≤ N → Rd w (.slice a n c) (intL l) → InR l → 0 ≤ less → less ≤ 2147483646 → l.length ≤ 50000000 →
    Calls Tryd.prog 39 #[.slice a n c, .int .i64 less] w fun e w' => ∃ v, e = .returned v ∧ Own w' w.heap.size 3 v (intL (riseOf (shiftL less l))) ∧ Below w.heap.size w w' := by
  intro N
  induction N with
  | zero =>
    intro w a n c l less hN hr hin h0 h1 hl
    have hl0 : l = [] := List.eq_nil_of_length_eq_zero (by omega)
    subst hl0
    obtain rfl := (rd_il hr).1
    clear hr hin
    go_enter Tryd.func39, Tryd.ntmps39
    go_wp2
    go_ret
    exact ⟨_, rfl, own_nil _ _ _, Below.refl _ _⟩
  | succ N ih =>
    intro w a n c l less hN hr hin h0 h1 hl
    obtain rfl := (rd_il hr).1
    by_cases hz : l.length = 0
    · have hl0 : l = [] := List.eq_nil_of_length_eq_zero hz
      subst hl0
      clear hr hin ih hz
      go_enter Tryd.func39, Tryd.ntmps39
      go_wp2
      go_ret
      exact ⟨_, rfl, own_nil _ _ _, Below.refl _ _⟩
    · obtain ⟨b, o, rfl, hc⟩ := (rd_il hr).2 (by omega)
      by_cases h1l : l.length = 1
      · obtain ⟨x, rfl⟩ : ∃ x, l = [x] := by
          match l, h1l with
          | [x], _ => exact ⟨x, rfl⟩
        have c0 : w.cell? ⟨b, o, none⟩ = some (.int .i64 x) := hc 0 (by simp)
        have hx := hin x (by simp)
        have s1 : IntKind.i64.wrap (x - less) = x - less := by rw [IntKind.wrap_i64]; omega
        have ho := own_one w w.heap.size 3 (.int .i64 (x - less)) (Nat.le_refl _)
        have hb : Below w.heap.size w (w.alloc (.cells #[.int .i64 (x - less)] 3)) := (Below.refl _ _).alloc (Nat.le_refl _) _
        have HO := Lib.hid ho
        have HB := Lib.hid hb
        clear hr hin ih hz hc ho hb h1l hx hN hl
        go_enter Tryd.func39, Tryd.ntmps39
        go_wp2
        go_ret
        exact ⟨_, rfl, HO.out, HB.out⟩
      · obtain ⟨k, hk⟩ : ∃ k, l.length / 2 = k := ⟨_, rfl⟩
        have hk1 : k < l.length := by omega
        have hf := rd_fst hr k (by rw [intL_length]; omega)
        have hs := rd_from hr k (by rw [intL_length]; omega)
        have hcap : l.length ≤ c := by obtain ⟨A, c', e, h9, _⟩ := hr; injection e with _ _ e; subst e; rw [intL_length] at h9; exact h9
        have e1 : (intL l).take k = intL (l.take k) := by simp [intL, List.map_take]
        have e2 : (intL l).drop k = intL (l.drop k) := by simp [intL, List.map_drop]
        rw [e1] at hf
        rw [e2] at hs
        have C1 := ih w (some ⟨b, o, none⟩) k c (l.take k) less (by rw [List.length_take]; omega) hf (fun x hx => hin x (List.mem_of_mem_take hx)) h0 h1 (by rw [List.length_take]; omega)
        have E2 : ∀ w2, Below w.heap.size w w2 → _ := fun w2 h2 => ih w2 (some ⟨b, o + k, none⟩) (l.length - k) (c - k) (l.drop k) less (by rw [List.length_drop]; omega) (hs.below h2 (Nat.le_refl _)) (fun x hx => hin x (List.mem_of_mem_drop hx)) h0 h1 (by rw [List.length_drop]; omega)
        have HE2 := Lib.hid E2
        have heq : riseOf (riseOf (shiftL less (l.take k)) ++ riseOf (shiftL less (l.drop k))) = riseOf (shiftL less l) := by
          refine riseOf_ext fun z => ?_
          rw [List.mem_append, riseOf_mem, riseOf_mem, ← List.mem_append]
          unfold shiftL
          rw [← List.map_append, List.take_append_drop]
        have HEQ := Lib.hid heq
        have hlr : ∀ m : List Int, (riseOf m).length ≤ m.length := fun m => by
          have h9 : ∀ (m r : List Int), (m.foldl (fun r x => insI x r) r).length ≤ r.length + m.length := by
            intro m
            induction m with
            | nil => intro r; simp
            | cons x m ih2 =>
              intro r
              rw [List.foldl_cons]
              have h10 := ih2 (insI x r)
              have h11 : ∀ (r : List Int), (insI x r).length ≤ r.length + 1 := by
                intro r
                induction r with
                | nil => simp [insI]
                | cons y r ih3 => unfold insI; split <;> (try split) <;> simp_all
              have := h11 r
              rw [List.length_cons]
              omega
          have := h9 m []
          simpa [riseOf] using this
        have l1 := hlr (shiftL less (l.take k))
        have l2 := hlr (shiftL less (l.drop k))
        have l3 : (shiftL less (l.take k)).length = k := by unfold shiftL; rw [List.length_map, List.length_take]; omega
        have l4 : (shiftL less (l.drop k)).length = l.length - k := by unfold shiftL; rw [List.length_map, List.length_drop]
        obtain ⟨X, hX⟩ : ∃ X, riseOf (shiftL less (l.take k)) = X := ⟨_, rfl⟩
        obtain ⟨Y, hY⟩ : ∃ Y, riseOf (shiftL less (l.drop k)) = Y := ⟨_, rfl⟩
        have rX : Rise X := by rw [← hX]; exact riseOf_rise _
        have rY : Rise Y := by rw [← hY]; exact riseOf_rise _
        rw [hX] at C1 l1
        rw [hY] at l2
        have HY := Lib.hid hY
        have HX := Lib.hid hX
        have RX := Lib.hid rX
        have RY := Lib.hid rY
        have t1 : ((l.length : Int) == 0) = false := beq_false_of_ne (by omega)
        have t2 : ((l.length : Int) == 1) = false := beq_false_of_ne (by omega)
        have a1 : (k : Int) ≤ (c : Int) := by omega
        have a2 : (k : Int) ≤ (l.length : Int) := by omega
        have a3 : k < c := by omega
        have hkd : ((l.length : Int)) / 2 = (k : Int) := by omega
        have hsd : ((l.length : Int) - (k : Int)).toNat = l.length - k := by omega
        have hw : wrap64 (k : Int) = (k : Int) := wrap64_nat k (by omega)
        have lX : X.length ≤ 50000000 := Nat.le_trans l1 (Nat.le_trans (Nat.le_of_eq l3) (Nat.le_trans (Nat.le_of_lt hk1) hl))
        have lY : Y.length ≤ 50000000 := Nat.le_trans l2 (Nat.le_trans (Nat.le_of_eq l4) (Nat.le_trans (Nat.sub_le _ _) hl))
        clear hr hin ih hz hc hf hs e1 e2 E2 heq hlr l1 l2 l3 l4 hX hY rX rY h1l hN hl
        have HK := Lib.hid hk
        clear hk
        go_enter Tryd.func39, Tryd.ntmps39
        go_wp2_with fail
        with_reducible refine C1.mono ?_
        rintro e w1 ⟨v1, rfl, ho1, hb1⟩
        clear C1
        obtain ⟨A1, N1, K1, rfl⟩ := own_sl ho1
        have C2 := HE2.out w1 hb1
        rw [HY.out] at C2
        have HO1 := Lib.hid ho1
        have HB1 := Lib.hid hb1
        clear ho1 hb1
        go_wp2_with fail
        with_reducible refine C2.mono ?_
        rintro e w2 ⟨v2, rfl, ho2, hb2⟩
        clear C2
        obtain ⟨A2, N2, K2, rfl⟩ := own_sl ho2
        have hb12 := HB1.out.trans (hb2.mono HB1.out.size)
        have C3 := uni_any w2 A1 A2 N1 N2 K1 K2 X Y (HO1.out.below hb2 (Nat.le_refl _)).rd ho2.rd RX.out RY.out (by omega) (by omega)
        rw [← HX.out, ← HY.out, HEQ.out] at C3
        have HB2 := Lib.hid hb12
        clear ho2 hb2 hb12 HO1 HB1
        go_wp2_with fail
        with_reducible refine C3.mono ?_
        rintro e w3 ⟨v3, rfl, ho3, hb3⟩
        clear C3
        have hb13 := HB2.out.trans (hb3.mono HB2.out.size)
        have ho33 := own_base ho3 (base' := w.heap.size) HB2.out.size
        have HO3 := Lib.hid ho33
        have HB3 := Lib.hid hb13
        clear ho3 hb3 ho33 hb13
        go_wp2
        go_ret
        exact ⟨_, rfl, HO3.out, HB3.out⟩
set_option maxRecDepth 100000 in
set_option maxHeartbeats 2000000 in
theorem bet_any (w : World) (a : Option Addr) (n c : Nat) (l : List Int) (lo hi : Int) (hr : Rd w (.slice a n c) (intL l)) (rl : Rise l) (hl : l.length ≤ 1000000000) :
    Calls Tryd.prog 41 #[.slice a n c, .int .i64 lo, .int .i64 hi] w fun e w' => e = .returned (.bool (hasIn l lo hi)) ∧ w = w' := by
  obtain ⟨rfl, hc⟩ := rd_il hr
  have HC := Lib.hid hc
  have RL := Lib.hid rl
  clear hr hc rl
  go_enter Tryd.func41, Tryd.ntmps41
  go_wp2
  go_loopw [7, 8, 9] (fun s7 s8 s9 wr => ∃ (f t : Nat) (t9 : Value), s7 = .int .i64 f ∧ s8 = .int .i64 t ∧ s9 = t9 ∧ f ≤ t ∧ t ≤ l.length ∧ RowKit.Hid (BetS l lo f t) ∧ wr = w) (fun s7 s8 _ _ => (intOf s8).toNat - (intOf s7).toNat)
  case atStart => exact ⟨0, l.length, _, rfl, rfl, rfl, Nat.zero_le _, Nat.le_refl _, Lib.hid (BetS.start l lo), rfl⟩
  case round =>
    obtain ⟨f, t, t9, rfl, rfl, rfl, hft, ht, HS, rfl⟩ := hrel
    by_cases hlt : f < t
    · obtain ⟨k, hk⟩ : ∃ k, (f + t) / 2 = k := ⟨_, rfl⟩
      have hkl : k < l.length := by omega
      have hk1 : f ≤ k := by omega
      have hk2 : k < t := by omega
      obtain ⟨b, o, rfl, hcell⟩ := HC.out (by omega)
      have ck := hcell k hkl
      have s1 : ((f : Int) + (t : Int)) / 2 = (k : Int) := by omega
      have i1 : (k : Int) < (l.length : Int) := by omega
      by_cases hc : l[k] < lo
      · have hup := HS.out.up RL.out hkl hk1 hk2 hc
        obtain ⟨x, hx⟩ : ∃ x, l[k] = x := ⟨_, rfl⟩
        rw [hx] at ck hc
        have t1 : decide (x < lo) = true := decide_eq_true hc
        have HUP := Lib.hid hup
        clear hcell hup hx hc HS hk
        go_wp2
        go_roundw
        case rel => exact ⟨k + 1, t, _, by go_num, rfl, rfl, by omega, by omega, HUP, by first | rfl | trivial⟩
        case measure => simp [intOf]; omega
      · have hdn := HS.out.down RL.out hkl hk1 hk2 (by omega)
        obtain ⟨x, hx⟩ : ∃ x, l[k] = x := ⟨_, rfl⟩
        rw [hx] at ck hc
        have t1 : decide (x < lo) = false := decide_eq_false hc
        have HDN := Lib.hid hdn
        clear hcell hdn hx hc HS hk
        go_wp2
        go_roundw
        case rel => exact ⟨f, k, _, rfl, by first | rfl | rw [s1], rfl, by omega, by omega, HDN, by first | rfl | trivial⟩
        case measure => simp [intOf]; omega
    · obtain rfl : f = t := by omega
      have i1 : ¬ ((f : Int) < (f : Int)) := by omega
      have hfin := HS.out.fin RL.out (hi := hi)
      by_cases hf : f < l.length
      · obtain ⟨b, o, rfl, hcell⟩ := HC.out (by omega)
        have ck := hcell f hf
        rw [dif_pos hf] at hfin
        obtain ⟨x, hx⟩ : ∃ x, l[f] = x := ⟨_, rfl⟩
        rw [hx] at ck hfin
        have HFIN := Lib.hid hfin
        have t1 : decide (f < l.length) = true := decide_eq_true hf
        have i2 : (f : Int) < (l.length : Int) := by omega
        clear hcell hfin hx HS
        go_wp2
        go_ret
        exact ⟨by rw [HFIN.out]; rfl, rfl⟩
      · rw [dif_neg hf] at hfin
        have HFIN := Lib.hid hfin
        have t1 : decide (f < l.length) = false := decide_eq_false hf
        clear hfin HS
        go_wp2
        go_ret
        exact ⟨by rw [HFIN.out]; rfl, rfl⟩
end Go.Proofs.YtaijepjhmjjecaaDoor

/- The phrase's frequency, plain: the places that go along. No program occurs here. -/
namespace Go.Proofs.YtaijepjhmjjecaaDoor
set_option linter.unusedVariables false

/-- All ahead of place k are below b. -/
def AtS (l : List Int) (b : Int) (k : Nat) : Prop := k ≤ l.length ∧ ∀ (j : Nat) (h : j < l.length), j < k → l[j] < b
theorem AtS.zero (l : List Int) (b : Int) : AtS l b 0 := ⟨Nat.zero_le _, fun j h h9 => by omega⟩
theorem AtS.up {l : List Int} {b : Int} {k : Nat} (h : AtS l b k) (hk : k < l.length) (hlt : l[k] < b) : AtS l b (k + 1) :=
  ⟨hk, fun j hj h9 => by
    rcases Nat.lt_or_eq_of_le (show j ≤ k by omega) with h10 | h10
    · exact h.2 j hj h10
    · subst h10; exact hlt⟩
theorem AtS.mono {l : List Int} {b c : Int} {k : Nat} (h : AtS l b k) (hbc : b ≤ c) : AtS l c k := ⟨h.1, fun j hj h9 => by have := h.2 j hj h9; omega⟩
theorem AtS.fin {l : List Int} (hl : l.Pairwise (· ≤ ·)) {b hi : Int} {k : Nat} (h : AtS l b k) (hge : ∀ hk : k < l.length, b ≤ l[k]) : hasIn l b hi = if hk : k < l.length then decide (l[k] ≤ hi) else false := by
  rw [Bool.eq_iff_iff, hasIn_iff]
  constructor
  · rintro ⟨x, hx, h1, h2⟩
    obtain ⟨j, hj, rfl⟩ := List.mem_iff_getElem.1 hx
    have hkj : k ≤ j := by
      rcases Nat.lt_or_ge j k with h9 | h9
      · have := h.2 j hj h9; omega
      · exact h9
    have hk : k < l.length := by omega
    rw [dif_pos hk]
    refine decide_eq_true ?_
    rcases Nat.lt_or_eq_of_le hkj with h9 | h9
    · have := List.pairwise_iff_getElem.1 hl k j hk hj h9; omega
    · subst h9; exact h2
  · intro h9
    split at h9
    · next hk => exact ⟨l[k], List.getElem_mem hk, hge hk, of_decide_eq_true h9⟩
    · cases h9
/-- The count along the tried places. -/
theorem cntV_nil (ms : List (List Int)) (s : Int) : cntV [] ms s = 0 := rfl
theorem cntV_snoc (S : List Int) (b : Int) (ms : List (List Int)) (s : Int) : cntV (S ++ [b]) ms s = cntV S ms s + if (ms.all fun l => hasIn l b (b + s)) = true then 1 else 0 := by
  unfold cntV
  rw [List.filter_append, List.length_append]
  congr 1
  rw [List.filter_cons]
  split <;> rfl
theorem cntV_le (S : List Int) (ms : List (List Int)) (s : Int) : cntV S ms s ≤ S.length := List.length_filter_le _ _
theorem all_take {α : Type} (ms : List α) (p : α → Bool) (i : Nat) (h : i < ms.length) : (ms.take (i + 1)).all p = ((ms.take i).all p && p ms[i]) := by
  rw [List.take_succ_eq_append_getElem h, List.all_append]; simp
end Go.Proofs.YtaijepjhmjjecaaDoor
