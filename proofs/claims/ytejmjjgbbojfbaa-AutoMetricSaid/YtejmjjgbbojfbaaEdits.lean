/- The walks of auto.Edits (the band) and of the document's Edits (the whole table): both are the edit distance, cut. -/
import Derived.Test.YtejmjjgbbojfbaaLib
import Derived.Test.YtejmjjgbbojfbaaLev
import Derived.Test.YtejmjjgbbojfbaaProg
namespace Go.Proofs.Ytejmjjgbbojfbaa
set_option linter.unusedVariables false
open Go.ChangeShapes Go.WideShapes Go.ChangeAt Go.RowKit

theorem elInts : Elem Try.prog 25 3 (.int .i64 0) 8 := ⟨Try.underlying25, by kernel_rfl, rfl, by decide⟩

/-- The number of edits, or most + 1. -/
def edI (a b : ByteArray) (most : Int) : Int := min (lev a.data.toList b.data.toList : Nat) (max most 0 + 1)
theorem le_all (a b : ByteArray) (M : Nat) : le_ a.data.toList b.data.toList M a.size b.size = min (lev a.data.toList b.data.toList) (M + 1) := by
  have h := lt_all a.data.toList b.data.toList
  rw [show a.data.toList.length = a.size by simp, show b.data.toList.length = b.size by simp] at h
  rw [le_, h]
theorem lev_max (a b : ByteArray) : lev a.data.toList b.data.toList ≤ max a.size b.size := by
  have h := lev_le_max a.data.toList b.data.toList
  simpa using h

set_option maxRecDepth 100000 in
set_option maxHeartbeats 4000000 in
theorem edits_at (a b : ByteArray) (most : Int) (M : Nat) (w : World) (ha : a.size ≤ 1048576) (hb : b.size ≤ 1048576) (h0 : -9223372036854775808 ≤ most) (h1 : most ≤ 9223372036854775807)
    (hM0 : (M : Int) = min (max most 0) (max (a.size : Int) b.size)) :
    Calls Try.prog 5 #[.string a, .string b, .int .i64 most] w fun e w' => e = .returned (.int .i64 (le_ a.data.toList b.data.toList M a.size b.size)) ∧ Below w.heap.size w w' := by
  have hmk := make_row elInts rfl (b.size + 1) (by omega) ((b.size : Int) + 1) (by omega)
  have hal : a.data.toList.length = a.size := by simp
  have hbl : b.data.toList.length = b.size := by simp
  have hM : M ≤ max a.size b.size := by omega
  have HM := Lib.hid hM0
  have HA := Lib.hid hal; have HB := Lib.hid hbl; clear hal hbl hM0
  go_enter Try.func5, Try.ntmps5
  go_upto_if 23 with fail
  go_cut [2] (fun s2 wx => w = wx ∧ s2 = .int .i64 M)
  case first => 
    go_wp2
    all_goals go_meet
    all_goals refine ⟨rfl, congrArg (Value.int IntKind.i64) ?_⟩
    all_goals have hm := HM.out
    all_goals omega
  case rest =>
    obtain ⟨rfl, rfl⟩ := hcut
    by_cases d : (a.size : Int) - b.size ≤ M
    · by_cases d2 : (b.size : Int) - a.size ≤ M
      · go_wp2
        go_loopw [53] (fun j wr => ∃ j' : Nat, j = .int .i64 j' ∧ j' ≤ b.size + 1 ∧ wr.rowIs w.heap.size 3 (b.size + 1) (fun k => if k < j' then .int .i64 (min k (M + 1) : Nat) else .int .i64 0) ∧ Below w.heap.size w wr) (fun j _ => b.size + 1 - (intOf j).toNat)
        case atStart => 
          exact ⟨0, rfl, by omega, by simpa using World.rowIs_made _ _ _ _, (Below.refl _ _).alloc (Nat.le_refl _) _⟩
        case round =>
          obtain ⟨j, rfl, hj, hrow, hbel⟩ := hrel
          by_cases hlt : j < b.size + 1
          · have hcell : wr.cell? ⟨w.heap.size, j, none⟩ = some (.int .i64 0) := by rw [hrow.cell hlt]; simp
            have hfr := hrow.frozen j
            go_wp2
            go_roundw
            case rel =>
              refine ⟨j + 1, by go_num, by omega, (hrow.set j _).congr fun k hk => ?_, hbel.setCell (Nat.le_refl _) _⟩
              by_cases e : k = j
              · rw [if_pos e, if_pos (show k < j + 1 by omega)]; exact congrArg _ (by subst e; omega)
              · rw [if_neg e]
                by_cases e2 : k < j
                · rw [if_pos e2, if_pos (by omega)]
                · rw [if_neg e2, if_neg (by omega)]
            case measure => simp [intOf]; omega
          · go_wp2
            have hr0 : wr.rowIs w.heap.size 3 (b.size + 1) (fun k => .int .i64 (le_ a.data.toList b.data.toList M 0 k : Nat)) := hrow.congr fun k hk => by
              have hkj : k < j := by omega
              rw [if_pos hkj, le_, lt_zero_left _ _ _ (by rw [HB.out]; omega)]
            clear hrow
            go_loopw [9] (fun i wr => ∃ i' : Nat, i = .int .i64 (i' + 1 : Nat) ∧ i' ≤ a.size ∧ (∃ f : Nat → Nat, wr.rowIs w.heap.size 3 (b.size + 1) (fun k => .int .i64 (f k : Nat)) ∧ ∀ k, i' ≤ k + M → k ≤ b.size → f k = le_ a.data.toList b.data.toList M i' k) ∧ Below w.heap.size w wr) (fun i _ => a.size + 1 - (intOf i).toNat)
            case atStart =>
              exact ⟨0, rfl, by omega, ⟨_, hr0, fun k _ _ => rfl⟩, hbel⟩
            case round =>
              obtain ⟨i, rfl, hi, ⟨f, hrow, hf⟩, hbel⟩ := hrel
              by_cases hlt : i < a.size
              · obtain ⟨p, hp⟩ : ∃ p, p = i - M := ⟨_, rfl⟩
                have hleft : max (1 : Int) ((i : Int) + 1 - M) = ((p + 1 : Nat) : Int) := by omega
                have hp1 : p ≤ b.size := by omega
                have hp2 : p ≤ i := by omega
                have hp3 : i ≤ p + M := by omega
                have hc : wr.cell? ⟨w.heap.size, p, none⟩ = some (.int .i64 (f p : Nat)) := hrow.cell (by omega)
                have hfr := hrow.frozen p
                have HP := Lib.hid hp; clear hp
                have HL := Lib.hid hleft; clear hleft
                go_upto_region 16 with fail
                rw [HL.out]
                go_upto_if 86 with fail
                go_cut [] (fun wx => ∃ f2 : Nat → Nat, wx.rowIs w.heap.size 3 (b.size + 1) (fun k => .int .i64 (f2 k : Nat)) ∧ f2 p = le_ a.data.toList b.data.toList M (i + 1) p ∧ (∀ k, k ≠ p → f2 k = f k) ∧ Below w.heap.size w wx)
                case first =>
                  have hr1 := row_upd hrow p (M + 1) ((M : Int) + 1) (by omega)
                  by_cases hp0 : p = 0
                  · subst hp0
                    have hr2 := row_upd hr1 0 (i + 1) (min (i : Int) M + 1) (by omega)
                    go_wp2
                    go_meet
                    refine ⟨_, hr2, ?_, fun k hk => ?_, (hbel.setCell (Nat.le_refl _) _).setCell (Nat.le_refl _) _⟩
                    · rw [if_pos rfl, le_, lt_zero_right _ _ _ (by rw [HA.out]; omega)]; omega
                    · rw [if_neg hk, if_neg hk]
                  · go_wp2
                    go_meet
                    refine ⟨_, hr1, ?_, fun k hk => ?_, hbel.setCell (Nat.le_refl _) _⟩
                    · rw [if_pos rfl, le_far _ _ _ _ _ (by rw [HA.out]; omega) (by rw [HB.out]; omega) (by have := HP.out; omega)]
                    · rw [if_neg hk]
                case rest =>
                  obtain ⟨f2, hr2, hf2p, hf2, hb2⟩ := hcut
                  have hg2 : ∀ k, p < k → k ≤ b.size → f2 k = le_ a.data.toList b.data.toList M i k := fun k hk hk2 => by rw [hf2 k (by omega), hf k (by omega) hk2]
                  have hdiag : f p = le_ a.data.toList b.data.toList M i p := hf p hp3 hp1
                  have HF2P := Lib.hid hf2p
                  have HG2 := Lib.hid hg2
                  have HD := Lib.hid hdiag
                  clear hf2p hf2 hg2 hf hdiag hc hfr hrow hbel
                  go_wp2
                  go_loopw [11, 12] (fun s11 s12 wr => ∃ (j : Nat) (f3 : Nat → Nat), s12 = .int .i64 j ∧ s11 = .int .i64 (le_ a.data.toList b.data.toList M i (j - 1) : Nat) ∧ p + 1 ≤ j ∧ j ≤ b.size + 1 ∧ wr.rowIs w.heap.size 3 (b.size + 1) (fun k => .int .i64 (f3 k : Nat)) ∧
                      (∀ k, p ≤ k → k < j → f3 k = le_ a.data.toList b.data.toList M (i + 1) k) ∧ (∀ k, j ≤ k → k ≤ b.size → f3 k = le_ a.data.toList b.data.toList M i k) ∧ Below w.heap.size w wr) (fun _ j _ => b.size + 1 - (intOf j).toNat)
                  case atStart =>
                    refine ⟨p + 1, f2, rfl, ?_, Nat.le_refl _, by omega, hr2, fun k h1 h2 => ?_, fun k h1 h2 => HG2.out k (by omega) h2, hb2⟩
                    · first | rfl | rw [HD.out]; rfl
                    · obtain rfl : k = p := by omega
                      exact HF2P.out
                  case round =>
                    obtain ⟨j, f3, rfl, rfl, hj1, hj2, hr3, hlo, hhi, hb3⟩ := hrel
                    have hx : le_ a.data.toList b.data.toList M i j ≤ M + 1 := Nat.min_le_right _ _
                    have hy : le_ a.data.toList b.data.toList M (i + 1) (j - 1) ≤ M + 1 := Nat.min_le_right _ _
                    have hz : le_ a.data.toList b.data.toList M i (j - 1) ≤ M + 1 := Nat.min_le_right _ _
                    by_cases hjb : j ≤ b.size
                    · by_cases hji : j ≤ i + 1 + M
                      · have hcj : wr.cell? ⟨w.heap.size, j, none⟩ = some (.int .i64 (le_ a.data.toList b.data.toList M i j : Nat)) := by rw [hr3.cell (by omega), hhi j (Nat.le_refl _) hjb]
                        have hcl : wr.cell? ⟨w.heap.size, j - 1, none⟩ = some (.int .i64 (le_ a.data.toList b.data.toList M (i + 1) (j - 1) : Nat)) := by rw [hr3.cell (by omega), hlo (j - 1) (by omega) (by omega)]
                        have hfr := hr3.frozen j
                        have HLO := Lib.hid hlo
                        have HHI := Lib.hid hhi
                        clear hlo hhi
                        go_upto_region 24 with fail
                        go_cut [9, 10, 12, 116] (fun s9 s10 s12 s wx => wr = wx ∧ s9 = .int .i64 (i + 1 : Nat) ∧ s10 = .int .i64 (p + 1 : Nat) ∧ s12 = .int .i64 j ∧ ∃ t : Bool, s = .bool t ∧ (t = true → j = i + 1 + M))
                        case first =>
                          go_wp2
                          all_goals go_meet
                          all_goals refine ⟨rfl, by go_num, by go_num, by go_num, _, rfl, ?_⟩
                          all_goals intro h
                          all_goals first | omega | cases h
                        case rest =>
                        obtain ⟨rfl, rfl, rfl, rfl, t, rfl, ht⟩ := hcut
                        have HT := Lib.hid ht
                        clear ht
                        go_upto_if 116 with fail
                        go_cut [13] (fun s13 wx => wr = wx ∧ s13 = .int .i64 (le_ a.data.toList b.data.toList M i j : Nat))
                        case first =>
                          go_wp2
                          all_goals go_meet
                          · exact ⟨rfl, congrArg (Value.int IntKind.i64) (by rw [le_far _ _ _ _ _ (by rw [HA.out]; omega) (by rw [HB.out]; omega) (by have := HT.out ‹t = true›; omega)]; rfl)⟩
                          · exact ⟨rfl, rfl⟩
                        case rest =>
                          obtain ⟨rfl, rfl⟩ := hcut
                          go_upto_region 27 with fail
                          have q1 : (i : Int) < a.size := by omega
                          have q2 : (j : Int) - 1 < b.size := by omega
                          have q3 : 0 ≤ (j : Int) - 1 := by omega
                          have q7 : 1 ≤ (j : Int) := by omega
                          have q8 : (j : Int) ≤ b.size := by omega
                          have q4 : IntKind.i64.wrap (i : Int) = i := IntWalk.i64_in _ (by omega)
                          have q5 : IntKind.i64.wrap ((j : Int) - 1) = (j : Int) - 1 := IntWalk.i64_in _ (by omega)
                          have q6 : ((j : Int) - 1).toNat = j - 1 := by omega
                          go_region
                          go_upto_if 128 with fail
                          go_cut [14] (fun s14 wx => ∃ n, wx = wr.drewN n ∧ s14 = .int .i64 (le_ a.data.toList b.data.toList M i (j - 1) + (if a.data.toList[i]'(by rw [HA.out]; omega) = b.data.toList[j - 1]'(by rw [HB.out]; omega) then 0 else 1) : Nat))
                          case first =>
                            go_wp2
                            all_goals go_meet
                            · exact ⟨1, rfl, by rw [if_neg (fun e => (bytes_ne ‹(_ != _) = true›) e)]; go_num⟩
                            · exact ⟨1, rfl, by rw [if_pos (bytes_eq ‹(_ != _) = false›)]; go_num⟩
                          case rest =>
                            obtain ⟨n, rfl, rfl⟩ := hcut
                            generalize hcc : (if a.data.toList[i]'(by rw [HA.out]; omega) = b.data.toList[j - 1]'(by rw [HB.out]; omega) then 0 else 1) = c
                            have hc1 : c ≤ 1 := by rw [← hcc]; split <;> omega
                            have HCC := Lib.hid hcc
                            clear hcc
                            go_wp2
                            go_roundw
                            case rel =>
                              have hV := le_succ_ a.data.toList b.data.toList M i (j - 1) (by rw [HA.out]; omega) (by rw [HB.out]; omega)
                              rw [HCC.out, show j - 1 + 1 = j by omega] at hV
                              refine ⟨j + 1, _, by go_num, by simp, by omega, by omega, row_upd (w := wr.drewN n) hr3 j (le_ a.data.toList b.data.toList M (i + 1) j) _ (by omega), fun k h1 h2 => ?_, fun k h1 h2 => ?_, ?_⟩
                              · by_cases e : k = j
                                · rw [if_pos e, e]
                                · rw [if_neg e]; exact HLO.out k h1 (by omega)
                              · have e : k ≠ j := by omega
                                rw [if_neg e]; exact HHI.out k (by omega) h2
                              · exact Below.setCell (below_drewN hb3 n) (Nat.le_refl _) _
                            case measure => simp [intOf]; omega
                      · go_wp2
                        go_roundw
                        case rel =>
                          refine ⟨i + 1, by go_num, by omega, ⟨f3, hr3, fun k h1 h2 => ?_⟩, hb3⟩
                          by_cases e : k < j
                          · exact hlo k (by have := HP.out; omega) e
                          · rw [hhi k (by omega) h2, le_far a.data.toList b.data.toList M i k (by rw [HA.out]; omega) (by rw [HB.out]; omega) (by omega), le_far a.data.toList b.data.toList M (i + 1) k (by rw [HA.out]; omega) (by rw [HB.out]; omega) (by omega)]
                        case measure => simp [intOf]; omega
                    · go_wp2
                      go_roundw
                      case rel =>
                        exact ⟨i + 1, by go_num, by omega, ⟨f3, hr3, fun k h1 h2 => hlo k (by have := HP.out; omega) (by omega)⟩, hb3⟩
                      case measure => simp [intOf]; omega
              · have hc : wr.cell? ⟨w.heap.size, b.size, none⟩ = some (.int .i64 (f b.size : Nat)) := hrow.cell (by omega)
                go_wp2
                go_ret
                obtain rfl : i = a.size := by omega
                exact ⟨ret_int (by rw [hf b.size (by omega) (by omega)]), hbel⟩
      · go_wp2
        go_ret
        exact ⟨ret_int (by rw [le_far _ _ _ _ _ (by rw [HA.out]; omega) (by rw [HB.out]; omega) (by omega)]; rfl), Below.refl _ _⟩
    · go_wp2
      go_ret
      exact ⟨ret_int (by rw [le_far _ _ _ _ _ (by rw [HA.out]; omega) (by rw [HB.out]; omega) (by omega)]; rfl), Below.refl _ _⟩
theorem edits_any (a b : ByteArray) (most : Int) (w : World) (ha : a.size ≤ 1048576) (hb : b.size ≤ 1048576) (h0 : -9223372036854775808 ≤ most) (h1 : most ≤ 9223372036854775807) :
    Calls Try.prog 5 #[.string a, .string b, .int .i64 most] w fun e w' => e = .returned (.int .i64 (edI a b most)) ∧ Below w.heap.size w w' := by
  have hm := lev_max a b
  refine (edits_at a b most (min (max most 0) (max (a.size : Int) b.size)).toNat w ha hb h0 h1 (by omega)).mono ?_
  rintro e w' ⟨rfl, hbel⟩
  refine ⟨ret_int ?_, hbel⟩
  rw [le_all]
  unfold edI
  omega
set_option maxRecDepth 100000 in
set_option maxHeartbeats 4000000 in
theorem redits_any (a b : ByteArray) (w : World) (ha : a.size ≤ 1048576) (hb : b.size ≤ 1048576) :
    Calls Try.prog 7 #[.string a, .string b] w fun e w' => ∃ v, e = .returned v ∧ Own w' w.heap.size 3 v (intsV (fun k => lt a.data.toList b.data.toList k b.size) (a.size + 1)) ∧ Below w.heap.size w w' := by
  have hal : a.data.toList.length = a.size := by simp
  have hbl : b.data.toList.length = b.size := by simp
  have HA := Lib.hid hal; have HB := Lib.hid hbl; clear hal hbl
  go_enter Try.func7, Try.ntmps7
  go_wp2
  go_loopw [5, 6] (fun s5 s6 wr => ∃ i : Nat, s6 = .int .i64 i ∧ i ≤ a.size + 1 ∧ Own wr w.heap.size 3 s5 (intsV (fun k => k) i) ∧ Below w.heap.size w wr) (fun _ i _ => a.size + 1 - (intOf i).toNat)
  case atStart => exact ⟨0, rfl, by omega, own_empty _ _ _ (Nat.le_refl _), (Below.refl _ _).alloc (Nat.le_refl _) _⟩
  case round =>
    obtain ⟨i, rfl, hi, hown, hbel⟩ := hrel
    by_cases hlt : i ≤ a.size
    · have hb0 := hbel.size
      have hl' : (intsV (fun k => k) i).length < 1000000000000 := by rw [intsV_length]; omega
      go_wp2_with (at_builtin; with_reducible refine ap1 elInts rfl hown hl' hb0 rfl _ _ rfl rfl rfl ?_)
      intro v' w1 hown1 hg1
      go_wp2
      go_roundw
      case rel => exact ⟨i + 1, by go_num, by omega, by rw [intsV_succ]; exact hown1, hbel.grown hg1 hb0 (fun k hk => (hown.lt k hk).1)⟩
      case measure => simp [intOf]; omega
    · have d1 : decide ((i : Int) ≤ a.size) = false := by simp; omega
      go_wp2
      have hr0 : Own wr w.heap.size 3 u5 (intsV (fun k => lt a.data.toList b.data.toList k 0) (a.size + 1)) := by
        obtain rfl : i = a.size + 1 := by omega
        rw [intsV_congr (g := fun k => k) (fun k hk => lt_zero_right a.data.toList b.data.toList k (by rw [HA.out]; omega))]; exact hown
      have hu5 : ∀ h : True, True := fun h => h
      clear hown hu5
      go_loopw [5, 7] (fun s5 s7 wr => ∃ j : Nat, s7 = .int .i64 ((j : Int) + 1) ∧ j ≤ b.size ∧ Own wr w.heap.size 3 s5 (intsV (fun k => lt a.data.toList b.data.toList k j) (a.size + 1)) ∧ Below w.heap.size w wr) (fun _ j _ => b.size + 1 - (intOf j).toNat)
      case atStart => exact ⟨0, rfl, by omega, hr0, hbel⟩
      case round =>
        obtain ⟨j, rfl, hj, hown, hbel⟩ := hrel
        by_cases hlt2 : j < b.size
        · obtain ⟨g, co, rfl, hg1, hg2, _, _, hcells⟩ := hown.pos (by rw [intsV_length]; omega)
          rw [intsV_length]
          have hb0 := hbel.size
          obtain ⟨wo, rfl⟩ : ∃ wo, wo = wr := ⟨_, rfl⟩
          have d2 : decide ((j : Int) + 1 ≤ b.size) = true := by simp; omega
          go_wp2
          go_loopw [8, 9] (fun s8 s9 wr => ∃ i : Nat, s9 = .int .i64 ((i : Int) + 1) ∧ i ≤ a.size ∧ Own wr wo.heap.size 3 s8 (intsV (fun k => lt a.data.toList b.data.toList k (j + 1)) (i + 1)) ∧ Below wo.heap.size wo wr) (fun _ i _ => a.size + 1 - (intOf i).toNat)
          case atStart =>
            refine ⟨0, rfl, by omega, ?_, (Below.refl _ _).alloc (Nat.le_refl _) _⟩
            rw [intsV_succ, lt_zero_left a.data.toList b.data.toList (j + 1) (by rw [HB.out]; omega)]
            exact own_one wo wo.heap.size 3 (.int .i64 (j + 1 : Nat)) (Nat.le_refl _)
          case round =>
            obtain ⟨i, rfl, hi, hown2, hbel2⟩ := hrel
            by_cases hlt3 : i < a.size
            · obtain ⟨g2, c2, rfl, hg3, hg4, _, _, hcells2⟩ := hown2.pos (by rw [intsV_length]; omega)
              rw [intsV_length]
              have hc1 : wr.cell? ⟨g, i, none⟩ = some (.int .i64 (lt a.data.toList b.data.toList i j : Nat)) := (hbel2.cell hg2).trans (hcells i _ (intsV_get _ _ _ (by omega)))
              have hc2 : wr.cell? ⟨g, i + 1, none⟩ = some (.int .i64 (lt a.data.toList b.data.toList (i + 1) j : Nat)) := (hbel2.cell hg2).trans (hcells (i + 1) _ (intsV_get _ _ _ (by omega)))
              have hc3 : wr.cell? ⟨g2, i, none⟩ = some (.int .i64 (lt a.data.toList b.data.toList i (j + 1) : Nat)) := hcells2 i _ (intsV_get _ _ _ (by omega))
              have HC := Lib.hid hcells; have HC2 := Lib.hid hcells2
              clear hcells hcells2
              have hx1 := lt_le a.data.toList b.data.toList i j
              have hx2 := lt_le a.data.toList b.data.toList (i + 1) j
              have hx3 := lt_le a.data.toList b.data.toList i (j + 1)
              have q1 : (i : Int) < a.size := by omega
              have q2 : (j : Int) < b.size := by omega
              go_upto_region 14 with fail
              go_region
              go_upto_if 49 with fail
              go_cut [10] (fun s10 wx => ∃ n, wx = wr.drewN n ∧ s10 = .int .i64 (lt a.data.toList b.data.toList i j + (if a.data.toList[i]'(by rw [HA.out]; omega) = b.data.toList[j]'(by rw [HB.out]; omega) then 0 else 1) : Nat))
              case first =>
                go_wp2
                all_goals go_meet
                · exact ⟨1, rfl, by rw [if_neg (fun e => (bytes_ne ‹(_ != _) = true›) e)]; go_num⟩
                · exact ⟨1, rfl, by rw [if_pos (bytes_eq ‹(_ != _) = false›)]; go_num⟩
              case rest =>
                obtain ⟨n, rfl, rfl⟩ := hcut
                generalize hcc : (if a.data.toList[i]'(by rw [HA.out]; omega) = b.data.toList[j]'(by rw [HB.out]; omega) then 0 else 1) = c
                have hc1' : c ≤ 1 := by rw [← hcc]; split <;> omega
                have HCC := Lib.hid hcc
                clear hcc
                go_upto_region 16 with fail
                have hb1 := hbel2.size
                have hl' : (intsV (fun k => lt a.data.toList b.data.toList k (j + 1)) (i + 1)).length < 1000000000000 := by rw [intsV_length]; omega
                have hown2' : Own ((wr.drewN n).drew) wo.heap.size 3 (.slice (some ⟨g2, 0, none⟩) (i + 1) c2) (intsV (fun k => lt a.data.toList b.data.toList k (j + 1)) (i + 1)) := by rw [intsV_length] at hown2; exact hown2
                have q3 : 0 ≤ (i : Int) + 1 := by omega
                have q4 : (i : Int) + 1 < a.size + 1 := by omega
                have q5 : IntKind.i64.wrap (i : Int) = i := IntWalk.i64_in _ (by omega)
                have q6 : (i : Int) < i + 1 := by omega
                have q7 : IntKind.i64.wrap ((lt a.data.toList b.data.toList (i + 1) j : Nat) + 1 : Int) = (lt a.data.toList b.data.toList (i + 1) j : Nat) + 1 := IntWalk.i64_in _ (by omega)
                have q8 : IntKind.i64.wrap ((lt a.data.toList b.data.toList i (j + 1) : Nat) + 1 : Int) = (lt a.data.toList b.data.toList i (j + 1) : Nat) + 1 := IntWalk.i64_in _ (by omega)
                go_region_law (refine step_ap1 elInts rfl hown2' hl' hb1 rfl (.tmp 52) (.tmp 66) rfl rfl rfl ?_; intro v' w1 hown3 hg3)
                all_goals
                  clear q1 q2 q3 q4 q5 q6 q7 q8
                  go_wp2
                  go_roundw
                  case rel =>
                    have hV := lt_succ a.data.toList b.data.toList i j (by rw [HA.out]; omega) (by rw [HB.out]; omega)
                    rw [HCC.out] at hV
                    refine ⟨i + 1, by go_num, by omega, ?_, (below_drewN hbel2 (n + 1)).grown hg3 hb1 (fun k hk => (hown2'.lt k hk).1)⟩
                    rw [intsV_succ]
                    exact own_last hown3 (by omega)
                  case measure => simp [intOf]; omega
            · go_wp2
              go_roundw
              case rel =>
                obtain rfl : i = a.size := by omega
                exact ⟨j + 1, by go_num, by omega, own_base hown2 hb0, hbel.trans (hbel2.mono hb0)⟩
              case measure => simp [intOf]; omega
        · go_wp2
          go_ret
          obtain rfl : j = b.size := by omega
          exact ⟨_, rfl, hown, hbel⟩
set_option maxRecDepth 100000 in
theorem rEdits_any (a b : ByteArray) (most : Int) (w : World) (ha : a.size ≤ 1048576) (hb : b.size ≤ 1048576) (h0 : -9223372036854775808 ≤ most) (h1 : most ≤ 9223372036854775807) :
    Calls Try.prog 6 #[.string a, .string b, .int .i64 most] w fun e w' => e = .returned (.int .i64 (edI a b most)) ∧ Below w.heap.size w w' := by
  have hlev := lt_all a.data.toList b.data.toList
  rw [show a.data.toList.length = a.size by simp, show b.data.toList.length = b.size by simp] at hlev
  have hm := lev_max a b
  have HL := Lib.hid hlev
  clear hlev
  go_enter Try.func6, Try.ntmps6
  go_wp2_with fail
  refine (redits_any a b _ ha hb).mono ?_
  rintro e w' ⟨v, rfl, hown, hbel⟩
  obtain ⟨g, co, rfl, _, _, _, _, hcells⟩ := hown.pos (by rw [intsV_length]; omega)
  rw [intsV_length]
  have hc := hcells a.size _ (intsV_get _ _ _ (by omega))
  rw [HL.out] at hc
  clear hcells
  go_wp2
  · go_ret
    exact ⟨ret_int (by unfold edI; omega), hbel⟩
  · go_ret
    exact ⟨ret_int (by unfold edI; omega), hbel⟩
end Go.Proofs.Ytejmjjgbbojfbaa
