/- posts: good, and the document's. -/
import Derived.Test.YthnpbfadblcicaaDoorZG3
import Derived.Test.YthnpbfadblcicaaDoorZG8
import Derived.Test.YthnpbfadblcicaaDoorZG8
import Derived.BigQuiet
namespace Go.Proofs.YthnpbfadblcicaaDoor
set_option linter.unusedVariables false
open Go.ChangeShapes Go.WideShapes Go.ChangeAt Go.RowKit

/-- The error of a number; 0 is none. -/
def errK (EA : Nat → Addr) : Nat → Value
  | 0 => .nilIface
  | k + 1 => errV EA (k + 1)
set_option maxRecDepth 100000 in
set_option maxHeartbeats 2000000 in
theorem good_any (w : World) (doc last : Int) (A : Option Addr) (n C : Nat) (pos : List Int) (hr : Rd w (.slice A n C) (intL pos)) (hl : pos.length ≤ 1000000000) (EA : Nat → Addr) (hS : Sent7 w EA) :
    Calls Tryd.prog 30 #[.agg #[.int .i64 doc, .slice A n C], .int .i64 last] w fun e w' => e = .returned (errK EA (goodV last ⟨doc, pos⟩)) ∧ Below w.heap.size w w' := by
  obtain ⟨G, hG⟩ : ∃ G, goodV last ⟨doc, pos⟩ = G := ⟨_, rfl⟩
  rw [hG]
  have hb : Below w.heap.size w (w.alloc (.cells #[.int .i64 doc, .slice A n C] 53)) := (Below.refl _ w).alloc (Nat.le_refl _) _
  have hS1 := hS.below hb
  have g8 := hS1.c8
  have g4 := hS1.s6.c4
  obtain ⟨rfl, hg⟩ := rd_get (hr.below hb (Nat.le_refl _))
  have e1 := heap_alloc_new w (.cells #[.int .i64 doc, .slice A pos.length C] 53)
  have c0 := blk_cell e1 0
  have c1 := blk_cell e1 1
  have HG := Lib.hid hg
  have HGG := Lib.hid hG
  have HB := Lib.hid hb
  clear hg e1 hb hG hS hS1 hr
  unfold errV at g8 g4
  by_cases h1 : doc < 0
  · have t1 : decide (doc < 0) = true := decide_eq_true h1
    have hG : G = 8 := by rw [← HGG.out]; unfold goodV; rw [if_pos (.inl h1)]
    subst hG
    go_enter Tryd.func30, Tryd.ntmps30
    go_wp2
    go_ret
    exact ⟨rfl, HB.out⟩
  by_cases h2 : 2147483647 ≤ doc
  · have t1 : decide (doc < 0) = false := decide_eq_false h1
    have t2 : decide (2147483647 ≤ doc) = true := decide_eq_true h2
    have hG : G = 8 := by rw [← HGG.out]; unfold goodV; rw [if_pos (.inr h2)]
    subst hG
    clear h1 h2
    go_enter Tryd.func30, Tryd.ntmps30
    go_wp2
    go_ret
    exact ⟨rfl, HB.out⟩
  have t1 : decide (doc < 0) = false := decide_eq_false h1
  have t2 : decide (2147483647 ≤ doc) = false := decide_eq_false h2
  have n12 : ¬ (doc < 0 ∨ 2147483647 ≤ doc) := by omega
  by_cases h3 : doc ≤ last
  · have t3 : decide (doc ≤ last) = true := decide_eq_true h3
    have hG : G = 4 := by rw [← HGG.out]; unfold goodV; rw [if_neg n12, if_pos h3]
    subst hG
    clear h1 h2 n12 h3
    go_enter Tryd.func30, Tryd.ntmps30
    go_wp2
    go_ret
    exact ⟨rfl, HB.out⟩
  have t3 : decide (doc ≤ last) = false := decide_eq_false h3
  by_cases h4 : pos = []
  · have hG : G = 8 := by rw [← HGG.out]; unfold goodV; rw [if_neg n12, if_neg h3, if_pos h4]
    have t4 : ((pos.length : Int) == 0) = true := by rw [h4]; rfl
    have t5 : decide (pos.length = 0) = true := by rw [h4]; rfl
    subst hG
    clear h1 h2 n12 h3 h4
    go_enter Tryd.func30, Tryd.ntmps30
    go_wp2
    go_ret
    exact ⟨rfl, HB.out⟩
  have hp0 : 0 < pos.length := List.length_pos_iff.2 h4
  obtain ⟨b, o, rfl, hc⟩ := HG.out hp0
  have t4 : decide (pos.length = 0) = false := decide_eq_false (by omega)
  have hGV : goodV last ⟨doc, pos⟩ = if anyNeg pos then 8 else if risesB pos then 0 else 4 := by unfold goodV; rw [if_neg n12, if_neg h3, if_neg h4]
  have HC := Lib.hid hc
  have HGV := Lib.hid (hGV.symm.trans HGG.out)
  clear h1 h2 n12 h3 h4 hc hGV HG HGG
  go_enter Tryd.func30, Tryd.ntmps30
  go_wp2
  obtain ⟨w1, hw1⟩ : ∃ w1, w1 = w.alloc (.cells #[.int .i64 doc, .slice (some ⟨b, o, none⟩) pos.length C] 53) := ⟨_, rfl⟩
  rw [← hw1] at g8 g4 c0 c1 HC HB ⊢
  clear hw1
  go_loopw [33] (fun s1 wr => ∃ (i : Nat), s1 = .int .i64 i ∧ i ≤ pos.length ∧ (∀ j (h : j < pos.length), j < i → 0 ≤ pos[j]) ∧ wr = w1) (fun s1 _ => pos.length - (intOf s1).toNat)
  case atStart => exact ⟨0, rfl, Nat.zero_le _, fun j _ h => absurd h (Nat.not_lt_zero _), rfl⟩
  case round =>
    obtain ⟨i, rfl, hi, hpos, rfl⟩ := hrel
    by_cases hlt : i < pos.length
    · have hx := HC.out i hlt
      obtain ⟨x, hxx⟩ : ∃ x, pos[i] = x := ⟨_, rfl⟩
      rw [hxx] at hx
      have i1 : (i : Int) < (pos.length : Int) := by omega
      by_cases hneg : x < 0
      · have t5 : decide (x < 0) = true := decide_eq_true hneg
        have hG : G = 8 := by
          rw [← HGV.out, if_pos]
          exact List.any_eq_true.2 ⟨pos[i], List.getElem_mem hlt, decide_eq_true (by omega)⟩
        subst hG
        clear hpos hxx hneg
        go_wp2
        go_ret
        exact ⟨rfl, HB.out⟩
      · have t5 : decide (x < 0) = false := decide_eq_false hneg
        have hpos2 : ∀ j (h : j < pos.length), j < i + 1 → 0 ≤ pos[j] := fun j h hj => by
          rcases Nat.lt_or_ge j i with h9 | h9
          · exact hpos j h h9
          · obtain rfl : j = i := by omega
            omega
        have HP2 := Lib.hid hpos2
        clear hpos hpos2 hxx hneg
        go_wp2
        go_roundw
        case rel => exact ⟨i + 1, by go_num, by omega, HP2.out, by first | rfl | trivial⟩
        case measure => simp [intOf]; omega
    · have i1 : ¬ ((i : Int) < (pos.length : Int)) := by omega
      have hnn : anyNeg pos = false := List.any_eq_false.2 fun z hz => by
        obtain ⟨j, hj, rfl⟩ := List.mem_iff_getElem.1 hz
        have := hpos j hj (by omega)
        simp; omega
      have HGR := Lib.hid (show (if risesB pos then 0 else 4) = G by rw [← HGV.out, hnn]; rfl)
      clear hpos hlt hi hnn HGV
      go_wp2
      obtain ⟨w2, rfl⟩ : ∃ w2 : World, w2 = wr := ⟨_, rfl⟩
      go_loopw [7] (fun s7 wr => ∃ (i d : Nat), s7 = .int .i64 i ∧ 1 ≤ i ∧ i ≤ pos.length ∧ (∀ j (h : j + 1 < pos.length), j + 1 < i → pos[j]'(Nat.lt_of_succ_lt h) < pos[j + 1]'h) ∧ wr = w2.drewN d) (fun s7 _ => pos.length - (intOf s7).toNat)
      case atStart => exact ⟨1, 0, rfl, Nat.le_refl _, hp0, fun j _ h => absurd h (by omega), rfl⟩
      case round =>
        clear i1
        obtain ⟨i, d, rfl, hi0, hi, hris, rfl⟩ := hrel
        by_cases hlt : i < pos.length
        · have hx := HC.out i hlt
          obtain ⟨k, hk⟩ : ∃ k, k + 1 = i := ⟨i - 1, by omega⟩
          have hy := HC.out k (by omega)
          obtain ⟨x, hxx⟩ : ∃ x, pos[i] = x := ⟨_, rfl⟩
          obtain ⟨y, hyy⟩ : ∃ y, pos[k]'(by omega) = y := ⟨_, rfl⟩
          rw [hxx] at hx
          rw [hyy] at hy
          have i1 : (i : Int) < (pos.length : Int) := by omega
          have i2 : (k : Int) < (pos.length : Int) := by omega
          have s1 : IntKind.i64.wrap ((i : Int) - 1) = (k : Int) := by rw [IntKind.wrap_i64]; omega
          by_cases hle : x ≤ y
          · have t5 : decide (x ≤ y) = true := decide_eq_true hle
            have hG : G = 4 := by
              rw [← HGR.out, if_neg]
              intro hr
              have h9 := (risesB_iff pos).1 hr k (by omega)
              subst hk
              omega
            subst hG
            have HK := Lib.hid hk
            clear hris hxx hyy hle hk
            go_upto_region 16 with fail
            go_quiet (fail)
            go_wp2
            go_ret
            exact ⟨rfl, by first | exact below_drewN HB.out _ | exact below_drewN (below_drewN HB.out _) _⟩
          · have t5 : decide (x ≤ y) = false := decide_eq_false hle
            have hris2 : ∀ j (h : j + 1 < pos.length), j + 1 < i + 1 → pos[j]'(Nat.lt_of_succ_lt h) < pos[j + 1]'h := fun j h hj => by
              rcases Nat.lt_or_ge (j + 1) i with h9 | h9
              · exact hris j h h9
              · obtain rfl : j = k := by omega
                subst hk
                omega
            have HR2 := Lib.hid hris2
            have HK := Lib.hid hk
            clear hris hris2 hxx hyy hle hk
            go_upto_region 16 with fail
            go_quiet (fail)
            go_wp2
            go_roundw
            case rel => exact ⟨i + 1, _, by go_num, by omega, by omega, HR2.out, by first | rfl | exact World.drewN_drewN ..⟩
            case measure => simp [intOf]; omega
        · have i1 : ¬ ((i : Int) < (pos.length : Int)) := by omega
          have hG : G = 0 := by
            rw [← HGR.out, if_pos ((risesB_iff pos).2 fun j hj => hris j hj (by omega))]
          subst hG
          clear hris hlt
          go_wp2
          go_ret
          exact ⟨rfl, below_drewN HB.out _⟩
set_option maxRecDepth 100000 in
set_option maxHeartbeats 2000000 in
theorem rgood_any (w : World) (doc last : Int) (A : Option Addr) (n C : Nat) (pos : List Int) (hr : Rd w (.slice A n C) (intL pos)) (hl : pos.length ≤ 1000000000) (EA : Nat → Addr) (hS : Sent6 w EA) :
    Calls Tryd.prog 54 #[.agg #[.int .i64 doc, .slice A n C], .int .i64 last] w fun e w' => e = .returned (.int .i64 (goodV last ⟨doc, pos⟩ : Nat)) ∧ Below w.heap.size w w' := by
  obtain ⟨G, hG⟩ : ∃ G, goodV last ⟨doc, pos⟩ = G := ⟨_, rfl⟩
  rw [hG]
  have hb : Below w.heap.size w (w.alloc (.cells #[.int .i64 doc, .slice A n C] 53)) := (Below.refl _ w).alloc (Nat.le_refl _) _
  obtain ⟨rfl, hg⟩ := rd_get (hr.below hb (Nat.le_refl _))
  have e1 := heap_alloc_new w (.cells #[.int .i64 doc, .slice A pos.length C] 53)
  have c0 := blk_cell e1 0
  have c1 := blk_cell e1 1
  have HG := Lib.hid hg
  have HGG := Lib.hid hG
  have HB := Lib.hid hb
  clear hg e1 hb hG hS hr
  by_cases h1 : doc < 0
  · have t1 : decide (doc < 0) = true := decide_eq_true h1
    have hG : G = 8 := by rw [← HGG.out]; unfold goodV; rw [if_pos (.inl h1)]
    subst hG
    go_enter Tryd.func54, Tryd.ntmps54
    go_wp2
    go_ret
    exact ⟨rfl, HB.out⟩
  by_cases h2 : 2147483647 ≤ doc
  · have t1 : decide (doc < 0) = false := decide_eq_false h1
    have t2 : decide (2147483647 ≤ doc) = true := decide_eq_true h2
    have hG : G = 8 := by rw [← HGG.out]; unfold goodV; rw [if_pos (.inr h2)]
    subst hG
    clear h1 h2
    go_enter Tryd.func54, Tryd.ntmps54
    go_wp2
    go_ret
    exact ⟨rfl, HB.out⟩
  have t1 : decide (doc < 0) = false := decide_eq_false h1
  have t2 : decide (2147483647 ≤ doc) = false := decide_eq_false h2
  have n12 : ¬ (doc < 0 ∨ 2147483647 ≤ doc) := by omega
  by_cases h3 : doc ≤ last
  · have t3 : decide (doc ≤ last) = true := decide_eq_true h3
    have hG : G = 4 := by rw [← HGG.out]; unfold goodV; rw [if_neg n12, if_pos h3]
    subst hG
    clear h1 h2 n12 h3
    go_enter Tryd.func54, Tryd.ntmps54
    go_wp2
    go_ret
    exact ⟨rfl, HB.out⟩
  have t3 : decide (doc ≤ last) = false := decide_eq_false h3
  by_cases h4 : pos = []
  · have hG : G = 8 := by rw [← HGG.out]; unfold goodV; rw [if_neg n12, if_neg h3, if_pos h4]
    have t4 : ((pos.length : Int) == 0) = true := by rw [h4]; rfl
    have t5 : decide (pos.length = 0) = true := by rw [h4]; rfl
    subst hG
    clear h1 h2 n12 h3 h4
    go_enter Tryd.func54, Tryd.ntmps54
    go_wp2
    go_ret
    exact ⟨rfl, HB.out⟩
  have hp0 : 0 < pos.length := List.length_pos_iff.2 h4
  obtain ⟨b, o, rfl, hc⟩ := HG.out hp0
  have t4 : decide (pos.length = 0) = false := decide_eq_false (by omega)
  have hGV : goodV last ⟨doc, pos⟩ = if anyNeg pos then 8 else if risesB pos then 0 else 4 := by unfold goodV; rw [if_neg n12, if_neg h3, if_neg h4]
  have HC := Lib.hid hc
  have HGV := Lib.hid (hGV.symm.trans HGG.out)
  clear h1 h2 n12 h3 h4 hc hGV HG HGG
  go_enter Tryd.func54, Tryd.ntmps54
  go_wp2
  obtain ⟨w1, hw1⟩ : ∃ w1, w1 = w.alloc (.cells #[.int .i64 doc, .slice (some ⟨b, o, none⟩) pos.length C] 53) := ⟨_, rfl⟩
  rw [← hw1] at c0 c1 HC HB ⊢
  clear hw1
  go_loopw [27] (fun s1 wr => ∃ (i : Nat), s1 = .int .i64 i ∧ i ≤ pos.length ∧ (∀ j (h : j < pos.length), j < i → 0 ≤ pos[j]) ∧ wr = w1) (fun s1 _ => pos.length - (intOf s1).toNat)
  case atStart => exact ⟨0, rfl, Nat.zero_le _, fun j _ h => absurd h (Nat.not_lt_zero _), rfl⟩
  case round =>
    obtain ⟨i, rfl, hi, hpos, rfl⟩ := hrel
    by_cases hlt : i < pos.length
    · have hx := HC.out i hlt
      obtain ⟨x, hxx⟩ : ∃ x, pos[i] = x := ⟨_, rfl⟩
      rw [hxx] at hx
      have i1 : (i : Int) < (pos.length : Int) := by omega
      by_cases hneg : x < 0
      · have t5 : decide (x < 0) = true := decide_eq_true hneg
        have hG : G = 8 := by
          rw [← HGV.out, if_pos]
          exact List.any_eq_true.2 ⟨pos[i], List.getElem_mem hlt, decide_eq_true (by omega)⟩
        subst hG
        clear hpos hxx hneg
        go_wp2
        go_ret
        exact ⟨rfl, HB.out⟩
      · have t5 : decide (x < 0) = false := decide_eq_false hneg
        have hpos2 : ∀ j (h : j < pos.length), j < i + 1 → 0 ≤ pos[j] := fun j h hj => by
          rcases Nat.lt_or_ge j i with h9 | h9
          · exact hpos j h h9
          · obtain rfl : j = i := by omega
            omega
        have HP2 := Lib.hid hpos2
        clear hpos hpos2 hxx hneg
        go_wp2
        go_roundw
        case rel => exact ⟨i + 1, by go_num, by omega, HP2.out, by first | rfl | trivial⟩
        case measure => simp [intOf]; omega
    · have i1 : ¬ ((i : Int) < (pos.length : Int)) := by omega
      have hnn : anyNeg pos = false := List.any_eq_false.2 fun z hz => by
        obtain ⟨j, hj, rfl⟩ := List.mem_iff_getElem.1 hz
        have := hpos j hj (by omega)
        simp; omega
      have HGR := Lib.hid (show (if risesB pos then 0 else 4) = G by rw [← HGV.out, hnn]; rfl)
      clear hpos hlt hi hnn HGV
      go_wp2
      obtain ⟨w2, rfl⟩ : ∃ w2 : World, w2 = wr := ⟨_, rfl⟩
      go_loopw [7] (fun s7 wr => ∃ (i d : Nat), s7 = .int .i64 i ∧ 1 ≤ i ∧ i ≤ pos.length ∧ (∀ j (h : j + 1 < pos.length), j + 1 < i → pos[j]'(Nat.lt_of_succ_lt h) < pos[j + 1]'h) ∧ wr = w2.drewN d) (fun s7 _ => pos.length - (intOf s7).toNat)
      case atStart => exact ⟨1, 0, rfl, Nat.le_refl _, hp0, fun j _ h => absurd h (by omega), rfl⟩
      case round =>
        clear i1
        obtain ⟨i, d, rfl, hi0, hi, hris, rfl⟩ := hrel
        by_cases hlt : i < pos.length
        · have hx := HC.out i hlt
          obtain ⟨k, hk⟩ : ∃ k, k + 1 = i := ⟨i - 1, by omega⟩
          have hy := HC.out k (by omega)
          obtain ⟨x, hxx⟩ : ∃ x, pos[i] = x := ⟨_, rfl⟩
          obtain ⟨y, hyy⟩ : ∃ y, pos[k]'(by omega) = y := ⟨_, rfl⟩
          rw [hxx] at hx
          rw [hyy] at hy
          have i1 : (i : Int) < (pos.length : Int) := by omega
          have i2 : (k : Int) < (pos.length : Int) := by omega
          have s1 : IntKind.i64.wrap ((i : Int) - 1) = (k : Int) := by rw [IntKind.wrap_i64]; omega
          by_cases hle : x ≤ y
          · have t5 : decide (x ≤ y) = true := decide_eq_true hle
            have hG : G = 4 := by
              rw [← HGR.out, if_neg]
              intro hr
              have h9 := (risesB_iff pos).1 hr k (by omega)
              subst hk
              omega
            subst hG
            have HK := Lib.hid hk
            clear hris hxx hyy hle hk
            go_upto_region 16 with fail
            go_quiet (fail)
            go_wp2
            go_ret
            exact ⟨rfl, by first | exact below_drewN HB.out _ | exact below_drewN (below_drewN HB.out _) _⟩
          · have t5 : decide (x ≤ y) = false := decide_eq_false hle
            have hris2 : ∀ j (h : j + 1 < pos.length), j + 1 < i + 1 → pos[j]'(Nat.lt_of_succ_lt h) < pos[j + 1]'h := fun j h hj => by
              rcases Nat.lt_or_ge (j + 1) i with h9 | h9
              · exact hris j h h9
              · obtain rfl : j = k := by omega
                subst hk
                omega
            have HR2 := Lib.hid hris2
            have HK := Lib.hid hk
            clear hris hris2 hxx hyy hle hk
            go_upto_region 16 with fail
            go_quiet (fail)
            go_wp2
            go_roundw
            case rel => exact ⟨i + 1, _, by go_num, by omega, by omega, HR2.out, by first | rfl | exact World.drewN_drewN ..⟩
            case measure => simp [intOf]; omega
        · have i1 : ¬ ((i : Int) < (pos.length : Int)) := by omega
          have hG : G = 0 := by
            rw [← HGR.out, if_pos ((risesB_iff pos).2 fun j hj => hris j hj (by omega))]
          subst hG
          clear hris hlt
          go_wp2
          go_ret
          exact ⟨rfl, below_drewN HB.out _⟩
end Go.Proofs.YthnpbfadblcicaaDoor
