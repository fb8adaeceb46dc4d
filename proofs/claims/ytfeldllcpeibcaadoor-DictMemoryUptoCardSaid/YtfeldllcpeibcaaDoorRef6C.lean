/- The document's dictionary: Build. -/
import Derived.Test.YtfeldllcpeibcaaDoorRef6B
namespace Go.Proofs.YtfeldllcpeibcaaDoor
set_option linter.unusedVariables false
open Go.ChangeShapes Go.WideShapes Go.ChangeAt Go.RowKit

/-- What the document's Build answers. -/
def RbPost (w : World) (es : List EntV) (e : Ending) (w' : World) : Prop :=
  ((∀ x ∈ es, entOk x = true) → rising none es → ∃ v', e = .returned (.tuple #[v', .int .i64 0]) ∧ Own w' w.heap.size 5 v' (bytesV (imageB es)) ∧ Below w.heap.size w w') ∧
  ((∀ x ∈ es, entOk x = true) → ¬ rising none es → e = .returned (.tuple #[.slice none 0 0, .int .i64 4]) ∧ Below w.heap.size w w') ∧
  (¬ (∀ x ∈ es, entOk x = true) → e = .returned (.tuple #[.slice none 0 0, .int .i64 3]) ∧ Below w.heap.size w w')
theorem RbPost.lim {w : World} {es : List EntV} {e : Ending} {w' : World} (hn : ¬ ∀ x ∈ es, entOk x = true) (he : e = .returned (.tuple #[.slice none 0 0, .int .i64 3])) (hb : Below w.heap.size w w') : RbPost w es e w' :=
  ⟨fun h => absurd h hn, fun h => absurd h hn, fun _ => ⟨he, hb⟩⟩
theorem RbPost.ord {w : World} {es : List EntV} {e : Ending} {w' : World} (ok : ∀ x ∈ es, entOk x = true) (hn : ¬ rising none es) (he : e = .returned (.tuple #[.slice none 0 0, .int .i64 4])) (hb : Below w.heap.size w w') : RbPost w es e w' :=
  ⟨fun _ h => absurd h hn, fun _ _ => ⟨he, hb⟩, fun h => absurd ok h⟩
theorem RbPost.ok {w : World} {es : List EntV} {e : Ending} {w' : World} {v' : Value} (ok : ∀ x ∈ es, entOk x = true) (hr : rising none es) (he : e = .returned (.tuple #[v', .int .i64 0])) (ho : Own w' w.heap.size 5 v' (bytesV (imageB es))) (hb : Below w.heap.size w w') : RbPost w es e w' :=
  ⟨fun _ _ => ⟨v', he, ho, hb⟩, fun _ h => absurd hr h, fun h => absurd ok h⟩
set_option maxRecDepth 100000 in
set_option maxHeartbeats 4000000 in
theorem rbuild_any (w : World) (a : Option Addr) (n c : Nat) (es : List EntV) (hr : RdEnt w a n es) (hel : es.length ≤ 100000000) (hT : (∀ x ∈ es, entOk x = true) → (imageB es).length ≤ 1000000000) :
    Calls Tryd.prog 17 #[.slice a n c] w (RbPost w es) := by
  obtain rfl := hr.1
  have C1 := rcheck_any w a es.length c es hr (by omega)
  have HR := Lib.hid hr
  have HT := Lib.hid hT
  clear hr hT
  go_enter Tryd.func17, Tryd.ntmps17
  go_wp2_with fail
  refine C1.mono ?_
  rintro e w1 ⟨h0, h4, h3⟩
  clear C1
  by_cases hok : ∀ x ∈ es, entOk x = true
  · by_cases hris : rising none es
    · obtain ⟨rfl, hb1⟩ := h0 hok hris
      have HOK := Lib.hid hok
      have HRIS := Lib.hid hris
      have HTT := Lib.hid (HT.out hok)
      have C2 := ruv_grow w1 w.heap.size none 0 0 [] (own_nil _ _ _) hb1.size (by simp) es.length (by omega)
      have HB1 := Lib.hid hb1
      clear h0 h4 h3 hok hris hb1
      go_wp2_with fail
      refine C2.mono ?_
      rintro e w2 ⟨v2, rfl, ho2, hg2⟩
      clear C2
      rw [List.nil_append] at ho2
      have hb2 := HB1.out.trans (hg2.below (own_nil w1 w.heap.size 5) HB1.out.size)
      obtain ⟨A2, N2, C2, rfl⟩ := own_sl ho2
      have HO2 := Lib.hid ho2
      have HB2 := Lib.hid hb2
      clear ho2 hb2 hg2
      go_wp2
      go_loopw [5, 6, 7] (fun s5 s6 s7 wr => ∃ (f : Nat) (A1 A2 : Option Addr) (N1 N2 C1 C2 : Nat) (S B : List UInt8), s5 = .slice A1 N1 C1 ∧ s6 = .slice A2 N2 C2 ∧ s7 = .int .i64 f ∧ f ≤ es.length + 16 ∧ Own wr w.heap.size 5 (.slice A1 N1 C1) (bytesV (uvar es.length ++ S)) ∧ Own wr w.heap.size 5 (.slice A2 N2 C2) (bytesV B) ∧ ApartV (.slice A1 N1 C1) (.slice A2 N2 C2) ∧ Below w.heap.size w wr ∧ (uvar es.length ++ S) ++ ((chk (es.drop f)).flatMap (fun c => uvar (blkB [] c).length) ++ (B ++ (chk (es.drop f)).flatMap (blkB []))) = imageB es) (fun _ _ s7 _ => es.length - (intOf s7).toNat)
      case atStart => exact ⟨0, A2, none, N2, 0, C2, 0, [], [], rfl, rfl, rfl, by omega, by rw [List.append_nil]; exact HO2.out, own_nil _ _ _, fun k _ h => by simp [Value.ownBlock] at h, HB2.out, by rw [List.append_nil, List.nil_append]; rfl⟩
      case round =>
        clear HO2 HB2
        obtain ⟨f, A1, A2, N1, N2, C1, C2, S, B, rfl, rfl, rfl, hf, ho1, ho2, hap, hb, htot⟩ := hrel
        have hlen : (uvar es.length ++ S).length + B.length ≤ 1000000000 := by
          have := congrArg List.length htot
          have h2 := HTT.out
          simp only [List.length_append] at this ⊢; omega
        by_cases hlt3 : f < es.length
        · obtain ⟨hi3, hhi⟩ : ∃ hi3, min (f + 16) es.length = hi3 := ⟨_, rfl⟩
          have hh1 : f < hi3 ∧ hi3 ≤ es.length ∧ hi3 ≤ f + 16 := by omega
          have hpart : (es.take hi3).drop f = (es.drop f).take 16 := by
            rw [List.drop_take]
            by_cases h16 : f + 16 ≤ es.length
            · rw [show hi3 - f = 16 by omega]
            · rw [List.take_of_length_le (by rw [List.length_drop]; omega), List.take_of_length_le (by rw [List.length_drop]; omega)]
          have hne : es.drop f ≠ [] := fun e => by have := congrArg List.length e; simp at this; omega
          have hchk := chk_cons hne
          rw [List.drop_drop, ← hpart] at hchk
          rw [hchk] at htot
          simp only [List.flatMap_cons] at htot
          have hlen2 : (uvar es.length ++ S).length + (uvar (blkB [] ((es.take hi3).drop f)).length).length + B.length + (blkB [] ((es.take hi3).drop f)).length ≤ 1000000000 := by
            have := congrArg List.length htot
            have h2 := HTT.out
            simp only [List.length_append] at this ⊢; omega
          have C5 := rblock_any wr a es.length c es (HR.out.below hb (Nat.le_refl _)) (by omega) f hi3 (by omega) hh1.2.1 HOK.out (by omega)
          have htot2 : (uvar es.length ++ (S ++ uvar (blkB [] ((es.take hi3).drop f)).length)) ++ ((chk (es.drop (f + 16))).flatMap (fun c => uvar (blkB [] c).length) ++ ((B ++ blkB [] ((es.take hi3).drop f)) ++ (chk (es.drop (f + 16))).flatMap (blkB []))) = imageB es := by
            rw [← htot]; simp only [List.append_assoc]
          obtain ⟨T, hTb⟩ : ∃ T, blkB [] ((es.take hi3).drop f) = T := ⟨_, rfl⟩
          rw [hTb] at C5 htot2 hlen2
          have HTOT := Lib.hid htot2
          have HO1 := Lib.hid ho1
          have HO2 := Lib.hid ho2
          have HAP := Lib.hid hap
          have HB := Lib.hid hb
          clear hpart hne hchk htot htot2 hTb ho1 ho2 hap hb hlen
          by_cases h16 : es.length < f + 16
          · obtain rfl : hi3 = es.length := by omega
            have th : decide ((es.length : Int) < (f : Int) + 16) = true := decide_eq_true (by omega)
            clear hhi h16
            go_wp2_with fail
            refine C5.mono ?_
            rintro e w5 ⟨v5, rfl, ho5, hb5⟩
            clear C5 th
            have ho15 := HO1.out.below hb5 (Nat.le_refl _)
            have ho25 := HO2.out.below hb5 (Nat.le_refl _)
            have hb05 := HB.out.trans (hb5.mono HB.out.size)
            obtain ⟨a5, n5, c5, rfl⟩ := own_sl ho5
            have hn5 := ho5.len
            rw [bytesV_length] at hn5
            have hu := (uvar_le T.length (by omega)).2
            have C6 := ruv_grow w5 w.heap.size A1 N1 C1 _ ho15 hb05.size (by omega) T.length (by omega)
            rw [← hn5] at C6
            have HO15 := Lib.hid ho15
            have HO25 := Lib.hid ho25
            have HB5 := Lib.hid hb05
            have HO5 := Lib.hid ho5
            have HN5 := Lib.hid hn5
            have hn59 : n5 ≤ 1000000000 := by omega
            clear ho15 ho25 hb05 ho5 hb5 hn5
            go_wp2_with fail
            refine C6.mono ?_
            rintro e w6 ⟨v6, rfl, ho6, hg6⟩
            clear C6
            rw [HN5.out, List.append_assoc] at ho6
            obtain ⟨A6, N6, C6, rfl⟩ := own_sl ho6
            have hb6 := HB5.out.trans (hg6.below HO15.out HB5.out.size)
            have ho26 := HO25.out.eff hg6.eff (fun k hk hf => HAP.out k hf hk)
            have hap6 : ApartV (.slice A6 N6 C6) (.slice A2 N2 C2) := HAP.out.left hg6 HO25.out
            have ho56 : Own w6 wr.heap.size 5 (.slice a5 n5 c5) (bytesV T) := HO5.out.eff hg6.eff (fun k hk hf => by
              have h1 := (HO5.out.lt k hk).1
              have h2 := (HO1.out.lt k hf).2
              omega)
            have hll : (bytesV B).length + (bytesV T).length < 1000000000001 := by rw [bytesV_length, bytesV_length]; omega
            have HOn := Lib.hid (bytesV_one T)
            have HRT := Lib.hid ho56.rd
            have HO6 := Lib.hid ho6
            have HO26 := Lib.hid ho26
            have HAP6 := Lib.hid hap6
            have HB6 := Lib.hid hb6
            have HLL := Lib.hid hll
            have hz6 := hb6.size
            clear ho6 ho26 hap6 hb6 ho56 hg6 hll
            go_wp2_with (at_builtin; with_reducible refine apN elBytes HO26.out HRT.out HOn.out HLL.out hz6 rfl _ _ rfl rfl rfl ?_)
            intro v7 w7 ho7 _ hor7 hgr7
            rw [← bytesV_append] at ho7
            have hg7 := Grew.of hgr7 (hor7.imp id (fun h => ⟨_, h.1, Nat.le_refl _⟩))
            obtain ⟨A7, N7, C7, rfl⟩ := own_sl ho7
            have ho17 := HO6.out.eff hg7.eff (fun k hk hf => HAP6.out k hk hf)
            have hap7 : ApartV (.slice A6 N6 C6) (.slice A7 N7 C7) := (HAP6.out.symm.left hg7 HO6.out).symm
            have hb7 := HB6.out.trans (hg7.below HO26.out HB6.out.size)
            have HO17 := Lib.hid ho17
            have HO7 := Lib.hid ho7
            have HAP7 := Lib.hid hap7
            have HB7 := Lib.hid hb7
            clear ho17 ho7 hap7 hb7 hg7 hor7 hgr7
            go_wp2
            go_roundw
            case rel => exact ⟨f + 16, A6, A7, N6, N7, C6, C7, _, _, rfl, rfl, by go_num, by omega, HO17.out, HO7.out, HAP7.out, HB7.out, HTOT.out⟩
            case measure => simp [intOf]; omega
          · obtain rfl : hi3 = f + 16 := by omega
            have th : decide ((es.length : Int) < (f : Int) + 16) = false := decide_eq_false (by omega)
            have C5' := C5
            rw [show ((f + 16 : Nat) : Int) = (f : Int) + 16 by omega] at C5'
            clear hhi h16 C5
            have C5 := C5'
            clear C5'
            go_wp2_with fail
            refine C5.mono ?_
            rintro e w5 ⟨v5, rfl, ho5, hb5⟩
            clear C5 th
            have ho15 := HO1.out.below hb5 (Nat.le_refl _)
            have ho25 := HO2.out.below hb5 (Nat.le_refl _)
            have hb05 := HB.out.trans (hb5.mono HB.out.size)
            obtain ⟨a5, n5, c5, rfl⟩ := own_sl ho5
            have hn5 := ho5.len
            rw [bytesV_length] at hn5
            have hu := (uvar_le T.length (by omega)).2
            have C6 := ruv_grow w5 w.heap.size A1 N1 C1 _ ho15 hb05.size (by omega) T.length (by omega)
            rw [← hn5] at C6
            have HO15 := Lib.hid ho15
            have HO25 := Lib.hid ho25
            have HB5 := Lib.hid hb05
            have HO5 := Lib.hid ho5
            have HN5 := Lib.hid hn5
            have hn59 : n5 ≤ 1000000000 := by omega
            clear ho15 ho25 hb05 ho5 hb5 hn5
            go_wp2_with fail
            refine C6.mono ?_
            rintro e w6 ⟨v6, rfl, ho6, hg6⟩
            clear C6
            rw [HN5.out, List.append_assoc] at ho6
            obtain ⟨A6, N6, C6, rfl⟩ := own_sl ho6
            have hb6 := HB5.out.trans (hg6.below HO15.out HB5.out.size)
            have ho26 := HO25.out.eff hg6.eff (fun k hk hf => HAP.out k hf hk)
            have hap6 : ApartV (.slice A6 N6 C6) (.slice A2 N2 C2) := HAP.out.left hg6 HO25.out
            have ho56 : Own w6 wr.heap.size 5 (.slice a5 n5 c5) (bytesV T) := HO5.out.eff hg6.eff (fun k hk hf => by
              have h1 := (HO5.out.lt k hk).1
              have h2 := (HO1.out.lt k hf).2
              omega)
            have hll : (bytesV B).length + (bytesV T).length < 1000000000001 := by rw [bytesV_length, bytesV_length]; omega
            have HOn := Lib.hid (bytesV_one T)
            have HRT := Lib.hid ho56.rd
            have HO6 := Lib.hid ho6
            have HO26 := Lib.hid ho26
            have HAP6 := Lib.hid hap6
            have HB6 := Lib.hid hb6
            have HLL := Lib.hid hll
            have hz6 := hb6.size
            clear ho6 ho26 hap6 hb6 ho56 hg6 hll
            go_wp2_with (at_builtin; with_reducible refine apN elBytes HO26.out HRT.out HOn.out HLL.out hz6 rfl _ _ rfl rfl rfl ?_)
            intro v7 w7 ho7 _ hor7 hgr7
            rw [← bytesV_append] at ho7
            have hg7 := Grew.of hgr7 (hor7.imp id (fun h => ⟨_, h.1, Nat.le_refl _⟩))
            obtain ⟨A7, N7, C7, rfl⟩ := own_sl ho7
            have ho17 := HO6.out.eff hg7.eff (fun k hk hf => HAP6.out k hk hf)
            have hap7 : ApartV (.slice A6 N6 C6) (.slice A7 N7 C7) := (HAP6.out.symm.left hg7 HO6.out).symm
            have hb7 := HB6.out.trans (hg7.below HO26.out HB6.out.size)
            have HO17 := Lib.hid ho17
            have HO7 := Lib.hid ho7
            have HAP7 := Lib.hid hap7
            have HB7 := Lib.hid hb7
            clear ho17 ho7 hap7 hb7 hg7 hor7 hgr7
            go_wp2
            go_roundw
            case rel => exact ⟨f + 16, A6, A7, N6, N7, C6, C7, _, _, rfl, rfl, by go_num, by omega, HO17.out, HO7.out, HAP7.out, HB7.out, HTOT.out⟩
            case measure => simp [intOf]; omega
        · have hnil : es.drop f = [] := List.drop_eq_nil_of_le (by omega)
          rw [hnil, chk_nil] at htot
          simp only [List.flatMap_nil, List.nil_append, List.append_nil] at htot
          have hl3 : decide (f < es.length) = false := decide_eq_false hlt3
          have hll : (bytesV (uvar es.length ++ S)).length + (bytesV B).length < 1000000000001 := by rw [bytesV_length, bytesV_length]; omega
          have HOn := Lib.hid (bytesV_one B)
          have HRB := Lib.hid ho2.rd
          have HO1 := Lib.hid ho1
          have HB := Lib.hid hb
          have HLL := Lib.hid hll
          have HTOT := Lib.hid htot
          have hz := hb.size
          clear hnil htot ho1 ho2 hap hb hlen hll
          go_wp2_with (at_builtin; with_reducible refine apN elBytes HO1.out HRB.out HOn.out HLL.out hz rfl _ _ rfl rfl rfl ?_)
          intro v3 w3 ho3 _ hor3 hgr3
          rw [← bytesV_append, HTOT.out] at ho3
          have hg3 := Grew.of hgr3 (hor3.imp id (fun h => ⟨_, h.1, Nat.le_refl _⟩))
          have hb3 := HB.out.trans (hg3.below HO1.out HB.out.size)
          have HO3 := Lib.hid ho3
          have HB3 := Lib.hid hb3
          clear ho3 hb3 hg3 hor3 hgr3
          go_wp2
          go_ret2
          exact RbPost.ok HOK.out HRIS.out rfl HO3.out HB3.out
    · obtain ⟨rfl, hb1⟩ := h4 hok hris
      have HOK := Lib.hid hok
      have HRIS := Lib.hid hris
      have HB1 := Lib.hid hb1
      clear h0 h4 h3 hok hris hb1
      go_wp2
      go_ret2
      exact RbPost.ord HOK.out HRIS.out rfl HB1.out
  · obtain ⟨rfl, hb1⟩ := h3 hok
    have HOK := Lib.hid hok
    have HB1 := Lib.hid hb1
    clear h0 h4 h3 hok hb1
    go_wp2
    go_ret2
    exact RbPost.lim HOK.out rfl HB1.out
end Go.Proofs.YtfeldllcpeibcaaDoor
