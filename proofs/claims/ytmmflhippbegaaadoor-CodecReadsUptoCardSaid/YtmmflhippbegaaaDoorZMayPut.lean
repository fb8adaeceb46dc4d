/- mayPut: may the list be written, by its own rule? -/
import Derived.Test.YtmmflhippbegaaaDoorZWList
namespace Go.Proofs.YtmmflhippbegaaaDoor
set_option linter.unusedVariables false
open Go.ChangeShapes Go.WideShapes Go.ChangeAt Go.RowKit

def zerosB (l : List Int) : Bool := l.all fun z => z == 0
theorem zerosB_snoc (l : List Int) (i : Nat) (h : i < l.length) : zerosB (l.take (i + 1)) = (zerosB (l.take i) && (l[i] == 0)) := by
  have h1 : l.take (i + 1) = l.take i ++ [l[i]] := by rw [List.take_add_one, List.getElem?_eq_getElem h]; rfl
  rw [h1]; unfold zerosB; rw [List.all_append]; simp only [List.all_cons, List.all_nil, Bool.and_true]
theorem anyNeg_snoc (l : List Int) (i : Nat) (h : i < l.length) : anyNeg (l.take (i + 1)) = (anyNeg (l.take i) || decide (l[i] < 0)) := by
  have h1 : l.take (i + 1) = l.take i ++ [l[i]] := by rw [List.take_add_one, List.getElem?_eq_getElem h]; rfl
  rw [h1]; unfold anyNeg; rw [List.any_append]; simp only [List.any_cons, List.any_nil, Bool.or_false]
/-- What mayPut answers. -/
def MayR (kd : Int) (l : List Int) (r : Bool) : Prop :=
  (anyNeg l = true → r = false) ∧ (anyNeg l = false → kd = 8 → ¬ rises l → r = false) ∧ (anyNeg l = false → (kd = 8 → rises l) → r = (decide (kd ≠ 9) || !zerosB l || decide (l.length ≤ 65536)))

/-- What a call of mayPut answers and leaves. -/
def MayOut (w : World) (kd : Int) (l : List Int) (e : Ending) (w' : World) : Prop := ∃ r, e = .returned (.bool r) ∧ MayR kd l r ∧ Below w.heap.size w w'
set_option maxRecDepth 100000 in
theorem mayPut_any (w : World) (kd n u ii : Int) (sec s b : Value) (la : Option Addr) (ln lc : Nat) (l : List Int) (hr : Rd w (.slice la ln lc) (intL l)) (hl : l.length ≤ 1000000000) :
    Calls Tryd.prog 84 #[.agg #[.int .i64 kd, sec, .int .i64 n, .int .u64 u, .int .i64 ii, b, s, .slice la ln lc]] w (MayOut w kd l) := by
  obtain ⟨o1, ho1⟩ : ∃ o1, o1 = Obj.cells #[.int .i64 kd, sec, .int .i64 n, .int .u64 u, .int .i64 ii, b, s, .slice la ln lc] 46 := ⟨_, rfl⟩
  have HB := Lib.hid ((Below.refl w.heap.size w).alloc (Nat.le_refl _) o1)
  have hr2 := hr.below HB.out (Nat.le_refl _)
  rw [ho1] at hr2
  have HB2 := Lib.hid (ho1 ▸ HB.out)
  clear ho1 HB
  obtain ⟨rfl, hg⟩ := rd_get hr2
  have HG := Lib.hid hg
  clear hr hr2 hg
  go_enter Tryd.func84, Tryd.ntmps84
  go_wp2
  go_loopw [3, 9] (fun s3 s9 wr => ∃ i : Nat, s9 = .int .i64 i ∧ i ≤ l.length ∧ s3 = .bool (zerosB (l.take i)) ∧ anyNeg (l.take i) = false ∧ (kd = 8 → ∀ j, (h : j + 1 < l.length) → j + 1 < i → l[j] < l[j + 1]) ∧ wr = w.alloc (.cells #[.int .i64 kd, sec, .int .i64 n, .int .u64 u, .int .i64 ii, b, s, .slice la l.length lc] 46)) (fun _ s _ => l.length - (intOf s).toNat)
  case atStart => exact ⟨0, rfl, Nat.zero_le _, rfl, rfl, fun _ j _ h => by omega, rfl⟩
  case round =>
    obtain ⟨i, rfl, hi, rfl, hno, hup, rfl⟩ := hrel
    have HNO := Lib.hid hno
    have HUP := Lib.hid hup
    clear hno hup
    by_cases hlt : i < l.length
    · obtain ⟨bb, oo, rfl, hg⟩ := HG.out (by omega)
      have hc := hg i hlt
      obtain ⟨z, hz⟩ : ∃ z, l[i] = z := ⟨_, rfl⟩
      rw [hz] at hc
      have HZ := Lib.hid hz
      have hsn := zerosB_snoc l i hlt
      have han := anyNeg_snoc l i hlt
      rw [hz, HNO.out] at han
      rw [hz] at hsn
      have HS := Lib.hid hsn
      have HA := Lib.hid han
      obtain ⟨zb, hzb⟩ : ∃ zb, zerosB (l.take i) = zb := ⟨_, rfl⟩
      have HZB := Lib.hid hzb
      rw [hzb]
      have HG2 := Lib.hid hg
      clear hz hsn han hzb hg
      by_cases hn : z < 0
      · go_wp2
        go_ret
        have hneg : anyNeg l = true := List.any_eq_true.2 ⟨z, by rw [← HZ.out]; exact List.getElem_mem hlt, by simpa using hn⟩
        exact ⟨false, rfl, ⟨fun _ => rfl, fun h => absurd (hneg.symm.trans h) (by decide), fun h => absurd (hneg.symm.trans h) (by decide)⟩, HB2.out⟩
      · have hNext : anyNeg (l.take (i + 1)) = false := by rw [HA.out]; simp; omega
        have HNX := Lib.hid hNext
        clear hNext
        by_cases hk8 : kd = 8
        · subst hk8
          by_cases h0 : 0 < i
          · obtain ⟨i', rfl⟩ : ∃ i', i = i' + 1 := ⟨i - 1, by omega⟩
            have hc0 := HG2.out i' (by omega)
            obtain ⟨y, hy⟩ : ∃ y, l[i'] = y := ⟨_, rfl⟩
            rw [hy] at hc0
            have HY := Lib.hid hy
            clear hy
            by_cases hle : z ≤ y
            · go_wp2
              go_ret
              have hnr : ¬ rises l := fun h => by have := h i' hlt; rw [HY.out, HZ.out] at this; omega
              exact ⟨false, rfl, ⟨fun _ => rfl, fun _ _ _ => rfl, fun _ h => absurd (h rfl) hnr⟩, HB2.out⟩
            · have HUN := Lib.hid (show ∀ j, (h : j + 1 < l.length) → j + 1 < i' + 1 + 1 → l[j] < l[j + 1] from fun j h h2 => by
                by_cases h3 : j + 1 < i' + 1
                · exact HUP.out rfl j h h3
                · obtain rfl : j = i' := by omega
                  rw [HY.out, HZ.out]; omega)
              cases zb
              all_goals
                go_wp2
                go_roundw
                case rel => exact ⟨i' + 1 + 1, by go_num, by omega, by rw [HS.out, HZB.out]; rfl, HNX.out, fun _ => HUN.out, by first | rfl | trivial⟩
                case measure => simp [intOf]; omega
          · obtain rfl : i = 0 := by omega
            simp only [Nat.add_zero] at hc
            cases zb
            all_goals
              go_wp2
              go_roundw
              case rel => exact ⟨1, by go_num, by omega, by rw [HS.out, HZB.out]; rfl, HNX.out, fun _ j _ h => by omega, by first | rfl | trivial⟩
              case measure => simp [intOf]; omega
        · have HK8 := Lib.hid hk8
          cases zb
          all_goals
            go_wp2
            go_roundw
            case rel => exact ⟨i + 1, by go_num, by omega, by rw [HS.out, HZB.out]; rfl, HNX.out, fun h => absurd h HK8.out, by first | rfl | trivial⟩
            case measure => simp [intOf]; omega
    · obtain rfl : i = l.length := by omega
      rw [List.take_length] at HNO
      obtain ⟨zb, hzb⟩ : ∃ zb, zerosB l = zb := ⟨_, rfl⟩
      have HZB := Lib.hid hzb
      rw [List.take_length, hzb]
      have HUPR : Hid (kd = 8 → rises l) := Lib.hid (fun h j hj => HUP.out h j hj hj)
      clear hzb HUP
      have fin : ∀ r, r = (decide (kd ≠ 9) || !zb || decide (l.length ≤ 65536)) → MayR kd l r := fun r h => ⟨fun h2 => absurd (HNO.out.symm.trans h2) (by decide), fun _ h2 h3 => absurd (HUPR.out h2) h3, fun _ _ => by rw [HZB.out]; exact h⟩
      have FIN := Lib.hid fin
      clear fin
      by_cases hk9 : kd = 9
      · subst hk9
        cases zb
        · go_wp2
          go_ret
          exact ⟨_, rfl, FIN.out _ (by simp), HB2.out⟩
        · by_cases hbig : l.length ≤ 65536
          · go_wp2
            go_ret
            exact ⟨_, rfl, FIN.out _ (by simp; omega), HB2.out⟩
          · go_wp2
            go_ret
            exact ⟨_, rfl, FIN.out _ (by simp; omega), HB2.out⟩
      · go_wp2
        go_ret
        exact ⟨_, rfl, FIN.out _ (by simp [hk9]), HB2.out⟩
end Go.Proofs.YtmmflhippbegaaaDoor
