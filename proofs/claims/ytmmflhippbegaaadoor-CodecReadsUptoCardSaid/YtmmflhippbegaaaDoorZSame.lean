/- concordhand.SameInts: are both lists alike? -/
import Derived.Test.YtmmflhippbegaaaDoorZWList
import Derived.BigQuiet
namespace Go.Proofs.YtmmflhippbegaaaDoor
set_option linter.unusedVariables false
open Go.ChangeShapes Go.WideShapes Go.ChangeAt Go.RowKit

theorem take_eq_snoc {l m : List Int} {i : Nat} (hl : i < l.length) (hm : i < m.length) (h : l.take i = m.take i) (e : l[i] = m[i]) : l.take (i + 1) = m.take (i + 1) := by
  rw [List.take_add_one, List.take_add_one, h, List.getElem?_eq_getElem hl, List.getElem?_eq_getElem hm, e]
set_option maxRecDepth 100000 in
theorem same_any (w : World) (a a' : Option Addr) (n n' c c' : Nat) (l m : List Int) (h : Rd w (.slice a n c) (intL l)) (h' : Rd w (.slice a' n' c') (intL m)) (hl : (l.length : Int) ≤ 9223372036854775807) (hm : (m.length : Int) ≤ 9223372036854775807) :
    Calls Tryd.prog 40 #[.slice a n c, .slice a' n' c'] w fun e w' => e = .returned (.bool (decide (l = m))) ∧ ∃ d, w' = w.drewN d := by
  obtain ⟨rfl, hg⟩ := rd_get h
  obtain ⟨rfl, hg'⟩ := rd_get h'
  have HG := Lib.hid hg
  have HG' := Lib.hid hg'
  clear h hg h' hg'
  by_cases hlen : l.length = m.length
  · have HL := Lib.hid hlen
    have q1 : ((l.length : Int) == (m.length : Int)) = true := by simp; omega
    have q2 : l.length ≤ m.length := by omega
    have q3 : m.length ≤ l.length := by omega
    clear hlen
    go_enter Tryd.func40, Tryd.ntmps40
    go_wp2
    go_loopw [13] (fun s wr => ∃ i d : Nat, s = .int .i64 i ∧ i ≤ l.length ∧ l.take i = m.take i ∧ wr = w.drewN d) (fun s _ => l.length - (intOf s).toNat)
    case atStart => exact ⟨0, 0, rfl, Nat.zero_le _, rfl, rfl⟩
    case round =>
      obtain ⟨i, d, rfl, hi, hsame, rfl⟩ := hrel
      have HS := Lib.hid hsame
      clear hsame
      by_cases hlt : i < l.length
      · have hlt' : i < m.length := by omega
        obtain ⟨b, o, rfl, hg⟩ := HG.out (by omega)
        obtain ⟨b', o', rfl, hg'⟩ := HG'.out (by omega)
        have hc := hg i hlt
        have hc' := hg' i hlt'
        obtain ⟨z, hz⟩ : ∃ z, l[i] = z := ⟨_, rfl⟩
        obtain ⟨y, hy⟩ : ∃ y, m[i] = y := ⟨_, rfl⟩
        rw [hz] at hc
        rw [hy] at hc'
        have HZ := Lib.hid hz
        have HY := Lib.hid hy
        clear hg hg' hz hy
        by_cases he : z = y
        · subst he
          have hstep := Lib.hid (take_eq_snoc hlt hlt' HS.out (HZ.out.trans HY.out.symm))
          clear HZ HY
          go_wp2
          go_quiet (fail)
          go_wp2
          go_roundw
          case rel => exact ⟨i + 1, d + nq, by go_num, by omega, hstep.out, by first | rfl | trivial⟩
          case measure => simp [intOf]; omega
        · have hb : (z == y) = false := by simpa using he
          have HE := Lib.hid he
          clear he
          go_wp2
          go_quiet (fail)
          go_wp2
          go_ret
          have hne : ¬ l = m := fun e => by subst e; exact HE.out (HZ.out.symm.trans HY.out)
          exact ⟨ret_bool (decide_eq_false hne).symm, d + nq, World.drewN_drewN ..⟩
      · obtain rfl : i = l.length := by omega
        have hlm : l = m := by
          have := HS.out
          rw [List.take_length, HL.out, List.take_length] at this; exact this
        have HLM := Lib.hid hlm
        clear hlm
        go_wp2
        go_ret
        exact ⟨ret_bool (decide_eq_true HLM.out).symm, _, rfl⟩
  · have q1 : ((l.length : Int) == (m.length : Int)) = false := by simp; omega
    have HL := Lib.hid hlen
    clear hlen
    go_enter Tryd.func40, Tryd.ntmps40
    go_wp2
    go_ret
    exact ⟨ret_bool (decide_eq_false (fun e => HL.out (by rw [e]))).symm, 0, rfl⟩
end Go.Proofs.YtmmflhippbegaaaDoor
