/- Merged: SameI, Same8. -/
import Derived.Test.YthnpbfadblcicaaDoorZWList
import Derived.BigQuiet
import Derived.Test.YthnpbfadblcicaaDoorZG1
/- concordmem.SameInts: are both lists alike? -/
namespace Go.Proofs.YthnpbfadblcicaaDoor
set_option linter.unusedVariables false
open Go.ChangeShapes Go.WideShapes Go.ChangeAt Go.RowKit

theorem take_eq_snoc {l m : List Int} {i : Nat} (hl : i < l.length) (hm : i < m.length) (h : l.take i = m.take i) (e : l[i] = m[i]) : l.take (i + 1) = m.take (i + 1) := by
  rw [List.take_add_one, List.take_add_one, h, List.getElem?_eq_getElem hl, List.getElem?_eq_getElem hm, e]
set_option maxRecDepth 100000 in
theorem samei_any (w : World) (a a' : Option Addr) (n n' c c' : Nat) (l m : List Int) (h : Rd w (.slice a n c) (intL l)) (h' : Rd w (.slice a' n' c') (intL m)) (hl : (l.length : Int) ≤ 9223372036854775807) (hm : (m.length : Int) ≤ 9223372036854775807) :
    Calls Tryd.prog 45 #[.slice a n c, .slice a' n' c'] w fun e w' => e = .returned (.bool (decide (l = m))) ∧ ∃ d, w' = w.drewN d := by
  obtain ⟨rfl, hg⟩ := rd_get h
  obtain ⟨rfl, hg'⟩ := rd_get h'
  have HG := Lib.hid hg
  have HG' := Lib.hid hg'
  clear h hg h' hg'
  by_cases hlen : l.length = m.length
  · have HL := Lib.hid hlen
    have q1 : ((l.length : Int) == (m.length : Int)) = true := by simp; omega
    have q2 : l.length ≤ m.length := by omega
    have q3 : m.length ≤ l.length := by omega
    clear hlen
    go_enter Tryd.func45, Tryd.ntmps45
    go_wp2
    go_loopw [13] (fun s wr => ∃ i d : Nat, s = .int .i64 i ∧ i ≤ l.length ∧ l.take i = m.take i ∧ wr = w.drewN d) (fun s _ => l.length - (intOf s).toNat)
    case atStart => exact ⟨0, 0, rfl, Nat.zero_le _, rfl, rfl⟩
    case round =>
      obtain ⟨i, d, rfl, hi, hsame, rfl⟩ := hrel
      have HS := Lib.hid hsame
      clear hsame
      by_cases hlt : i < l.length
      · have hlt' : i < m.length := by omega
        obtain ⟨b, o, rfl, hg⟩ := HG.out (by omega)
        obtain ⟨b', o', rfl, hg'⟩ := HG'.out (by omega)
        have hc := hg i hlt
        have hc' := hg' i hlt'
        obtain ⟨z, hz⟩ : ∃ z, l[i] = z := ⟨_, rfl⟩
        obtain ⟨y, hy⟩ : ∃ y, m[i] = y := ⟨_, rfl⟩
        rw [hz] at hc
        rw [hy] at hc'
        have HZ := Lib.hid hz
        have HY := Lib.hid hy
        clear hg hg' hz hy
        by_cases he : z = y
        · subst he
          have hstep := Lib.hid (take_eq_snoc hlt hlt' HS.out (HZ.out.trans HY.out.symm))
          clear HZ HY
          go_wp2
          go_quiet (fail)
          go_wp2
          go_roundw
          case rel => exact ⟨i + 1, d + nq, by go_num, by omega, hstep.out, by first | rfl | trivial⟩
          case measure => simp [intOf]; omega
        · have hb : (z == y) = false := by simpa using he
          have HE := Lib.hid he
          clear he
          go_wp2
          go_quiet (fail)
          go_wp2
          go_ret
          have hne : ¬ l = m := fun e => by subst e; exact HE.out (HZ.out.symm.trans HY.out)
          exact ⟨ret_bool (decide_eq_false hne).symm, d + nq, World.drewN_drewN ..⟩
      · obtain rfl : i = l.length := by omega
        have hlm : l = m := by
          have := HS.out
          rw [List.take_length, HL.out, List.take_length] at this; exact this
        have HLM := Lib.hid hlm
        clear hlm
        go_wp2
        go_ret
        exact ⟨ret_bool (decide_eq_true HLM.out).symm, _, rfl⟩
  · have q1 : ((l.length : Int) == (m.length : Int)) = false := by simp; omega
    have HL := Lib.hid hlen
    clear hlen
    go_enter Tryd.func45, Tryd.ntmps45
    go_wp2
    go_ret
    exact ⟨ret_bool (decide_eq_false (fun e => HL.out (by rw [e]))).symm, 0, rfl⟩
end Go.Proofs.YthnpbfadblcicaaDoor

/- posts: the law's same, of lists that are alike. -/
namespace Go.Proofs.YthnpbfadblcicaaDoor
set_option linter.unusedVariables false
open Go.ChangeShapes Go.WideShapes Go.ChangeAt Go.RowKit

set_option maxRecDepth 100000 in
set_option maxHeartbeats 2000000 in
theorem same8_any (w : World) (a a2 : Option Addr) (n n2 c c2 : Nat) (ps : List PostV) (hr : RdPost w a n ps) (hr2 : RdPost w a2 n2 ps) (hl : ps.length ≤ 1000000000) (hp : ∀ p ∈ ps, p.pos.length ≤ 1000000000) :
    Calls Tryd.prog 20 #[.slice a n c, .slice a2 n2 c2] w fun e w' => e = .returned (.bool true) ∧ ∃ d, w' = w.drewN d := by
  obtain rfl := hr.1
  obtain rfl := hr2.1
  have HR := Lib.hid hr
  have HR2 := Lib.hid hr2
  have HP := Lib.hid hp
  clear hr hr2 hp
  go_enter Tryd.func20, Tryd.ntmps20
  go_wp2
  go_loopw [13] (fun s13 wr => ∃ (i d : Nat), s13 = .int .i64 (i : Nat) ∧ i ≤ ps.length ∧ wr = w.drewN d) (fun s13 _ => ps.length - (intOf s13).toNat)
  case atStart => exact ⟨0, 0, rfl, Nat.zero_le _, rfl⟩
  case round =>
    obtain ⟨i, d, rfl, hi, rfl⟩ := hrel
    by_cases hlt : i < ps.length
    · obtain ⟨b, o, rfl, hg⟩ := HR.out.2 (by omega)
      obtain ⟨b2, o2, rfl, hg2⟩ := HR2.out.2 (by omega)
      obtain ⟨g0, A, C, g1, hrd⟩ := hg i hlt
      obtain ⟨h0, A2, C2, h1, hrd2⟩ := hg2 i hlt
      have hpl := HP.out ps[i] (List.getElem_mem hlt)
      obtain ⟨x, hx⟩ : ∃ x, ps[i] = x := ⟨_, rfl⟩
      rw [hx] at g0 g1 h0 h1 hrd hrd2 hpl
      obtain ⟨doc, pos⟩ := x
      simp only at g0 g1 h0 h1 hrd hrd2 hpl
      have i1 : (i : Int) < (ps.length : Int) := by omega
      have t1 : ((doc : Int) != doc) = false := by simp
      have C1 : ∀ q : Nat, Calls Tryd.prog 45 #[.slice A pos.length C, .slice A2 pos.length C2] (w.drewN (d + q)) fun e w' => e = .returned (.bool true) ∧ ∃ m, w' = w.drewN (d + m) := fun q =>
        (samei_any (w.drewN (d + q)) A A2 pos.length pos.length C C2 pos pos hrd hrd2 (by omega) (by omega)).mono fun e w' hh => by
          obtain ⟨he, m, hm⟩ := hh
          exact ⟨by rw [he, decide_eq_true rfl], q + m, by rw [hm, World.drewN_drewN, Nat.add_assoc]⟩
      clear hg hg2 hrd hrd2 hx
      go_wp2
      go_quiet ((go_at_call 45; with_reducible exact C1 _))
      go_wp2
      go_roundw
      case rel => exact ⟨i + 1, d + nq, by go_num, by omega, by first | rfl | trivial | rw [World.drewN_drewN]⟩
      case measure => simp [intOf]; omega
    · obtain rfl : i = ps.length := by omega
      have i1 : ¬ ((ps.length : Int) < (ps.length : Int)) := by omega
      go_wp2
      go_ret
      exact ⟨rfl, d, rfl⟩
end Go.Proofs.YthnpbfadblcicaaDoor
