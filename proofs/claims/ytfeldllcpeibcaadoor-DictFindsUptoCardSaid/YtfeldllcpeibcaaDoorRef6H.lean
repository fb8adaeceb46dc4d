/- The document's dictionary: Find, Seek, Heads. -/
import Derived.Test.YtfeldllcpeibcaaDoorHeadsP
namespace Go.Proofs.YtfeldllcpeibcaaDoor
set_option linter.unusedVariables false
open Go.ChangeShapes Go.WideShapes Go.ChangeAt Go.RowKit

set_option maxRecDepth 100000 in
set_option maxHeartbeats 1000000 in
theorem rfind_any (w : World) (a : Option Addr) (n c : Nat) (es : List EntV) (hl : RdEnt w a n es) (hr : rising none es) (hel : es.length ≤ 1000000000) (key : ByteArray) :
    Calls Tryd.prog 45 #[.slice a n c, .string key] w fun e w' => e = .returned (.tuple #[.int .i64 ((findP es key.data.toList).1 : Nat), .bool (findP es key.data.toList).2]) ∧ w = w' := by
  obtain rfl := hl.1
  have HL := Lib.hid hl
  obtain ⟨RES, hRES⟩ : ∃ RES, findP es key.data.toList = RES := ⟨_, rfl⟩
  have hat := fun i h he => hRES.symm.trans (find_at hr key.data.toList i h he)
  have hno := fun hn => hRES.symm.trans (find_not (es := es) key.data.toList hn)
  rw [hRES]
  have HAT := Lib.hid hat
  have HNO := Lib.hid hno
  clear hl hat hno hRES hr
  go_enter Tryd.func45, Tryd.ntmps45
  go_wp2
  go_loopw [6] (fun s6 wr => ∃ (i : Nat), s6 = .int .i64 i ∧ i ≤ es.length ∧ wr = w ∧ ∀ t (h : t < es.length), t < i → es[t].K ≠ key.data.toList) (fun s6 _ => es.length - (intOf s6).toNat)
  case atStart => exact ⟨0, rfl, Nat.zero_le _, rfl, fun t _ h => absurd h (Nat.not_lt_zero _)⟩
  case round =>
    obtain ⟨i, rfl, hi, rfl, hne⟩ := hrel
    by_cases hlt : i < es.length
    · obtain ⟨b, o, rfl, hg⟩ := HL.out.at_ (by omega)
      have hk := (hg i hlt).k
      obtain ⟨e, he⟩ : ∃ e, es[i] = e := ⟨_, rfl⟩
      rw [he] at hk
      obtain ⟨ek, ed, et, ea, ez⟩ := e
      simp only at hk
      have i1 : (i : Int) < (es.length : Int) := by omega
      have tk := ba_list ek
      have tk2 := ba_list key
      by_cases hkey : ek.data.toList = key.data.toList
      · have hres : RES = (i, true) := HAT.out i hlt (by rw [he]; exact hkey)
        have t1 : (ek.toList == key.toList) = true := by rw [tk, tk2, hkey, beq_self_eq_true]
        subst hres
        clear tk tk2 hkey he hne hg
        go_wp2
        go_ret2
        exact ⟨rfl, rfl⟩
      · have t1 : (ek.toList == key.toList) = false := by rw [tk, tk2, beq_eq_false_iff_ne]; exact hkey
        have hne2 : ∀ t (h : t < es.length), t < i + 1 → es[t].K ≠ key.data.toList := fun t h ht => by
          rcases Nat.lt_or_eq_of_le (Nat.lt_succ_iff.1 ht) with h1 | h1
          · exact hne t h h1
          · subst h1; rw [he]; exact hkey
        have HNE := Lib.hid hne2
        clear tk tk2 hkey he hne hg hne2
        go_wp2
        go_roundw
        case rel => exact ⟨i + 1, by go_num, by omega, by first | rfl | trivial, HNE.out⟩
        case measure => simp [intOf]; omega
    · have hres : RES = (0, false) := HNO.out (fun t h => hne t h (by omega))
      have i1 : ¬ ((i : Int) < (es.length : Int)) := by omega
      subst hres
      clear hne
      go_wp2
      go_ret2
      exact ⟨rfl, rfl⟩
set_option maxRecDepth 100000 in
set_option maxHeartbeats 1000000 in
theorem rseek_any (w : World) (a : Option Addr) (n c : Nat) (es : List EntV) (hl : RdEnt w a n es) (hr : rising none es) (hel : es.length ≤ 1000000000) (key : ByteArray) :
    Calls Tryd.prog 46 #[.slice a n c, .string key] w fun e w' => e = .returned (.int .i64 (seekP es key.data.toList : Nat)) ∧ w = w' := by
  obtain rfl := hl.1
  have HL := Lib.hid hl
  have hle := seekP_le es key.data.toList
  have hlo := fun t h ht => seekP_lt es key.data.toList t h ht
  have hhi := fun t h ht => seekP_ge hr key.data.toList t h ht
  obtain ⟨S, hS⟩ : ∃ S, seekP es key.data.toList = S := ⟨_, rfl⟩
  rw [hS] at hle hlo hhi ⊢
  have HLO := Lib.hid hlo
  have HHI := Lib.hid hhi
  clear hl hlo hhi hS hr
  go_enter Tryd.func46, Tryd.ntmps46
  go_wp2
  go_loopw [5, 6] (fun s5 s6 wr => ∃ (i m : Nat), s5 = .int .i64 m ∧ s6 = .int .i64 i ∧ i ≤ es.length ∧ m = min i S ∧ wr = w) (fun _ s6 _ => es.length - (intOf s6).toNat)
  case atStart => exact ⟨0, 0, rfl, rfl, Nat.zero_le _, (Nat.zero_min _).symm, rfl⟩
  case round =>
    obtain ⟨i, m, rfl, rfl, hi, hm, rfl⟩ := hrel
    by_cases hlt : i < es.length
    · obtain ⟨b, o, rfl, hg⟩ := HL.out.at_ (by omega)
      have hk := (hg i hlt).k
      obtain ⟨e, he⟩ : ∃ e, es[i] = e := ⟨_, rfl⟩
      rw [he] at hk
      obtain ⟨ek, ed, et, ea, ez⟩ := e
      simp only at hk
      have i1 : (i : Int) < (es.length : Int) := by omega
      have tk := ba_list ek
      have tk2 := ba_list key
      have hm9 : m ≤ 1000000000 := by omega
      have HM := Lib.hid hm
      by_cases hs : i < S
      · have h1 := HLO.out i hlt hs
        rw [he] at h1
        have t1 : Go.Op.bytesLess ek.toList key.toList = true := by rw [tk, tk2]; exact h1
        clear tk tk2 he hg h1 hm
        go_wp2
        go_roundw
        case rel => exact ⟨i + 1, m + 1, by go_num, by go_num, by omega, by have := HM.out; omega, by first | rfl | trivial⟩
        case measure => simp [intOf]; omega
      · have h1 := HHI.out i hlt (by omega)
        rw [he] at h1
        have t1 : Go.Op.bytesLess ek.toList key.toList = false := by rw [tk, tk2]; exact h1
        clear tk tk2 he hg h1 hm
        go_wp2
        go_roundw
        case rel => exact ⟨i + 1, m, rfl, by go_num, by omega, by have := HM.out; omega, by first | rfl | trivial⟩
        case measure => simp [intOf]; omega
    · have hmS : m = S := by omega
      have i1 : ¬ ((i : Int) < (es.length : Int)) := by omega
      subst hmS
      clear hm
      go_wp2
      go_ret
      exact ⟨rfl, rfl⟩
end Go.Proofs.YtfeldllcpeibcaaDoor
