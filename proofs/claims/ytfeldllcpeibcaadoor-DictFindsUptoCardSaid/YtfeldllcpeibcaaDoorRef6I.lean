/- The document's dictionary: Heads. -/
import Derived.Test.YtfeldllcpeibcaaDoorRef6H
namespace Go.Proofs.YtfeldllcpeibcaaDoor
set_option linter.unusedVariables false
open Go.ChangeShapes Go.WideShapes Go.ChangeAt Go.RowKit

theorem ext_take (s : ByteArray) (u : Nat) : (s.extract 0 u).toList = s.data.toList.take u := by
  rw [ba_list, ByteArray.data_extract]; simp
theorem pre_yes {k K : List UInt8} (h : pre k K = true) : k.length ≤ K.length ∧ (K.take k.length == k) = true := by
  unfold pre at h
  rw [Bool.and_eq_true, decide_eq_true_eq] at h; exact h
theorem pre_no {k K : List UInt8} (h : pre k K = false) (hl : k.length ≤ K.length) : (K.take k.length == k) = false := by
  unfold pre at h
  rw [decide_eq_true hl, Bool.true_and] at h; exact h
set_option maxRecDepth 100000 in
set_option maxHeartbeats 2000000 in
theorem rheads_any (w : World) (a : Option Addr) (n c : Nat) (es : List EntV) (hl : RdEnt w a n es) (hr : rising none es) (hel : es.length ≤ 1000000000) (key : ByteArray) :
    Calls Tryd.prog 47 #[.slice a n c, .string key] w fun e w' => e = .returned (.tuple #[.int .i64 (seekP es key.data.toList : Nat), .int .i64 (seekP es key.data.toList + headsN es key.data.toList : Nat)]) ∧ w = w' := by
  obtain rfl := hl.1
  have HL := Lib.hid hl
  have C1 := rseek_any w a es.length c es hl hr hel key
  have hle := headsN_le es key.data.toList
  have hlo := fun t h ht => heads_low es key.data.toList t h ht
  have hin := fun t h h1 h2 => heads_in es key.data.toList t h h1 h2
  have hhi := fun t h ht => heads_out hr key.data.toList t h ht
  obtain ⟨S, hS⟩ : ∃ S, seekP es key.data.toList = S := ⟨_, rfl⟩
  obtain ⟨B, hB⟩ : ∃ B, headsN es key.data.toList = B := ⟨_, rfl⟩
  rw [hS] at hle hlo hin hhi C1 ⊢
  rw [hB] at hle hin hhi ⊢
  have HLO := Lib.hid hlo
  have HIN := Lib.hid hin
  have HHI := Lib.hid hhi
  clear hl hlo hin hhi hS hB hr
  have hkl : key.data.toList.length = key.size := Array.length_toList (xs := key.data)
  have HKL := Lib.hid hkl
  clear hkl
  go_enter Tryd.func47, Tryd.ntmps47
  go_wp2_with fail
  refine C1.mono ?_
  rintro e w1 ⟨rfl, rfl⟩
  clear C1
  go_wp2
  go_loopw [7, 8] (fun s7 s8 wr => ∃ (i m : Nat), s7 = .int .i64 m ∧ s8 = .int .i64 i ∧ i ≤ es.length ∧ m = min i (S + B) - min i S ∧ wr = w) (fun _ s8 _ => es.length - (intOf s8).toNat)
  case atStart => exact ⟨0, 0, rfl, rfl, Nat.zero_le _, by omega, rfl⟩
  case round =>
    obtain ⟨i, m, rfl, rfl, hi, hm, rfl⟩ := hrel
    by_cases hlt : i < es.length
    · obtain ⟨b, o, rfl, hg⟩ := HL.out.at_ (by omega)
      have hk := (hg i hlt).k
      obtain ⟨e, he⟩ : ∃ e, es[i] = e := ⟨_, rfl⟩
      rw [he] at hk
      obtain ⟨ek, ed, et, ea, ez⟩ := e
      simp only at hk
      have i1 : (i : Int) < (es.length : Int) := by omega
      have tx := ext_take ek key.size
      have tk2 := ba_list key
      have hkl2 : ek.data.toList.length = ek.size := Array.length_toList (xs := ek.data)
      have hkl := HKL.out
      have hm9 : m ≤ 1000000000 := by omega
      have HM := Lib.hid hm
      by_cases hs : S ≤ i ∧ i < S + B
      · have h1 := HIN.out i hlt hs.1 hs.2
        rw [he] at h1
        obtain ⟨h2, h3⟩ := pre_yes (K := ek.data.toList) h1
        rw [hkl] at h2 h3
        rw [hkl2] at h2
        have t0 : decide (key.size ≤ ek.size) = true := decide_eq_true h2
        have t1 : ((ek.extract 0 key.size).toList == key.toList) = true := by rw [tx, tk2]; exact h3
        clear tx tk2 he hg h1 hm h3 hkl hkl2
        go_wp2
        go_roundw
        case rel => exact ⟨i + 1, m + 1, by go_num, by go_num, by omega, by have := HM.out; omega, by first | rfl | trivial⟩
        case measure => simp [intOf]; omega
      · have h1 : pre key.data.toList ek.data.toList = false := by
          have h := if h : i < S then HLO.out i hlt h else HHI.out i hlt (by omega)
          rw [he] at h; exact h
        by_cases h2 : key.size ≤ ek.size
        · have h3 := pre_no h1 (by rw [hkl, hkl2]; exact h2)
          rw [hkl] at h3
          have t0 : decide (key.size ≤ ek.size) = true := decide_eq_true h2
          have t1 : ((ek.extract 0 key.size).toList == key.toList) = false := by rw [tx, tk2]; exact h3
          clear tx tk2 he hg h1 hm h3 hkl hkl2
          go_wp2
          go_roundw
          case rel => exact ⟨i + 1, m, rfl, by go_num, by omega, by have := HM.out; omega, by first | rfl | trivial⟩
          case measure => simp [intOf]; omega
        · have t0 : decide (key.size ≤ ek.size) = false := decide_eq_false h2
          clear tx tk2 he hg h1 hm hkl hkl2
          go_wp2
          go_roundw
          case rel => exact ⟨i + 1, m, rfl, by go_num, by omega, by have := HM.out; omega, by first | rfl | trivial⟩
          case measure => simp [intOf]; omega
    · have hmB : m = B := by omega
      have i1 : ¬ ((i : Int) < (es.length : Int)) := by omega
      subst hmB
      clear hm
      go_wp2
      go_ret2
      exact ⟨rfl, rfl⟩
end Go.Proofs.YtfeldllcpeibcaaDoor
