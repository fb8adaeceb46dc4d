/- dict: how many bytes two keys share. -/
import Derived.Test.YtfeldllcpeibcaaDoorDictP
import Derived.Test.YtfeldllcpeibcaaDoorEl
import Derived.Outline
import Derived.BigQuiet
namespace Go.Proofs.YtfeldllcpeibcaaDoor
set_option linter.unusedVariables false
open Go.ChangeShapes Go.WideShapes Go.ChangeAt Go.RowKit

set_option maxRecDepth 100000 in
set_option maxHeartbeats 1000000 in
theorem shared_any (w : World) (a b : ByteArray) (ha : a.size ≤ 1000000000000) (hb : b.size ≤ 1000000000000) :
    Calls Tryd.prog 70 #[.string a, .string b] w fun e w' => e = .returned (.int .i64 (shr a.data.toList b.data.toList : Nat)) ∧ ∃ d, w' = w.drewN d := by
  have hal : a.data.toList.length = a.size := Array.length_toList (xs := a.data)
  have hbl : b.data.toList.length = b.size := Array.length_toList (xs := b.data)
  have hle := shr_le a.data.toList b.data.toList
  have hst := shr_step a.data.toList b.data.toList
  rw [hal, hbl] at hle
  obtain ⟨n, hn⟩ : ∃ n, shr a.data.toList b.data.toList = n := ⟨_, rfl⟩
  rw [hn] at hle ⊢
  have hs2 : ∀ k, k ≤ n → (k < n ↔ ∃ (h1 : k < a.size) (h2 : k < b.size), ((a[k]'h1).toNat : Int) = ((b[k]'h2).toNat : Int)) := fun k hk => by
    rw [← hn, hst k (by omega)]
    constructor
    · rintro ⟨h1, h2, e⟩
      refine ⟨by omega, by omega, ?_⟩
      exact congrArg (fun x : UInt8 => ((x.toNat : Nat) : Int)) e
    · rintro ⟨h1, h2, e⟩
      refine ⟨by omega, by omega, ?_⟩
      exact UInt8.toNat_inj.1 (Int.ofNat_inj.1 e)
  have HS := Lib.hid hs2
  clear hal hbl hst hn hs2
  go_enter Tryd.func70, Tryd.ntmps70
  go_wp2
  go_loopw [5] (fun s5 wr => ∃ k d : Nat, s5 = .int .i64 k ∧ k ≤ n ∧ wr = w.drewN d) (fun s5 _ => n - (intOf s5).toNat)
  case atStart => exact ⟨0, 0, rfl, Nat.zero_le _, rfl⟩
  case round =>
    obtain ⟨k, d, rfl, hk, rfl⟩ := hrel
    have hst := HS.out k hk
    by_cases hlt : k < n
    · obtain ⟨h1, h2, e⟩ := hst.1 hlt
      have i1 : (k : Int) < (a.size : Int) := by omega
      have i2 : (k : Int) < (b.size : Int) := by omega
      have t3 : (((a[k]'h1).toNat : Int) == ((b[k]'h2).toNat : Int)) = true := by rw [beq_iff_eq]; exact e
      have E := Lib.hid e
      clear hst e
      go_wp2
      go_quiet (fail)
      go_wp2
      go_roundw
      case rel => exact ⟨k + 1, _, by go_num, by omega, rfl⟩
      case measure => simp [intOf]; omega
    · by_cases h1 : k < a.size
      · by_cases h2 : k < b.size
        · have i1 : (k : Int) < (a.size : Int) := by omega
          have i2 : (k : Int) < (b.size : Int) := by omega
          have t3 : (((a[k]'h1).toNat : Int) == ((b[k]'h2).toNat : Int)) = false := by
            rw [beq_eq_false_iff_ne]; exact fun e => hlt (hst.2 ⟨h1, h2, e⟩)
          clear hst
          obtain rfl : k = n := by omega
          go_wp2
          go_quiet (fail)
          go_wp2
          go_ret
          exact ⟨rfl, _, World.drewN_drewN _ _ _⟩
        · have t2 : decide (k < b.size) = false := decide_eq_false h2
          clear hst
          obtain rfl : k = n := by omega
          go_wp2
          go_quiet (fail)
          go_wp2
          go_ret
          exact ⟨rfl, _, World.drewN_drewN _ _ _⟩
      · have t1 : decide (k < a.size) = false := decide_eq_false h1
        clear hst
        obtain rfl : k = n := by omega
        go_wp2
        go_quiet (fail)
        go_wp2
        go_ret
        exact ⟨rfl, _, World.drewN_drewN _ _ _⟩
end Go.Proofs.YtfeldllcpeibcaaDoor
