/- The machines of a word and of a head. -/
import Derived.Test.YtejmjjgbbojfbaaDoorZPlace
import Derived.Test.YtejmjjgbbojfbaaDoorZMake
namespace Go.Proofs.YtejmjjgbbojfbaaDoor
set_option linter.unusedVariables false
open Go.ChangeShapes Go.WideShapes Go.ChangeAt Go.RowKit

def numB (d : ByteArray) : Nat := (d.data.toList.getD 0 0).toNat + 256 * (d.data.toList.getD 1 0).toNat + 65536 * (d.data.toList.getD 2 0).toNat + 16777216 * (d.data.toList.getD 3 0).toNat
theorem placeS_list (n : Nat) : (placeS n).data.toList = placeB n := by unfold placeS strOf; rw [List.toList_toArray]
theorem placeS_size (n : Nat) : (placeS n).size = 4 := by unfold placeS; rw [strOf_size]; rfl
theorem of_mod (a : Nat) : (UInt8.ofNat (a % 256)).toNat = a % 256 := by have := u8_ofNat (a % 256); omega
theorem numB_place (n : Nat) (h : n < 4294967296) : numB (placeS n) = n := by
  unfold numB; rw [placeS_list]
  unfold placeB
  simp only [List.getD_cons_zero, List.getD_cons_succ]
  rw [of_mod, of_mod, of_mod, of_mod]; omega
theorem placeS_ne (n : Nat) : placeS n ≠ ⟨#[]⟩ := fun e => by
  have := congrArg ByteArray.size e
  rw [placeS_size] at this
  have h2 : (⟨#[]⟩ : ByteArray).size = 0 := rfl
  omega
theorem numP_any (w : World) (n : Nat) (h : n < 4294967296) : Calls Tryd.prog 121 #[.string (placeS n)] w fun e w' => e = .returned (.int .i64 (n : Nat)) ∧ ∃ k, w' = w.drewN k := by
  have hs := placeS_size n
  have key : ∀ i (hi : i < (placeS n).size), (placeS n)[i]'hi = (placeB n)[i]'(by rw [placeS_size] at hi; exact hi) := fun i hi => by
    have : (placeS n)[i]'hi = (placeS n).data.toList[i]'(by rw [placeS_list]; rw [placeS_size] at hi; exact hi) := rfl
    rw [this]
    congr 1
  refine (number_any w (placeS n) (by omega) (n % 256) (n / 256 % 256) (n / 65536 % 256) (n / 16777216 % 256) ?_ ?_ ?_ ?_ (by omega) (by omega) (by omega) (by omega)).mono fun e w' ⟨h1, h2⟩ => ⟨?_, h2⟩
  · rw [key 0]; have := of_mod n; show ((UInt8.ofNat (n % 256)).toNat : Int) = _; omega
  · rw [key 1]; have := of_mod (n / 256); show ((UInt8.ofNat (n / 256 % 256)).toNat : Int) = _; omega
  · rw [key 2]; have := of_mod (n / 65536); show ((UInt8.ofNat (n / 65536 % 256)).toNat : Int) = _; omega
  · rw [key 3]; have := of_mod (n / 16777216); show ((UInt8.ofNat (n / 16777216 % 256)).toNat : Int) = _; omega
  · rw [h1, show n % 256 + 256 * (n / 256 % 256) + 65536 * (n / 65536 % 256) + 16777216 * (n / 16777216 % 256) = n by omega]
theorem quiet_leftK {P : Program} {f : FuncId} {args : Array Value} {w : World} {n : Nat} {v : Value}
    (h : Calls P f args (w.drewN n) fun e w' => e = .returned v ∧ ∃ k, w' = (w.drewN n).drewN k) : Calls P f args (w.drewN n) fun e w'' => e = .returned v ∧ ∃ m, w'' = w.drewN m :=
  h.mono fun _ _ ⟨he, k, hk⟩ => ⟨he, n + k, by rw [hk, World.drewN_drewN]⟩
def exactM (w : List UInt8) : Mach where
  start := placeS 0
  step d b := if numB d < w.length ∧ w.getD (numB d) 0 = b then placeS (numB d + 1) else ⟨#[]⟩
  acc d := decide (numB d = w.length)
def prefixM (w : List UInt8) : Mach where
  start := placeS 0
  step d b := if numB d = w.length then d else if w.getD (numB d) 0 = b then placeS (numB d + 1) else ⟨#[]⟩
  acc d := decide (numB d = w.length)
theorem getD_str {s : ByteArray} {i : Nat} (h : i < s.size) : s.data.toList.getD i 0 = s[i]'h := by
  have hl : i < s.data.toList.length := by rw [Array.length_toList]; exact h
  rw [List.getD_eq_getElem?_getD, List.getElem?_eq_getElem hl]; rfl
set_option maxRecDepth 100000 in
theorem xstart_any (w : World) (s : ByteArray) : Calls Tryd.prog 119 #[.agg #[.string s]] w fun e w' => e = .returned (.string (placeS 0)) ∧ Below w.heap.size w w' := by
  obtain ⟨ob, hob⟩ : ∃ ob, ob = Obj.cells #[.string s] 98 := ⟨_, rfl⟩
  have C1 := place_any (w.alloc ob) 0 (by omega)
  have HB := Lib.hid ((Below.refl w.heap.size w).alloc (Nat.le_refl _) ob)
  have HZ := Lib.hid (show (w.alloc ob).heap.size = w.heap.size + 1 by simp)
  have HOB := Lib.hid hob
  rw [hob] at C1
  simp only [Int.natCast_zero] at C1
  clear hob
  go_enter Tryd.func119, Tryd.ntmps119
  go_wp2_with fail
  refine C1.mono ?_
  rintro e w1 ⟨rfl, hb1⟩
  rw [← HOB.out] at hb1
  have HB1 := Lib.hid (HB.out.trans (hb1.mono (by rw [HZ.out]; omega)))
  clear C1 hb1
  go_wp2
  go_ret
  exact ⟨rfl, HB1.out⟩
set_option maxRecDepth 100000 in
theorem pstart_any (w : World) (s : ByteArray) : Calls Tryd.prog 129 #[.agg #[.string s]] w fun e w' => e = .returned (.string (placeS 0)) ∧ Below w.heap.size w w' := by
  obtain ⟨ob, hob⟩ : ∃ ob, ob = Obj.cells #[.string s] 102 := ⟨_, rfl⟩
  have C1 := place_any (w.alloc ob) 0 (by omega)
  have HB := Lib.hid ((Below.refl w.heap.size w).alloc (Nat.le_refl _) ob)
  have HZ := Lib.hid (show (w.alloc ob).heap.size = w.heap.size + 1 by simp)
  have HOB := Lib.hid hob
  rw [hob] at C1
  simp only [Int.natCast_zero] at C1
  clear hob
  go_enter Tryd.func129, Tryd.ntmps129
  go_wp2_with fail
  refine C1.mono ?_
  rintro e w1 ⟨rfl, hb1⟩
  rw [← HOB.out] at hb1
  have HB1 := Lib.hid (HB.out.trans (hb1.mono (by rw [HZ.out]; omega)))
  clear C1 hb1
  go_wp2
  go_ret
  exact ⟨rfl, HB1.out⟩
set_option maxRecDepth 100000 in
theorem xacc_any (w : World) (s : ByteArray) (n : Nat) (hs : s.size ≤ 1000000000) (hn : n ≤ s.size) : Calls Tryd.prog 118 #[.agg #[.string s], .string (placeS n)] w fun e w' => e = .returned (.bool (decide (n = s.size))) ∧ Below w.heap.size w w' := by
  have HB := Lib.hid (fun o : Obj => (Below.refl w.heap.size w).alloc (Nat.le_refl _) o)
  have hn4 : n < 4294967296 := by omega
  by_cases h : n = s.size
  · have t1 : ((n : Int) == (s.size : Int)) = true := by simp; omega
    rw [decide_eq_true h]
    clear h
    go_enter Tryd.func118, Tryd.ntmps118
    go_wp2
    go_quiet ((go_at_call 121; exact quiet_leftK (numP_any _ n hn4)))
    go_wp2
    go_ret
    exact ⟨rfl, below_drewN (HB.out _) _⟩
  · have t1 : ((n : Int) == (s.size : Int)) = false := by simp; omega
    rw [decide_eq_false h]
    clear h
    go_enter Tryd.func118, Tryd.ntmps118
    go_wp2
    go_quiet ((go_at_call 121; exact quiet_leftK (numP_any _ n hn4)))
    go_wp2
    go_ret
    exact ⟨rfl, below_drewN (HB.out _) _⟩
set_option maxRecDepth 100000 in
theorem pacc_any (w : World) (s : ByteArray) (n : Nat) (hs : s.size ≤ 1000000000) (hn : n ≤ s.size) : Calls Tryd.prog 128 #[.agg #[.string s], .string (placeS n)] w fun e w' => e = .returned (.bool (decide (n = s.size))) ∧ Below w.heap.size w w' := by
  have HB := Lib.hid (fun o : Obj => (Below.refl w.heap.size w).alloc (Nat.le_refl _) o)
  have hn4 : n < 4294967296 := by omega
  by_cases h : n = s.size
  · have t1 : ((n : Int) == (s.size : Int)) = true := by simp; omega
    rw [decide_eq_true h]
    clear h
    go_enter Tryd.func128, Tryd.ntmps128
    go_wp2
    go_quiet ((go_at_call 121; exact quiet_leftK (numP_any _ n hn4)))
    go_wp2
    go_ret
    exact ⟨rfl, below_drewN (HB.out _) _⟩
  · have t1 : ((n : Int) == (s.size : Int)) = false := by simp; omega
    rw [decide_eq_false h]
    clear h
    go_enter Tryd.func128, Tryd.ntmps128
    go_wp2
    go_quiet ((go_at_call 121; exact quiet_leftK (numP_any _ n hn4)))
    go_wp2
    go_ret
    exact ⟨rfl, below_drewN (HB.out _) _⟩
set_option maxRecDepth 100000 in
set_option maxHeartbeats 1000000 in
theorem xstep_any (w : World) (s : ByteArray) (n : Nat) (hs : s.size ≤ 1000000000) (hn : n ≤ s.size) (b : UInt8) : Calls Tryd.prog 120 #[.agg #[.string s], .string (placeS n), .int .u8 (b.toNat : Nat)] w fun e w' => e = .returned (.string ((exactM s.data.toList).step (placeS n) b)) ∧ Below w.heap.size w w' := by
  obtain ⟨ob, hob⟩ : ∃ ob, ob = Obj.cells #[.string s] 98 := ⟨_, rfl⟩
  have hb0 : Below w.heap.size w (w.alloc ob) := (Below.refl _ _).alloc (Nat.le_refl _) _
  have hz0 : (w.alloc ob).heap.size = w.heap.size + 1 := by simp
  have C1 := numP_any (w.alloc ob) n (by omega)
  have hsl : s.data.toList.length = s.size := Array.length_toList (xs := s.data)
  have hst : (exactM s.data.toList).step (placeS n) b = if n < s.size ∧ s.data.toList.getD n 0 = b then placeS (n + 1) else ⟨#[]⟩ := by
    show (if numB (placeS n) < s.data.toList.length ∧ s.data.toList.getD (numB (placeS n)) 0 = b then placeS (numB (placeS n) + 1) else ⟨#[]⟩) = _
    rw [numB_place n (by omega), hsl]
  obtain ⟨bb, hbb⟩ : ∃ bb : Int, (b.toNat : Int) = bb := ⟨_, rfl⟩
  have C2 := fun d => place_any ((w.alloc ob).drewN d) (n + 1) (by omega)
  have HB0 := Lib.hid hb0
  have HZ0 := Lib.hid hz0
  have HOB := Lib.hid hob
  have HBB := Lib.hid hbb
  have HST := Lib.hid hst
  rw [hob] at C1 C2
  rw [hbb]
  clear hob hb0 hz0 hsl hst hbb
  by_cases hlt : n < s.size
  · have hg := getD_str hlt
    by_cases hc : ((s[n]'hlt).toNat : Int) = bb
    · have hres : (exactM s.data.toList).step (placeS n) b = placeS (n + 1) := by rw [HST.out, if_pos ⟨hlt, by rw [hg]; exact UInt8.toNat_inj.1 (by have := HBB.out; omega)⟩]
      have HRES := Lib.hid hres
      have HC2 := Lib.hid C2
      clear hg hres C2
      go_enter Tryd.func120, Tryd.ntmps120
      go_wp2_with fail
      refine C1.mono ?_
      rintro e w1 ⟨rfl, d, rfl⟩
      have C3 := HC2.out d
      rw [Int.natCast_add, Int.natCast_one] at C3
      clear C1
      go_wp2_with fail
      refine C3.mono ?_
      rintro e w2 ⟨rfl, hb2⟩
      rw [← HOB.out] at hb2
      have HB2 := Lib.hid ((below_drewN HB0.out d).trans (hb2.mono (by show w.heap.size ≤ (w.alloc ob).heap.size; rw [HZ0.out]; omega)))
      clear C3 hb2
      go_wp2
      go_ret
      exact ⟨by rw [HRES.out]; rfl, HB2.out⟩
    · have hres : (exactM s.data.toList).step (placeS n) b = ⟨#[]⟩ := by rw [HST.out, if_neg (fun h => hc (by rw [← hg, h.2]; exact HBB.out))]
      have HRES := Lib.hid hres
      have t1 : (((s[n]'hlt).toNat : Int) == bb) = false := by simpa using hc
      clear hg hres C2 hc
      go_enter Tryd.func120, Tryd.ntmps120
      go_wp2_with fail
      refine C1.mono ?_
      rintro e w1 ⟨rfl, d, rfl⟩
      clear C1
      go_wp2
      go_ret
      exact ⟨by rw [HRES.out]; rfl, by rw [← HOB.out]; exact below_drewN HB0.out d⟩
  · have hres : (exactM s.data.toList).step (placeS n) b = ⟨#[]⟩ := by rw [HST.out, if_neg (fun h => hlt h.1)]
    have HRES := Lib.hid hres
    have t1 : decide ((n : Int) < (s.size : Int)) = false := decide_eq_false (by omega)
    have t1b : decide (n < s.size) = false := decide_eq_false hlt
    clear hres C2 hlt
    go_enter Tryd.func120, Tryd.ntmps120
    go_wp2_with fail
    refine C1.mono ?_
    rintro e w1 ⟨rfl, d, rfl⟩
    clear C1
    go_wp2
    go_ret
    exact ⟨by rw [HRES.out]; rfl, by rw [← HOB.out]; exact below_drewN HB0.out d⟩
set_option maxRecDepth 100000 in
set_option maxHeartbeats 1000000 in
theorem pstep_any (w : World) (s : ByteArray) (n : Nat) (hs : s.size ≤ 1000000000) (hn : n ≤ s.size) (b : UInt8) : Calls Tryd.prog 130 #[.agg #[.string s], .string (placeS n), .int .u8 (b.toNat : Nat)] w fun e w' => e = .returned (.string ((prefixM s.data.toList).step (placeS n) b)) ∧ Below w.heap.size w w' := by
  obtain ⟨ob, hob⟩ : ∃ ob, ob = Obj.cells #[.string s] 102 := ⟨_, rfl⟩
  have hb0 : Below w.heap.size w (w.alloc ob) := (Below.refl _ _).alloc (Nat.le_refl _) _
  have hz0 : (w.alloc ob).heap.size = w.heap.size + 1 := by simp
  have C1 := numP_any (w.alloc ob) n (by omega)
  have hsl : s.data.toList.length = s.size := Array.length_toList (xs := s.data)
  have hst : (prefixM s.data.toList).step (placeS n) b = if n = s.size then placeS n else if s.data.toList.getD n 0 = b then placeS (n + 1) else ⟨#[]⟩ := by
    show (if numB (placeS n) = s.data.toList.length then placeS n else if s.data.toList.getD (numB (placeS n)) 0 = b then placeS (numB (placeS n) + 1) else ⟨#[]⟩) = _
    rw [numB_place n (by omega), hsl]
  obtain ⟨bb, hbb⟩ : ∃ bb : Int, (b.toNat : Int) = bb := ⟨_, rfl⟩
  have C2 := fun d => place_any ((w.alloc ob).drewN d) (n + 1) (by omega)
  have HB0 := Lib.hid hb0
  have HZ0 := Lib.hid hz0
  have HOB := Lib.hid hob
  have HBB := Lib.hid hbb
  have HST := Lib.hid hst
  rw [hob] at C1 C2
  rw [hbb]
  clear hob hb0 hz0 hsl hst hbb
  by_cases heq : n = s.size
  · have hres : (prefixM s.data.toList).step (placeS n) b = placeS n := by rw [HST.out, if_pos heq]
    have HRES := Lib.hid hres
    have t1 : ((n : Int) == (s.size : Int)) = true := by simp; omega
    clear hres C2 heq
    go_enter Tryd.func130, Tryd.ntmps130
    go_wp2_with fail
    refine C1.mono ?_
    rintro e w1 ⟨rfl, d, rfl⟩
    clear C1
    go_wp2
    go_ret
    exact ⟨by rw [HRES.out]; rfl, by rw [← HOB.out]; exact below_drewN HB0.out d⟩
  · have hlt : n < s.size := by omega
    have hg := getD_str hlt
    have t1 : ((n : Int) == (s.size : Int)) = false := by simp; omega
    by_cases hc : ((s[n]'hlt).toNat : Int) = bb
    · have hres : (prefixM s.data.toList).step (placeS n) b = placeS (n + 1) := by rw [HST.out, if_neg heq, if_pos (by rw [hg]; exact UInt8.toNat_inj.1 (by have := HBB.out; omega))]
      have HRES := Lib.hid hres
      have HC2 := Lib.hid C2
      clear hg hres C2 heq
      go_enter Tryd.func130, Tryd.ntmps130
      go_wp2_with fail
      refine C1.mono ?_
      rintro e w1 ⟨rfl, d, rfl⟩
      have C3 := HC2.out d
      rw [Int.natCast_add, Int.natCast_one] at C3
      clear C1
      go_wp2_with fail
      refine C3.mono ?_
      rintro e w2 ⟨rfl, hb2⟩
      rw [← HOB.out] at hb2
      have HB2 := Lib.hid ((below_drewN HB0.out d).trans (hb2.mono (by show w.heap.size ≤ (w.alloc ob).heap.size; rw [HZ0.out]; omega)))
      clear C3 hb2
      go_wp2
      go_ret
      exact ⟨by rw [HRES.out]; rfl, HB2.out⟩
    · have hres : (prefixM s.data.toList).step (placeS n) b = ⟨#[]⟩ := by rw [HST.out, if_neg heq, if_neg (fun h => hc (by rw [← hg, h]; exact HBB.out))]
      have HRES := Lib.hid hres
      have t2 : (((s[n]'hlt).toNat : Int) == bb) = false := by simpa using hc
      clear hg hres C2 hc heq
      go_enter Tryd.func130, Tryd.ntmps130
      go_wp2_with fail
      refine C1.mono ?_
      rintro e w1 ⟨rfl, d, rfl⟩
      clear C1
      go_wp2
      go_ret
      exact ⟨by rw [HRES.out]; rfl, by rw [← HOB.out]; exact below_drewN HB0.out d⟩
theorem exactM_auto {w : World} {p : Nat} {s : ByteArray} (hs : s.size ≤ 1000000000) (hc : w.cell? ⟨p, 0, none⟩ = some (.iface 98 (.agg #[.string s]))) : IsAuto w p (exactM s.data.toList) := by
  have hsl : s.data.toList.length = s.size := Array.length_toList (xs := s.data)
  refine ⟨World.block_lt_of_cell? w _ hc, 98, .agg #[.string s], 119, 120, 118, fun d => ∃ n, n ≤ s.size ∧ d = placeS n, ⟨hc, fun d ⟨n, _, e⟩ => by rw [e, placeS_size]; decide⟩, ⟨fun w => by kernel_rfl, fun args w => by kernel_rfl⟩, ⟨fun w => by kernel_rfl, fun args w => by kernel_rfl⟩, ⟨fun w => by kernel_rfl, fun args w => by kernel_rfl⟩,
    fun _ => ⟨0, Nat.zero_le _, rfl⟩, ?_, ?_⟩
  · rintro d b ⟨n, hn, rfl⟩ _ hne
    have hst : (exactM s.data.toList).step (placeS n) b = if n < s.size ∧ s.data.toList.getD n 0 = b then placeS (n + 1) else ⟨#[]⟩ := by
      show (if numB (placeS n) < s.data.toList.length ∧ s.data.toList.getD (numB (placeS n)) 0 = b then placeS (numB (placeS n) + 1) else ⟨#[]⟩) = _
      rw [numB_place n (by omega), hsl]
    rw [hst] at hne ⊢
    split
    · next h => exact ⟨n + 1, by omega, rfl⟩
    · next h => rw [if_neg h] at hne; exact absurd rfl hne
  · intro w' _
    refine ⟨xstart_any w' s, ?_, ?_⟩
    · rintro d b ⟨n, hn, rfl⟩ _
      exact xstep_any w' s n hs hn b
    · rintro d ⟨n, hn, rfl⟩ _
      refine (xacc_any w' s n hs hn).mono fun e w'' ⟨h1, h2⟩ => ⟨?_, h2⟩
      rw [h1]
      show _ = Ending.returned (.bool (decide (numB (placeS n) = s.data.toList.length)))
      rw [numB_place n (by omega), hsl]
theorem prefixM_auto {w : World} {p : Nat} {s : ByteArray} (hs : s.size ≤ 1000000000) (hc : w.cell? ⟨p, 0, none⟩ = some (.iface 102 (.agg #[.string s]))) : IsAuto w p (prefixM s.data.toList) := by
  have hsl : s.data.toList.length = s.size := Array.length_toList (xs := s.data)
  refine ⟨World.block_lt_of_cell? w _ hc, 102, .agg #[.string s], 129, 130, 128, fun d => ∃ n, n ≤ s.size ∧ d = placeS n, ⟨hc, fun d ⟨n, _, e⟩ => by rw [e, placeS_size]; decide⟩, ⟨fun w => by kernel_rfl, fun args w => by kernel_rfl⟩, ⟨fun w => by kernel_rfl, fun args w => by kernel_rfl⟩, ⟨fun w => by kernel_rfl, fun args w => by kernel_rfl⟩,
    fun _ => ⟨0, Nat.zero_le _, rfl⟩, ?_, ?_⟩
  · rintro d b ⟨n, hn, rfl⟩ _ hne
    have hst : (prefixM s.data.toList).step (placeS n) b = if n = s.size then placeS n else if s.data.toList.getD n 0 = b then placeS (n + 1) else ⟨#[]⟩ := by
      show (if numB (placeS n) = s.data.toList.length then placeS n else if s.data.toList.getD (numB (placeS n)) 0 = b then placeS (numB (placeS n) + 1) else ⟨#[]⟩) = _
      rw [numB_place n (by omega), hsl]
    rw [hst] at hne ⊢
    split
    · exact ⟨n, hn, rfl⟩
    · next h1 =>
      split
      · exact ⟨n + 1, by omega, rfl⟩
      · next h => rw [if_neg h1, if_neg h] at hne; exact absurd rfl hne
  · intro w' _
    refine ⟨pstart_any w' s, ?_, ?_⟩
    · rintro d b ⟨n, hn, rfl⟩ _
      exact pstep_any w' s n hs hn b
    · rintro d ⟨n, hn, rfl⟩ _
      refine (pacc_any w' s n hs hn).mono fun e w'' ⟨h1, h2⟩ => ⟨?_, h2⟩
      rw [h1]
      show _ = Ending.returned (.bool (decide (numB (placeS n) = s.data.toList.length)))
      rw [numB_place n (by omega), hsl]
end Go.Proofs.YtejmjjgbbojfbaaDoor
