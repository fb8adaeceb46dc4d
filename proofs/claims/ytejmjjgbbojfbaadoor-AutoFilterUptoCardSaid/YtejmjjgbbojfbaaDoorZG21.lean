/- Merged: SpanC, SpanA. -/
import Derived.Test.YtejmjjgbbojfbaaDoorZG20
import Derived.Test.YtejmjjgbbojfbaaDoorZSpanS
/- The answer of two bounds (printed by wip/gen_span.py). -/
namespace Go.Proofs.YtejmjjgbbojfbaaDoor
set_option linter.unusedVariables false
open Go.ChangeShapes Go.WideShapes Go.ChangeAt Go.RowKit

set_option maxRecDepth 100000 in
set_option maxHeartbeats 1000000 in
theorem sacc_z_z (w : World) (a b : Bool) (s : ByteArray) (c d : Bool) (t D D1 D2 : ByteArray) (LL HH : Int) (hd : D.size = 8) (e1 : D.extract 0 4 = D1) (e2 : D.extract 4 8 = D2)
    (N1 : ∀ W : World, Calls Tryd.prog 121 #[.string D1] W fun e w' => e = .returned (.int .i64 LL) ∧ ∃ k, w' = W.drewN k) (N2 : ∀ W : World, Calls Tryd.prog 121 #[.string D2] W fun e w' => e = .returned (.int .i64 HH) ∧ ∃ k, w' = W.drewN k)
    (aw : IntKind.i64.wrap (LL - 1) = -1) (bw : IntKind.i64.wrap (HH - 1) = -1) (bz : decide ((-1 : Int) < (t.size : Int)) = true) (hs : s.size ≤ 1000000000) (ht : t.size ≤ 1000000000) :
    Calls Tryd.prog 123 #[.agg #[.bool a, .bool b, .string s, .bool c, .bool d, .string t], .string D] w fun e w' => e = .returned (.bool true) ∧ Below w.heap.size w w' := by
  have HB := Lib.hid (fun o : Obj => (Below.refl w.heap.size w).alloc (Nat.le_refl _) o)
  have HN1 := Lib.hid N1
  have HN2 := Lib.hid N2
  clear N1 N2
  go_enter Tryd.func123, Tryd.ntmps123
  go_wp2
  go_quiet ((go_at_call 121; first | with_reducible exact quiet_leftK (HN1.out _) | with_reducible exact quiet_leftK (HN2.out _)))
  go_wp2
  go_ret
  exact ⟨rfl, below_drewN (HB.out _) _⟩
set_option maxRecDepth 100000 in
set_option maxHeartbeats 1000000 in
theorem sacc_z_in (w : World) (a b : Bool) (s : ByteArray) (c d : Bool) (t D D1 D2 : ByteArray) (LL HH : Int) (m : Nat) (hd : D.size = 8) (e1 : D.extract 0 4 = D1) (e2 : D.extract 4 8 = D2)
    (N1 : ∀ W : World, Calls Tryd.prog 121 #[.string D1] W fun e w' => e = .returned (.int .i64 LL) ∧ ∃ k, w' = W.drewN k) (N2 : ∀ W : World, Calls Tryd.prog 121 #[.string D2] W fun e w' => e = .returned (.int .i64 HH) ∧ ∃ k, w' = W.drewN k)
    (aw : IntKind.i64.wrap (LL - 1) = -1) (bw : IntKind.i64.wrap (HH - 1) = (m : Int)) (bl : decide ((m : Int) < (t.size : Int)) = true) (bl2 : decide (m < t.size) = true) (hs : s.size ≤ 1000000000) (ht : t.size ≤ 1000000000) :
    Calls Tryd.prog 123 #[.agg #[.bool a, .bool b, .string s, .bool c, .bool d, .string t], .string D] w fun e w' => e = .returned (.bool true) ∧ Below w.heap.size w w' := by
  have HB := Lib.hid (fun o : Obj => (Below.refl w.heap.size w).alloc (Nat.le_refl _) o)
  have HN1 := Lib.hid N1
  have HN2 := Lib.hid N2
  clear N1 N2
  go_enter Tryd.func123, Tryd.ntmps123
  go_wp2
  go_quiet ((go_at_call 121; first | with_reducible exact quiet_leftK (HN1.out _) | with_reducible exact quiet_leftK (HN2.out _)))
  go_wp2
  go_ret
  exact ⟨rfl, below_drewN (HB.out _) _⟩
set_option maxRecDepth 100000 in
set_option maxHeartbeats 1000000 in
theorem sacc_z_end (w : World) (a b : Bool) (s : ByteArray) (c d : Bool) (t D D1 D2 : ByteArray) (LL HH : Int) (m : Nat) (hd : D.size = 8) (e1 : D.extract 0 4 = D1) (e2 : D.extract 4 8 = D2)
    (N1 : ∀ W : World, Calls Tryd.prog 121 #[.string D1] W fun e w' => e = .returned (.int .i64 LL) ∧ ∃ k, w' = W.drewN k) (N2 : ∀ W : World, Calls Tryd.prog 121 #[.string D2] W fun e w' => e = .returned (.int .i64 HH) ∧ ∃ k, w' = W.drewN k)
    (aw : IntKind.i64.wrap (LL - 1) = -1) (bw : IntKind.i64.wrap (HH - 1) = (m : Int)) (bl : decide ((m : Int) < (t.size : Int)) = false) (bl2 : decide (m < t.size) = false) (hs : s.size ≤ 1000000000) (ht : t.size ≤ 1000000000) :
    Calls Tryd.prog 123 #[.agg #[.bool a, .bool b, .string s, .bool c, .bool d, .string t], .string D] w fun e w' => e = .returned (.bool d) ∧ Below w.heap.size w w' := by
  have HB := Lib.hid (fun o : Obj => (Below.refl w.heap.size w).alloc (Nat.le_refl _) o)
  have HN1 := Lib.hid N1
  have HN2 := Lib.hid N2
  clear N1 N2
  go_enter Tryd.func123, Tryd.ntmps123
  go_wp2
  go_quiet ((go_at_call 121; first | with_reducible exact quiet_leftK (HN1.out _) | with_reducible exact quiet_leftK (HN2.out _)))
  go_wp2
  go_ret
  exact ⟨rfl, below_drewN (HB.out _) _⟩
set_option maxRecDepth 100000 in
set_option maxHeartbeats 1000000 in
theorem sacc_in_any (w : World) (a b : Bool) (s : ByteArray) (c d : Bool) (t D D1 D2 : ByteArray) (LL HH : Int) (n : Nat) (hv : Int) (hd : D.size = 8) (e1 : D.extract 0 4 = D1) (e2 : D.extract 4 8 = D2)
    (N1 : ∀ W : World, Calls Tryd.prog 121 #[.string D1] W fun e w' => e = .returned (.int .i64 LL) ∧ ∃ k, w' = W.drewN k) (N2 : ∀ W : World, Calls Tryd.prog 121 #[.string D2] W fun e w' => e = .returned (.int .i64 HH) ∧ ∃ k, w' = W.drewN k)
    (aw : IntKind.i64.wrap (LL - 1) = (n : Int)) (al : decide ((n : Int) < (s.size : Int)) = true) (al2 : decide (n < s.size) = true) (bw : IntKind.i64.wrap (HH - 1) = hv) (hs : s.size ≤ 1000000000) (ht : t.size ≤ 1000000000) :
    Calls Tryd.prog 123 #[.agg #[.bool a, .bool b, .string s, .bool c, .bool d, .string t], .string D] w fun e w' => e = .returned (.bool false) ∧ Below w.heap.size w w' := by
  have HB := Lib.hid (fun o : Obj => (Below.refl w.heap.size w).alloc (Nat.le_refl _) o)
  have HN1 := Lib.hid N1
  have HN2 := Lib.hid N2
  clear N1 N2
  go_enter Tryd.func123, Tryd.ntmps123
  go_wp2
  go_quiet ((go_at_call 121; first | with_reducible exact quiet_leftK (HN1.out _) | with_reducible exact quiet_leftK (HN2.out _)))
  go_wp2
  go_ret
  exact ⟨rfl, below_drewN (HB.out _) _⟩
set_option maxRecDepth 100000 in
set_option maxHeartbeats 1000000 in
theorem sacc_end0_any (w : World) (a b : Bool) (s : ByteArray) (c d : Bool) (t D D1 D2 : ByteArray) (LL HH : Int) (n : Nat) (hv : Int) (hd : D.size = 8) (e1 : D.extract 0 4 = D1) (e2 : D.extract 4 8 = D2)
    (N1 : ∀ W : World, Calls Tryd.prog 121 #[.string D1] W fun e w' => e = .returned (.int .i64 LL) ∧ ∃ k, w' = W.drewN k) (N2 : ∀ W : World, Calls Tryd.prog 121 #[.string D2] W fun e w' => e = .returned (.int .i64 HH) ∧ ∃ k, w' = W.drewN k)
    (aw : IntKind.i64.wrap (LL - 1) = (n : Int)) (al : decide ((n : Int) < (s.size : Int)) = false) (al2 : decide (n < s.size) = false) (ab : b = false) (bw : IntKind.i64.wrap (HH - 1) = hv) (hs : s.size ≤ 1000000000) (ht : t.size ≤ 1000000000) :
    Calls Tryd.prog 123 #[.agg #[.bool a, .bool b, .string s, .bool c, .bool d, .string t], .string D] w fun e w' => e = .returned (.bool false) ∧ Below w.heap.size w w' := by
  have HB := Lib.hid (fun o : Obj => (Below.refl w.heap.size w).alloc (Nat.le_refl _) o)
  have HN1 := Lib.hid N1
  have HN2 := Lib.hid N2
  clear N1 N2
  subst ab
  go_enter Tryd.func123, Tryd.ntmps123
  go_wp2
  go_quiet ((go_at_call 121; first | with_reducible exact quiet_leftK (HN1.out _) | with_reducible exact quiet_leftK (HN2.out _)))
  go_wp2
  go_ret
  exact ⟨rfl, below_drewN (HB.out _) _⟩
set_option maxRecDepth 100000 in
set_option maxHeartbeats 1000000 in
theorem sacc_end1_z (w : World) (a b : Bool) (s : ByteArray) (c d : Bool) (t D D1 D2 : ByteArray) (LL HH : Int) (n : Nat) (hd : D.size = 8) (e1 : D.extract 0 4 = D1) (e2 : D.extract 4 8 = D2)
    (N1 : ∀ W : World, Calls Tryd.prog 121 #[.string D1] W fun e w' => e = .returned (.int .i64 LL) ∧ ∃ k, w' = W.drewN k) (N2 : ∀ W : World, Calls Tryd.prog 121 #[.string D2] W fun e w' => e = .returned (.int .i64 HH) ∧ ∃ k, w' = W.drewN k)
    (aw : IntKind.i64.wrap (LL - 1) = (n : Int)) (al : decide ((n : Int) < (s.size : Int)) = false) (al2 : decide (n < s.size) = false) (ab : b = true) (bw : IntKind.i64.wrap (HH - 1) = -1) (bz : decide ((-1 : Int) < (t.size : Int)) = true) (hs : s.size ≤ 1000000000) (ht : t.size ≤ 1000000000) :
    Calls Tryd.prog 123 #[.agg #[.bool a, .bool b, .string s, .bool c, .bool d, .string t], .string D] w fun e w' => e = .returned (.bool true) ∧ Below w.heap.size w w' := by
  have HB := Lib.hid (fun o : Obj => (Below.refl w.heap.size w).alloc (Nat.le_refl _) o)
  have HN1 := Lib.hid N1
  have HN2 := Lib.hid N2
  clear N1 N2
  subst ab
  go_enter Tryd.func123, Tryd.ntmps123
  go_wp2
  go_quiet ((go_at_call 121; first | with_reducible exact quiet_leftK (HN1.out _) | with_reducible exact quiet_leftK (HN2.out _)))
  go_wp2
  go_ret
  exact ⟨rfl, below_drewN (HB.out _) _⟩
set_option maxRecDepth 100000 in
set_option maxHeartbeats 1000000 in
theorem sacc_end1_in (w : World) (a b : Bool) (s : ByteArray) (c d : Bool) (t D D1 D2 : ByteArray) (LL HH : Int) (n : Nat) (m : Nat) (hd : D.size = 8) (e1 : D.extract 0 4 = D1) (e2 : D.extract 4 8 = D2)
    (N1 : ∀ W : World, Calls Tryd.prog 121 #[.string D1] W fun e w' => e = .returned (.int .i64 LL) ∧ ∃ k, w' = W.drewN k) (N2 : ∀ W : World, Calls Tryd.prog 121 #[.string D2] W fun e w' => e = .returned (.int .i64 HH) ∧ ∃ k, w' = W.drewN k)
    (aw : IntKind.i64.wrap (LL - 1) = (n : Int)) (al : decide ((n : Int) < (s.size : Int)) = false) (al2 : decide (n < s.size) = false) (ab : b = true) (bw : IntKind.i64.wrap (HH - 1) = (m : Int)) (bl : decide ((m : Int) < (t.size : Int)) = true) (bl2 : decide (m < t.size) = true) (hs : s.size ≤ 1000000000) (ht : t.size ≤ 1000000000) :
    Calls Tryd.prog 123 #[.agg #[.bool a, .bool b, .string s, .bool c, .bool d, .string t], .string D] w fun e w' => e = .returned (.bool true) ∧ Below w.heap.size w w' := by
  have HB := Lib.hid (fun o : Obj => (Below.refl w.heap.size w).alloc (Nat.le_refl _) o)
  have HN1 := Lib.hid N1
  have HN2 := Lib.hid N2
  clear N1 N2
  subst ab
  go_enter Tryd.func123, Tryd.ntmps123
  go_wp2
  go_quiet ((go_at_call 121; first | with_reducible exact quiet_leftK (HN1.out _) | with_reducible exact quiet_leftK (HN2.out _)))
  go_wp2
  go_ret
  exact ⟨rfl, below_drewN (HB.out _) _⟩
set_option maxRecDepth 100000 in
set_option maxHeartbeats 1000000 in
theorem sacc_end1_end (w : World) (a b : Bool) (s : ByteArray) (c d : Bool) (t D D1 D2 : ByteArray) (LL HH : Int) (n : Nat) (m : Nat) (hd : D.size = 8) (e1 : D.extract 0 4 = D1) (e2 : D.extract 4 8 = D2)
    (N1 : ∀ W : World, Calls Tryd.prog 121 #[.string D1] W fun e w' => e = .returned (.int .i64 LL) ∧ ∃ k, w' = W.drewN k) (N2 : ∀ W : World, Calls Tryd.prog 121 #[.string D2] W fun e w' => e = .returned (.int .i64 HH) ∧ ∃ k, w' = W.drewN k)
    (aw : IntKind.i64.wrap (LL - 1) = (n : Int)) (al : decide ((n : Int) < (s.size : Int)) = false) (al2 : decide (n < s.size) = false) (ab : b = true) (bw : IntKind.i64.wrap (HH - 1) = (m : Int)) (bl : decide ((m : Int) < (t.size : Int)) = false) (bl2 : decide (m < t.size) = false) (hs : s.size ≤ 1000000000) (ht : t.size ≤ 1000000000) :
    Calls Tryd.prog 123 #[.agg #[.bool a, .bool b, .string s, .bool c, .bool d, .string t], .string D] w fun e w' => e = .returned (.bool d) ∧ Below w.heap.size w w' := by
  have HB := Lib.hid (fun o : Obj => (Below.refl w.heap.size w).alloc (Nat.le_refl _) o)
  have HN1 := Lib.hid N1
  have HN2 := Lib.hid N2
  clear N1 N2
  subst ab
  go_enter Tryd.func123, Tryd.ntmps123
  go_wp2
  go_quiet ((go_at_call 121; first | with_reducible exact quiet_leftK (HN1.out _) | with_reducible exact quiet_leftK (HN2.out _)))
  go_wp2
  go_ret
  exact ⟨rfl, below_drewN (HB.out _) _⟩
end Go.Proofs.YtejmjjgbbojfbaaDoor

/- The machine of two bounds is what a span computes. -/
namespace Go.Proofs.YtejmjjgbbojfbaaDoor
set_option linter.unusedVariables false
open Go.ChangeShapes Go.WideShapes Go.ChangeAt Go.RowKit

def spLo (s : ByteArray) (b : UInt8) (L : Nat) : Option Nat :=
  if L = 0 then some 0 else if L = s.size + 1 then some 0 else if (s.data.toList.getD (L - 1) 0).toNat < b.toNat then some 0 else if b.toNat < (s.data.toList.getD (L - 1) 0).toNat then none else some (L + 1)
def spHi (t : ByteArray) (b : UInt8) (H : Nat) : Option Nat :=
  if H = 0 then some 0 else if H = t.size + 1 then none else if (t.data.toList.getD (H - 1) 0).toNat < b.toNat then none else if b.toNat < (t.data.toList.getD (H - 1) 0).toNat then some 0 else some (H + 1)
def spAcc (b d : Bool) (s t : ByteArray) (L H : Nat) : Bool :=
  if L = 0 ∨ (L = s.size + 1 ∧ b = true) then (if H = t.size + 1 then d else true) else false
def spStep (b d : Bool) (s t : ByteArray) (L H : Nat) (x : UInt8) : ByteArray :=
  match spLo s x L with
  | none => ⟨#[]⟩
  | some L' => match spHi t x H with
    | none => ⟨#[]⟩
    | some H' => spanS b d s t L' H'
def spanM (a b : Bool) (s : ByteArray) (c d : Bool) (t : ByteArray) : Mach where
  start := spanS b d s t (if a then 0 else 1) (if c then 0 else 1)
  step D x := spStep b d s t (numB (D.extract 0 4)) (numB (D.extract 4 8)) x
  acc D := spAcc b d s t (numB (D.extract 0 4)) (numB (D.extract 4 8))
theorem place2_l (L H : Nat) : (placeS L ++ placeS H).extract 0 4 = placeS L := ByteArray.extract_append_eq_left (placeS_size L).symm
theorem place2_r (L H : Nat) : (placeS L ++ placeS H).extract 4 8 = placeS H := ByteArray.extract_append_eq_right (placeS_size L).symm (by rw [placeS_size, placeS_size])
theorem place2_size (L H : Nat) : (placeS L ++ placeS H).size = 8 := by rw [ByteArray.size_append, placeS_size, placeS_size]
theorem spLo_le {s : ByteArray} {x : UInt8} {L L' : Nat} (hL : L ≤ s.size + 1) (h : spLo s x L = some L') : L' ≤ s.size + 1 := by
  unfold spLo at h
  split at h
  · cases h; omega
  · split at h
    · cases h; omega
    · split at h
      · cases h; omega
      · split at h
        · cases h
        · cases h; omega
theorem spHi_le {t : ByteArray} {x : UInt8} {H H' : Nat} (hH : H ≤ t.size + 1) (h : spHi t x H = some H') : H' ≤ t.size + 1 := by
  unfold spHi at h
  split at h
  · cases h; omega
  · split at h
    · cases h
    · split at h
      · cases h
      · split at h
        · cases h; omega
        · cases h; omega
theorem getI {s : ByteArray} {n : Nat} (h : n < s.size) : (s.data.toList.getD n 0).toNat = (s[n]'h).toNat := congrArg UInt8.toNat (getD_str h)
/-- Where the lower reading stands. -/
inductive LoAt (s : ByteArray) (x : UInt8) : Nat → Option Nat → Prop
  | z : LoAt s x 0 (some 0)
  | stop : LoAt s x (s.size + 1) (some 0)
  | gt (n : Nat) (h : n < s.size) (hx : (s[n]'h).toNat < x.toNat) : LoAt s x (n + 1) (some 0)
  | lt (n : Nat) (h : n < s.size) (hx : x.toNat < (s[n]'h).toNat) : LoAt s x (n + 1) none
  | eq (n : Nat) (h : n < s.size) (hx : (s[n]'h).toNat = x.toNat) : LoAt s x (n + 1) (some (n + 2))
inductive HiAt (t : ByteArray) (x : UInt8) : Nat → Option Nat → Prop
  | z : HiAt t x 0 (some 0)
  | stop : HiAt t x (t.size + 1) none
  | gt (n : Nat) (h : n < t.size) (hx : (t[n]'h).toNat < x.toNat) : HiAt t x (n + 1) none
  | lt (n : Nat) (h : n < t.size) (hx : x.toNat < (t[n]'h).toNat) : HiAt t x (n + 1) (some 0)
  | eq (n : Nat) (h : n < t.size) (hx : (t[n]'h).toNat = x.toNat) : HiAt t x (n + 1) (some (n + 2))
theorem loAt (s : ByteArray) (x : UInt8) (L : Nat) (hL : L ≤ s.size + 1) : LoAt s x L (spLo s x L) := by
  unfold spLo
  split
  · next h => subst h; exact .z
  · split
    · next h => subst h; exact .stop
    · obtain ⟨n, rfl⟩ : ∃ n, L = n + 1 := ⟨L - 1, by omega⟩
      have hn : n < s.size := by omega
      rw [Nat.add_sub_cancel, getI hn]
      split
      · next h => exact .gt n hn h
      · split
        · next h => exact .lt n hn h
        · exact .eq n hn (by omega)
theorem hiAt (t : ByteArray) (x : UInt8) (H : Nat) (hH : H ≤ t.size + 1) : HiAt t x H (spHi t x H) := by
  unfold spHi
  split
  · next h => subst h; exact .z
  · split
    · next h => subst h; exact .stop
    · obtain ⟨n, rfl⟩ : ∃ n, H = n + 1 := ⟨H - 1, by omega⟩
      have hn : n < t.size := by omega
      rw [Nat.add_sub_cancel, getI hn]
      split
      · next h => exact .gt n hn h
      · split
        · next h => exact .lt n hn h
        · exact .eq n hn (by omega)
theorem wr (n : Nat) (h : n ≤ 1000000001) : IntKind.i64.wrap (((n + 1 : Nat) : Int) - 1) = (n : Int) := by rw [IntKind.wrap_i64]; omega
theorem wr0 : IntKind.i64.wrap (((0 : Nat) : Int) - 1) = -1 := by rfl
theorem sstep_pl (w : World) (a b : Bool) (s : ByteArray) (c d : Bool) (t : ByteArray) (L H : Nat) (x : UInt8) (hL : L ≤ s.size + 1) (hH : H ≤ t.size + 1) (hs : s.size ≤ 1000000000) (ht : t.size ≤ 1000000000) :
    Calls Tryd.prog 125 #[.agg #[.bool a, .bool b, .string s, .bool c, .bool d, .string t], .string (placeS L ++ placeS H), .int .u8 (x.toNat : Nat)] w fun e w' => e = .returned (.string (spStep b d s t L H x)) ∧ Below w.heap.size w w' := by
  have hd := place2_size L H
  have e1 := place2_l L H
  have e2 := place2_r L H
  have N1 := fun W : World => numP_any W L (by omega)
  have N2 := fun W : World => numP_any W H (by omega)
  have h1 := loAt s x L hL
  have h2 := hiAt t x H hH
  unfold spStep
  generalize hlo : spLo s x L = oL at h1 ⊢
  generalize hhi : spHi t x H = oH at h2 ⊢
  generalize hD : placeS L ++ placeS H = D at hd e1 e2 ⊢
  generalize hD1 : placeS L = D1 at e1 N1
  generalize hD2 : placeS H = D2 at e2 N2
  clear hlo hhi hD hD1 hD2
  have C := fun (L' H' : Nat) (q1 : L' ≤ s.size + 1) (q2 : H' ≤ t.size + 1) (lo hi : Int) (r1 : lo + 1 = (L' : Int)) (r2 : hi + 1 = (H' : Int)) (W : World) => sboth_any W a b s c d t L' H' q1 q2 hs ht lo hi r1 r2
  have eF : ∀ {n m : Nat}, n < m → ((n : Int) == (m : Int)) = false := fun h => by simp; omega
  have dT : ∀ {p q : Nat}, p < q → decide ((p : Int) < (q : Int)) = true := fun h => decide_eq_true (by omega)
  have dF : ∀ {p q : Nat}, q ≤ p → decide ((p : Int) < (q : Int)) = false := fun h => decide_eq_false (by omega)
  cases h1 with
  | z =>
    cases h2 with
    | z => exact sstep_z_z w a b s c d t D D1 D2 _ _ _ hd e1 e2 N1 N2 wr0 wr0 hs ht _ (C 0 0 (by omega) (by omega) _ _ rfl rfl)
    | stop => exact sstep_z_end w a b s c d t D D1 D2 _ _ _ t.size hd e1 e2 N1 N2 wr0 (wr _ (by omega)) (by simp) hs ht
    | gt m hm hx2 => exact sstep_z_gt w a b s c d t D D1 D2 _ _ _ m hd e1 e2 N1 N2 wr0 (wr _ (by omega)) (eF hm) hm (dT hx2) hs ht
    | lt m hm hx2 => exact sstep_z_lt w a b s c d t D D1 D2 _ _ _ m hd e1 e2 N1 N2 wr0 (wr _ (by omega)) (eF hm) hm (dF (Nat.le_of_lt hx2)) (dT hx2) hs ht _ (C 0 0 (by omega) (by omega) _ _ rfl rfl)
    | eq m hm hx2 => exact sstep_z_eq w a b s c d t D D1 D2 _ _ _ m hd e1 e2 N1 N2 wr0 (wr _ (by omega)) (eF hm) hm (dF (Nat.le_of_eq hx2.symm)) (dF (Nat.le_of_eq hx2)) hs ht _ (C 0 (m + 2) (by omega) (by omega) _ _ rfl (by omega))
  | stop =>
    have q : ((s.size : Int) == (s.size : Int)) = true := by simp
    cases h2 with
    | z => exact sstep_end_z w a b s c d t D D1 D2 _ _ _ s.size hd e1 e2 N1 N2 (wr _ (by omega)) q wr0 hs ht _ (C 0 0 (by omega) (by omega) _ _ rfl rfl)
    | stop => exact sstep_end_end w a b s c d t D D1 D2 _ _ _ s.size t.size hd e1 e2 N1 N2 (wr _ (by omega)) q (wr _ (by omega)) (by simp) hs ht
    | gt m hm hx2 => exact sstep_end_gt w a b s c d t D D1 D2 _ _ _ s.size m hd e1 e2 N1 N2 (wr _ (by omega)) q (wr _ (by omega)) (eF hm) hm (dT hx2) hs ht
    | lt m hm hx2 => exact sstep_end_lt w a b s c d t D D1 D2 _ _ _ s.size m hd e1 e2 N1 N2 (wr _ (by omega)) q (wr _ (by omega)) (eF hm) hm (dF (Nat.le_of_lt hx2)) (dT hx2) hs ht _ (C 0 0 (by omega) (by omega) _ _ rfl rfl)
    | eq m hm hx2 => exact sstep_end_eq w a b s c d t D D1 D2 _ _ _ s.size m hd e1 e2 N1 N2 (wr _ (by omega)) q (wr _ (by omega)) (eF hm) hm (dF (Nat.le_of_eq hx2.symm)) (dF (Nat.le_of_eq hx2)) hs ht _ (C 0 (m + 2) (by omega) (by omega) _ _ rfl (by omega))
  | gt n hn hx =>
    cases h2 with
    | z => exact sstep_gt_z w a b s c d t D D1 D2 _ _ _ n hd e1 e2 N1 N2 (wr _ (by omega)) (eF hn) hn (dT hx) wr0 hs ht _ (C 0 0 (by omega) (by omega) _ _ rfl rfl)
    | stop => exact sstep_gt_end w a b s c d t D D1 D2 _ _ _ n t.size hd e1 e2 N1 N2 (wr _ (by omega)) (eF hn) hn (dT hx) (wr _ (by omega)) (by simp) hs ht
    | gt m hm hx2 => exact sstep_gt_gt w a b s c d t D D1 D2 _ _ _ n m hd e1 e2 N1 N2 (wr _ (by omega)) (eF hn) hn (dT hx) (wr _ (by omega)) (eF hm) hm (dT hx2) hs ht
    | lt m hm hx2 => exact sstep_gt_lt w a b s c d t D D1 D2 _ _ _ n m hd e1 e2 N1 N2 (wr _ (by omega)) (eF hn) hn (dT hx) (wr _ (by omega)) (eF hm) hm (dF (Nat.le_of_lt hx2)) (dT hx2) hs ht _ (C 0 0 (by omega) (by omega) _ _ rfl rfl)
    | eq m hm hx2 => exact sstep_gt_eq w a b s c d t D D1 D2 _ _ _ n m hd e1 e2 N1 N2 (wr _ (by omega)) (eF hn) hn (dT hx) (wr _ (by omega)) (eF hm) hm (dF (Nat.le_of_eq hx2.symm)) (dF (Nat.le_of_eq hx2)) hs ht _ (C 0 (m + 2) (by omega) (by omega) _ _ rfl (by omega))
  | lt n hn hx => exact sstep_lt_any w a b s c d t D D1 D2 _ _ _ n _ hd e1 e2 N1 N2 (wr _ (by omega)) (eF hn) hn (dF (Nat.le_of_lt hx)) (dT hx) rfl hs ht
  | eq n hn hx =>
    cases h2 with
    | z => exact sstep_eq_z w a b s c d t D D1 D2 _ _ _ n hd e1 e2 N1 N2 (wr _ (by omega)) (eF hn) hn (dF (Nat.le_of_eq hx.symm)) (dF (Nat.le_of_eq hx)) wr0 hs ht _ (C (n + 2) 0 (by omega) (by omega) _ _ (by omega) rfl)
    | stop => exact sstep_eq_end w a b s c d t D D1 D2 _ _ _ n t.size hd e1 e2 N1 N2 (wr _ (by omega)) (eF hn) hn (dF (Nat.le_of_eq hx.symm)) (dF (Nat.le_of_eq hx)) (wr _ (by omega)) (by simp) hs ht
    | gt m hm hx2 => exact sstep_eq_gt w a b s c d t D D1 D2 _ _ _ n m hd e1 e2 N1 N2 (wr _ (by omega)) (eF hn) hn (dF (Nat.le_of_eq hx.symm)) (dF (Nat.le_of_eq hx)) (wr _ (by omega)) (eF hm) hm (dT hx2) hs ht
    | lt m hm hx2 => exact sstep_eq_lt w a b s c d t D D1 D2 _ _ _ n m hd e1 e2 N1 N2 (wr _ (by omega)) (eF hn) hn (dF (Nat.le_of_eq hx.symm)) (dF (Nat.le_of_eq hx)) (wr _ (by omega)) (eF hm) hm (dF (Nat.le_of_lt hx2)) (dT hx2) hs ht _ (C (n + 2) 0 (by omega) (by omega) _ _ (by omega) rfl)
    | eq m hm hx2 => exact sstep_eq_eq w a b s c d t D D1 D2 _ _ _ n m hd e1 e2 N1 N2 (wr _ (by omega)) (eF hn) hn (dF (Nat.le_of_eq hx.symm)) (dF (Nat.le_of_eq hx)) (wr _ (by omega)) (eF hm) hm (dF (Nat.le_of_eq hx2.symm)) (dF (Nat.le_of_eq hx2)) hs ht _ (C (n + 2) (m + 2) (by omega) (by omega) _ _ (by omega) (by omega))
theorem sacc_pl (w : World) (a b : Bool) (s : ByteArray) (c d : Bool) (t : ByteArray) (L H : Nat) (hL : L ≤ s.size + 1) (hH : H ≤ t.size + 1) (hs : s.size ≤ 1000000000) (ht : t.size ≤ 1000000000) :
    Calls Tryd.prog 123 #[.agg #[.bool a, .bool b, .string s, .bool c, .bool d, .string t], .string (placeS L ++ placeS H)] w fun e w' => e = .returned (.bool (spAcc b d s t L H)) ∧ Below w.heap.size w w' := by
  have hd := place2_size L H
  have e1 := place2_l L H
  have e2 := place2_r L H
  have N1 := fun W : World => numP_any W L (by omega)
  have N2 := fun W : World => numP_any W H (by omega)
  generalize hD : placeS L ++ placeS H = D at hd e1 e2 ⊢
  generalize hD1 : placeS L = D1 at e1 N1
  generalize hD2 : placeS H = D2 at e2 N2
  clear hD hD1 hD2
  have dT : ∀ {p q : Nat}, p < q → decide ((p : Int) < (q : Int)) = true := fun h => decide_eq_true (by omega)
  have dF : ∀ {p q : Nat}, q ≤ p → decide ((p : Int) < (q : Int)) = false := fun h => decide_eq_false (by omega)
  have zz : decide ((-1 : Int) < (t.size : Int)) = true := decide_eq_true (by omega)
  by_cases h1 : L = 0 ∨ (L = s.size + 1 ∧ b = true)
  · unfold spAcc
    rw [if_pos h1]
    by_cases hz : L = 0
    · subst hz
      by_cases h2 : H = t.size + 1
      · rw [if_pos h2]; subst h2
        exact sacc_z_end w a b s c d t D D1 D2 _ _ t.size hd e1 e2 N1 N2 wr0 (wr _ (by omega)) (dF (Nat.le_refl _)) (by simp) hs ht
      · rw [if_neg h2]
        by_cases h3 : H = 0
        · subst h3
          exact sacc_z_z w a b s c d t D D1 D2 _ _ hd e1 e2 N1 N2 wr0 wr0 zz hs ht
        · obtain ⟨m, rfl⟩ : ∃ m, H = m + 1 := ⟨H - 1, by omega⟩
          exact sacc_z_in w a b s c d t D D1 D2 _ _ m hd e1 e2 N1 N2 wr0 (wr _ (by omega)) (dT (by omega)) (by simp; omega) hs ht
    · obtain ⟨h4, h5⟩ : L = s.size + 1 ∧ b = true := by rcases h1 with h | h; exact absurd h hz; exact h
      subst h4
      by_cases h2 : H = t.size + 1
      · rw [if_pos h2]; subst h2
        exact sacc_end1_end w a b s c d t D D1 D2 _ _ s.size t.size hd e1 e2 N1 N2 (wr _ (by omega)) (dF (Nat.le_refl _)) (by simp) h5 (wr _ (by omega)) (dF (Nat.le_refl _)) (by simp) hs ht
      · rw [if_neg h2]
        by_cases h3 : H = 0
        · subst h3
          exact sacc_end1_z w a b s c d t D D1 D2 _ _ s.size hd e1 e2 N1 N2 (wr _ (by omega)) (dF (Nat.le_refl _)) (by simp) h5 wr0 zz hs ht
        · obtain ⟨m, rfl⟩ : ∃ m, H = m + 1 := ⟨H - 1, by omega⟩
          exact sacc_end1_in w a b s c d t D D1 D2 _ _ s.size m hd e1 e2 N1 N2 (wr _ (by omega)) (dF (Nat.le_refl _)) (by simp) h5 (wr _ (by omega)) (dT (by omega)) (by simp; omega) hs ht
  · unfold spAcc
    rw [if_neg h1]
    obtain ⟨n, rfl⟩ : ∃ n, L = n + 1 := ⟨L - 1, by omega⟩
    by_cases h2 : n < s.size
    · exact sacc_in_any w a b s c d t D D1 D2 _ _ n _ hd e1 e2 N1 N2 (wr _ (by omega)) (dT h2) (decide_eq_true h2) rfl hs ht
    · have hn : n = s.size := by omega
      subst hn
      exact sacc_end0_any w a b s c d t D D1 D2 _ _ s.size _ hd e1 e2 N1 N2 (wr _ (by omega)) (dF (Nat.le_refl _)) (by simp) (by cases b; rfl; exact absurd (Or.inr ⟨rfl, rfl⟩) h1) rfl hs ht
theorem spanM_step (a b : Bool) (s : ByteArray) (c d : Bool) (t D : ByteArray) (x : UInt8) : (spanM a b s c d t).step D x = spStep b d s t (numB (D.extract 0 4)) (numB (D.extract 4 8)) x := rfl
theorem spanM_acc (a b : Bool) (s : ByteArray) (c d : Bool) (t D : ByteArray) : (spanM a b s c d t).acc D = spAcc b d s t (numB (D.extract 0 4)) (numB (D.extract 4 8)) := rfl
theorem spanM_start (a b : Bool) (s : ByteArray) (c d : Bool) (t : ByteArray) : (spanM a b s c d t).start = spanS b d s t (if a then 0 else 1) (if c then 0 else 1) := rfl
theorem spanM_auto {w : World} {p : Nat} {a b : Bool} {s : ByteArray} {c d : Bool} {t : ByteArray} (hs : s.size ≤ 1000000000) (ht : t.size ≤ 1000000000) (hc : w.cell? ⟨p, 0, none⟩ = some (.iface 100 (.agg #[.bool a, .bool b, .string s, .bool c, .bool d, .string t]))) : IsAuto w p (spanM a b s c d t) := by
  have inv : ∀ L H, L ≤ s.size + 1 → H ≤ t.size + 1 → spanS b d s t L H ≠ ⟨#[]⟩ → ∃ L' H', L' ≤ s.size + 1 ∧ H' ≤ t.size + 1 ∧ spanS b d s t L H = placeS L' ++ placeS H' := by
    intro L H h1 h2 hne
    unfold spanS at hne ⊢
    split
    · exact ⟨L, H, h1, h2, rfl⟩
    · next h => rw [if_neg h] at hne; exact absurd rfl hne
  have hst : ∀ L H x, L ≤ s.size + 1 → H ≤ t.size + 1 → (spanM a b s c d t).step (placeS L ++ placeS H) x = spStep b d s t L H x := by
    intro L H x h1 h2
    rw [spanM_step, place2_l, place2_r, numB_place L (by omega), numB_place H (by omega)]
  refine ⟨World.block_lt_of_cell? w _ hc, 100, .agg #[.bool a, .bool b, .string s, .bool c, .bool d, .string t], 124, 125, 123, fun D => ∃ L H, L ≤ s.size + 1 ∧ H ≤ t.size + 1 ∧ D = placeS L ++ placeS H, ⟨hc, fun d ⟨L, H, _, _, e⟩ => by rw [e, ByteArray.size_append, placeS_size, placeS_size]; decide⟩, ⟨fun w => by kernel_rfl, fun args w => by kernel_rfl⟩, ⟨fun w => by kernel_rfl, fun args w => by kernel_rfl⟩, ⟨fun w => by kernel_rfl, fun args w => by kernel_rfl⟩,
    fun hne => ?_, ?_, ?_⟩
  · rw [spanM_start] at hne ⊢
    exact inv _ _ (by split <;> omega) (by split <;> omega) hne
  · rintro D x ⟨L, H, hL, hH, rfl⟩ _ hne
    rw [hst L H x hL hH] at hne ⊢
    unfold spStep at hne ⊢
    cases h1 : spLo s x L with
    | none => rw [h1] at hne; exact absurd rfl hne
    | some L' =>
      cases h2 : spHi t x H with
      | none => rw [h1, h2] at hne; exact absurd rfl hne
      | some H' =>
        rw [h1, h2] at hne
        exact inv L' H' (spLo_le hL h1) (spHi_le hH h2) hne
  · intro w' _
    refine ⟨by rw [spanM_start]; exact sstart_any w' a b s c d t hs ht, ?_, ?_⟩
    · rintro D x ⟨L, H, hL, hH, rfl⟩ _
      rw [hst L H x hL hH]
      exact sstep_pl w' a b s c d t L H x hL hH hs ht
    · rintro D ⟨L, H, hL, hH, rfl⟩ _
      refine (sacc_pl w' a b s c d t L H hL hH hs ht).mono fun e w'' ⟨h1, h2⟩ => ⟨?_, h2⟩
      rw [h1]
      rw [spanM_acc, place2_l, place2_r, numB_place L (by omega), numB_place H (by omega)]
end Go.Proofs.YtejmjjgbbojfbaaDoor
