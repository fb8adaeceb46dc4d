/- Merged: Alive, Place. -/
import Derived.Test.YtejmjjgbbojfbaaDoorZRow
import Derived.Test.YtejmjjgbbojfbaaDoorZG18
import Derived.Test.YtejmjjgbbojfbaaDoorZG18
import Derived.Test.YtejmjjgbbojfbaaDoorZG9
/- The document's Accepts of a pattern; its Alive, kind by kind. -/
namespace Go.Proofs.YtejmjjgbbojfbaaDoor
set_option linter.unusedVariables false
open Go.ChangeShapes Go.WideShapes Go.ChangeAt Go.RowKit

set_option maxRecDepth 100000 in
set_option maxHeartbeats 1000000 in
theorem ral_exact (w : World) (s x : ByteArray) (n : Int) (lop lin : Bool) (ls : ByteArray) (hop hin : Bool) (hs : ByteArray) (h1 : s.size ≤ 1000000000) (h2 : x.size ≤ 1000000000) :
    Calls Tryd.prog 21 #[.agg #[.int .i64 1, .string s, .int .i64 n, .bool lop, .bool lin, .string ls, .bool hop, .bool hin, .string hs], .string x] w fun e w' => e = .returned (.bool (begB s x)) ∧ Below w.heap.size w w' := by
  have HB := Lib.hid (fun o : Obj => (Below.refl w.heap.size w).alloc (Nat.le_refl _) o)
  have HC := Lib.hid (fun W : World => begins_any W s x (by omega) (by omega))
  go_enter Tryd.func21, Tryd.ntmps21
  go_wp2_with fail
  refine (HC.out _).mono ?_
  rintro e w1 ⟨rfl, rfl⟩
  go_wp2
  go_ret
  exact ⟨rfl, HB.out _⟩
set_option maxRecDepth 100000 in
set_option maxHeartbeats 1000000 in
theorem ral_prefix (w : World) (s x : ByteArray) (n : Int) (lop lin : Bool) (ls : ByteArray) (hop hin : Bool) (hs : ByteArray) (h1 : s.size ≤ 1000000000) (h2 : x.size ≤ 1000000000) :
    Calls Tryd.prog 21 #[.agg #[.int .i64 2, .string s, .int .i64 n, .bool lop, .bool lin, .string ls, .bool hop, .bool hin, .string hs], .string x] w fun e w' => e = .returned (.bool (begB s x || begB x s)) ∧ Below w.heap.size w w' := by
  have HB := Lib.hid (fun o : Obj => (Below.refl w.heap.size w).alloc (Nat.le_refl _) o)
  have HC := Lib.hid (fun W : World => begins_any W s x (by omega) (by omega))
  have HD := Lib.hid (fun W : World => begins_any W x s (by omega) (by omega))
  obtain ⟨r, hr⟩ : ∃ r, begB s x = r := ⟨_, rfl⟩
  rw [hr] at HC ⊢
  clear hr
  cases r with
  | true =>
    go_enter Tryd.func21, Tryd.ntmps21
    go_wp2_with fail
    refine (HC.out _).mono ?_
    rintro e w1 ⟨rfl, rfl⟩
    go_wp2
    go_ret
    exact ⟨rfl, HB.out _⟩
  | false =>
    go_enter Tryd.func21, Tryd.ntmps21
    go_wp2_with fail
    refine (HC.out _).mono ?_
    rintro e w1 ⟨rfl, rfl⟩
    go_wp2_with fail
    refine (HD.out _).mono ?_
    rintro e w1 ⟨rfl, rfl⟩
    go_wp2
    go_ret
    exact ⟨rfl, HB.out _⟩
/-- What a row answers. -/
def RetB (w : World) (b : Bool) (e : Ending) (w' : World) : Prop := e = .returned (.bool b) ∧ Below w.heap.size w w'
set_option maxRecDepth 100000 in
set_option maxHeartbeats 2000000 in
theorem ral_wild (w : World) (s x : ByteArray) (es : List PEl) (hes : elems s.data.toList = some es) (hel : es.length ≤ 1000000000) (n : Int) (lop lin : Bool) (ls : ByteArray) (hop hin : Bool) (hs : ByteArray) (h1 : s.size ≤ 1000000000) (h2 : x.size ≤ 1000000000) :
    Calls Tryd.prog 21 #[.agg #[.int .i64 3, .string s, .int .i64 n, .bool lop, .bool lin, .string ls, .bool hop, .bool hin, .string hs], .string x] w (RetB w ((outR es x.data.toList).any id)) := by
  have hb0 : ∀ o : Obj, Below w.heap.size w (w.alloc o) := fun o => (Below.refl w.heap.size w).alloc (Nat.le_refl _) o
  have C0 := row_any (w.alloc (.cells #[.int .i64 3, .string s, .int .i64 n, .bool lop, .bool lin, .string ls, .bool hop, .bool hin, .string hs] 41)) s x es hes h1 h2 hel
  obtain ⟨R, hR⟩ : ∃ R, outR es x.data.toList = R := ⟨_, rfl⟩
  rw [hR] at C0 ⊢
  have hRl : R.length ≤ 1000000001 := by rw [← hR]; simp [outR]; omega
  have HB := Lib.hid hb0
  clear hes hb0 hR
  go_enter Tryd.func21, Tryd.ntmps21
  go_wp2_with fail
  refine C0.mono ?_
  rintro e w1 ⟨v, rfl, ho, hb1⟩
  have hB1 := (HB.out (.cells #[.int .i64 3, .string s, .int .i64 n, .bool lop, .bool lin, .string ls, .bool hop, .bool hin, .string hs] 41)).trans (hb1.mono (by simp))
  obtain ⟨av, cv, rfl⟩ := own_slice ho
  rw [bv_len] at ho ⊢
  have HO := Lib.hid ho
  have HB1 := Lib.hid hB1
  clear C0 ho hb1 hB1 HB
  go_wp2
  go_loop [36] (fun s36 => ∃ i : Nat, s36 = .int .i64 i ∧ i ≤ R.length ∧ (R.take i).any id = false) (fun s36 => R.length - (intOf s36).toNat)
  case atStart => exact ⟨0, rfl, Nat.zero_le _, rfl⟩
  case round =>
    obtain ⟨i, rfl, hi, ha⟩ := hrel
    by_cases hlt : i < R.length
    · obtain ⟨g, rfl⟩ := HO.out.someAt (by omega)
      have hc := HO.out.get (bv_get hlt)
      obtain ⟨y, hy⟩ : ∃ y, R.getD i false = y := ⟨_, rfl⟩
      rw [hy] at hc
      have hnx : (R.take (i + 1)).any id = ((R.take i).any id || y) := by rw [any_takeR, hy]
      rw [ha, Bool.false_or] at hnx
      have HNX := Lib.hid hnx
      clear ha hnx hy
      cases y with
      | true =>
        go_wp2
        go_ret
        refine ⟨ret_bool ?_, HB1.out⟩
        have h := HNX.out
        obtain ⟨z, hz, hz2⟩ := List.any_eq_true.1 h
        exact (List.any_eq_true.2 ⟨z, List.mem_of_mem_take hz, hz2⟩).symm
      | false =>
        go_wp2
        go_round
        case rel => exact ⟨i + 1, by go_num, by omega, HNX.out⟩
        case measure => simp [intOf]; omega
    · obtain rfl : i = R.length := by omega
      have HA := Lib.hid ha
      clear ha
      go_wp2
      go_ret
      refine ⟨ret_bool ?_, HB1.out⟩
      have h := HA.out
      rw [List.take_length] at h
      exact h.symm
set_option maxRecDepth 100000 in
set_option maxHeartbeats 2000000 in
theorem ral_fuzzy (w : World) (s x : ByteArray) (m : Nat) (hm : m ≤ 2) (lop lin : Bool) (ls : ByteArray) (hop hin : Bool) (hs : ByteArray) (h1 : s.size ≤ 1048576) (h2 : x.size ≤ 1048576) :
    Calls Tryd.prog 21 #[.agg #[.int .i64 4, .string s, .int .i64 m, .bool lop, .bool lin, .string ls, .bool hop, .bool hin, .string hs], .string x] w (RetB w ((List.range (s.size + 1)).any fun k => decide (lt s.data.toList x.data.toList k x.size ≤ m))) := by
  have hb0 : ∀ o : Obj, Below w.heap.size w (w.alloc o) := fun o => (Below.refl w.heap.size w).alloc (Nat.le_refl _) o
  have C0 := redits_any s x (w.alloc (.cells #[.int .i64 4, .string s, .int .i64 m, .bool lop, .bool lin, .string ls, .bool hop, .bool hin, .string hs] 41)) h1 h2
  have hcb := heap_alloc_new w (.cells #[.int .i64 4, .string s, .int .i64 m, .bool lop, .bool lin, .string ls, .bool hop, .bool hin, .string hs] 41)
  obtain ⟨f, hf⟩ : ∃ f : Nat → Nat, (fun k => lt s.data.toList x.data.toList k x.size) = f := ⟨_, rfl⟩
  have hfe : ∀ k, lt s.data.toList x.data.toList k x.size = f k := fun k => congrFun hf k
  have hfl : ∀ k, k ≤ s.size → f k ≤ 3000000 := fun k hk => by rw [← hfe]; have := lt_le s.data.toList x.data.toList k x.size; omega
  rw [hf] at C0
  simp only [hfe]
  obtain ⟨ans, hans⟩ : ∃ ans, (List.range (s.size + 1)).any (fun k => decide (f k ≤ m)) = ans := ⟨_, rfl⟩
  rw [hans]
  have HANS := Lib.hid hans
  have HB := Lib.hid hb0
  have HCB := Lib.hid hcb
  have HFL := Lib.hid hfl
  clear hb0 hf hfe hcb hfl hans
  go_enter Tryd.func21, Tryd.ntmps21
  go_wp2_with fail
  refine C0.mono ?_
  rintro e w1 ⟨v, rfl, ho, hb1⟩
  have hB1 := (HB.out (.cells #[.int .i64 4, .string s, .int .i64 m, .bool lop, .bool lin, .string ls, .bool hop, .bool hin, .string hs] 41)).trans (hb1.mono (by simp))
  have hcb1 := (hb1.block w.heap.size (by simp)).trans HCB.out
  have c2 := blk_cell hcb1 2
  obtain ⟨av, cv, rfl⟩ := own_slice ho
  rw [intsV_length] at ho ⊢
  have HO := Lib.hid ho
  have HB1 := Lib.hid hB1
  clear C0 ho hb1 hB1 HB HCB hcb1
  obtain ⟨N, hN⟩ : ∃ N, s.size + 1 = N := ⟨_, rfl⟩
  rw [hN] at HO HANS ⊢
  have hNb : N ≤ 1048577 := by omega
  have HN := Lib.hid hN
  clear hN
  go_wp2
  go_loop [49] (fun s49 => ∃ i : Nat, s49 = .int .i64 i ∧ i ≤ N ∧ ∀ k, k < i → ¬ f k ≤ m) (fun s49 => N - (intOf s49).toNat)
  case atStart => exact ⟨0, rfl, Nat.zero_le _, fun k hk => by omega⟩
  case round =>
    obtain ⟨i, rfl, hi, ha⟩ := hrel
    by_cases hlt : i < N
    · obtain ⟨g, rfl⟩ := HO.out.someAt (by omega)
      have hc := HO.out.get (intsV_get f N i hlt)
      have hfb := HFL.out i (by have := HN.out; omega)
      obtain ⟨y, hy⟩ : ∃ y, f i = y := ⟨_, rfl⟩
      rw [hy] at hc hfb
      have HA := Lib.hid ha
      have HY := Lib.hid hy
      clear ha hy
      by_cases hym : y ≤ m
      · have t1 : decide (y ≤ m) = true := decide_eq_true hym
        go_wp2
        go_ret
        refine ⟨ret_bool ?_, HB1.out⟩
        rw [← HANS.out]
        exact (List.any_eq_true.2 ⟨i, List.mem_range.2 hlt, decide_eq_true (show f i ≤ m by rw [HY.out]; exact hym)⟩).symm
      · have t1 : decide (y ≤ m) = false := decide_eq_false hym
        go_wp2
        go_round
        case rel => exact ⟨i + 1, by go_num, by omega, fun k hk => by
          rcases Nat.lt_or_ge k i with h | h
          · exact HA.out k h
          · obtain rfl : k = i := by omega
            rw [HY.out]; exact hym⟩
        case measure => simp [intOf]; omega
    · obtain rfl : i = N := by omega
      have HA := Lib.hid ha
      clear ha
      go_wp2
      go_ret
      refine ⟨ret_bool ?_, HB1.out⟩
      symm
      rw [← HANS.out, List.any_eq_false]
      intro k hk
      have := HA.out k (List.mem_range.1 hk)
      simpa using this

set_option maxRecDepth 100000 in
set_option maxHeartbeats 2000000 in
theorem racc_wild (w : World) (s x : ByteArray) (es : List PEl) (hes : elems s.data.toList = some es) (hel : es.length ≤ 1000000000) (n : Int) (lop lin : Bool) (ls : ByteArray) (hop hin : Bool) (hs : ByteArray) (h1 : s.size ≤ 1000000000) (h2 : x.size ≤ 1000000000) :
    Calls Tryd.prog 20 #[.agg #[.int .i64 3, .string s, .int .i64 n, .bool lop, .bool lin, .string ls, .bool hop, .bool hin, .string hs], .string x] w (RetB w ((outR es x.data.toList).getD es.length false)) := by
  have hb0 : ∀ o : Obj, Below w.heap.size w (w.alloc o) := fun o => (Below.refl w.heap.size w).alloc (Nat.le_refl _) o
  have C0 := row_any (w.alloc (.cells #[.int .i64 3, .string s, .int .i64 n, .bool lop, .bool lin, .string ls, .bool hop, .bool hin, .string hs] 41)) s x es hes h1 h2 hel
  obtain ⟨R, hR⟩ : ∃ R, outR es x.data.toList = R := ⟨_, rfl⟩
  rw [hR] at C0 ⊢
  have hRl : R.length = es.length + 1 := by rw [← hR]; simp [outR]
  obtain ⟨y, hy⟩ : ∃ y, R.getD es.length false = y := ⟨_, rfl⟩
  rw [hy]
  have HY := Lib.hid hy
  have HB := Lib.hid hb0
  have HRL := Lib.hid hRl
  clear hes hb0 hR hRl hy
  go_enter Tryd.func20, Tryd.ntmps20
  go_wp2_with fail
  refine C0.mono ?_
  rintro e w1 ⟨v, rfl, ho, hb1⟩
  have hB1 := (HB.out (.cells #[.int .i64 3, .string s, .int .i64 n, .bool lop, .bool lin, .string ls, .bool hop, .bool hin, .string hs] 41)).trans (hb1.mono (by simp))
  obtain ⟨av, cv, rfl⟩ := own_slice ho
  rw [bv_len, HRL.out] at ho ⊢
  obtain ⟨g, rfl⟩ := ho.someAt (by omega)
  have hc := ho.get (bv_get (l := R) (i := es.length) (by rw [HRL.out]; omega))
  rw [HY.out] at hc
  have HB1 := Lib.hid hB1
  have q1 : IntKind.i64.wrap (((es.length + 1 : Nat) : Int) - 1) = (es.length : Int) := by rw [IntKind.wrap_i64]; omega
  have q2 : (((es.length + 1 : Nat) : Int) - 1) = (es.length : Int) := by omega
  have q3 : (es.length : Int) < ((es.length + 1 : Nat) : Int) := by omega
  have q4 : es.length < es.length + 1 := by omega
  clear C0 ho hb1 hB1 HB
  go_wp2
  all_goals
    go_ret
    exact ⟨rfl, HB1.out⟩
/-- A block of nine cells, kept. -/
theorem nine {w w' : World} {B : Nat} {c0 c1 c2 c3 c4 c5 c6 c7 c8 : Value} {t : TypeId} (h : w.heap[B]? = some (.cells #[c0, c1, c2, c3, c4, c5, c6, c7, c8] t (0, 0))) (hb : Below w.heap.size w w') : w'.heap[B]? = some (.cells #[c0, c1, c2, c3, c4, c5, c6, c7, c8] t (0, 0)) := (hb.block B (lt_of_heap h)).trans h
theorem cells9 {w : World} {B : Nat} {c0 c1 c2 c3 c4 c5 c6 c7 c8 : Value} {t : TypeId} (h : w.heap[B]? = some (.cells #[c0, c1, c2, c3, c4, c5, c6, c7, c8] t (0, 0))) :
    w.cell? ⟨B, 0, none⟩ = some c0 ∧ w.cell? ⟨B, 1, none⟩ = some c1 ∧ w.cell? ⟨B, 2, none⟩ = some c2 ∧ w.cell? ⟨B, 3, none⟩ = some c3 ∧ w.cell? ⟨B, 4, none⟩ = some c4 ∧ w.cell? ⟨B, 5, none⟩ = some c5 ∧ w.cell? ⟨B, 6, none⟩ = some c6 ∧ w.cell? ⟨B, 7, none⟩ = some c7 ∧ w.cell? ⟨B, 8, none⟩ = some c8 :=
  ⟨blk_cell h 0, blk_cell h 1, blk_cell h 2, blk_cell h 3, blk_cell h 4, blk_cell h 5, blk_cell h 6, blk_cell h 7, blk_cell h 8⟩
set_option maxRecDepth 100000 in
set_option maxHeartbeats 4000000 in
theorem ral_span (w : World) (s x : ByteArray) (n : Int) (lop lin : Bool) (ls : ByteArray) (hop hin : Bool) (hs : ByteArray) (h1 : ls.size ≤ 1000000000) (h2 : x.size ≤ 1000000000) :
    Calls Tryd.prog 21 #[.agg #[.int .i64 5, .string s, .int .i64 n, .bool lop, .bool lin, .string ls, .bool hop, .bool hin, .string hs], .string x] w (RetB w (accSp lop lin ls hop hin hs x || (!lop && begB ls x && (accSp lop lin ls hop hin hs ls || accSp lop lin ls hop hin hs (ls ++ ⟨#[0]⟩))))) := by
  have hb0 := (Below.refl w.heap.size w).alloc (Nat.le_refl _) (.cells #[.int .i64 5, .string s, .int .i64 n, .bool lop, .bool lin, .string ls, .bool hop, .bool hin, .string hs] 41)
  have hcb := heap_alloc_new w (.cells #[.int .i64 5, .string s, .int .i64 n, .bool lop, .bool lin, .string ls, .bool hop, .bool hin, .string hs] 41)
  have C0 := racc_span (w.alloc (.cells #[.int .i64 5, .string s, .int .i64 n, .bool lop, .bool lin, .string ls, .bool hop, .bool hin, .string hs] 41)) s x n lop lin ls hop hin hs
  have CL := Lib.hid (fun W : World => racc_span W s ls n lop lin ls hop hin hs)
  have CZ := Lib.hid (fun W : World => racc_span W s (ls ++ ⟨#[0]⟩) n lop lin ls hop hin hs)
  have CB := Lib.hid (fun W : World => begins_any W ls x (by omega) (by omega))
  have hz : ls.size + (⟨#[0]⟩ : ByteArray).size ≤ 9223372036854775807 := by show ls.size + 1 ≤ _; omega
  obtain ⟨ax, hax⟩ : ∃ a, accSp lop lin ls hop hin hs x = a := ⟨_, rfl⟩
  obtain ⟨al, hal⟩ : ∃ a, accSp lop lin ls hop hin hs ls = a := ⟨_, rfl⟩
  obtain ⟨az, haz⟩ : ∃ a, accSp lop lin ls hop hin hs (ls ++ ⟨#[0]⟩) = a := ⟨_, rfl⟩
  obtain ⟨bx, hbx⟩ : ∃ a, begB ls x = a := ⟨_, rfl⟩
  rw [hax] at C0 ⊢
  rw [hal] at CL ⊢
  rw [haz] at CZ ⊢
  rw [hbx] at CB ⊢
  have HB0 := Lib.hid hb0
  have HCB := Lib.hid hcb
  clear hb0 hcb hax hal haz hbx
  go_enter Tryd.func21, Tryd.ntmps21
  go_wp2_with fail
  refine C0.mono ?_
  rintro e w1 ⟨rfl, hb1⟩
  have hB1 := HB0.out.trans (hb1.mono (by simp))
  have hcb1 := nine HCB.out hb1
  have HB1 := Lib.hid hB1
  have HCB1 := Lib.hid hcb1
  obtain ⟨k0, k1, k2, k3, k4, k5, k6, k7, k8⟩ := cells9 hcb1
  clear C0 hb1 hB1 HB0 HCB hcb1
  cases ax with
  | true =>
    go_wp2
    go_ret
    exact ⟨rfl, HB1.out⟩
  | false =>
    cases lop with
    | true =>
      go_wp2
      go_ret
      exact ⟨rfl, HB1.out⟩
    | false =>
      go_wp2_with fail
      refine (CB.out _).mono ?_
      rintro e w2 ⟨rfl, rfl⟩
      cases bx with
      | false =>
        go_wp2
        go_ret
        exact ⟨rfl, HB1.out⟩
      | true =>
        go_wp2_with fail
        refine (CL.out _).mono ?_
        rintro e w2 ⟨rfl, hb2⟩
        have hB2 := HB1.out.trans (hb2.mono HB1.out.size)
        have hcb2 := nine HCB1.out hb2
        have HB2 := Lib.hid hB2
        clear k0 k1 k2 k3 k4 k5 k6 k7 k8
        obtain ⟨k0, k1, k2, k3, k4, k5, k6, k7, k8⟩ := cells9 hcb2
        clear hb2 hB2 hcb2 HCB1 HB1
        cases al with
        | true =>
          go_wp2
          go_ret
          exact ⟨rfl, HB2.out⟩
        | false =>
          go_wp2_with fail
          refine (CZ.out _).mono ?_
          rintro e w3 ⟨rfl, hb3⟩
          have HB3 := Lib.hid (HB2.out.trans (hb3.mono HB2.out.size))
          clear hb3
          go_wp2
          go_ret
          exact ⟨rfl, HB3.out⟩
end Go.Proofs.YtejmjjgbbojfbaaDoor

/- A place as four bytes, and back: auto.number, auto.place. -/
namespace Go.Proofs.YtejmjjgbbojfbaaDoor
set_option linter.unusedVariables false
open Go.ChangeShapes Go.WideShapes Go.ChangeAt Go.RowKit

def placeB (n : Nat) : List UInt8 := [UInt8.ofNat (n % 256), UInt8.ofNat (n / 256 % 256), UInt8.ofNat (n / 65536 % 256), UInt8.ofNat (n / 16777216 % 256)]
def placeS (n : Nat) : ByteArray := strOf (placeB n)
theorem placeB_len (n : Nat) : (placeB n).length = 4 := rfl
theorem placeV (n : Nat) (hn : (n : Int) ≤ 2000000000) : bytesV (placeB n) = [.int .u8 ((n : Int) % 256), .int .u8 ((n : Int) / 256 % 256), .int .u8 ((n : Int) / 65536 % 256), .int .u8 ((n : Int) / 16777216)] := by
  have h : ∀ a : Nat, a < 256 → ((UInt8.ofNat a).toNat : Int) = a := fun a ha => by rw [u8_ofNat]; omega
  unfold placeB bytesV
  simp only [List.map_cons, List.map_nil]
  rw [h _ (Nat.mod_lt _ (by decide)), h _ (Nat.mod_lt _ (by decide)), h _ (Nat.mod_lt _ (by decide)), h _ (Nat.mod_lt _ (by decide))]
  simp only [List.cons.injEq, Value.int.injEq, true_and, and_true]
  omega
theorem or_nat64 (a b : Nat) (ha : a < 2 ^ 63) (hb : b < 2 ^ 63) : bits .or .i64 (a : Int) (b : Int) = ((a ||| b : Nat) : Int) := by
  have h : a ||| b < 2 ^ 63 := Nat.or_lt_two_pow ha hb
  have e : bits .or .i64 (a : Int) (b : Int) = IntKind.i64.wrap (((BitVec.ofInt 64 a ||| BitVec.ofInt 64 b).toNat : Nat) : Int) := rfl
  rw [e, BitVec.toNat_or, BitVec.toNat_ofInt, BitVec.toNat_ofInt]
  have e1 : ((a : Int) % ((2 ^ 64 : Nat) : Int)).toNat = a := by omega
  have e2 : ((b : Int) % ((2 ^ 64 : Nat) : Int)).toNat = b := by omega
  rw [e1, e2, IntKind.wrap_i64]
  omega
theorem or_sum (a b k : Nat) (h : a < 2 ^ k) : a ||| b * 2 ^ k = a + b * 2 ^ k := by
  rw [Nat.or_comm, Nat.mul_comm b, ← Nat.two_pow_add_eq_or_of_lt h, Nat.add_comm]
theorem or4 (e0 e1 e2 e3 : Nat) (b0 : e0 < 256) (b1 : e1 < 256) (b2 : e2 < 256) (b3 : e3 < 256) :
    bits .or .i64 (bits .or .i64 (bits .or .i64 (e0 : Int) ((e1 : Int) * 256)) ((e2 : Int) * 65536)) ((e3 : Int) * 16777216) = ((e0 + 256 * e1 + 65536 * e2 + 16777216 * e3 : Nat) : Int) := by
  rw [show (e1 : Int) * 256 = ((e1 * 256 : Nat) : Int) by omega, or_nat64 _ _ (by omega) (by omega), show e1 * 256 = e1 * 2 ^ 8 by omega, or_sum _ _ 8 (by omega),
    show (e2 : Int) * 65536 = ((e2 * 65536 : Nat) : Int) by omega, or_nat64 _ _ (by omega) (by omega), show e2 * 65536 = e2 * 2 ^ 16 by omega, or_sum _ _ 16 (by omega),
    show (e3 : Int) * 16777216 = ((e3 * 16777216 : Nat) : Int) by omega, or_nat64 _ _ (by omega) (by omega), show e3 * 16777216 = e3 * 2 ^ 24 by omega, or_sum _ _ 24 (by omega)]
  omega
set_option maxRecDepth 100000 in
theorem place_any (w : World) (n : Nat) (hn : (n : Int) ≤ 2000000000) :
    Calls Tryd.prog 122 #[.int .i64 (n : Nat)] w fun e w' => e = .returned (.string (placeS n)) ∧ Below w.heap.size w w' := by
  have hv := placeV n hn
  have ho := (own_lit w w.heap.size 5 (bytesV (placeB n)) (Nat.le_refl _) (by rw [bytesV_length, placeB_len]; decide)).rd
  have r4 := run_str (P := Tryd.prog) Tryd.underlying26 Tryd.underlying5 Tryd.underlying9 ho
  rw [bytesV_length, placeB_len, hv] at r4
  have HB := Lib.hid (fun o : Obj => (Below.refl w.heap.size w).alloc (Nat.le_refl _) o)
  clear hv ho
  go_enter Tryd.func122, Tryd.ntmps122
  go_wp2
  go_ret
  exact ⟨rfl, HB.out _⟩
set_option maxRecDepth 100000 in
theorem number_any (w : World) (d : ByteArray) (hd : 4 ≤ d.size) (e0 e1 e2 e3 : Nat) (h0 : ((d[0]'(by omega)).toNat : Int) = e0) (h1 : ((d[1]'(by omega)).toNat : Int) = e1) (h2 : ((d[2]'(by omega)).toNat : Int) = e2) (h3 : ((d[3]'(by omega)).toNat : Int) = e3)
    (b0 : e0 < 256) (b1 : e1 < 256) (b2 : e2 < 256) (b3 : e3 < 256) :
    Calls Tryd.prog 121 #[.string d] w fun e w' => e = .returned (.int .i64 (e0 + 256 * e1 + 65536 * e2 + 16777216 * e3 : Nat)) ∧ ∃ k, w' = w.drewN k := by
  go_enter Tryd.func121, Tryd.ntmps121
  go_wp2
  go_quiet (fail)
  go_wp2
  go_ret
  exact ⟨congrArg (fun x => Ending.returned (Value.int .i64 x)) (or4 e0 e1 e2 e3 b0 b1 b2 b3), _, rfl⟩
end Go.Proofs.YtejmjjgbbojfbaaDoor
