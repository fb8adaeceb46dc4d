/- The document's Accepts: of a word, of a head, of two bounds. -/
import Derived.Test.YtejmjjgbbojfbaaDoorBegins
namespace Go.Proofs.YtejmjjgbbojfbaaDoor
set_option linter.unusedVariables false
open Go.ChangeShapes Go.WideShapes Go.ChangeAt Go.RowKit

def accSp (lop lin : Bool) (ls : ByteArray) (hop hin : Bool) (hs x : ByteArray) : Bool :=
  if !lop && (Op.bytesLess x.toList ls.toList || ((x.toList == ls.toList) && !lin)) then false else hop || (Op.bytesLess x.toList hs.toList || ((x.toList == hs.toList) && hin))
set_option maxRecDepth 100000 in
set_option maxHeartbeats 1000000 in
theorem racc_exact (w : World) (s x : ByteArray) (n : Int) (lop lin : Bool) (ls : ByteArray) (hop hin : Bool) (hs : ByteArray) :
    Calls Tryd.prog 20 #[.agg #[.int .i64 1, .string s, .int .i64 n, .bool lop, .bool lin, .string ls, .bool hop, .bool hin, .string hs], .string x] w fun e w' => e = .returned (.bool (x.toList == s.toList)) ∧ Below w.heap.size w w' := by
  have HB := Lib.hid (fun o : Obj => (Below.refl w.heap.size w).alloc (Nat.le_refl _) o)
  go_enter Tryd.func20, Tryd.ntmps20
  go_wp2
  go_ret
  exact ⟨rfl, HB.out _⟩
set_option maxRecDepth 100000 in
set_option maxHeartbeats 1000000 in
theorem racc_prefix (w : World) (s x : ByteArray) (n : Int) (lop lin : Bool) (ls : ByteArray) (hop hin : Bool) (hs : ByteArray) (h1 : s.size ≤ 1000000000) (h2 : x.size ≤ 1000000000) :
    Calls Tryd.prog 20 #[.agg #[.int .i64 2, .string s, .int .i64 n, .bool lop, .bool lin, .string ls, .bool hop, .bool hin, .string hs], .string x] w fun e w' => e = .returned (.bool (begB x s)) ∧ Below w.heap.size w w' := by
  have HB := Lib.hid (fun o : Obj => (Below.refl w.heap.size w).alloc (Nat.le_refl _) o)
  have HC := Lib.hid (fun W : World => begins_any W x s (by omega) (by omega))
  go_enter Tryd.func20, Tryd.ntmps20
  go_wp2_with fail
  refine (HC.out _).mono ?_
  rintro e w1 ⟨rfl, rfl⟩
  go_wp2
  go_ret
  exact ⟨rfl, HB.out _⟩
set_option maxRecDepth 100000 in
set_option maxHeartbeats 4000000 in
theorem racc_span (w : World) (s x : ByteArray) (n : Int) (lop lin : Bool) (ls : ByteArray) (hop hin : Bool) (hs : ByteArray) :
    Calls Tryd.prog 20 #[.agg #[.int .i64 5, .string s, .int .i64 n, .bool lop, .bool lin, .string ls, .bool hop, .bool hin, .string hs], .string x] w fun e w' => e = .returned (.bool (accSp lop lin ls hop hin hs x)) ∧ Below w.heap.size w w' := by
  have HB := Lib.hid (fun o : Obj => (Below.refl w.heap.size w).alloc (Nat.le_refl _) o)
  by_cases hlow : (!lop && (Op.bytesLess x.toList ls.toList || ((x.toList == ls.toList) && !lin))) = true
  · have hres : accSp lop lin ls hop hin hs x = false := by unfold accSp; rw [if_pos hlow]
    rw [hres]
    clear hres
    cases lop with
    | true => simp at hlow
    | false =>
      cases h1 : Op.bytesLess x.toList ls.toList with
      | true =>
        clear hlow
        go_enter Tryd.func20, Tryd.ntmps20
        go_wp2
        go_ret
        exact ⟨rfl, HB.out _⟩
      | false =>
        rw [h1] at hlow
        simp only [Bool.not_false, Bool.true_and, Bool.false_or, Bool.and_eq_true] at hlow
        obtain ⟨h2, h3⟩ := hlow
        cases lin with
        | true => simp at h3
        | false =>
          clear h3
          go_enter Tryd.func20, Tryd.ntmps20
          go_wp2
          go_ret
          exact ⟨rfl, HB.out _⟩
  · have hres : accSp lop lin ls hop hin hs x = (hop || (Op.bytesLess x.toList hs.toList || ((x.toList == hs.toList) && hin))) := by unfold accSp; rw [if_neg hlow]
    rw [hres]
    clear hres
    cases lop with
    | true =>
      clear hlow
      cases hop with
      | true => go_enter Tryd.func20, Tryd.ntmps20; go_wp2; go_ret; exact ⟨rfl, HB.out _⟩
      | false =>
        cases h4 : Op.bytesLess x.toList hs.toList with
        | true => go_enter Tryd.func20, Tryd.ntmps20; go_wp2; go_ret; exact ⟨rfl, HB.out _⟩
        | false =>
          cases h5 : x.toList == hs.toList with
          | true => go_enter Tryd.func20, Tryd.ntmps20; go_wp2; go_ret; exact ⟨rfl, HB.out _⟩
          | false => go_enter Tryd.func20, Tryd.ntmps20; go_wp2; go_ret; exact ⟨rfl, HB.out _⟩
    | false =>
      cases h1 : Op.bytesLess x.toList ls.toList with
      | true => rw [h1] at hlow; simp at hlow
      | false =>
        rw [h1] at hlow
        cases h2 : x.toList == ls.toList with
        | true =>
          cases lin with
          | false => rw [h2] at hlow; simp at hlow
          | true =>
            clear hlow
            cases hop with
            | true => go_enter Tryd.func20, Tryd.ntmps20; go_wp2; go_ret; exact ⟨rfl, HB.out _⟩
            | false =>
              cases h4 : Op.bytesLess x.toList hs.toList with
              | true => go_enter Tryd.func20, Tryd.ntmps20; go_wp2; go_ret; exact ⟨rfl, HB.out _⟩
              | false =>
                cases h5 : x.toList == hs.toList with
                | true => go_enter Tryd.func20, Tryd.ntmps20; go_wp2; go_ret; exact ⟨rfl, HB.out _⟩
                | false => go_enter Tryd.func20, Tryd.ntmps20; go_wp2; go_ret; exact ⟨rfl, HB.out _⟩
        | false =>
          clear hlow
          cases hop with
          | true => go_enter Tryd.func20, Tryd.ntmps20; go_wp2; go_ret; exact ⟨rfl, HB.out _⟩
          | false =>
            cases h4 : Op.bytesLess x.toList hs.toList with
            | true => go_enter Tryd.func20, Tryd.ntmps20; go_wp2; go_ret; exact ⟨rfl, HB.out _⟩
            | false =>
              cases h5 : x.toList == hs.toList with
              | true => go_enter Tryd.func20, Tryd.ntmps20; go_wp2; go_ret; exact ⟨rfl, HB.out _⟩
              | false => go_enter Tryd.func20, Tryd.ntmps20; go_wp2; go_ret; exact ⟨rfl, HB.out _⟩
end Go.Proofs.YtejmjjgbbojfbaaDoor
