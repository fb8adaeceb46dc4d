/- Merged: Begins, DocA, Edits. -/
import Derived.Test.YtejmjjgbbojfbaaDoorZMake
import Derived.BigQuiet
import Derived.Test.YtejmjjgbbojfbaaDoorZLib
import Derived.Test.YtejmjjgbbojfbaaDoorZG17
import Derived.Test.YtejmjjgbbojfbaaDoorProg
/- The document's begins; small. -/
namespace Go.Proofs.YtejmjjgbbojfbaaDoor
set_option linter.unusedVariables false
open Go.ChangeShapes Go.WideShapes Go.ChangeAt Go.RowKit

/-- Does s begin with t? -/
def begB (s t : ByteArray) : Bool := decide (t.size ≤ s.size) && (s.extract 0 t.size).toList == t.toList
set_option maxRecDepth 100000 in
theorem begins_any (w : World) (s t : ByteArray) (hs : s.size ≤ 1000000000000) (ht : t.size ≤ 1000000000000) :
    Calls Tryd.prog 46 #[.string s, .string t] w fun e w' => e = .returned (.bool (begB s t)) ∧ w' = w := by
  by_cases h : t.size ≤ s.size
  · have hb : begB s t = ((s.extract 0 t.size).toList == t.toList) := by unfold begB; rw [decide_eq_true h]; rfl
    rw [hb]
    have t1 : decide ((t.size : Int) ≤ (s.size : Int)) = true := decide_eq_true (by omega)
    clear hb
    go_enter Tryd.func46, Tryd.ntmps46
    go_wp2
    go_ret
    simp
  · have hb : begB s t = false := by unfold begB; rw [decide_eq_false h]; rfl
    rw [hb]
    have t1 : decide ((t.size : Int) ≤ (s.size : Int)) = false := decide_eq_false (by omega)
    clear hb
    go_enter Tryd.func46, Tryd.ntmps46
    go_wp2
    go_ret
    simp
set_option maxRecDepth 100000 in
set_option maxHeartbeats 1000000 in
theorem small_any (w : World) (o : OfV) (s : ByteArray) (h1 : o.s.size ≤ 1000000000) (h2 : o.ls.size ≤ 1000000000) (h3 : o.hs.size ≤ 1000000000) (h4 : s.size ≤ 1000000000) :
    Calls Tryd.prog 19 #[.agg o.cells.toArray, .string s] w fun e w' => (∃ r, e = .returned (.bool r)) ∧ Below w.heap.size w w' := by
  obtain ⟨k, os, n, lop, lin, ls, hop, hin, hs'⟩ := o
  show Calls Tryd.prog 19 #[.agg #[.int .i64 k, .string os, .int .i64 n, .bool lop, .bool lin, .string ls, .bool hop, .bool hin, .string hs'], .string s] w _
  have q1 : IntKind.i64.wrap ((os.size : Int) + (ls.size : Int)) = (os.size : Int) + ls.size := by rw [IntKind.wrap_i64]; simp only at h1 h2 h3; omega
  have q2 : IntKind.i64.wrap ((os.size : Int) + ls.size + (hs'.size : Int)) = (os.size : Int) + ls.size + hs'.size := by rw [IntKind.wrap_i64]; simp only at h1 h2 h3; omega
  have q3 : IntKind.i64.wrap ((os.size : Int) + ls.size + hs'.size + 1) = (os.size : Int) + ls.size + hs'.size + 1 := by rw [IntKind.wrap_i64]; simp only at h1 h2 h3; omega
  have q4 : IntKind.i64.wrap ((s.size : Int) + 1) = (s.size : Int) + 1 := by rw [IntKind.wrap_i64]; omega
  have q5 : ((s.size : Int) + 1 == 0) = false := by simp; omega
  have q6 : IntKind.i64.wrap (Int.tdiv 1048576 ((s.size : Int) + 1)) = Int.tdiv 1048576 ((s.size : Int) + 1) := by
    rw [Int.tdiv_eq_ediv_of_nonneg (by omega), IntKind.wrap_i64]
    have a1 : (0 : Int) ≤ 1048576 / ((s.size : Int) + 1) := Int.ediv_nonneg (by omega) (by omega)
    have a2 : 1048576 / ((s.size : Int) + 1) ≤ 1048576 := Int.ediv_le_self _ (by omega)
    omega
  have HB := Lib.hid (fun o : Obj => (Below.refl w.heap.size w).alloc (Nat.le_refl _) o)
  clear h1 h2 h3 h4
  go_enter Tryd.func19, Tryd.ntmps19
  go_wp2
  go_quiet (fail)
  go_wp2
  go_ret
  exact ⟨⟨_, rfl⟩, below_drewN (HB.out _) _⟩
end Go.Proofs.YtejmjjgbbojfbaaDoor

/- The document's Accepts: of a word, of a head, of two bounds. -/
namespace Go.Proofs.YtejmjjgbbojfbaaDoor
set_option linter.unusedVariables false
open Go.ChangeShapes Go.WideShapes Go.ChangeAt Go.RowKit

def accSp (lop lin : Bool) (ls : ByteArray) (hop hin : Bool) (hs x : ByteArray) : Bool :=
  if !lop && (Op.bytesLess x.toList ls.toList || ((x.toList == ls.toList) && !lin)) then false else hop || (Op.bytesLess x.toList hs.toList || ((x.toList == hs.toList) && hin))
set_option maxRecDepth 100000 in
set_option maxHeartbeats 1000000 in
theorem racc_exact (w : World) (s x : ByteArray) (n : Int) (lop lin : Bool) (ls : ByteArray) (hop hin : Bool) (hs : ByteArray) :
    Calls Tryd.prog 20 #[.agg #[.int .i64 1, .string s, .int .i64 n, .bool lop, .bool lin, .string ls, .bool hop, .bool hin, .string hs], .string x] w fun e w' => e = .returned (.bool (x.toList == s.toList)) ∧ Below w.heap.size w w' := by
  have HB := Lib.hid (fun o : Obj => (Below.refl w.heap.size w).alloc (Nat.le_refl _) o)
  go_enter Tryd.func20, Tryd.ntmps20
  go_wp2
  go_ret
  exact ⟨rfl, HB.out _⟩
set_option maxRecDepth 100000 in
set_option maxHeartbeats 1000000 in
theorem racc_prefix (w : World) (s x : ByteArray) (n : Int) (lop lin : Bool) (ls : ByteArray) (hop hin : Bool) (hs : ByteArray) (h1 : s.size ≤ 1000000000) (h2 : x.size ≤ 1000000000) :
    Calls Tryd.prog 20 #[.agg #[.int .i64 2, .string s, .int .i64 n, .bool lop, .bool lin, .string ls, .bool hop, .bool hin, .string hs], .string x] w fun e w' => e = .returned (.bool (begB x s)) ∧ Below w.heap.size w w' := by
  have HB := Lib.hid (fun o : Obj => (Below.refl w.heap.size w).alloc (Nat.le_refl _) o)
  have HC := Lib.hid (fun W : World => begins_any W x s (by omega) (by omega))
  go_enter Tryd.func20, Tryd.ntmps20
  go_wp2_with fail
  refine (HC.out _).mono ?_
  rintro e w1 ⟨rfl, rfl⟩
  go_wp2
  go_ret
  exact ⟨rfl, HB.out _⟩
set_option maxRecDepth 100000 in
set_option maxHeartbeats 4000000 in
theorem racc_span (w : World) (s x : ByteArray) (n : Int) (lop lin : Bool) (ls : ByteArray) (hop hin : Bool) (hs : ByteArray) :
    Calls Tryd.prog 20 #[.agg #[.int .i64 5, .string s, .int .i64 n, .bool lop, .bool lin, .string ls, .bool hop, .bool hin, .string hs], .string x] w fun e w' => e = .returned (.bool (accSp lop lin ls hop hin hs x)) ∧ Below w.heap.size w w' := by
  have HB := Lib.hid (fun o : Obj => (Below.refl w.heap.size w).alloc (Nat.le_refl _) o)
  by_cases hlow : (!lop && (Op.bytesLess x.toList ls.toList || ((x.toList == ls.toList) && !lin))) = true
  · have hres : accSp lop lin ls hop hin hs x = false := by unfold accSp; rw [if_pos hlow]
    rw [hres]
    clear hres
    cases lop with
    | true => simp at hlow
    | false =>
      cases h1 : Op.bytesLess x.toList ls.toList with
      | true =>
        clear hlow
        go_enter Tryd.func20, Tryd.ntmps20
        go_wp2
        go_ret
        exact ⟨rfl, HB.out _⟩
      | false =>
        rw [h1] at hlow
        simp only [Bool.not_false, Bool.true_and, Bool.false_or, Bool.and_eq_true] at hlow
        obtain ⟨h2, h3⟩ := hlow
        cases lin with
        | true => simp at h3
        | false =>
          clear h3
          go_enter Tryd.func20, Tryd.ntmps20
          go_wp2
          go_ret
          exact ⟨rfl, HB.out _⟩
  · have hres : accSp lop lin ls hop hin hs x = (hop || (Op.bytesLess x.toList hs.toList || ((x.toList == hs.toList) && hin))) := by unfold accSp; rw [if_neg hlow]
    rw [hres]
    clear hres
    cases lop with
    | true =>
      clear hlow
      cases hop with
      | true => go_enter Tryd.func20, Tryd.ntmps20; go_wp2; go_ret; exact ⟨rfl, HB.out _⟩
      | false =>
        cases h4 : Op.bytesLess x.toList hs.toList with
        | true => go_enter Tryd.func20, Tryd.ntmps20; go_wp2; go_ret; exact ⟨rfl, HB.out _⟩
        | false =>
          cases h5 : x.toList == hs.toList with
          | true => go_enter Tryd.func20, Tryd.ntmps20; go_wp2; go_ret; exact ⟨rfl, HB.out _⟩
          | false => go_enter Tryd.func20, Tryd.ntmps20; go_wp2; go_ret; exact ⟨rfl, HB.out _⟩
    | false =>
      cases h1 : Op.bytesLess x.toList ls.toList with
      | true => rw [h1] at hlow; simp at hlow
      | false =>
        rw [h1] at hlow
        cases h2 : x.toList == ls.toList with
        | true =>
          cases lin with
          | false => rw [h2] at hlow; simp at hlow
          | true =>
            clear hlow
            cases hop with
            | true => go_enter Tryd.func20, Tryd.ntmps20; go_wp2; go_ret; exact ⟨rfl, HB.out _⟩
            | false =>
              cases h4 : Op.bytesLess x.toList hs.toList with
              | true => go_enter Tryd.func20, Tryd.ntmps20; go_wp2; go_ret; exact ⟨rfl, HB.out _⟩
              | false =>
                cases h5 : x.toList == hs.toList with
                | true => go_enter Tryd.func20, Tryd.ntmps20; go_wp2; go_ret; exact ⟨rfl, HB.out _⟩
                | false => go_enter Tryd.func20, Tryd.ntmps20; go_wp2; go_ret; exact ⟨rfl, HB.out _⟩
        | false =>
          clear hlow
          cases hop with
          | true => go_enter Tryd.func20, Tryd.ntmps20; go_wp2; go_ret; exact ⟨rfl, HB.out _⟩
          | false =>
            cases h4 : Op.bytesLess x.toList hs.toList with
            | true => go_enter Tryd.func20, Tryd.ntmps20; go_wp2; go_ret; exact ⟨rfl, HB.out _⟩
            | false =>
              cases h5 : x.toList == hs.toList with
              | true => go_enter Tryd.func20, Tryd.ntmps20; go_wp2; go_ret; exact ⟨rfl, HB.out _⟩
              | false => go_enter Tryd.func20, Tryd.ntmps20; go_wp2; go_ret; exact ⟨rfl, HB.out _⟩
end Go.Proofs.YtejmjjgbbojfbaaDoor

/- The walks of auto.Edits (the band) and of the document's Edits (the whole table): both are the edit distance, cut. -/
namespace Go.Proofs.YtejmjjgbbojfbaaDoor
set_option linter.unusedVariables false
open Go.ChangeShapes Go.WideShapes Go.ChangeAt Go.RowKit

theorem elInts : Elem Tryd.prog 52 3 (.int .i64 0) 8 := ⟨Tryd.underlying52, by kernel_rfl, rfl, by decide⟩

/-- The number of edits, or most + 1. -/
def edI (a b : ByteArray) (most : Int) : Int := min (lev a.data.toList b.data.toList : Nat) (max most 0 + 1)
theorem le_all (a b : ByteArray) (M : Nat) : le_ a.data.toList b.data.toList M a.size b.size = min (lev a.data.toList b.data.toList) (M + 1) := by
  have h := lt_all a.data.toList b.data.toList
  rw [show a.data.toList.length = a.size by simp, show b.data.toList.length = b.size by simp] at h
  rw [le_, h]
theorem lev_max (a b : ByteArray) : lev a.data.toList b.data.toList ≤ max a.size b.size := by
  have h := lev_le_max a.data.toList b.data.toList
  simpa using h

set_option maxRecDepth 100000 in
set_option maxHeartbeats 4000000 in
theorem redits_any (a b : ByteArray) (w : World) (ha : a.size ≤ 1048576) (hb : b.size ≤ 1048576) :
    Calls Tryd.prog 49 #[.string a, .string b] w fun e w' => ∃ v, e = .returned v ∧ Own w' w.heap.size 3 v (intsV (fun k => lt a.data.toList b.data.toList k b.size) (a.size + 1)) ∧ Below w.heap.size w w' := by
  have hal : a.data.toList.length = a.size := by simp
  have hbl : b.data.toList.length = b.size := by simp
  have HA := Lib.hid hal; have HB := Lib.hid hbl; clear hal hbl
  go_enter Tryd.func49, Tryd.ntmps49
  go_wp2
  go_loopw [5, 6] (fun s5 s6 wr => ∃ i : Nat, s6 = .int .i64 i ∧ i ≤ a.size + 1 ∧ Own wr w.heap.size 3 s5 (intsV (fun k => k) i) ∧ Below w.heap.size w wr) (fun _ i _ => a.size + 1 - (intOf i).toNat)
  case atStart => exact ⟨0, rfl, by omega, own_empty _ _ _ (Nat.le_refl _), (Below.refl _ _).alloc (Nat.le_refl _) _⟩
  case round =>
    obtain ⟨i, rfl, hi, hown, hbel⟩ := hrel
    by_cases hlt : i ≤ a.size
    · have hb0 := hbel.size
      have hl' : (intsV (fun k => k) i).length < 1000000000000 := by rw [intsV_length]; omega
      go_wp2_with (at_builtin; with_reducible refine ap1 elInts rfl hown hl' hb0 rfl _ _ rfl rfl rfl ?_)
      intro v' w1 hown1 hg1
      go_wp2
      go_roundw
      case rel => exact ⟨i + 1, by go_num, by omega, by rw [intsV_succ]; exact hown1, hbel.grown hg1 hb0 (fun k hk => (hown.lt k hk).1)⟩
      case measure => simp [intOf]; omega
    · have d1 : decide ((i : Int) ≤ a.size) = false := by simp; omega
      go_wp2
      have hr0 : Own wr w.heap.size 3 u5 (intsV (fun k => lt a.data.toList b.data.toList k 0) (a.size + 1)) := by
        obtain rfl : i = a.size + 1 := by omega
        rw [intsV_congr (g := fun k => k) (fun k hk => lt_zero_right a.data.toList b.data.toList k (by rw [HA.out]; omega))]; exact hown
      have hu5 : ∀ h : True, True := fun h => h
      clear hown hu5
      go_loopw [5, 7] (fun s5 s7 wr => ∃ j : Nat, s7 = .int .i64 ((j : Int) + 1) ∧ j ≤ b.size ∧ Own wr w.heap.size 3 s5 (intsV (fun k => lt a.data.toList b.data.toList k j) (a.size + 1)) ∧ Below w.heap.size w wr) (fun _ j _ => b.size + 1 - (intOf j).toNat)
      case atStart => exact ⟨0, rfl, by omega, hr0, hbel⟩
      case round =>
        obtain ⟨j, rfl, hj, hown, hbel⟩ := hrel
        by_cases hlt2 : j < b.size
        · obtain ⟨g, co, rfl, hg1, hg2, _, _, hcells⟩ := hown.pos (by rw [intsV_length]; omega)
          rw [intsV_length]
          have hb0 := hbel.size
          obtain ⟨wo, rfl⟩ : ∃ wo, wo = wr := ⟨_, rfl⟩
          have d2 : decide ((j : Int) + 1 ≤ b.size) = true := by simp; omega
          go_wp2
          go_loopw [8, 9] (fun s8 s9 wr => ∃ i : Nat, s9 = .int .i64 ((i : Int) + 1) ∧ i ≤ a.size ∧ Own wr wo.heap.size 3 s8 (intsV (fun k => lt a.data.toList b.data.toList k (j + 1)) (i + 1)) ∧ Below wo.heap.size wo wr) (fun _ i _ => a.size + 1 - (intOf i).toNat)
          case atStart =>
            refine ⟨0, rfl, by omega, ?_, (Below.refl _ _).alloc (Nat.le_refl _) _⟩
            rw [intsV_succ, lt_zero_left a.data.toList b.data.toList (j + 1) (by rw [HB.out]; omega)]
            exact own_one wo wo.heap.size 3 (.int .i64 (j + 1 : Nat)) (Nat.le_refl _)
          case round =>
            obtain ⟨i, rfl, hi, hown2, hbel2⟩ := hrel
            by_cases hlt3 : i < a.size
            · obtain ⟨g2, c2, rfl, hg3, hg4, _, _, hcells2⟩ := hown2.pos (by rw [intsV_length]; omega)
              rw [intsV_length]
              have hc1 : wr.cell? ⟨g, i, none⟩ = some (.int .i64 (lt a.data.toList b.data.toList i j : Nat)) := (hbel2.cell hg2).trans (hcells i _ (intsV_get _ _ _ (by omega)))
              have hc2 : wr.cell? ⟨g, i + 1, none⟩ = some (.int .i64 (lt a.data.toList b.data.toList (i + 1) j : Nat)) := (hbel2.cell hg2).trans (hcells (i + 1) _ (intsV_get _ _ _ (by omega)))
              have hc3 : wr.cell? ⟨g2, i, none⟩ = some (.int .i64 (lt a.data.toList b.data.toList i (j + 1) : Nat)) := hcells2 i _ (intsV_get _ _ _ (by omega))
              have HC := Lib.hid hcells; have HC2 := Lib.hid hcells2
              clear hcells hcells2
              have hx1 := lt_le a.data.toList b.data.toList i j
              have hx2 := lt_le a.data.toList b.data.toList (i + 1) j
              have hx3 := lt_le a.data.toList b.data.toList i (j + 1)
              have q1 : (i : Int) < a.size := by omega
              have q2 : (j : Int) < b.size := by omega
              go_upto_region 14 with fail
              go_region
              go_upto_if 49 with fail
              go_cut [10] (fun s10 wx => ∃ n, wx = wr.drewN n ∧ s10 = .int .i64 (lt a.data.toList b.data.toList i j + (if a.data.toList[i]'(by rw [HA.out]; omega) = b.data.toList[j]'(by rw [HB.out]; omega) then 0 else 1) : Nat))
              case first =>
                go_wp2
                all_goals go_meet
                · exact ⟨1, rfl, by rw [if_neg (fun e => (bytes_ne ‹(_ != _) = true›) e)]; go_num⟩
                · exact ⟨1, rfl, by rw [if_pos (bytes_eq ‹(_ != _) = false›)]; go_num⟩
              case rest =>
                obtain ⟨n, rfl, rfl⟩ := hcut
                generalize hcc : (if a.data.toList[i]'(by rw [HA.out]; omega) = b.data.toList[j]'(by rw [HB.out]; omega) then 0 else 1) = c
                have hc1' : c ≤ 1 := by rw [← hcc]; split <;> omega
                have HCC := Lib.hid hcc
                clear hcc
                go_upto_region 16 with fail
                have hb1 := hbel2.size
                have hl' : (intsV (fun k => lt a.data.toList b.data.toList k (j + 1)) (i + 1)).length < 1000000000000 := by rw [intsV_length]; omega
                have hown2' : Own ((wr.drewN n).drew) wo.heap.size 3 (.slice (some ⟨g2, 0, none⟩) (i + 1) c2) (intsV (fun k => lt a.data.toList b.data.toList k (j + 1)) (i + 1)) := by rw [intsV_length] at hown2; exact hown2
                have q3 : 0 ≤ (i : Int) + 1 := by omega
                have q4 : (i : Int) + 1 < a.size + 1 := by omega
                have q5 : IntKind.i64.wrap (i : Int) = i := IntWalk.i64_in _ (by omega)
                have q6 : (i : Int) < i + 1 := by omega
                have q7 : IntKind.i64.wrap ((lt a.data.toList b.data.toList (i + 1) j : Nat) + 1 : Int) = (lt a.data.toList b.data.toList (i + 1) j : Nat) + 1 := IntWalk.i64_in _ (by omega)
                have q8 : IntKind.i64.wrap ((lt a.data.toList b.data.toList i (j + 1) : Nat) + 1 : Int) = (lt a.data.toList b.data.toList i (j + 1) : Nat) + 1 := IntWalk.i64_in _ (by omega)
                go_region_law (refine step_ap1 elInts rfl hown2' hl' hb1 rfl (.tmp 52) (.tmp 66) rfl rfl rfl ?_; intro v' w1 hown3 hg3)
                all_goals
                  clear q1 q2 q3 q4 q5 q6 q7 q8
                  go_wp2
                  go_roundw
                  case rel =>
                    have hV := lt_succ a.data.toList b.data.toList i j (by rw [HA.out]; omega) (by rw [HB.out]; omega)
                    rw [HCC.out] at hV
                    refine ⟨i + 1, by go_num, by omega, ?_, (below_drewN hbel2 (n + 1)).grown hg3 hb1 (fun k hk => (hown2'.lt k hk).1)⟩
                    rw [intsV_succ]
                    exact own_last hown3 (by omega)
                  case measure => simp [intOf]; omega
            · go_wp2
              go_roundw
              case rel =>
                obtain rfl : i = a.size := by omega
                exact ⟨j + 1, by go_num, by omega, own_base hown2 hb0, hbel.trans (hbel2.mono hb0)⟩
              case measure => simp [intOf]; omega
        · go_wp2
          go_ret
          obtain rfl : j = b.size := by omega
          exact ⟨_, rfl, hown, hbel⟩
set_option maxRecDepth 100000 in
theorem rEdits_any (a b : ByteArray) (most : Int) (w : World) (ha : a.size ≤ 1048576) (hb : b.size ≤ 1048576) (h0 : -9223372036854775808 ≤ most) (h1 : most ≤ 9223372036854775807) :
    Calls Tryd.prog 48 #[.string a, .string b, .int .i64 most] w fun e w' => e = .returned (.int .i64 (edI a b most)) ∧ Below w.heap.size w w' := by
  have hlev := lt_all a.data.toList b.data.toList
  rw [show a.data.toList.length = a.size by simp, show b.data.toList.length = b.size by simp] at hlev
  have hm := lev_max a b
  have HL := Lib.hid hlev
  clear hlev
  go_enter Tryd.func48, Tryd.ntmps48
  go_wp2_with fail
  refine (redits_any a b _ ha hb).mono ?_
  rintro e w' ⟨v, rfl, hown, hbel⟩
  obtain ⟨g, co, rfl, _, _, _, _, hcells⟩ := hown.pos (by rw [intsV_length]; omega)
  rw [intsV_length]
  have hc := hcells a.size _ (intsV_get _ _ _ (by omega))
  rw [HL.out] at hc
  clear hcells
  go_wp2
  · go_ret
    exact ⟨ret_int (by unfold edI; omega), hbel⟩
  · go_ret
    exact ⟨ret_int (by unfold edI; omega), hbel⟩
end Go.Proofs.YtejmjjgbbojfbaaDoor
