/- Merged: PostR, ErrEq, NumE, Sent7. -/
import Derived.Test.YthnpbfadblcicaaDoorZG3
import Derived.Test.YthnpbfadblcicaaDoorZG7
import Derived.Test.YthnpbfadblcicaaDoorZG1
import Derived.LaidEql
/- posts, plain: a block read; what is read makes the same bytes again, and what is made is read. No program occurs here. -/
namespace Go.Proofs.YthnpbfadblcicaaDoor
set_option linter.unusedVariables false

/-- The postings behind the two lists. -/
def unpP : Int → List Nat → List Nat → List UInt8 → Option (List PostV × List UInt8)
  | _, [], _, l => some ([], l)
  | _, _ :: _, [], l => some ([], l)
  | base, d :: ds, f :: fs, l =>
    if 2147483647 - base - 1 ≤ (d : Int) ∨ l.length ≤ f then none
    else match getR (f + 1) (-1) l with
      | .error _ => none
      | .ok (pos, j) => match unpP (base + d + 1) ds fs (l.drop j) with
        | none => none
        | some (ps, l') => some (⟨base + d + 1, pos⟩ :: ps, l')
def unpV (base : Int) (n : Nat) (l : List UInt8) : Option (List PostV) := match getPk 16 l with
  | .error _ => none
  | .ok (ds, j) => if ds.length ≠ n then none else match getPk 16 (l.drop j) with
    | .error _ => none
    | .ok (fs, j2) => if fs.length ≠ n then none else match unpP base ds fs ((l.drop j).drop j2) with
      | none => none
      | some (ps, l') => if l' = [] then some ps else none
theorem goodV_mk {last : Int} {p : PostV} (h0 : 0 ≤ p.doc) (h1 : p.doc < 2147483647) (h2 : last < p.doc) (h3 : p.pos ≠ []) (h4 : asc (-1) p.pos) : goodV last p = 0 := by
  unfold goodV
  rw [if_neg (by omega), if_neg (by omega), if_neg h3, if_neg (by rw [asc_neg h4]; decide), if_pos ((risesB_iff _).2 (asc_rises h4))]
theorem okV_mk {last : Int} {p : PostV} {r : List PostV} (h : goodV last p = 0) (h2 : okV p.doc r) : okV last (p :: r) := by
  unfold okV checkV
  rw [if_pos h]; exact h2
theorem okV_join : ∀ {last : Int} {a b : List PostV}, okV last a → okV (lastV last a) b → okV last (a ++ b)
  | last, [], b, _, h => h
  | last, p :: r, b, h, h2 => by
    obtain ⟨h3, h4⟩ := okV_cons h
    exact okV_mk h3 (okV_join h4 h2)
theorem unpP_form : ∀ (ds fs : List Nat) (base : Int) (l : List UInt8) (ps : List PostV) (l' : List UInt8), -1 ≤ base → ds.length = fs.length → unpP base ds fs l = some (ps, l') →
    okV base ps ∧ gapsD base ps = ds ∧ freqV ps = fs ∧ tailV ps ++ l' = l ∧ ∀ p ∈ ps, asc (-1) p.pos
  | [], [], base, l, ps, l', hb, hl, h => by
    rw [unpP] at h
    injection h with h
    injection h with h1 h2
    subst h1 h2
    exact ⟨rfl, rfl, rfl, rfl, fun p hp => by cases hp⟩
  | [], _ :: _, _, _, _, _, _, hl, _ => by simp at hl
  | _ :: _, [], _, _, _, _, _, hl, _ => by simp at hl
  | d :: ds, f :: fs, base, l, ps, l', hb, hl, h => by
    rw [unpP] at h
    split at h
    · cases h
    · next hc =>
      cases hr : getR (f + 1) (-1) l with
      | error e => rw [hr] at h; cases h
      | ok y =>
        obtain ⟨pos, j⟩ := y
        rw [hr] at h
        simp only at h
        cases hu : unpP (base + d + 1) ds fs (l.drop j) with
        | none => rw [hu] at h; cases h
        | some y =>
          obtain ⟨ps', l2⟩ := y
          rw [hu] at h
          injection h with h
          injection h with h1 h2
          subst h1 h2
          obtain ⟨i1, i2, i3, i4, i5⟩ := unpP_form ds fs (base + d + 1) (l.drop j) ps' l2 (by omega) (by simpa using hl) hu
          obtain ⟨g1, g2, g3, g4⟩ := getR_form (f + 1) (-1) l pos j (by omega) hr
          have hne : pos ≠ [] := fun e => by rw [e] at g3; simp at g3
          refine ⟨okV_mk (goodV_mk (by show 0 ≤ base + d + 1; omega) (by show base + d + 1 < _; omega) (by show base < base + d + 1; omega) hne g4) i1, ?_, ?_, ?_, ?_⟩
          · rw [gapsD, i2]
            simp only
            rw [show (base + (d : Int) + 1 - base - 1).toNat = d by omega]
          · unfold freqV at i3 ⊢
            rw [List.map_cons, i3]
            simp only
            rw [g3, Nat.add_sub_cancel]
          · unfold tailV at i4 ⊢
            rw [List.flatMap_cons, List.append_assoc, i4, ← g1, List.take_append_drop]
          · intro p hp
            rcases List.mem_cons.1 hp with rfl | hp
            · exact g4
            · exact i5 p hp
theorem gapsB_ge : ∀ (last : Int) (l : List Int), l.length ≤ (gapsB last l).length
  | _, [] => Nat.zero_le _
  | last, z :: r => by
    have h := gapsB_ge z r
    have h1 : 0 < (uvar (z - last - 1).toNat).length := List.length_pos_iff.2 (uvar_ne _)
    rw [gapsB, List.length_append, List.length_cons]; omega
theorem okP_asc {last : Int} {p : PostV} (h : goodV last p = 0) (hf : FitL p.pos) : asc (-1) p.pos := by
  obtain ⟨_, _, _, _, h5, h6⟩ := goodV_ok h
  exact asc_neg1 h5 h6 hf
theorem unpP_of : ∀ (ps : List PostV) (base : Int) (t : List UInt8), -1 ≤ base → okV base ps → FitP ps → unpP base (gapsD base ps) (freqV ps) (tailV ps ++ t) = some (ps, t)
  | [], base, t, _, _, _ => rfl
  | p :: r, base, t, hb, ok, hf => by
    obtain ⟨h1, h2⟩ := okV_cons ok
    obtain ⟨g1, g2, g3, g4, g5, g6⟩ := goodV_ok h1
    have hfp := hf p (List.mem_cons_self ..)
    have ha := okP_asc h1 hfp.2.1
    have ih := unpP_of r p.doc t (by omega) h2 (fun q hq => hf q (List.mem_cons_of_mem _ hq))
    have hpl : 0 < p.pos.length := List.length_pos_iff.2 g4
    have hge := gapsB_ge (-1) p.pos
    have hr := gp_r p.pos (-1) (tailV r ++ t) (by omega) ha
    rw [gapsD, show freqV (p :: r) = (p.pos.length - 1) :: freqV r from rfl, show tailV (p :: r) = gapsB (-1) p.pos ++ tailV r from rfl, unpP, List.append_assoc, if_neg, show p.pos.length - 1 + 1 = p.pos.length by omega, hr]
    · simp only
      rw [List.drop_left, show base + ((p.doc - base - 1).toNat : Nat) + 1 = p.doc by omega, ih]
    · rintro (h | h)
      · omega
      · rw [List.length_append] at h; omega
theorem gp_pk16 {l : List Nat} (hf : ∀ x ∈ l, x < 2 ^ 63) (hl : l.length ≤ 16) (t : List UInt8) : getPk 16 (pckB l ++ t) = .ok (l, (pckB l).length) := by
  unfold getPk pckB
  rw [List.append_assoc, gp_upto _ _ (by omega) (by omega)]
  simp only [List.drop_left]
  by_cases h0 : l = []
  · subst h0; simp
  · rw [if_neg (by intro h; exact h0 (List.eq_nil_of_length_eq_zero h)), if_neg h0, gp_pb h0 hf (fun _ => by omega) t]
    simp only [List.length_append]
theorem unpV_of {base : Int} {ps : List PostV} (hb : -1 ≤ base) (ok : okV base ps) (hf : FitP ps) (hl : ps.length ≤ 16) : unpV base ps.length (blockB base ps) = some ps := by
  unfold unpV blockB
  rw [gp_pk16 (gapsD_fits ok hb) (by rw [gapsD_length]; exact hl)]
  simp only
  rw [gapsD_length, if_neg (by simp), List.drop_left, gp_pk16 (freqV_fits hf) (by rw [freqV_length]; exact hl)]
  simp only
  rw [freqV_length, if_neg (by simp), List.drop_left]
  have := unpP_of ps base [] hb ok hf
  rw [List.append_nil] at this
  rw [this]
  rfl
theorem unpV_form {base : Int} {n : Nat} {l : List UInt8} {ps : List PostV} (hb : -1 ≤ base) (h : unpV base n l = some ps) : okV base ps ∧ blockB base ps = l ∧ ps.length = n ∧ ∀ p ∈ ps, asc (-1) p.pos := by
  unfold unpV at h
  cases h1 : getPk 16 l with
  | error e => rw [h1] at h; cases h
  | ok y =>
    obtain ⟨ds, j⟩ := y
    rw [h1] at h
    simp only at h
    split at h
    · cases h
    · next hd =>
      cases h2 : getPk 16 (l.drop j) with
      | error e => rw [h2] at h; cases h
      | ok y =>
        obtain ⟨fs, j2⟩ := y
        rw [h2] at h
        simp only at h
        split at h
        · cases h
        · next hd2 =>
          cases h3 : unpP base ds fs ((l.drop j).drop j2) with
          | none => rw [h3] at h; cases h
          | some y =>
            obtain ⟨ps', l'⟩ := y
            rw [h3] at h
            simp only at h
            split at h
            · next hl' =>
              injection h with h
              subst h hl'
              have hd := Decidable.not_not.1 hd
              have hd2 := Decidable.not_not.1 hd2
              obtain ⟨i1, i2, i3, i4, i5⟩ := unpP_form ds fs base _ ps' [] hb (hd.trans hd2.symm) h3
              refine ⟨i1, ?_, ?_, i5⟩
              · unfold blockB
                rw [i2, i3, ← (pk_form h1).1, ← (pk_form h2).1, show tailV ps' = (l.drop j).drop j2 by rw [← i4, List.append_nil], List.take_append_drop, List.take_append_drop]
              · rw [← hd, ← i2, gapsD_length]
            · cases h
theorem blockB_ge {base : Int} {l : List PostV} (ok : okV base l) : totalV l ≤ (blockB base l).length ∧ 2 ≤ (blockB base l).length := by
  have h1 : ∀ m : List Nat, 1 ≤ (pckB m).length := fun m => by
    unfold pckB
    have : 0 < (uvar m.length).length := List.length_pos_iff.2 (uvar_ne _)
    rw [List.length_append]; omega
  have h2 : totalV l ≤ (tailV l).length := by
    clear ok
    induction l with
    | nil => simp [totalV]
    | cons p r ih =>
      have := gapsB_ge (-1) p.pos
      unfold totalV tailV at ih ⊢
      rw [List.map_cons, List.sum_cons, List.flatMap_cons, List.length_append]
      omega
  unfold blockB
  have h3 := h1 (gapsD base l)
  have h4 := h1 (freqV l)
  rw [List.length_append, List.length_append]
  omega
end Go.Proofs.YthnpbfadblcicaaDoor

/- Two errors, compared. -/
namespace Go.Proofs.YthnpbfadblcicaaDoor
set_option linter.unusedVariables false
open Go.ChangeShapes Go.WideShapes Go.ChangeAt Go.RowKit

theorem errComp : (Tryd.prog.info? 137).map (·.comparable) = some true := by kernel_rfl
theorem errSize : (Tryd.prog.info? 153).map (fun j => decide (j.size ≠ 0)) = some true := by kernel_rfl
theorem err_same (a : Addr) (w : World) : (binOp .eql 26 (.iface 137 (.pointer (some a))) (.iface 137 (.pointer (some a)))).run Tryd.prog w = .ok (.bool true) w := by
  obtain ⟨i, hi, hcmp⟩ := Option.map_eq_some_iff.1 errComp
  obtain ⟨j, hj, hjs⟩ := Option.map_eq_some_iff.1 errSize
  exact run_eql_iface_ptr_same (P := Tryd.prog) w a Tryd.underlying26 Tryd.underlying137 hi hcmp hj
end Go.Proofs.YthnpbfadblcicaaDoor

/- concordnum.Num: the number of an error (printed by wip/gen_nume.py). -/
namespace Go.Proofs.YthnpbfadblcicaaDoor
set_option linter.unusedVariables false
open Go.ChangeShapes Go.WideShapes Go.ChangeAt Go.RowKit

/-- The sentinels of the first numbers: where each variable lies, and that they differ. -/
structure Sent (w : World) (EA : Nat → Addr) : Prop where
  c1 : w.cell? ⟨0, 0, none⟩ = some (errV EA 1)
  c2 : w.cell? ⟨1, 0, none⟩ = some (errV EA 2)
  c3 : w.cell? ⟨2, 0, none⟩ = some (errV EA 3)
  c4 : w.cell? ⟨3, 0, none⟩ = some (errV EA 4)
  c5 : w.cell? ⟨4, 0, none⟩ = some (errV EA 5)
  c6 : w.cell? ⟨5, 0, none⟩ = some (errV EA 6)
  c7 : w.cell? ⟨6, 0, none⟩ = some (errV EA 7)
  c8 : w.cell? ⟨7, 0, none⟩ = some (errV EA 8)
  c9 : w.cell? ⟨8, 0, none⟩ = some (errV EA 9)
  c10 : w.cell? ⟨9, 0, none⟩ = some (errV EA 10)
  c11 : w.cell? ⟨10, 0, none⟩ = some (errV EA 11)
  c12 : w.cell? ⟨11, 0, none⟩ = some (errV EA 12)
  c13 : w.cell? ⟨12, 0, none⟩ = some (errV EA 13)
  c14 : w.cell? ⟨13, 0, none⟩ = some (errV EA 14)
  c15 : w.cell? ⟨14, 0, none⟩ = some (errV EA 15)
  c16 : w.cell? ⟨15, 0, none⟩ = some (errV EA 16)
  c17 : w.cell? ⟨16, 0, none⟩ = some (errV EA 17)
  c18 : w.cell? ⟨17, 0, none⟩ = some (errV EA 18)
  c19 : w.cell? ⟨18, 0, none⟩ = some (errV EA 19)
  c20 : w.cell? ⟨19, 0, none⟩ = some (errV EA 20)
  c21 : w.cell? ⟨20, 0, none⟩ = some (errV EA 21)
  c22 : w.cell? ⟨21, 0, none⟩ = some (errV EA 22)
  c23 : w.cell? ⟨22, 0, none⟩ = some (errV EA 23)
  c24 : w.cell? ⟨23, 0, none⟩ = some (errV EA 24)
  blk : ∀ k, 1 ≤ k → k ≤ 24 → ∃ c t, w.heap[(EA k).block]? = some (.cells c t (0, 0))
  ne : ∀ i j, 1 ≤ i → i ≤ 24 → 1 ≤ j → j ≤ 24 → i ≠ j → EA i ≠ EA j
theorem Sent.below {w w' : World} {EA : Nat → Addr} (h : Sent w EA) (hb : Below w.heap.size w w') : Sent w' EA where
  c1 := by rw [hb.cell (World.block_lt_of_cell? w _ h.c1)]; exact h.c1
  c2 := by rw [hb.cell (World.block_lt_of_cell? w _ h.c2)]; exact h.c2
  c3 := by rw [hb.cell (World.block_lt_of_cell? w _ h.c3)]; exact h.c3
  c4 := by rw [hb.cell (World.block_lt_of_cell? w _ h.c4)]; exact h.c4
  c5 := by rw [hb.cell (World.block_lt_of_cell? w _ h.c5)]; exact h.c5
  c6 := by rw [hb.cell (World.block_lt_of_cell? w _ h.c6)]; exact h.c6
  c7 := by rw [hb.cell (World.block_lt_of_cell? w _ h.c7)]; exact h.c7
  c8 := by rw [hb.cell (World.block_lt_of_cell? w _ h.c8)]; exact h.c8
  c9 := by rw [hb.cell (World.block_lt_of_cell? w _ h.c9)]; exact h.c9
  c10 := by rw [hb.cell (World.block_lt_of_cell? w _ h.c10)]; exact h.c10
  c11 := by rw [hb.cell (World.block_lt_of_cell? w _ h.c11)]; exact h.c11
  c12 := by rw [hb.cell (World.block_lt_of_cell? w _ h.c12)]; exact h.c12
  c13 := by rw [hb.cell (World.block_lt_of_cell? w _ h.c13)]; exact h.c13
  c14 := by rw [hb.cell (World.block_lt_of_cell? w _ h.c14)]; exact h.c14
  c15 := by rw [hb.cell (World.block_lt_of_cell? w _ h.c15)]; exact h.c15
  c16 := by rw [hb.cell (World.block_lt_of_cell? w _ h.c16)]; exact h.c16
  c17 := by rw [hb.cell (World.block_lt_of_cell? w _ h.c17)]; exact h.c17
  c18 := by rw [hb.cell (World.block_lt_of_cell? w _ h.c18)]; exact h.c18
  c19 := by rw [hb.cell (World.block_lt_of_cell? w _ h.c19)]; exact h.c19
  c20 := by rw [hb.cell (World.block_lt_of_cell? w _ h.c20)]; exact h.c20
  c21 := by rw [hb.cell (World.block_lt_of_cell? w _ h.c21)]; exact h.c21
  c22 := by rw [hb.cell (World.block_lt_of_cell? w _ h.c22)]; exact h.c22
  c23 := by rw [hb.cell (World.block_lt_of_cell? w _ h.c23)]; exact h.c23
  c24 := by rw [hb.cell (World.block_lt_of_cell? w _ h.c24)]; exact h.c24
  blk := fun k h1 h2 => by
    obtain ⟨c, t, hc⟩ := h.blk k h1 h2
    exact ⟨c, t, (hb.block _ (lt_of_heap hc)).trans hc⟩
  ne := h.ne
theorem Sent.diff {w : World} {EA : Nat → Addr} (h : Sent w EA) {i j : Nat} (hi : 1 ≤ i ∧ i ≤ 24) (hj : 1 ≤ j ∧ j ≤ 24) (hij : i ≠ j) :
    (binOp .eql 26 (.iface 137 (.pointer (some (EA i)))) (.iface 137 (.pointer (some (EA j))))).run Tryd.prog w = .ok (.bool false) w := by
  obtain ⟨i', hi', hcmp⟩ := Option.map_eq_some_iff.1 errComp
  obtain ⟨j', hj', hjs⟩ := Option.map_eq_some_iff.1 errSize
  obtain ⟨ca, ta, ha⟩ := h.blk i hi.1 hi.2
  obtain ⟨cb, tb, hb⟩ := h.blk j hj.1 hj.2
  exact run_eql_iface_ptr_other (P := Tryd.prog) w Tryd.underlying26 Tryd.underlying137 hi' hcmp hj' (of_decide_eq_true hjs) (h.ne i j hi.1 hi.2 hj.1 hj.2 hij) ha hb
set_option maxRecDepth 100000 in
theorem num_nil (w : World) : Calls Tryd.prog 12 #[.nilIface] w fun e w' => e = .returned (.int .i64 0) ∧ w = w' := by
  go_enter Tryd.func12, Tryd.ntmps12
  go_wp2
  go_ret
  exact ⟨rfl, rfl⟩
set_option maxRecDepth 100000 in
set_option maxHeartbeats 1000000 in
theorem num_Range (w : World) (EA : Nat → Addr) (h : Sent w EA) : Calls Tryd.prog 12 #[errV EA 8] w fun e w' => e = .returned (.int .i64 8) ∧ w = w' := by
  have k1 := h.c1
  have k2 := h.c2
  have k3 := h.c3
  have k4 := h.c4
  have k5 := h.c5
  have k6 := h.c6
  have k7 := h.c7
  have k8 := h.c8
  have q1 := h.diff (i := 8) (j := 1) (by decide) (by decide) (by decide)
  have q2 := h.diff (i := 8) (j := 2) (by decide) (by decide) (by decide)
  have q3 := h.diff (i := 8) (j := 3) (by decide) (by decide) (by decide)
  have q4 := h.diff (i := 8) (j := 4) (by decide) (by decide) (by decide)
  have q5 := h.diff (i := 8) (j := 5) (by decide) (by decide) (by decide)
  have q6 := h.diff (i := 8) (j := 6) (by decide) (by decide) (by decide)
  have q7 := h.diff (i := 8) (j := 7) (by decide) (by decide) (by decide)
  have q8 := err_same (EA 8) w
  unfold errV at *
  clear h
  go_enter Tryd.func12, Tryd.ntmps12
  go_wp2
  go_ret
  exact ⟨rfl, rfl⟩
set_option maxRecDepth 100000 in
set_option maxHeartbeats 1000000 in
theorem num_Pattern (w : World) (EA : Nat → Addr) (h : Sent w EA) : Calls Tryd.prog 12 #[errV EA 14] w fun e w' => e = .returned (.int .i64 14) ∧ w = w' := by
  have k1 := h.c1
  have k2 := h.c2
  have k3 := h.c3
  have k4 := h.c4
  have k5 := h.c5
  have k6 := h.c6
  have k7 := h.c7
  have k8 := h.c8
  have k9 := h.c9
  have k10 := h.c10
  have k11 := h.c11
  have k12 := h.c12
  have k13 := h.c13
  have k14 := h.c14
  have q1 := h.diff (i := 14) (j := 1) (by decide) (by decide) (by decide)
  have q2 := h.diff (i := 14) (j := 2) (by decide) (by decide) (by decide)
  have q3 := h.diff (i := 14) (j := 3) (by decide) (by decide) (by decide)
  have q4 := h.diff (i := 14) (j := 4) (by decide) (by decide) (by decide)
  have q5 := h.diff (i := 14) (j := 5) (by decide) (by decide) (by decide)
  have q6 := h.diff (i := 14) (j := 6) (by decide) (by decide) (by decide)
  have q7 := h.diff (i := 14) (j := 7) (by decide) (by decide) (by decide)
  have q8 := h.diff (i := 14) (j := 8) (by decide) (by decide) (by decide)
  have q9 := h.diff (i := 14) (j := 9) (by decide) (by decide) (by decide)
  have q10 := h.diff (i := 14) (j := 10) (by decide) (by decide) (by decide)
  have q11 := h.diff (i := 14) (j := 11) (by decide) (by decide) (by decide)
  have q12 := h.diff (i := 14) (j := 12) (by decide) (by decide) (by decide)
  have q13 := h.diff (i := 14) (j := 13) (by decide) (by decide) (by decide)
  have q14 := err_same (EA 14) w
  unfold errV at *
  clear h
  go_enter Tryd.func12, Tryd.ntmps12
  go_wp2
  go_ret
  exact ⟨rfl, rfl⟩
set_option maxRecDepth 100000 in
set_option maxHeartbeats 1000000 in
theorem num_States (w : World) (EA : Nat → Addr) (h : Sent w EA) : Calls Tryd.prog 12 #[errV EA 15] w fun e w' => e = .returned (.int .i64 15) ∧ w = w' := by
  have k1 := h.c1
  have k2 := h.c2
  have k3 := h.c3
  have k4 := h.c4
  have k5 := h.c5
  have k6 := h.c6
  have k7 := h.c7
  have k8 := h.c8
  have k9 := h.c9
  have k10 := h.c10
  have k11 := h.c11
  have k12 := h.c12
  have k13 := h.c13
  have k14 := h.c14
  have k15 := h.c15
  have q1 := h.diff (i := 15) (j := 1) (by decide) (by decide) (by decide)
  have q2 := h.diff (i := 15) (j := 2) (by decide) (by decide) (by decide)
  have q3 := h.diff (i := 15) (j := 3) (by decide) (by decide) (by decide)
  have q4 := h.diff (i := 15) (j := 4) (by decide) (by decide) (by decide)
  have q5 := h.diff (i := 15) (j := 5) (by decide) (by decide) (by decide)
  have q6 := h.diff (i := 15) (j := 6) (by decide) (by decide) (by decide)
  have q7 := h.diff (i := 15) (j := 7) (by decide) (by decide) (by decide)
  have q8 := h.diff (i := 15) (j := 8) (by decide) (by decide) (by decide)
  have q9 := h.diff (i := 15) (j := 9) (by decide) (by decide) (by decide)
  have q10 := h.diff (i := 15) (j := 10) (by decide) (by decide) (by decide)
  have q11 := h.diff (i := 15) (j := 11) (by decide) (by decide) (by decide)
  have q12 := h.diff (i := 15) (j := 12) (by decide) (by decide) (by decide)
  have q13 := h.diff (i := 15) (j := 13) (by decide) (by decide) (by decide)
  have q14 := h.diff (i := 15) (j := 14) (by decide) (by decide) (by decide)
  have q15 := err_same (EA 15) w
  unfold errV at *
  clear h
  go_enter Tryd.func12, Tryd.ntmps12
  go_wp2
  go_ret
  exact ⟨rfl, rfl⟩
set_option maxRecDepth 100000 in
set_option maxHeartbeats 1000000 in
theorem num_Order (w : World) (EA : Nat → Addr) (h : Sent w EA) : Calls Tryd.prog 12 #[errV EA 4] w fun e w' => e = .returned (.int .i64 4) ∧ w = w' := by
  have k1 := h.c1
  have k2 := h.c2
  have k3 := h.c3
  have k4 := h.c4
  have q1 := h.diff (i := 4) (j := 1) (by decide) (by decide) (by decide)
  have q2 := h.diff (i := 4) (j := 2) (by decide) (by decide) (by decide)
  have q3 := h.diff (i := 4) (j := 3) (by decide) (by decide) (by decide)
  have q4 := err_same (EA 4) w
  unfold errV at *
  clear h
  go_enter Tryd.func12, Tryd.ntmps12
  go_wp2
  go_ret
  exact ⟨rfl, rfl⟩
set_option maxRecDepth 100000 in
set_option maxHeartbeats 1000000 in
theorem num_Limit (w : World) (EA : Nat → Addr) (h : Sent w EA) : Calls Tryd.prog 12 #[errV EA 3] w fun e w' => e = .returned (.int .i64 3) ∧ w = w' := by
  have k1 := h.c1
  have k2 := h.c2
  have k3 := h.c3
  have q1 := h.diff (i := 3) (j := 1) (by decide) (by decide) (by decide)
  have q2 := h.diff (i := 3) (j := 2) (by decide) (by decide) (by decide)
  have q3 := err_same (EA 3) w
  unfold errV at *
  clear h
  go_enter Tryd.func12, Tryd.ntmps12
  go_wp2
  go_ret
  exact ⟨rfl, rfl⟩
set_option maxRecDepth 100000 in
set_option maxHeartbeats 1000000 in
theorem num_Corrupt (w : World) (EA : Nat → Addr) (h : Sent w EA) : Calls Tryd.prog 12 #[errV EA 10] w fun e w' => e = .returned (.int .i64 10) ∧ w = w' := by
  have k1 := h.c1
  have k2 := h.c2
  have k3 := h.c3
  have k4 := h.c4
  have k5 := h.c5
  have k6 := h.c6
  have k7 := h.c7
  have k8 := h.c8
  have k9 := h.c9
  have k10 := h.c10
  have q1 := h.diff (i := 10) (j := 1) (by decide) (by decide) (by decide)
  have q2 := h.diff (i := 10) (j := 2) (by decide) (by decide) (by decide)
  have q3 := h.diff (i := 10) (j := 3) (by decide) (by decide) (by decide)
  have q4 := h.diff (i := 10) (j := 4) (by decide) (by decide) (by decide)
  have q5 := h.diff (i := 10) (j := 5) (by decide) (by decide) (by decide)
  have q6 := h.diff (i := 10) (j := 6) (by decide) (by decide) (by decide)
  have q7 := h.diff (i := 10) (j := 7) (by decide) (by decide) (by decide)
  have q8 := h.diff (i := 10) (j := 8) (by decide) (by decide) (by decide)
  have q9 := h.diff (i := 10) (j := 9) (by decide) (by decide) (by decide)
  have q10 := err_same (EA 10) w
  unfold errV at *
  clear h
  go_enter Tryd.func12, Tryd.ntmps12
  go_wp2
  go_ret
  exact ⟨rfl, rfl⟩
set_option maxRecDepth 100000 in
set_option maxHeartbeats 1000000 in
theorem num_Short (w : World) (EA : Nat → Addr) (h : Sent w EA) : Calls Tryd.prog 12 #[errV EA 1] w fun e w' => e = .returned (.int .i64 1) ∧ w = w' := by
  have k1 := h.c1
  have q1 := err_same (EA 1) w
  unfold errV at *
  clear h
  go_enter Tryd.func12, Tryd.ntmps12
  go_wp2
  go_ret
  exact ⟨rfl, rfl⟩
set_option maxRecDepth 100000 in
set_option maxHeartbeats 1000000 in
theorem num_Varint (w : World) (EA : Nat → Addr) (h : Sent w EA) : Calls Tryd.prog 12 #[errV EA 2] w fun e w' => e = .returned (.int .i64 2) ∧ w = w' := by
  have k1 := h.c1
  have k2 := h.c2
  have q1 := h.diff (i := 2) (j := 1) (by decide) (by decide) (by decide)
  have q2 := err_same (EA 2) w
  unfold errV at *
  clear h
  go_enter Tryd.func12, Tryd.ntmps12
  go_wp2
  go_ret
  exact ⟨rfl, rfl⟩
set_option maxRecDepth 100000 in
set_option maxHeartbeats 1000000 in
theorem num_Tail (w : World) (EA : Nat → Addr) (h : Sent w EA) : Calls Tryd.prog 12 #[errV EA 5] w fun e w' => e = .returned (.int .i64 5) ∧ w = w' := by
  have k1 := h.c1
  have k2 := h.c2
  have k3 := h.c3
  have k4 := h.c4
  have k5 := h.c5
  have q1 := h.diff (i := 5) (j := 1) (by decide) (by decide) (by decide)
  have q2 := h.diff (i := 5) (j := 2) (by decide) (by decide) (by decide)
  have q3 := h.diff (i := 5) (j := 3) (by decide) (by decide) (by decide)
  have q4 := h.diff (i := 5) (j := 4) (by decide) (by decide) (by decide)
  have q5 := err_same (EA 5) w
  unfold errV at *
  clear h
  go_enter Tryd.func12, Tryd.ntmps12
  go_wp2
  go_ret
  exact ⟨rfl, rfl⟩
end Go.Proofs.YthnpbfadblcicaaDoor

/- The seven sentinels that the rows without Num lay. -/
namespace Go.Proofs.YthnpbfadblcicaaDoor
set_option linter.unusedVariables false
open Go.ChangeShapes Go.WideShapes Go.ChangeAt Go.RowKit

/-- Without the range's: three of cursor's rows lay these alone. -/
structure Sent6 (w : World) (EA : Nat → Addr) : Prop where
  c1 : w.cell? ⟨0, 0, none⟩ = some (errV EA 1)
  c2 : w.cell? ⟨1, 0, none⟩ = some (errV EA 2)
  c3 : w.cell? ⟨2, 0, none⟩ = some (errV EA 3)
  c4 : w.cell? ⟨3, 0, none⟩ = some (errV EA 4)
  c5 : w.cell? ⟨4, 0, none⟩ = some (errV EA 5)
  c10 : w.cell? ⟨9, 0, none⟩ = some (errV EA 10)
theorem Sent6.below {w w' : World} {EA : Nat → Addr} (h : Sent6 w EA) (hb : Below w.heap.size w w') : Sent6 w' EA where
  c1 := by rw [hb.cell (World.block_lt_of_cell? w _ h.c1)]; exact h.c1
  c2 := by rw [hb.cell (World.block_lt_of_cell? w _ h.c2)]; exact h.c2
  c3 := by rw [hb.cell (World.block_lt_of_cell? w _ h.c3)]; exact h.c3
  c4 := by rw [hb.cell (World.block_lt_of_cell? w _ h.c4)]; exact h.c4
  c5 := by rw [hb.cell (World.block_lt_of_cell? w _ h.c5)]; exact h.c5
  c10 := by rw [hb.cell (World.block_lt_of_cell? w _ h.c10)]; exact h.c10
structure Sent7 (w : World) (EA : Nat → Addr) : Prop where
  s6 : Sent6 w EA
  c8 : w.cell? ⟨7, 0, none⟩ = some (errV EA 8)
theorem Sent7.below {w w' : World} {EA : Nat → Addr} (h : Sent7 w EA) (hb : Below w.heap.size w w') : Sent7 w' EA where
  s6 := h.s6.below hb
  c8 := by rw [hb.cell (World.block_lt_of_cell? w _ h.c8)]; exact h.c8
theorem Sent.s7 {w : World} {EA : Nat → Addr} (h : Sent w EA) : Sent7 w EA := ⟨⟨h.c1, h.c2, h.c3, h.c4, h.c5, h.c10⟩, h.c8⟩
instance {w : World} {EA : Nat → Addr} : CoeOut (Sent w EA) (Sent7 w EA) := ⟨Sent.s7⟩
instance {w : World} {EA : Nat → Addr} : CoeOut (Sent7 w EA) (Sent6 w EA) := ⟨Sent7.s6⟩
end Go.Proofs.YthnpbfadblcicaaDoor
