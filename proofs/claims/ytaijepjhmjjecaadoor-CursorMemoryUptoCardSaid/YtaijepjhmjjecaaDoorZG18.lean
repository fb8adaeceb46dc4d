/- Merged: RUni, CurN, SearchS. -/
import Derived.Test.YtaijepjhmjjecaaDoorZG17
import Derived.Test.YtaijepjhmjjecaaDoorZG1
import Derived.BigQuiet
/- cursor: the document's union of two rising lists (printed by wip/gen_uni.py). -/
namespace Go.Proofs.YtaijepjhmjjecaaDoor
set_option linter.unusedVariables false
open Go.ChangeShapes Go.WideShapes Go.ChangeAt Go.RowKit

theorem elIL : Elem Tryd.prog 23 3 (.int .i64 0) 8 := ⟨Tryd.underlying23, by kernel_rfl, rfl, by decide⟩
theorem intL_snocL (l : List Int) (z : Int) : intL (l ++ [z]) = intL l ++ [.int .i64 z] := by rw [intL_append]; rfl
theorem rd_il {w : World} {a : Option Addr} {n c : Nat} {l : List Int} (h : Rd w (.slice a n c) (intL l)) : n = l.length ∧ (0 < l.length → ∃ b o, a = some ⟨b, o, none⟩ ∧ ∀ (j : Nat) (hj : j < l.length), w.cell? ⟨b, o + j, none⟩ = some (.int .i64 l[j])) := by
  obtain ⟨A, c', h, _, hg⟩ := h
  injection h with h1 h2 h3
  subst h1 h2 h3
  rw [intL_length] at hg ⊢
  refine ⟨rfl, fun h0 => ?_⟩
  obtain ⟨b, o, e, hg⟩ := hg h0
  exact ⟨b, o, e, fun j hj => hg j _ (intL_get l j hj)⟩
set_option maxRecDepth 100000 in
set_option maxHeartbeats 4000000 in
theorem uni_any (w : World) (a a2 : Option Addr) (n n2 c c2 : Nat) (A B : List Int) (hA : Rd w (.slice a n c) (intL A)) (hB : Rd w (.slice a2 n2 c2) (intL B)) (rA : Rise A) (rB : Rise B) (lA : A.length ≤ 100000000) (lB : B.length ≤ 100000000) :
    Calls Tryd.prog 40 #[.slice a n c, .slice a2 n2 c2] w fun e w' => ∃ v, e = .returned v ∧ Own w' w.heap.size 3 v (intL (riseOf (A ++ B))) ∧ Below w.heap.size w w' := by
  obtain rfl := (rd_il hA).1
  obtain rfl := (rd_il hB).1
  have HA := Lib.hid hA
  have HB := Lib.hid hB
  have RA := Lib.hid rA
  have RB := Lib.hid rB
  clear hA hB rA rB
  go_enter Tryd.func40, Tryd.ntmps40
  go_wp2
  go_loopw [5, 6, 7, 8] (fun s5 s6 s7 s8 wr => ∃ (i j : Nat) (out : List Int) (O : Option Addr) (N C : Nat) (t8 : Value), s5 = .slice O N C ∧ s6 = .int .i64 i ∧ s7 = .int .i64 j ∧ s8 = t8 ∧ RowKit.Hid (UniS A B i j out) ∧ i ≤ A.length ∧ j ≤ B.length ∧ out.length ≤ i + j ∧ RowKit.Hid (Own wr w.heap.size 3 (.slice O N C) (intL out)) ∧ RowKit.Hid (Below w.heap.size w wr)) (fun _ s6 s7 _ _ => A.length + B.length - ((intOf s6).toNat + (intOf s7).toNat))
  case atStart => exact ⟨0, 0, [], none, 0, 0, _, rfl, rfl, rfl, rfl, Lib.hid (UniS.start A B), Nat.zero_le _, Nat.zero_le _, Nat.zero_le _, Lib.hid (own_nil _ _ _), Lib.hid (Below.refl _ _)⟩
  case round =>
    obtain ⟨i, j, out, O, N, C, t8, rfl, rfl, rfl, rfl, HU, hi, hj, hol, HO, HB0⟩ := hrel
    by_cases hia : i < A.length
    · by_cases hjb : j < B.length
      · rcases Int.lt_trichotomy A[i] B[j] with hcmp | hcmp | hcmp
        · have hst := HU.out.left RA.out hia (fun _ => hcmp)
          obtain ⟨ba, oa, rfl, hca⟩ := (rd_il (HA.out.below HB0.out (Nat.le_refl _))).2 (by omega)
          have ca := hca i hia
          obtain ⟨bb, ob, rfl, hcb⟩ := (rd_il (HB.out.below HB0.out (Nat.le_refl _))).2 (by omega)
          have cb := hcb j hjb
          obtain ⟨p, hp⟩ : ∃ p, A[i] = p := ⟨_, rfl⟩
          rw [hp] at ca hst hcmp
          obtain ⟨q, hq⟩ : ∃ q, B[j] = q := ⟨_, rfl⟩
          rw [hq] at cb hcmp
          have t1 : decide (B.length ≤ j) = false := decide_eq_false (by omega)
          have t2 : decide (i < A.length) = true := decide_eq_true hia
          have t2b : decide (j < B.length) = true := decide_eq_true hjb
          have i1 : (i : Int) < (A.length : Int) := by omega
          have i2 : (j : Int) < (B.length : Int) := by omega
          have t3 : decide (p ≤ q) = true := decide_eq_true (by omega)
          have t4 : (q == p) = false := beq_false_of_ne (by omega)
          have HST := Lib.hid hst
          clear hst hca hp hcb hq
          go_wp2
          go_quiet (fail)
          have ho2 := HO.out.drewN nq
          have hb2 := below_drewN HB0.out nq
          have ca2 : (wr.drewN nq).cell? ⟨ba, oa + i, none⟩ = some (.int .i64 p) := ca
          have cb2 : (wr.drewN nq).cell? ⟨bb, ob + j, none⟩ = some (.int .i64 q) := cb
          generalize wr.drewN nq = W at ho2 hb2 ca2 cb2 ⊢
          clear ca cb HO HB0 HU
          have hll : (intL out).length < 1000000000000 := by rw [intL_length]; omega
          have hsz := hb2.size
          have HO2 := Lib.hid ho2
          have HB2 := Lib.hid hb2
          have HL2 := Lib.hid hll
          clear ho2 hb2 hll
          go_upto_region 12 with fail
          go_wp2_with (at_builtin; with_reducible refine ap1' elIL rfl HO2.out HL2.out hsz rfl _ _ rfl rfl rfl ?_)
          intro v5 w5 k1 k2 k3 k4
          have hb5 := HB2.out.grown k4 hsz (fun k hk => (HO2.out.lt k hk).1)
          rw [← intL_snocL] at k1
          obtain ⟨O5, N5, C5, rfl⟩ := own_sl k1
          have HO5 := Lib.hid k1
          have HB5 := Lib.hid hb5
          clear k1 k2 k3 k4 hb5 HO2 HB2 HL2 hsz
          go_wp2
          go_roundw
          case rel => exact ⟨i + 1, j, _, O5, N5, C5, _, rfl, by go_num, by go_num, rfl, HST, by omega, by omega, by rw [List.length_append, List.length_singleton]; omega, HO5, HB5⟩
          case measure => simp [intOf]; omega
        · have hst := HU.out.both RA.out RB.out hia hjb hcmp
          obtain ⟨ba, oa, rfl, hca⟩ := (rd_il (HA.out.below HB0.out (Nat.le_refl _))).2 (by omega)
          have ca := hca i hia
          obtain ⟨bb, ob, rfl, hcb⟩ := (rd_il (HB.out.below HB0.out (Nat.le_refl _))).2 (by omega)
          have cb := hcb j hjb
          obtain ⟨p, hp⟩ : ∃ p, A[i] = p := ⟨_, rfl⟩
          rw [hp] at ca hst hcmp
          obtain ⟨q, hq⟩ : ∃ q, B[j] = q := ⟨_, rfl⟩
          rw [hq] at cb hcmp
          have t1 : decide (B.length ≤ j) = false := decide_eq_false (by omega)
          have t2 : decide (i < A.length) = true := decide_eq_true hia
          have t2b : decide (j < B.length) = true := decide_eq_true hjb
          have i1 : (i : Int) < (A.length : Int) := by omega
          have i2 : (j : Int) < (B.length : Int) := by omega
          subst hcmp
          have t3 : decide (p ≤ p) = true := decide_eq_true (by omega)
          have HST := Lib.hid hst
          clear hst hca hp hcb hq
          go_wp2
          go_quiet (fail)
          have ho2 := HO.out.drewN nq
          have hb2 := below_drewN HB0.out nq
          have ca2 : (wr.drewN nq).cell? ⟨ba, oa + i, none⟩ = some (.int .i64 p) := ca
          have cb2 : (wr.drewN nq).cell? ⟨bb, ob + j, none⟩ = some (.int .i64 p) := cb
          generalize wr.drewN nq = W at ho2 hb2 ca2 cb2 ⊢
          clear ca cb HO HB0 HU
          have hll : (intL out).length < 1000000000000 := by rw [intL_length]; omega
          have hsz := hb2.size
          have HO2 := Lib.hid ho2
          have HB2 := Lib.hid hb2
          have HL2 := Lib.hid hll
          clear ho2 hb2 hll
          go_upto_region 12 with fail
          go_wp2_with (at_builtin; with_reducible refine ap1' elIL rfl HO2.out HL2.out hsz rfl _ _ rfl rfl rfl ?_)
          intro v5 w5 k1 k2 k3 k4
          have hb5 := HB2.out.grown k4 hsz (fun k hk => (HO2.out.lt k hk).1)
          rw [← intL_snocL] at k1
          obtain ⟨O5, N5, C5, rfl⟩ := own_sl k1
          have HO5 := Lib.hid k1
          have HB5 := Lib.hid hb5
          clear k1 k2 k3 k4 hb5 HO2 HB2 HL2 hsz
          go_wp2
          go_roundw
          case rel => exact ⟨i + 1, j + 1, _, O5, N5, C5, _, rfl, by go_num, by go_num, rfl, HST, by omega, by omega, by rw [List.length_append, List.length_singleton]; omega, HO5, HB5⟩
          case measure => simp [intOf]; omega
        · have hst := HU.out.right RB.out hjb (fun _ => hcmp)
          obtain ⟨ba, oa, rfl, hca⟩ := (rd_il (HA.out.below HB0.out (Nat.le_refl _))).2 (by omega)
          have ca := hca i hia
          obtain ⟨bb, ob, rfl, hcb⟩ := (rd_il (HB.out.below HB0.out (Nat.le_refl _))).2 (by omega)
          have cb := hcb j hjb
          obtain ⟨p, hp⟩ : ∃ p, A[i] = p := ⟨_, rfl⟩
          rw [hp] at ca hcmp
          obtain ⟨q, hq⟩ : ∃ q, B[j] = q := ⟨_, rfl⟩
          rw [hq] at cb hcmp hst
          have t1 : decide (B.length ≤ j) = false := decide_eq_false (by omega)
          have t2 : decide (i < A.length) = true := decide_eq_true hia
          have t2b : decide (j < B.length) = true := decide_eq_true hjb
          have i1 : (i : Int) < (A.length : Int) := by omega
          have i2 : (j : Int) < (B.length : Int) := by omega
          have t3 : decide (p ≤ q) = false := decide_eq_false (by omega)
          have t4 : (p == q) = false := beq_false_of_ne (by omega)
          have HST := Lib.hid hst
          clear hst hca hp hcb hq
          go_wp2
          go_quiet (fail)
          have ho2 := HO.out.drewN nq
          have hb2 := below_drewN HB0.out nq
          have ca2 : (wr.drewN nq).cell? ⟨ba, oa + i, none⟩ = some (.int .i64 p) := ca
          have cb2 : (wr.drewN nq).cell? ⟨bb, ob + j, none⟩ = some (.int .i64 q) := cb
          generalize wr.drewN nq = W at ho2 hb2 ca2 cb2 ⊢
          clear ca cb HO HB0 HU
          have hll : (intL out).length < 1000000000000 := by rw [intL_length]; omega
          have hsz := hb2.size
          have HO2 := Lib.hid ho2
          have HB2 := Lib.hid hb2
          have HL2 := Lib.hid hll
          clear ho2 hb2 hll
          go_upto_region 12 with fail
          go_wp2_with (at_builtin; with_reducible refine ap1' elIL rfl HO2.out HL2.out hsz rfl _ _ rfl rfl rfl ?_)
          intro v5 w5 k1 k2 k3 k4
          have hb5 := HB2.out.grown k4 hsz (fun k hk => (HO2.out.lt k hk).1)
          rw [← intL_snocL] at k1
          obtain ⟨O5, N5, C5, rfl⟩ := own_sl k1
          have HO5 := Lib.hid k1
          have HB5 := Lib.hid hb5
          clear k1 k2 k3 k4 hb5 HO2 HB2 HL2 hsz
          go_wp2
          go_roundw
          case rel => exact ⟨i, j + 1, _, O5, N5, C5, _, rfl, by go_num, by go_num, rfl, HST, by omega, by omega, by rw [List.length_append, List.length_singleton]; omega, HO5, HB5⟩
          case measure => simp [intOf]; omega
      · have hst := HU.out.left RA.out hia (fun h => absurd h hjb)
        obtain ⟨ba, oa, rfl, hca⟩ := (rd_il (HA.out.below HB0.out (Nat.le_refl _))).2 (by omega)
        have ca := hca i hia
        obtain ⟨p, hp⟩ : ∃ p, A[i] = p := ⟨_, rfl⟩
        rw [hp] at ca hst
        have t1 : decide (B.length ≤ j) = true := decide_eq_true (by omega)
        have t2 : decide (i < A.length) = true := decide_eq_true hia
        have t2b : decide (j < B.length) = false := decide_eq_false hjb
        have i1 : (i : Int) < (A.length : Int) := by omega
        have HST := Lib.hid hst
        clear hst hca hp
        go_wp2
        go_quiet (fail)
        have ho2 := HO.out.drewN nq
        have hb2 := below_drewN HB0.out nq
        have ca2 : (wr.drewN nq).cell? ⟨ba, oa + i, none⟩ = some (.int .i64 p) := ca
        generalize wr.drewN nq = W at ho2 hb2 ca2 ⊢
        clear ca HO HB0 HU
        have hll : (intL out).length < 1000000000000 := by rw [intL_length]; omega
        have hsz := hb2.size
        have HO2 := Lib.hid ho2
        have HB2 := Lib.hid hb2
        have HL2 := Lib.hid hll
        clear ho2 hb2 hll
        go_upto_region 12 with fail
        go_wp2_with (at_builtin; with_reducible refine ap1' elIL rfl HO2.out HL2.out hsz rfl _ _ rfl rfl rfl ?_)
        intro v5 w5 k1 k2 k3 k4
        have hb5 := HB2.out.grown k4 hsz (fun k hk => (HO2.out.lt k hk).1)
        rw [← intL_snocL] at k1
        obtain ⟨O5, N5, C5, rfl⟩ := own_sl k1
        have HO5 := Lib.hid k1
        have HB5 := Lib.hid hb5
        clear k1 k2 k3 k4 hb5 HO2 HB2 HL2 hsz
        go_wp2
        go_roundw
        case rel => exact ⟨i + 1, j, _, O5, N5, C5, _, rfl, by go_num, by go_num, rfl, HST, by omega, by omega, by rw [List.length_append, List.length_singleton]; omega, HO5, HB5⟩
        case measure => simp [intOf]; omega
    · by_cases hjb : j < B.length
      · have hst := HU.out.right RB.out hjb (fun h => absurd h hia)
        obtain ⟨bb, ob, rfl, hcb⟩ := (rd_il (HB.out.below HB0.out (Nat.le_refl _))).2 (by omega)
        have cb := hcb j hjb
        obtain ⟨q, hq⟩ : ∃ q, B[j] = q := ⟨_, rfl⟩
        rw [hq] at cb hst
        have t1 : decide (B.length ≤ j) = false := decide_eq_false (by omega)
        have t2 : decide (i < A.length) = false := decide_eq_false hia
        have t2b : decide (j < B.length) = true := decide_eq_true hjb
        have i2 : (j : Int) < (B.length : Int) := by omega
        have HST := Lib.hid hst
        clear hst hcb hq
        go_wp2
        go_quiet (fail)
        have ho2 := HO.out.drewN nq
        have hb2 := below_drewN HB0.out nq
        have cb2 : (wr.drewN nq).cell? ⟨bb, ob + j, none⟩ = some (.int .i64 q) := cb
        generalize wr.drewN nq = W at ho2 hb2 cb2 ⊢
        clear cb HO HB0 HU
        have hll : (intL out).length < 1000000000000 := by rw [intL_length]; omega
        have hsz := hb2.size
        have HO2 := Lib.hid ho2
        have HB2 := Lib.hid hb2
        have HL2 := Lib.hid hll
        clear ho2 hb2 hll
        go_upto_region 12 with fail
        go_wp2_with (at_builtin; with_reducible refine ap1' elIL rfl HO2.out HL2.out hsz rfl _ _ rfl rfl rfl ?_)
        intro v5 w5 k1 k2 k3 k4
        have hb5 := HB2.out.grown k4 hsz (fun k hk => (HO2.out.lt k hk).1)
        rw [← intL_snocL] at k1
        obtain ⟨O5, N5, C5, rfl⟩ := own_sl k1
        have HO5 := Lib.hid k1
        have HB5 := Lib.hid hb5
        clear k1 k2 k3 k4 hb5 HO2 HB2 HL2 hsz
        go_wp2
        go_roundw
        case rel => exact ⟨i, j + 1, _, O5, N5, C5, _, rfl, by go_num, by go_num, rfl, HST, by omega, by omega, by rw [List.length_append, List.length_singleton]; omega, HO5, HB5⟩
        case measure => simp [intOf]; omega
      · have t2 : decide (i < A.length) = false := decide_eq_false hia
        have t2b : decide (j < B.length) = false := decide_eq_false hjb
        have hfin := HU.out.fin hia hjb
        subst hfin
        clear HU
        go_wp2
        go_ret
        exact ⟨_, rfl, HO.out, HB0.out⟩
end Go.Proofs.YtaijepjhmjjecaaDoor

/- cursor: Next, Freq, Positions. -/
namespace Go.Proofs.YtaijepjhmjjecaaDoor
set_option linter.unusedVariables false
open Go.ChangeShapes Go.WideShapes Go.ChangeAt Go.RowKit

/-- The positions where a cursor stands. -/
def posU (ps : List PostV) (u : Nat) : List Int := if u = 0 then [] else if h : u - 1 < ps.length then ps[u - 1].pos else []
theorem posU_at {ps : List PostV} {p : Nat} (h : p < ps.length) : posU ps (p + 1) = ps[p].pos := by
  unfold posU; rw [if_neg (by omega)]; simp only [Nat.add_sub_cancel]; rw [dif_pos h]
theorem posU_out {ps : List PostV} {u : Nat} (h : u = 0 ∨ ps.length < u) : posU ps u = [] := by
  unfold posU
  split
  · rfl
  · rw [dif_neg (by omega)]
theorem docsC_q {w : World} {base q : Nat} {lp : Value} {ps : List PostV} {IM : List UInt8} {d : Int} {u mv : Nat} {told : Bool} {bk : Int} {rv : Value} (h : CurB w base q lp ps IM d u mv told bk rv) (n : Nat) (hn : n = ps.length) :
    ∀ e : Nat, Calls Tryd.prog 20 #[.pointer (some ⟨q, 0, none⟩)] (w.drewN e) fun e' w' => e' = .returned (.int .i64 (n : Nat)) ∧ w.drewN e = w' := fun e => by
  have h9 := docsC_any (w.drewN e) base q lp ps IM d u mv told bk rv (h.below (B := w.heap.size) (below_drewN (Below.refl _ w) e) (Nat.le_refl _))
  rw [← hn] at h9; exact h9
theorem CurAt.lens {w : World} {base q : Nat} {lp : Value} {ps : List PostV} {IM : List UInt8} {u mv : Nat} {told : Bool} (h : CurAt w base q lp ps IM u mv told) : ps.length ≤ 2000000 ∧ (∀ p ∈ ps, p.pos.length ≤ 100000000) ∧ u ≤ ps.length + 1 := by
  obtain ⟨bk, rv, h⟩ := h
  rcases h.ls with ⟨-, h9⟩ | ⟨_, _, _, _, _, _, hok⟩
  · subst h9; exact ⟨by simp, by simp, h.hu⟩
  · exact ⟨hok.len, hok.pos, h.hu⟩
set_option maxRecDepth 100000 in
set_option maxHeartbeats 4000000 in
theorem next_any (w : World) (base q : Nat) (lp : Value) (ps : List PostV) (IM : List UInt8) (u mv : Nat) (told : Bool) (h : CurAt w base q lp ps IM u mv told) (hbz : base ≤ w.heap.size) (hmv : mv ≤ 1000000000000000) (EA : Nat → Addr) (hS : Sent6 w EA) :
    Calls Tryd.prog 16 #[.pointer (some ⟨q, 0, none⟩)] w (CurPost w base q lp ps IM (if u = ps.length + 1 then u else u + 1) (if u = ps.length + 1 then mv else mv + costU u u ps.length) (if u = ps.length + 1 then told else false) (.int .i64 (docU ps (if u = ps.length + 1 then u else u + 1)))) := by
  obtain ⟨hl1, -, hl3⟩ := h.lens
  obtain ⟨bk, rv, hc⟩ := h
  obtain ⟨n, hn⟩ : ∃ n, n = ps.length := ⟨_, rfl⟩
  have D1 := docsC_q hc n hn
  obtain ⟨pl, hpl⟩ : ∃ pl : Int, (u : Int) - 1 = pl := ⟨_, rfl⟩
  have hblk := hc.blk
  rw [hpl] at hblk
  have c0 : w.cell? ⟨q, 0, none⟩ = some (.int .i64 (docU ps u)) := blk_cell hblk 0
  have c3 : w.cell? ⟨q, 3, none⟩ = some (.int .i64 pl) := blk_cell hblk 3
  rw [← hn] at hl1 hl3 ⊢
  by_cases hu : u = n + 1
  · simp only [if_pos hu]
    have t1 : (pl == (n : Int)) = true := by simp; omega
    obtain ⟨dv, hdv⟩ : ∃ dv, docU ps u = dv := ⟨_, rfl⟩
    rw [hdv] at c0 ⊢
    have HFIN : ∀ e : Nat, CurPost w base q lp ps IM u mv told (.int .i64 dv) (.returned (.int .i64 dv)) (w.drewN e) := fun e => ⟨rfl, ⟨bk, rv, hc.below (below_drewN (Below.refl w.heap.size w) e) (Nat.le_refl _)⟩, (Eff.refl _ w).drewN e⟩
    have HF := Lib.hid HFIN
    clear hc hS HFIN hblk hpl hn hdv hu
    go_enter Tryd.func16, Tryd.ntmps16
    go_wp2
    go_quiet ((go_at_call 20; first | with_reducible exact quiet_left (D1 _) | with_reducible exact quiet_leftN (D1 _) | with_reducible exact quiet_leftNN (D1 _)))
    go_wp2
    go_ret
    exact HF.out _
  · simp only [if_neg hu]
    have t1 : (pl == (n : Int)) = false := beq_false_of_ne (by omega)
    have s0 : IntKind.i64.wrap (pl + 1) = (u : Int) := by rw [IntKind.wrap_i64]; omega
    have C2 : ∀ e : Nat, Calls Tryd.prog 47 #[.pointer (some ⟨q, 0, none⟩), .int .i64 (u : Nat)] (w.drewN e) (CurPost (w.drewN e) base q lp ps IM (u + 1) (mv + costU u u n) false (.int .i64 (docU ps (u + 1)))) := fun e => by
      have hb := below_drewN (Below.refl w.heap.size w) e
      have h9 := goto_any (w.drewN e) base q lp ps IM (docU ps u) u mv told bk rv (hc.below hb (Nat.le_refl _)) hbz (by omega) u (Nat.le_refl _) (by omega) (by omega) hmv EA (hS.below hb)
      rw [← hn] at h9; exact h9
    have HC2 := Lib.hid C2
    clear hc hS hblk hpl hn hu C2
    go_enter Tryd.func16, Tryd.ntmps16
    go_wp2
    go_quiet ((go_at_call 20; first | with_reducible exact quiet_left (D1 _) | with_reducible exact quiet_leftN (D1 _) | with_reducible exact quiet_leftNN (D1 _)))
    have C3 := HC2.out nq
    have c3' : (w.drewN nq).cell? ⟨q, 3, none⟩ = some (.int .i64 pl) := c3
    have hE : Eff (· = q) w (w.drewN nq) := (Eff.refl _ w).drewN nq
    have HE := Lib.hid hE
    generalize w.drewN nq = w1 at C3 c3' HE ⊢
    clear c3 c0 D1 HC2 hE
    go_wp2_with fail
    with_reducible refine C3.mono ?_
    rintro e w2 ⟨rfl, hat, he⟩
    clear C3 s0 t1
    have HF := Lib.hid (show CurPost w base q lp ps IM (u + 1) (mv + costU u u n) false (.int .i64 (docU ps (u + 1))) (.returned (.int .i64 (docU ps (u + 1)))) w2 from ⟨rfl, hat, HE.out.trans he (fun i hi _ => hi)⟩)
    clear hat he
    go_wp2
    go_ret
    exact HF.out
set_option maxRecDepth 100000 in
set_option maxHeartbeats 4000000 in
theorem freq_any (w : World) (base q : Nat) (lp : Value) (ps : List PostV) (IM : List UInt8) (u mv : Nat) (told : Bool) (h : CurAt w base q lp ps IM u mv told) (hbz : base ≤ w.heap.size) (EA : Nat → Addr) (hS : Sent6 w EA) :
    Calls Tryd.prog 17 #[.pointer (some ⟨q, 0, none⟩)] w (CurPost w base q lp ps IM u mv told (.int .i64 ((posU ps u).length : Nat))) := by
  obtain ⟨hl1, -, hl3⟩ := h.lens
  obtain ⟨bk, rv, hc⟩ := h
  obtain ⟨n, hn⟩ : ∃ n, n = ps.length := ⟨_, rfl⟩
  have D1 := docsC_q hc n hn
  obtain ⟨pl, hpl⟩ : ∃ pl : Int, (u : Int) - 1 = pl := ⟨_, rfl⟩
  have hblk := hc.blk
  rw [hpl] at hblk
  have c3 : w.cell? ⟨q, 3, none⟩ = some (.int .i64 pl) := blk_cell hblk 3
  rw [← hn] at hl1 hl3
  by_cases hu : u = 0 ∨ n < u
  · rw [posU_out (by rw [← hn]; exact hu)]
    have HFIN : ∀ e : Nat, CurPost w base q lp ps IM u mv told (.int .i64 0) (.returned (.int .i64 0)) (w.drewN e) := fun e => ⟨rfl, ⟨bk, rv, hc.below (below_drewN (Below.refl w.heap.size w) e) (Nat.le_refl _)⟩, (Eff.refl _ w).drewN e⟩
    have HF := Lib.hid HFIN
    by_cases h0 : pl < 0
    · have t1 : decide (pl < 0) = true := decide_eq_true h0
      clear hc hS HFIN hblk hpl hn hu
      go_enter Tryd.func17, Tryd.ntmps17
      go_wp2
      go_quiet (fail)
      go_wp2
      go_ret
      exact HF.out _
    · have t1 : decide (pl < 0) = false := decide_eq_false h0
      have t2 : decide ((n : Int) ≤ pl) = true := decide_eq_true (by omega)
      clear hc hS HFIN hblk hpl hn hu
      go_enter Tryd.func17, Tryd.ntmps17
      go_wp2
      go_quiet ((go_at_call 20; first | with_reducible exact quiet_left (D1 _) | with_reducible exact quiet_leftN (D1 _) | with_reducible exact quiet_leftNN (D1 _)))
      go_wp2
      go_ret
      exact HF.out _
  · obtain ⟨p, rfl⟩ : ∃ p, u = p + 1 := ⟨u - 1, by omega⟩
    have hp : p < ps.length := by omega
    obtain rfl : pl = (p : Int) := by omega
    have t1 : decide ((p : Int) < 0) = false := decide_eq_false (by omega)
    have t2 : decide (n ≤ p) = false := decide_eq_false (by omega)
    rw [posU_at hp]
    have C2 : ∀ e : Nat, Calls Tryd.prog 48 #[.pointer (some ⟨q, 0, none⟩), .int .i64 (p : Nat)] (w.drewN e) (HereP (w.drewN e) base q lp ps IM (docU ps (p + 1)) (p + 1) mv told bk rv ps[p]) := fun e => by
      have hb := below_drewN (Below.refl w.heap.size w) e
      exact here_any (w.drewN e) base q lp ps IM _ (p + 1) mv told bk rv (hc.below hb (Nat.le_refl _)) hbz p hp EA (hS.below hb)
    obtain ⟨x, hx⟩ : ∃ x, ps[p] = x := ⟨_, rfl⟩
    rw [hx] at C2 ⊢
    have HC2 := Lib.hid C2
    clear hc hS hblk hpl hn hu C2 hx
    go_enter Tryd.func17, Tryd.ntmps17
    go_wp2
    go_quiet ((go_at_call 20; first | with_reducible exact quiet_left (D1 _) | with_reducible exact quiet_leftN (D1 _) | with_reducible exact quiet_leftNN (D1 _)))
    have C3 := HC2.out nq
    have c3' : (w.drewN nq).cell? ⟨q, 3, none⟩ = some (.int .i64 (p : Nat)) := c3
    have hE : Eff (· = q) w (w.drewN nq) := (Eff.refl _ w).drewN nq
    have HE := Lib.hid hE
    generalize w.drewN nq = w1 at C3 c3' HE ⊢
    clear c3 D1 HC2 hE
    go_wp2_with fail
    with_reducible refine C3.mono ?_
    rintro e w2 ⟨A2, C2, rfl, -, ⟨bk2, rv2, hat, -⟩, he⟩
    clear C3 t1
    have HF := Lib.hid (show CurPost w base q lp ps IM (p + 1) mv told (.int .i64 (x.pos.length : Nat)) (.returned (.int .i64 (x.pos.length : Nat))) w2 from ⟨rfl, ⟨bk2, rv2, hat⟩, HE.out.trans he (fun i hi _ => hi)⟩)
    clear hat he
    go_wp2
    go_ret
    exact HF.out
end Go.Proofs.YtaijepjhmjjecaaDoor

/- sort.Search over a test that makes memory: a state S of the world is kept. -/
namespace Go.Proofs.YtaijepjhmjjecaaDoor
set_option linter.unusedVariables false
open Go.ChangeShapes Go.WideShapes Go.ChangeAt Go.RowKit

set_option maxRecDepth 100000 in
set_option maxHeartbeats 1000000 in
theorem search_s (S : World → Prop) (G : FuncId) (cb : Array Value) (n b : Nat) (p : Nat → Bool) (w : World) (hS : S w) (eg : ∀ args w, (callFunc G args).run Tryd.prog w = .ok (.enter G args) w) (hn : n ≤ 1000000000)
    (hf : ∀ W i, S W → i < n → Calls Tryd.prog G (#[.int .i64 i] ++ cb) W fun e w' => e = .returned (.bool (p i)) ∧ S w') (hb : b ≤ n) (h0 : ∀ t, t < b → p t = false) (h1 : ∀ t, b ≤ t → t < n → p t = true) :
    Calls Tryd.prog 86 #[.int .i64 n, .func (.func G) #[] cb] w fun e w' => e = .returned (.int .i64 b) ∧ S w' := by
  have HF := Lib.hid hf
  have H0 := Lib.hid h0
  have H1 := Lib.hid h1
  have HS := Lib.hid hS
  clear hf h0 h1 hS
  go_enter Tryd.func86, Tryd.ntmps86
  go_wp2
  go_loopw [5, 6] (fun s5 s6 wr => ∃ (lo hi : Nat), s5 = .int .i64 lo ∧ s6 = .int .i64 hi ∧ lo ≤ b ∧ b ≤ hi ∧ hi ≤ n ∧ RowKit.Hid (S wr)) (fun s5 s6 _ => (intOf s6).toNat - (intOf s5).toNat)
  case atStart => exact ⟨0, n, rfl, rfl, Nat.zero_le _, hb, Nat.le_refl _, HS⟩
  case round =>
    clear HS
    obtain ⟨lo, hi, rfl, rfl, hl, hh, hhn, HSr⟩ := hrel
    by_cases hlt : lo < hi
    · have hc := HF.out wr ((lo + hi) / 2) HSr.out (by omega)
      rw [show (((lo + hi) / 2 : Nat) : Int) = ((lo : Int) + (hi : Int)) / 2 by omega] at hc
      by_cases hp : (lo + hi) / 2 < b
      · rw [H0.out _ hp] at hc
        go_wp2_with fail
        refine hc.mono ?_
        rintro e w' ⟨rfl, hs'⟩
        have HS' := Lib.hid hs'
        clear hc hs' HSr
        go_wp2
        go_roundw
        case rel => exact ⟨(lo + hi) / 2 + 1, hi, by rw [show ((lo : Int) + (hi : Int)) / 2 + 1 = (((lo + hi) / 2 + 1 : Nat) : Int) by omega], rfl, hp, hh, hhn, HS'⟩
        case measure => simp [intOf]; omega
      · rw [H1.out _ (by omega) (by omega)] at hc
        go_wp2_with fail
        refine hc.mono ?_
        rintro e w' ⟨rfl, hs'⟩
        have HS' := Lib.hid hs'
        clear hc hs' HSr
        go_wp2
        go_roundw
        case rel => exact ⟨lo, (lo + hi) / 2, rfl, by rw [show ((lo : Int) + (hi : Int)) / 2 = (((lo + hi) / 2 : Nat) : Int) by omega], hl, by omega, by omega, HS'⟩
        case measure => simp [intOf]; omega
    · obtain rfl : lo = b := by omega
      go_wp2
      go_ret
      exact ⟨rfl, HSr.out⟩
end Go.Proofs.YtaijepjhmjjecaaDoor
