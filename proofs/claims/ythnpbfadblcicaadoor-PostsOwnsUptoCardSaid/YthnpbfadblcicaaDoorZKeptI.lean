/- concordmem: SpareInts, KeptInts (printed by wip/gen_kepti.py). -/
import Derived.Test.YthnpbfadblcicaaDoorZG17
import Derived.Test.YthnpbfadblcicaaDoorZG1
namespace Go.Proofs.YthnpbfadblcicaaDoor
set_option linter.unusedVariables false
open Go.ChangeShapes Go.WideShapes Go.ChangeAt Go.RowKit

theorem elIn7 : Elem Tryd.prog 51 3 (.int .i64 0) 8 := ⟨Tryd.underlying51, by kernel_rfl, rfl, by decide⟩
theorem intL_snoc7 (l : List Int) (z : Int) : intL (l ++ [z]) = intL l ++ [.int .i64 z] := by rw [intL_append]; rfl
def marksI (i j k : Nat) : List Int := (List.range k).map fun t => markV i (j + t)
theorem marksI_succ (i j k : Nat) : marksI i j (k + 1) = marksI i j k ++ [markV i (j + k)] := by simp [marksI, List.range_succ]
theorem marksI_length (i j k : Nat) : (marksI i j k).length = k := by simp [marksI]
theorem marksI_get (i j k t : Nat) (h : t < (marksI i j k).length) : (marksI i j k)[t] = markV i (j + t) := by simp [marksI]
/-- What Spare gives: the list and the whole of it, of the call's own. -/
def SparePostI (w : World) (bs : List Int) (e : Ending) (w' : World) : Prop :=
  ∃ (A : Option Addr) (C : Nat), e = .returned (.tuple #[.slice A bs.length C, .slice A (bs.length + 80) C]) ∧ Own w' w.heap.size 3 (.slice A (bs.length + 80) C) (intL (bs ++ marksI 7 0 80)) ∧ Below w.heap.size w w'
set_option maxRecDepth 100000 in
set_option maxHeartbeats 2000000 in
theorem sparei_any (w : World) (a : Option Addr) (n c : Nat) (bs : List Int) (hr : Rd w (.slice a n c) (intL bs)) (hn : bs.length ≤ 1000000000) :
    Calls Tryd.prog 24 #[.slice a n c] w (SparePostI w bs) := by
  have hnl : n = bs.length := by obtain ⟨A, c', h, _⟩ := hr; injection h with _ h _; rw [h, intL_length]
  subst hnl
  have hmk := make_cap (P := Tryd.prog) elIn7 rfl (bs.length + 80) (by omega) ((bs.length : Int) + 80) (by omega)
  obtain ⟨W, hW⟩ : ∃ W, W = w.alloc (.cells (madeCells #[.int .i64 0] (bs.length + 80)) 3) := ⟨_, rfl⟩
  have hbW : Below w.heap.size w W := by rw [hW]; exact (Below.refl _ _).alloc (Nat.le_refl _) _
  have hoW : Own W w.heap.size 3 (.slice (some ⟨w.heap.size, 0, none⟩) 0 (bs.length + 80)) [] := by rw [hW]; exact own_cap0 w _ _ _ (by omega)
  have hrW := hr.below hbW (Nat.le_refl _)
  have hl0 : ([] : List Value).length + (intL bs).length < 1000000000001 := by rw [intL_length]; simp; omega
  have hz := hbW.size
  have HR := Lib.hid hrW
  have HO := Lib.hid hoW
  have HB := Lib.hid hbW
  have H1 := Lib.hid (intL_one bs)
  have HW := Lib.hid hW
  clear hr hrW hoW hbW hW
  go_enter Tryd.func24, Tryd.ntmps24
  go_upto_region 2 with fail
  rw [← HW.out]
  go_wp2_with (at_builtin; with_reducible refine apN elIn7 HO.out HR.out H1.out hl0 hz rfl _ _ rfl rfl rfl ?_)
  intro v' w1 g1 g2 g3 g4
  have g1 : Own w1 w.heap.size 3 v' (intL bs) := g1
  have hb1 : Below w.heap.size w w1 := HB.out.grown g4 hz (fun k hk => (HO.out.lt k hk).1)
  obtain ⟨a1, n1, c1, rfl⟩ := own_sl g1
  have hn1 := g1.len
  rw [intL_length] at hn1
  subst hn1
  have HG1 := Lib.hid g1
  have HB1 := Lib.hid hb1
  clear g1 g2 g3 g4 hb1 hmk
  go_wp2
  go_loopw [4, 5] (fun s4 s5 wr => ∃ (j : Nat) (A : Option Addr) (N C : Nat), s4 = .slice A N C ∧ s5 = .int .i64 j ∧ j ≤ 80 ∧ N = bs.length + j ∧ Own wr w.heap.size 3 (.slice A N C) (intL (bs ++ marksI 7 0 j)) ∧ Below w.heap.size w wr) (fun _ s5 _ => 80 - (intOf s5).toNat)
  case atStart => exact ⟨0, a1, bs.length, c1, rfl, rfl, by omega, rfl, by simpa [marksI] using HG1.out, HB1.out⟩
  case round =>
    clear HG1 HB1
    obtain ⟨j, A, N, C, rfl, rfl, hj, hN, ho, hb⟩ := hrel
    by_cases hlt : j < 80
    · have C1 := mark_any wr 7 j (by omega) (by omega)
      have hl : (intL (bs ++ marksI 7 0 j)).length < 1000000000000 := by rw [intL_length, List.length_append, marksI_length]; omega
      have hsz := hb.size
      rw [show (((7 : Nat)) : Int) = 7 from rfl] at C1
      have i1 : (j : Int) < 80 := by omega
      have HO := Lib.hid ho
      have HL := Lib.hid hl
      have HB := Lib.hid hb
      have HN := Lib.hid hN
      clear ho hl hb hN
      go_wp2_with fail
      refine C1.mono ?_
      rintro e w2 ⟨rfl, rfl⟩
      clear C1
      go_wp2_with (at_builtin; with_reducible refine ap1' elIn7 rfl HO.out HL.out hsz rfl _ _ rfl rfl rfl ?_)
      intro v' w3 g1 g2 g3 g4
      have hb3 := HB.out.grown g4 hsz (fun k hk => (HO.out.lt k hk).1)
      obtain ⟨a3, n3, c3, rfl⟩ := own_sl g1
      have hn3 := g1.len
      rw [List.length_append, intL_length, List.length_append, marksI_length, List.length_singleton] at hn3
      have g5 := own_to g1 (ys := intL (bs ++ marksI 7 0 (j + 1))) (by rw [marksI_succ, ← List.append_assoc, intL_snoc7, Nat.zero_add])
      have HG5 := Lib.hid g5
      have HB3 := Lib.hid hb3
      clear g1 g2 g3 g4 g5 hb3
      go_wp2
      go_roundw
      case rel => exact ⟨j + 1, a3, n3, c3, rfl, by go_num, by omega, by omega, HG5.out, HB3.out⟩
      case measure => simp [intOf]; omega
    · obtain rfl : j = 80 := by omega
      subst hN
      have HO := Lib.hid ho
      have HB := Lib.hid hb
      have hcap := own_cap ho
      have hll := ho.len
      rw [intL_length, List.length_append, marksI_length] at hll
      have i2 : bs.length ≤ C := by omega
      clear ho hb hll
      go_wp2
      go_ret2
      exact ⟨A, C, rfl, HO.out, HB.out⟩

theorem rd_ints {w : World} {a : Option Addr} {n c : Nat} {l : List Int} (h : Rd w (.slice a n c) (intL l)) : n = l.length ∧ (0 < l.length → ∃ b o, a = some ⟨b, o, none⟩ ∧ ∀ (j : Nat) (hj : j < l.length), w.cell? ⟨b, o + j, none⟩ = some (.int .i64 l[j])) := by
  obtain ⟨A, c', h, _, hg⟩ := h
  injection h with h1 h2 h3
  subst h1 h2 h3
  rw [intL_length] at hg ⊢
  refine ⟨rfl, fun h0 => ?_⟩
  obtain ⟨b, o, e, hg⟩ := hg h0
  exact ⟨b, o, e, fun j hj => hg j _ (intL_get l j hj)⟩
set_option maxRecDepth 100000 in
set_option maxHeartbeats 2000000 in
theorem kepti_any (w : World) (a : Option Addr) (n c : Nat) (a2 : Option Addr) (n2 c2 : Nat) (bs : List Int) (hf : Rd w (.slice a n c) (intL (bs ++ marksI 7 0 80))) (hb : Rd w (.slice a2 n2 c2) (intL bs)) (hn : bs.length ≤ 1000000000) :
    Calls Tryd.prog 25 #[.slice a n c, .slice a2 n2 c2] w fun e w' => e = .returned (.bool true) ∧ ∃ d, w' = w.drewN d := by
  obtain ⟨hl1, hg1⟩ := rd_ints hf
  obtain ⟨hl2, hg2⟩ := rd_ints hb
  have hll : (bs ++ marksI 7 0 80).length = bs.length + 80 := by rw [List.length_append, marksI_length]
  obtain ⟨b1, o1, rfl, hc1⟩ := hg1 (by omega)
  rw [hll] at hl1
  subst hl1 hl2
  have k1 : ∀ j (h : j < bs.length), w.cell? ⟨b1, o1 + j, none⟩ = some (.int .i64 bs[j]) := fun j h => by
    have := hc1 j (by omega)
    rwa [List.getElem_append_left h] at this
  have k2 : ∀ j, j < 80 → w.cell? ⟨b1, o1 + (bs.length + j), none⟩ = some (.int .i64 (markV 7 j)) := fun j h => by
    have := hc1 (bs.length + j) (by omega)
    rw [List.getElem_append_right (by omega)] at this
    simpa [marksI_get] using this
  have K1 := Lib.hid k1
  have K2 := Lib.hid k2
  have HG2 := Lib.hid hg2
  have t0 : ((((bs.length + 80 : Nat)) : Int) != (bs.length : Int) + 80) = false := by simp
  clear hf hb hg1 hc1 k1 k2 hg2 hll
  go_enter Tryd.func25, Tryd.ntmps25
  go_wp2
  go_loopw [15] (fun s15 wr => ∃ (i d : Nat), s15 = .int .i64 i ∧ i ≤ bs.length ∧ wr = w.drewN d) (fun s15 _ => bs.length - (intOf s15).toNat)
  case atStart => exact ⟨0, 0, rfl, Nat.zero_le _, rfl⟩
  case round =>
    obtain ⟨i, d, rfl, hi, rfl⟩ := hrel
    by_cases hlt : i < bs.length
    · have x1 := K1.out i hlt
      obtain ⟨b2, o2, rfl, hc2⟩ := HG2.out (by omega)
      have x2 := hc2 i hlt
      have i1 : (i : Int) < (bs.length : Int) := by omega
      have i2 : (i : Int) < ((bs.length + 80 : Nat) : Int) := by omega
      obtain ⟨x, hx⟩ : ∃ x, bs[i] = x := ⟨_, rfl⟩
      rw [hx] at x1 x2
      clear hc2 hx
      go_upto_region 6 with fail
      go_quiet (fail)
      go_wp2
      go_roundw
      case rel => exact ⟨i + 1, _, by go_num, by omega, by first | rfl | exact World.drewN_drewN ..⟩
      case measure => simp [intOf]; omega
    · have i1 : ¬ ((i : Int) < (bs.length : Int)) := by omega
      clear hlt
      go_wp2
      go_loopw [6] (fun s6 wr => ∃ (j d : Nat), s6 = .int .i64 j ∧ j ≤ 80 ∧ wr = w.drewN d) (fun s6 _ => 80 - (intOf s6).toNat)
      case atStart => exact ⟨0, d, rfl, Nat.zero_le _, rfl⟩
      case round =>
        obtain ⟨j, d, rfl, hj, rfl⟩ := hrel
        by_cases hlt : j < 80
        · have x1 := K2.out j hlt
          have C1 := fun m => mark_any (w.drewN m) 7 j (by omega) (by omega)
          rw [show (((7 : Nat)) : Int) = 7 from rfl] at C1
          obtain ⟨M, hM⟩ : ∃ M, markV 7 j = M := ⟨_, rfl⟩
          rw [hM] at C1 x1
          obtain ⟨z, hz⟩ : ∃ z, bs.length + j = z := ⟨_, rfl⟩
          rw [hz] at x1
          have w1 : IntKind.i64.wrap ((bs.length : Int) + (j : Int)) = (z : Int) := by rw [IntKind.wrap_i64]; omega
          have i1 : (j : Int) < 80 := by omega
          have i2 : (z : Int) < ((bs.length + 80 : Nat) : Int) := by omega
          clear hM hz
          go_upto_region 12 with fail
          go_quiet ((go_at_call 48; first | with_reducible exact quiet_left (C1 _) | with_reducible exact quiet_leftN (C1 _) | with_reducible exact quiet_leftNN (C1 _)))
          clear C1 w1
          go_wp2
          go_roundw
          case rel => exact ⟨j + 1, _, by go_num, by omega, by first | rfl | exact World.drewN_drewN ..⟩
          case measure => simp [intOf]; omega
        · have i1 : ¬ ((j : Int) < 80) := by omega
          go_wp2
          go_ret
          exact ⟨rfl, _, rfl⟩
end Go.Proofs.YthnpbfadblcicaaDoor
