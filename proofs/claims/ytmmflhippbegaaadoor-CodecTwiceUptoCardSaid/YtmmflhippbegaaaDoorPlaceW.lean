/- The law CodecTwice's samePlace: the same lists, written over between, are put as they are now. -/
import Derived.Test.YtmmflhippbegaaaDoorSp
import Derived.Test.YtmmflhippbegaaaDoorForm
namespace Go.Proofs.YtmmflhippbegaaaDoor
set_option linter.unusedVariables false
open Go.ChangeShapes Go.WideShapes Go.ChangeAt Go.RowKit

/-- The list behind k stores of 3 i + 1. -/
def stp (L : List Int) (k : Nat) : List Int := (List.range k).foldl (fun l i => l.set i (3 * (i : Int) + 1)) L
theorem stp_succ (L : List Int) (k : Nat) : stp L (k + 1) = (stp L k).set k (3 * (k : Int) + 1) := by simp [stp, List.range_succ]
theorem stp_length (L : List Int) (k : Nat) : (stp L k).length = L.length := by
  induction k with
  | zero => rfl
  | succ k ih => rw [stp_succ, List.length_set, ih]
theorem stp_get (L : List Int) : ∀ (k j : Nat) (hj : j < k) (h : j < L.length), (stp L k)[j]'(by rw [stp_length]; exact h) = 3 * (j : Int) + 1 := by
  intro k
  induction k with
  | zero => intro j hj; omega
  | succ k ih =>
    intro j hj h
    by_cases e : j = k
    · subst e; simp [stp_succ]
    · simp only [stp_succ]
      rw [List.getElem_set_ne (by omega)]
      exact ih j (by omega) h
theorem stp_rises (L : List Int) : rises (stp L L.length) := by
  intro i h
  rw [stp_length] at h
  rw [stp_get L _ i (by omega) (by omega), stp_get L _ (i + 1) h h]; omega
theorem stp_mem (L : List Int) : ∀ z ∈ stp L L.length, ∃ j : Nat, j < L.length ∧ z = 3 * (j : Int) + 1 := by
  intro z hz
  obtain ⟨j, hj, rfl⟩ := List.getElem_of_mem hz
  rw [stp_length] at hj
  exact ⟨j, hj, stp_get L _ j hj hj⟩
theorem stp_pos (L : List Int) : anyNeg (stp L L.length) = false := by
  unfold anyNeg
  rw [List.any_eq_false]
  intro z hz
  obtain ⟨j, _, rfl⟩ := stp_mem L z hz
  simp; omega
theorem stp_fit (L : List Int) (h : L.length ≤ 1000000000) : FitL (stp L L.length) := by
  intro z hz
  obtain ⟨j, _, rfl⟩ := stp_mem L z hz
  omega
/-- A list may be put with a number that is not 0 behind it. -/
theorem ok_snoc {L : List Int} {z : Int} (hn : anyNeg L = false) (hz : 0 < z) : okPck (L ++ [z]) := by
  refine ⟨by unfold anyNeg at *; rw [List.any_append, hn]; simp; omega, fun h => ?_⟩
  unfold zerosB at h
  rw [List.all_append] at h
  simp at h; omega
theorem fit_snoc {L : List Int} {z : Int} (hf : FitL L) (h0 : 0 ≤ z) (h1 : z ≤ 1000) : FitL (L ++ [z]) := by
  intro y hy
  rcases List.mem_append.1 hy with h | h
  · exact hf y h
  · rw [List.mem_singleton.1 h]; omega
theorem out_len {L : List Int} {B : List UInt8} {z : Int} {n : Nat} (hf : FitL L) (hn : anyNeg L = false) (h0 : 0 ≤ z) (h1 : z ≤ 1000) (hL : L.length ≤ n) (hB : B.length ≤ n) (hN : n ≤ 2000000) : (risB L ++ pckB (natOf (L ++ [z])) ++ B).length ≤ 100 + 19 * n := by
  have h2 := risB_le hf hn (by omega)
  have h3 := pckB_le (natOf_fit (fit_snoc (z := z) hf h0 h1))
  rw [natOf_length, List.length_append] at h3
  simp only [List.length_append, List.length_cons, List.length_nil] at *
  omega

theorem u8_xor51 (x : UInt8) : bits .xor .u8 ((x.toNat : Nat) : Int) 51 = (((x ^^^ 51).toNat : Nat) : Int) := by
  rw [show (51 : Int) = ((51 : Nat) : Int) from rfl, u8_xor_nat _ _ x.toNat_lt (by decide)]
  rfl

set_option maxRecDepth 100000 in
set_option maxHeartbeats 4000000 in
theorem place_any (w : World) (a : Option Addr) (n c : Nat) (l : List Int) (hr : Rd w (.slice a n c) (intL l)) (a2 : Option Addr) (m c2 : Nat) (bs : List UInt8) (hr2 : Rd w (.slice a2 m c2) (bytesV bs))
    (hn : anyNeg l = false) (hri : rises l) (hf : FitL l) (hl : l.length ≤ 1048576) (hbs : bs.length ≤ 1048576) (EA : Nat → Addr) (hE : RErr w EA) :
    Calls Tryd.prog 42 #[.slice a n c, .slice a2 m c2] w fun e w' => e = .returned (.bool true) ∧ Below w.heap.size w w' := by
  have hG : GLow w.heap.size := hE.lt
  have HE := Lib.hid hE
  have HG := Lib.hid hG
  have HN := Lib.hid hn
  have HRI := Lib.hid hri
  have HF := Lib.hid hf
  have HR2 := Lib.hid hr2
  have hb1 : Below w.heap.size w (w.alloc (.cells #[] 3)) := (Below.refl _ _).alloc (Nat.le_refl _) _
  have hr1 := hr.below hb1 (Nat.le_refl _)
  have ho1 := own_empty w w.heap.size 3 (Nat.le_refl _)
  have hone := Lib.hid (intL_one l)
  have hL1 : ([] : List Value).length + (intL l).length < 1000000000001 := by rw [intL_length]; simp; omega
  have hz1 : w.heap.size ≤ (w.alloc (.cells #[] 3)).heap.size := hb1.size
  have HB1 := Lib.hid hb1
  clear hE hG hn hri hf hr2 hb1 hr
  go_enter Tryd.func42, Tryd.ntmps42
  go_wp2_with (at_builtin; with_reducible refine apN elInts ho1 hr1 hone.out hL1 hz1 rfl _ _ rfl rfl rfl ?_)
  intro v1 w1 g1 g2 g3 g4
  have hb2 : Below w.heap.size w w1 := HB1.out.grown g4 (by simp) (fun k hk => by simp [Value.ownBlock] at hk; omega)
  have hz2 := hb2.size
  obtain ⟨a1, n1, c1, rfl⟩ := own_sl g1
  obtain rfl : n1 = l.length := by have := g1.len; rwa [intL_length] at this
  clear g2 g3 g4 ho1 hr1 hL1 hz1
  have hr2 := (HR2.out.below hb2 (Nat.le_refl _)).below (Below.alloc (Below.refl w1.heap.size w1) (Nat.le_refl _) (.cells #[] 5)) (Nat.le_refl _)
  have ho2 := own_empty w1 w.heap.size 5 hz2
  have hone2 := Lib.hid (bytesV_one bs)
  have hL2 : ([] : List Value).length + (bytesV bs).length < 1000000000001 := by rw [bytesV_length]; simp; omega
  have hz3 : w.heap.size ≤ (w1.alloc (.cells #[] 5)).heap.size := by simp; omega
  have hl1 := g1.below (Below.alloc (Below.refl w1.heap.size w1) (Nat.le_refl _) (.cells #[] 5)) (Nat.le_refl _)
  have HB2 := Lib.hid (hb2.alloc hz2 (.cells #[] 5))
  clear g1 hb2
  go_wp2_with (at_builtin; with_reducible refine apN elBytes ho2 hr2 hone2.out hL2 hz3 rfl _ _ rfl rfl rfl ?_)
  intro v2 w2 g1 g2 g3 g4
  have hl2 := g2 _ _ _ _ hl1 (fun k h1 h2 => absurd h2 (own_types ho2 hl1 (by decide) h1))
  have hb3 : Below w.heap.size w w2 := HB2.out.grown g4 (by simp; omega) (fun k hk => by simp [Value.ownBlock] at hk; omega)
  have hz2' := hb3.size
  obtain ⟨a3, n3, c3, rfl⟩ := own_sl g1
  obtain rfl : n3 = bs.length := by have := g1.len; rwa [bytesV_length] at this
  clear g2 g3 g4 ho2 hr2 hL2 hz3 hl1 hz2
  go_wp2_with fail
  refine (nw_any w2).mono ?_
  rintro e w3 ⟨rfl, hw3⟩
  have e3 : Below w2.heap.size w2 w3 := by rw [hw3]; exact (Below.refl _ _).alloc (Nat.le_refl _) _
  have hwr3 : Wr w3 w.heap.size w2.heap.size (.slice none 0 0) [] := by
    rw [hw3]; exact ⟨heap_alloc_new w2 _, hz2', own_nil _ _ _⟩
  have hz3 : w3.heap.size = w2.heap.size + 1 := by rw [hw3]; simp
  have hl3 := hl2.below e3 (Nat.le_refl _)
  have hbb3 := g1.below e3 (Nat.le_refl _)
  have hbl2 : ∀ k, (Value.slice a3 bs.length c3).ownBlock = some k → k < w2.heap.size := fun k hk => (g1.lt k hk).2
  have hb3' := hb3.trans (e3.mono hz2')
  obtain ⟨p, hp⟩ : ∃ p, w2.heap.size = p := ⟨_, rfl⟩
  rw [hp] at hwr3 hz3 hbl2 hz2' ⊢
  clear hw3 g1 hl2 hb3 e3 hp
  go_wp2_with fail
  refine (nw_any w3).mono ?_
  rintro e w4 ⟨rfl, hw4⟩
  have e4 : Below w3.heap.size w3 w4 := by rw [hw4]; exact (Below.refl _ _).alloc (Nat.le_refl _) _
  have hwr4 : Wr w4 w.heap.size w3.heap.size (.slice none 0 0) [] := by
    rw [hw4]; exact ⟨heap_alloc_new w3 _, hb3'.size, own_nil _ _ _⟩
  have hS4 : SP w4 w.heap.size p w3.heap.size (.slice a1 l.length c1) (.slice a3 bs.length c3) (.slice none 0 0) (.slice none 0 0) l bs [] [] := by
    refine ⟨hl3.below e4 (Nat.le_refl _), hbb3.below e4 (Nat.le_refl _), hwr3.of_below e4, hwr4, ?_, ?_, ?_⟩
    · rintro k (rfl | hk) (h | h)
      · omega
      · simp [Value.ownBlock] at h
      · simp [Value.ownBlock] at hk
      · simp [Value.ownBlock] at hk
    · rintro k hk (h | h)
      · have := hbl2 k hk; omega
      · simp [Value.ownBlock] at h
    · rintro k hk (h | h)
      · have := hbl2 k hk; omega
      · simp [Value.ownBlock] at h
  have HB4 := Lib.hid (hb3'.trans (e4.mono hb3'.size))
  obtain ⟨q, hq⟩ : ∃ q, w3.heap.size = q := ⟨_, rfl⟩
  rw [hq] at hS4 ⊢
  have HS4 := Lib.hid hS4
  clear hw4 hwr3 hwr4 hl3 hbb3 e4 hS4 hb3' hq hz3 hbl2 hz2' HB1 HB2 hone hone2
  go_wp2
  go_loopw [9] (fun s9 wr => ∃ (i : Nat) (L : List Int) (B O : List UInt8) (vw vx : Value), s9 = .int .i64 i ∧ i ≤ 2 ∧ SP wr w.heap.size p q (.slice a1 l.length c1) (.slice a3 bs.length c3) vw vx L B O O ∧ anyNeg L = false ∧ rises L ∧ FitL L ∧ L.length = l.length ∧ B.length = bs.length ∧ O.length ≤ i * 50000000 ∧ Below w.heap.size w wr) (fun s _ => 2 - (intOf s).toNat)
  case atStart => exact ⟨0, l, bs, [], _, _, rfl, by omega, HS4.out, HN.out, HRI.out, HF.out, rfl, rfl, by simp, HB4.out⟩
  case round =>
    clear HS4 HB4
    obtain ⟨i, L, B, O, vw, vx, rfl, hi, hS, hnL, hrL, hfL, hlL, hlB, hO, hb⟩ := hrel
    have HNL := Lib.hid hnL; have HRL := Lib.hid hrL; have HFL := Lib.hid hfL; have HLL := Lib.hid hlL; have HLB := Lib.hid hlB
    have hLn : L.length ≤ 1048576 := by omega
    have hBn : B.length ≤ 1048576 := by omega
    clear hnL hrL hfL hlL hlB
    have hsz := hb.size
    by_cases hlt : i < 2
    · have hE := HE.out.eff (Eff.of_below hb (fun _ => False)) HG.out (fun _ f => f.elim)
      have hol := out_len (z := 7) (B := B) (n := 1048576) HFL.out HNL.out (by omega) (by omega) hLn hBn (by omega)
      have C1 := wris_any wr w.heap.size p vw O hS.w1 hsz (by omega) a1 l.length c1 L hS.l.rd (by omega) HFL.out _ _ hE.r hE.o (hS.w1.hoff hS.l (by decide) (by decide))
      have HS := Lib.hid hS
      have HB := Lib.hid hb
      have HOL := Lib.hid hol
      clear hE hS hb hol
      -- w.Rising(l)
      go_wp2_with fail
      refine C1.mono ?_
      rintro e w1 ⟨_, _, h3⟩
      obtain ⟨rfl, v1, hw1, hwr1⟩ := h3 HNL.out HRL.out
      have S1 := HS.out.put1 hw1 hwr1
      have hb1 := HB.out.trans (hwr1.below HS.out.w1 hsz)
      have hlen : (intL L).length < 1000000000000 := by rw [intL_length]; omega
      have hz1 := hb1.size
      have hl1 := S1.l
      have HS1 := Lib.hid S1
      have HB1 := Lib.hid hb1
      clear h3 C1 S1 hb1 hw1 hwr1 HS HB
      -- append(l, 7)
      go_wp2_with (at_builtin; with_reducible refine ap1g elInts rfl hl1 hlen hz1 (by kernel_rfl) _ _ rfl rfl rfl ?_)
      intro v2 w2 g1 g2 g3 g4
      have S2 := HS1.out.grew g2 g4
      have hb2 := HB1.out.grown g4 hz1 (fun k hk => (hl1.lt k hk).1)
      have hz2 := hb2.size
      have hE2 := HE.out.eff (Eff.of_below hb2 (fun _ => False)) HG.out (fun _ f => f.elim)
      obtain ⟨a2', n2', c2', rfl⟩ := own_sl g1
      have g1' : Own w2 w.heap.size 3 (.slice a2' n2' c2') (intL (L ++ [7])) := own_to g1 (by rw [intL_append]; rfl)
      have hO2 : (O ++ risB L).length ≤ 200000000 := by have := HOL.out; simp only [List.length_append] at *; omega
      have C2 := wpck_any w2 w.heap.size p v1 _ S2.w1 hz2 (by omega) a2' n2' c2' (L ++ [7]) g1'.rd (by simp; omega) (fit_snoc HFL.out (by omega) (by omega)) _ _ hE2.r hE2.l (S2.w1.hoff g1' (by decide) (by decide))
      have HS2 := Lib.hid S2
      have HB2 := Lib.hid hb2
      clear hl1 HS1 HB1 g1 g1' g2 g3 g4 S2 hb2 hE2 hlen hz1 hO2
      go_wp2_with fail
      refine C2.mono ?_
      rintro e w3 ⟨_, _, h3⟩
      obtain ⟨rfl, v3, hw3, hwr3⟩ := h3 (ok_snoc HNL.out (by omega))
      have S3 := HS2.out.put1 hw3 hwr3
      have hb3 := HB2.out.trans (hwr3.below HS2.out.w1 hz2)
      have hz3 := hb3.size
      have hO3 : (O ++ risB L ++ pckB (natOf (L ++ [7]))).length ≤ 200000000 := by have := HOL.out; simp only [List.length_append] at *; omega
      have C3 := wraw_any w3 w.heap.size p v3 _ S3.w1 hz3 (by omega) _ B S3.b.rd (by omega)
      have HS3 := Lib.hid S3
      have HB3 := Lib.hid hb3
      clear h3 C2 hw3 hwr3 S3 hb3 HS2 HB2 hO3 hz2
      go_wp2_with fail
      refine C3.mono ?_
      rintro e w4 ⟨rfl, v4, hw4, hwr4⟩
      have S4 := HS3.out.put1 hw4 hwr4
      have hb4 := HB3.out.trans (hwr4.below HS3.out.w1 hz3)
      have hz4 := hb4.size
      -- fresh := append([]int{}, l...)
      have e4 : Below w4.heap.size w4 (w4.alloc (.cells #[] 3)) := (Below.refl _ _).alloc (Nat.le_refl _) _
      have hr4 := S4.l.rd.below e4 (Nat.le_refl _)
      have ho4 := own_empty w4 w4.heap.size 3 (Nat.le_refl _)
      have hone4 := Lib.hid (intL_one L)
      have hL4 : ([] : List Value).length + (intL L).length < 1000000000001 := by rw [intL_length]; simp; omega
      have hz4' : w4.heap.size ≤ (w4.alloc (.cells #[] 3)).heap.size := e4.size
      have HS4 := Lib.hid S4
      have HB4 := Lib.hid hb4
      have HE4 := Lib.hid e4
      clear C3 hw4 hwr4 S4 hb4 e4 HS3 HB3 hz3
      go_wp2_with (at_builtin; with_reducible refine apN elInts ho4 hr4 hone4.out hL4 hz4' rfl _ _ rfl rfl rfl ?_)
      intro v5 w5 g1 g2 g3 g4
      have e5 : Below w4.heap.size w4 w5 := HE4.out.grown g4 (by simp) (fun k hk => by simp [Value.ownBlock] at hk; omega)
      have S5 := HS4.out.below e5
      have hb5 := HB4.out.trans (e5.mono hz4)
      have hz5 := hb5.size
      obtain ⟨a5, n5, c5, rfl⟩ := own_sl g1
      have hE5 := HE.out.eff (Eff.of_below hb5 (fun _ => False)) HG.out (fun _ f => f.elim)
      have ho5 := own_base g1 hz4
      have hne5 : ∀ k, (Value.slice a1 l.length c1).ownBlock = some k → ¬ (Value.slice a5 n5 c5).ownBlock = some k := fun k h1 h2 => by have := (HS4.out.l.lt k h1).2; have := (g1.lt k h2).1; omega
      have HNE := Lib.hid hne5
      have C5 := wris_any w5 w.heap.size q vx O S5.w2 hz5 (by omega) a5 n5 c5 L ho5.rd (by omega) HFL.out _ _ hE5.r hE5.o (S5.w2.hoff ho5 (by decide) (by decide))
      have HS5 := Lib.hid S5
      have HB5 := Lib.hid hb5
      have HO5 := Lib.hid ho5
      clear g1 g2 g3 g4 ho4 hr4 hL4 hz4' e5 S5 hb5 hE5 ho5 hne5 HS4 HB4 HE4 hz4 hone4
      go_wp2_with fail
      refine C5.mono ?_
      rintro e w6 ⟨_, _, h3⟩
      obtain ⟨rfl, v6, hw6, hwr6⟩ := h3 HNL.out HRL.out
      have S6 := HS5.out.put2 hw6 hwr6
      have hb6 := HB5.out.trans (hwr6.below HS5.out.w2 hz5)
      have ho6 := HO5.out.eff hwr6.eff (HS5.out.w2.offOwn HO5.out (by decide) (by decide))
      have hlen : (intL L).length < 1000000000000 := by rw [intL_length]; omega
      have hz6 := hb6.size
      have HS6 := Lib.hid S6
      have HB6 := Lib.hid hb6
      clear h3 C5 S6 hb6 hw6 hwr6 HS5 HB5 HO5 hz5
      go_wp2_with (at_builtin; with_reducible refine ap1g elInts rfl ho6 hlen hz6 (by kernel_rfl) _ _ rfl rfl rfl ?_)
      intro v7 w7 g1 g2 g3 g4
      have e7 : Eff (fun k => (Value.slice a5 n5 c5).ownBlock = some k) w6 w7 := (Eff.refl _ _).grown g4 (fun i hi _ => hi)
      have hb7 := HB6.out.grown g4 hz6 (fun k hk => (ho6.lt k hk).1)
      have hz7 := hb7.size
      have hE7 := HE.out.eff (Eff.of_below hb7 (fun _ => False)) HG.out (fun _ f => f.elim)
      have S7 := HS6.out.grewOther e7 ho6 HNE.out
      obtain ⟨a7, n7, c7, rfl⟩ := own_sl g1
      have g1' : Own w7 w.heap.size 3 (.slice a7 n7 c7) (intL (L ++ [7])) := own_to g1 (by rw [intL_append]; rfl)
      have hO7 : (O ++ risB L).length ≤ 200000000 := by have := HOL.out; simp only [List.length_append] at *; omega
      have C7 := wpck_any w7 w.heap.size q v6 _ S7.w2 hz7 (by omega) a7 n7 c7 (L ++ [7]) g1'.rd (by simp; omega) (fit_snoc HFL.out (by omega) (by omega)) _ _ hE7.r hE7.l (S7.w2.hoff g1' (by decide) (by decide))
      have HS7 := Lib.hid S7
      have HB7 := Lib.hid hb7
      clear g1 g1' g2 g3 g4 e7 S7 hb7 hE7 hlen hz6 hO7 ho6 HS6 HB6 HNE
      go_wp2_with fail
      refine C7.mono ?_
      rintro e w8 ⟨_, _, h3⟩
      obtain ⟨rfl, v8, hw8, hwr8⟩ := h3 (ok_snoc HNL.out (by omega))
      have S8 := HS7.out.put2 hw8 hwr8
      have hb8 := HB7.out.trans (hwr8.below HS7.out.w2 hz7)
      have hz8 := hb8.size
      have e8 : Below w8.heap.size w8 (w8.alloc (.cells #[] 5)) := (Below.refl _ _).alloc (Nat.le_refl _) _
      have hr8 := S8.b.rd.below e8 (Nat.le_refl _)
      have ho8 := own_empty w8 w8.heap.size 5 (Nat.le_refl _)
      have hone8 := Lib.hid (bytesV_one B)
      have hL8 : ([] : List Value).length + (bytesV B).length < 1000000000001 := by rw [bytesV_length]; simp; omega
      have hz8' : w8.heap.size ≤ (w8.alloc (.cells #[] 5)).heap.size := e8.size
      have HS8 := Lib.hid S8
      have HB8 := Lib.hid hb8
      have HE8 := Lib.hid e8
      clear h3 C7 hw8 hwr8 S8 hb8 e8 HS7 HB7 hz7
      go_wp2_with (at_builtin; with_reducible refine apN elBytes ho8 hr8 hone8.out hL8 hz8' rfl _ _ rfl rfl rfl ?_)
      intro v9 w9 g1 g2 g3 g4
      have e9 : Below w8.heap.size w8 w9 := HE8.out.grown g4 (by simp) (fun k hk => by simp [Value.ownBlock] at hk; omega)
      have S9 := HS8.out.below e9
      have hb9 := HB8.out.trans (e9.mono hz8)
      have hz9 := hb9.size
      have hO9 : (O ++ risB L ++ pckB (natOf (L ++ [7]))).length ≤ 200000000 := by have := HOL.out; simp only [List.length_append] at *; omega
      have C9 := wraw_any w9 w.heap.size q v8 _ S9.w2 hz9 (by omega) v9 B g1.rd (by omega)
      have HS9 := Lib.hid S9
      have HB9 := Lib.hid hb9
      clear g1 g2 g3 g4 ho8 hr8 hL8 hz8' e9 S9 hb9 hO9 HS8 HB8 HE8 hz8 hone8
      go_wp2_with fail
      refine C9.mono ?_
      rintro e w10 ⟨rfl, v10, hw10, hwr10⟩
      have S10 := HS9.out.put2 hw10 hwr10
      have hb10 := HB9.out.trans (hwr10.below HS9.out.w2 hz9)
      have hz10 := hb10.size
      obtain ⟨O', hO'⟩ : ∃ O', O ++ risB L ++ pckB (natOf (L ++ [7])) ++ B = O' := ⟨_, rfl⟩
      have hOl : O'.length ≤ (i + 1) * 50000000 := by rw [← hO']; have := HOL.out; simp only [List.length_append] at *; omega
      rw [hO'] at S10
      clear hO' C9 hw10 hwr10 HS9 HB9 hz9
      -- string(w.Bytes()) != string(x.Bytes())
      go_upto_region 16 with fail
      go_cut [72] (fun s72 wx => s72 = .bool false ∧ SP wx w.heap.size p q (.slice a1 l.length c1) (.slice a3 bs.length c3) v4 v10 L B O' O' ∧ Below w.heap.size w wx)
      case first =>
        have hT : SP w10.drew w.heap.size p q (.slice a1 l.length c1) (.slice a3 bs.length c3) v4 v10 L B O' O' ∧ Below w.heap.size w w10.drew := ⟨S10.drewN 1, below_drewN hb10 1⟩
        have HC : ∀ (r : Nat) (W : World), (r = p ∨ r = q) → (SP W w.heap.size p q (.slice a1 l.length c1) (.slice a3 bs.length c3) v4 v10 L B O' O' ∧ Below w.heap.size w W) → Calls Tryd.prog 18 #[.pointer (some ⟨r, 0, none⟩)] W fun e W' => ∃ a n c, e = .returned (.slice a n c) ∧ (SP W' w.heap.size p q (.slice a1 l.length c1) (.slice a3 bs.length c3) v4 v10 L B O' O' ∧ Below w.heap.size w W') ∧ Below W'.heap.size W' W' ∧ Below W.heap.size W W' ∧ (∀ W2, Below W'.heap.size W' W2 → (convert 37 9 (.slice a n c)).run Tryd.prog W2 = .ok (.string (strOf O')) W2) := by
          rintro r W (rfl | rfl) ⟨h1, h2⟩
          · refine (wbytes_any W _ _ _ _ h1.w1 (by omega)).mono ?_
            rintro e W' ⟨v', rfl, ho, hb⟩
            obtain ⟨a, n, c, rfl⟩ := own_sl ho
            exact ⟨a, n, c, rfl, ⟨h1.below hb, h2.trans (hb.mono h2.size)⟩, Below.refl _ _, hb, fun W2 hb2 => run_str Tryd.underlying37 Tryd.underlying5 Tryd.underlying9 (ho.below hb2 (Nat.le_refl _)).rd⟩
          · refine (wbytes_any W _ _ _ _ h1.w2 (by omega)).mono ?_
            rintro e W' ⟨v', rfl, ho, hb⟩
            obtain ⟨a, n, c, rfl⟩ := own_sl ho
            exact ⟨a, n, c, rfl, ⟨h1.below hb, h2.trans (hb.mono h2.size)⟩, Below.refl _ _, hb, fun W2 hb2 => run_str Tryd.underlying37 Tryd.underlying5 Tryd.underlying9 (ho.below hb2 (Nat.le_refl _)).rd⟩
        have HC := Lib.hid HC
        go_region_with (go_at_call 18; refine (HC.out _ _ (by first | exact .inl rfl | exact .inr rfl) (by assumption)).mono ?_; rintro e W' ⟨a', n', c', rfl, hS', hb', hb'', hk⟩)
        all_goals go_wp2
        all_goals go_meet
        all_goals exact ⟨rfl, by assumption⟩
      case rest =>
        obtain ⟨rfl, S11, hb11⟩ := hcut
        have HS11 := Lib.hid S11
        have HB11 := Lib.hid hb11
        have hLlen : L.length = l.length := HLL.out
        have HLlen := Lib.hid hLlen
        clear S10 hb10 S11 hb11 hLlen
        go_wp2
        go_loopw [75] (fun s wr => ∃ k : Nat, s = .int .i64 k ∧ k ≤ l.length ∧ SP wr w.heap.size p q (.slice a1 l.length c1) (.slice a3 bs.length c3) v4 v10 (stp L k) B O' O' ∧ Below w.heap.size w wr) (fun s _ => l.length - (intOf s).toNat)
        case atStart => exact ⟨0, rfl, Nat.zero_le _, HS11.out, HB11.out⟩
        case round =>
          clear HS11 HB11
          obtain ⟨k, rfl, hk, hS, hb⟩ := hrel
          by_cases hlt2 : k < l.length
          · obtain ⟨g, rfl⟩ := hS.l.someAt (by omega)
            have hlk : k < (stp L k).length := by rw [stp_length, HLlen.out]; exact hlt2
            have hc := hS.l.get (intL_get _ k hlk)
            have hf := hS.l.frozen k
            have hS1 := Lib.hid (hS.setL k (3 * (k : Int) + 1))
            have hb1 := Lib.hid (hb.setCell (p := ⟨g, k, none⟩) (hS.l.lt g rfl).1 (.int .i64 (3 * (k : Int) + 1)))
            have q1 : (k : Int) < l.length := by omega
            generalize (stp L k)[k] = z at hc
            clear hS hb
            go_wp2
            go_roundw
            case rel => exact ⟨k + 1, by go_num, by omega, by rw [stp_succ]; exact hS1.out, hb1.out⟩
            case measure => simp [intOf]; omega
          · obtain rfl : k = l.length := by omega
            have HS12 := Lib.hid hS
            have HB12 := Lib.hid hb
            clear hS hb
            go_wp2
            go_loopw [87] (fun s wr => ∃ (k : Nat) (B' : List UInt8), s = .int .i64 k ∧ k ≤ bs.length ∧ B'.length = bs.length ∧ SP wr w.heap.size p q (.slice a1 l.length c1) (.slice a3 bs.length c3) v4 v10 (stp L l.length) B' O' O' ∧ Below w.heap.size w wr) (fun s _ => bs.length - (intOf s).toNat)
            case atStart => exact ⟨0, B, rfl, Nat.zero_le _, HLB.out, HS12.out, HB12.out⟩
            case round =>
              clear HS12 HB12
              obtain ⟨k, B', rfl, hk, hB', hS, hb⟩ := hrel
              have HB' := Lib.hid hB'
              clear hB'
              by_cases hlt3 : k < bs.length
              · obtain ⟨g, rfl⟩ := hS.b.someAt (by omega)
                have hlk : k < B'.length := by rw [HB'.out]; exact hlt3
                have hc := hS.b.get (bytesV_get _ k hlk)
                have hf := hS.b.frozen k
                have hS1 := hS.setB k (B'[k] ^^^ 51)
                rw [← u8_xor51] at hS1
                have hb1 := hb.setCell (p := ⟨g, k, none⟩) (hS.b.lt g rfl).1 (.int .u8 (bits .xor .u8 ((B'[k].toNat : Nat) : Int) 51))
                have q1 : (k : Int) < bs.length := by omega
                have hx := B'[k].toNat_lt
                obtain ⟨x, hxx⟩ : ∃ x, B'[k].toNat = x := ⟨_, rfl⟩
                rw [hxx] at hc hS1 hb1 hx
                have HS1 := Lib.hid hS1
                have HB1 := Lib.hid hb1
                clear hS hb hS1 hb1 hxx
                go_wp2
                go_roundw
                case rel => exact ⟨k + 1, _, by go_num, by omega, by rw [List.length_set]; exact HB'.out, HS1.out, HB1.out⟩
                case measure => simp [intOf]; omega
              · go_wp2
                go_roundw
                case rel =>
                  have e1 : stp L l.length = stp L L.length := by rw [HLlen.out]
                  exact ⟨i + 1, _, B', O', v4, v10, by go_num, by omega, hS, by rw [e1]; exact stp_pos L, by rw [e1]; exact stp_rises L, by rw [e1]; exact stp_fit L (by omega), by rw [stp_length]; exact HLlen.out, HB'.out, hOl, hb⟩
                case measure => simp [intOf]; omega
    · go_wp2
      go_ret
      exact ⟨rfl, hb⟩
end Go.Proofs.YtmmflhippbegaaaDoor
