/- Merged: RPost, Take, Bits, DocQ. -/
import Derived.Test.YthnpbfadblcicaaDoorZGood
import Derived.Test.YthnpbfadblcicaaDoorZG5
import Derived.Test.YthnpbfadblcicaaDoorZG1
import Derived.Test.YthnpbfadblcicaaDoorZG2
import Derived.Test.YthnpbfadblcicaaDoorZPacked
import Derived.WalkArith
/- posts: the document's Check, number, Total. -/
namespace Go.Proofs.YthnpbfadblcicaaDoor
set_option linter.unusedVariables false
open Go.ChangeShapes Go.WideShapes Go.ChangeAt Go.RowKit

set_option maxRecDepth 100000 in
set_option maxHeartbeats 2000000 in
theorem rchk8_any (w : World) (a : Option Addr) (n c : Nat) (ps : List PostV) (hr : RdPost w a n ps) (hf : FitP ps) (hl : ps.length ≤ 1000000000) (EA : Nat → Addr) (hS : Sent6 w EA) :
    Calls Tryd.prog 37 #[.slice a n c] w fun e w' => e = .returned (.int .i64 (checkV (-1) ps : Nat)) ∧ Below w.heap.size w w' := by
  obtain rfl := hr.1
  obtain ⟨G, hG⟩ : ∃ G, checkV (-1) ps = G := ⟨_, rfl⟩
  rw [hG]
  have HG := Lib.hid hG
  have HR := Lib.hid hr
  have HF := Lib.hid hf
  have HS := Lib.hid hS
  clear hr hf hS hG
  go_enter Tryd.func37, Tryd.ntmps37
  go_wp2
  go_loopw [3, 9] (fun s3 s9 wr => ∃ (i : Nat) (before : Int), s3 = .int .i64 before ∧ s9 = .int .i64 i ∧ i ≤ ps.length ∧ checkV before (ps.drop i) = G ∧ Below w.heap.size w wr) (fun _ s9 _ => ps.length - (intOf s9).toNat)
  case atStart => exact ⟨0, -1, rfl, rfl, Nat.zero_le _, HG.out, Below.refl _ _⟩
  case round =>
    obtain ⟨i, before, rfl, rfl, hi, hck, hb⟩ := hrel
    by_cases hlt : i < ps.length
    · obtain ⟨b, o, rfl, hg⟩ := (HR.out.below hb (Nat.le_refl _)).2 (by omega)
      obtain ⟨g0, A, C, g1, hrd⟩ := hg i hlt
      rw [checkV_drop hlt] at hck
      have hpl := (HF.out ps[i] (List.getElem_mem hlt)).2.2
      obtain ⟨x, hx⟩ : ∃ x, ps[i] = x := ⟨_, rfl⟩
      rw [hx] at g0 g1 hrd hck hpl
      obtain ⟨doc, pos⟩ := x
      simp only at g0 g1 hrd hck hpl
      have i1 : (i : Int) < (ps.length : Int) := by omega
      have hbA := hb.alloc hb.size (.cells #[.int .i64 doc, .slice A pos.length C] 53)
      have e1 := heap_alloc_new wr (.cells #[.int .i64 doc, .slice A pos.length C] 53)
      have C1 := rgood_any (wr.alloc (.cells #[.int .i64 doc, .slice A pos.length C] 53)) doc before A pos.length C pos (hrd.below ((Below.refl _ wr).alloc (Nat.le_refl _) _) (Nat.le_refl _)) (by omega) EA (HS.out.below hbA)
      obtain ⟨gv, hgv⟩ : ∃ gv, goodV before ⟨doc, pos⟩ = gv := ⟨_, rfl⟩
      rw [hgv] at C1 hck
      have HBA := Lib.hid hbA
      have HE1 := Lib.hid e1
      clear hg hrd hx hb hbA e1 hgv
      by_cases h0 : gv = 0
      · subst h0
        rw [if_pos rfl] at hck
        have HCK := Lib.hid hck
        clear hck
        go_wp2_with fail
        refine C1.mono ?_
        rintro e w5 ⟨rfl, hb5⟩
        clear C1
        have e5 := (hb5.block _ (lt_of_heap HE1.out)).trans HE1.out
        have c0 := blk_cell e5 0
        have HB5 := Lib.hid (HBA.out.trans (hb5.mono HBA.out.size))
        clear hb5 e5 g0 g1
        go_wp2
        go_roundw
        case rel => exact ⟨i + 1, doc, rfl, by go_num, by omega, HCK.out, HB5.out⟩
        case measure => simp [intOf]; omega
      · rw [if_neg h0] at hck
        subst hck
        have t0 : (((gv : Nat) : Int) != 0) = true := by simp; omega
        go_wp2_with fail
        refine C1.mono ?_
        rintro e w5 ⟨rfl, hb5⟩
        clear C1
        have HB5 := Lib.hid (HBA.out.trans (hb5.mono HBA.out.size))
        clear hb5 g0 g1
        go_wp2
        go_ret
        exact ⟨rfl, HB5.out⟩
    · obtain rfl : i = ps.length := by omega
      have i1 : ¬ ((ps.length : Int) < (ps.length : Int)) := by omega
      rw [List.drop_length] at hck
      have hck : 0 = G := hck
      subst hck
      have HB := Lib.hid hb
      clear hb
      go_wp2
      go_ret
      exact ⟨rfl, HB.out⟩
set_option maxRecDepth 100000 in
set_option maxHeartbeats 2000000 in
theorem rtot_any (w : World) (a : Option Addr) (n c : Nat) (ps : List PostV) (hr : RdPost w a n ps) (hl : ps.length ≤ 1000000000) (hT : totalV ps ≤ 1000000000) :
    Calls Tryd.prog 17 #[.slice a n c] w fun e w' => e = .returned (.int .i64 (totalV ps : Nat)) ∧ Below w.heap.size w w' := by
  obtain rfl := hr.1
  have HR := Lib.hid hr
  clear hr
  go_enter Tryd.func17, Tryd.ntmps17
  go_wp2
  go_loopw [3, 8] (fun s3 s8 wr => ∃ (i : Nat), s3 = .int .i64 (totalV (ps.take i) : Nat) ∧ s8 = .int .i64 i ∧ i ≤ ps.length ∧ Below w.heap.size w wr) (fun _ s8 _ => ps.length - (intOf s8).toNat)
  case atStart => exact ⟨0, rfl, rfl, Nat.zero_le _, Below.refl _ _⟩
  case round =>
    obtain ⟨i, rfl, rfl, hi, hb⟩ := hrel
    by_cases hlt : i < ps.length
    · obtain ⟨b, o, rfl, hg⟩ := (HR.out.below hb (Nat.le_refl _)).2 (by omega)
      obtain ⟨g0, A, C, g1, _⟩ := hg i hlt
      have htt := totalV_take ps i hlt
      have hts := totalV_split ps (i + 1)
      obtain ⟨x, hx⟩ : ∃ x, ps[i] = x := ⟨_, rfl⟩
      rw [hx] at g0 g1 htt
      obtain ⟨doc, pos⟩ := x
      simp only at g0 g1 htt
      have i1 : (i : Int) < (ps.length : Int) := by omega
      obtain ⟨t1, ht1⟩ : ∃ t1, totalV (ps.take i) = t1 := ⟨_, rfl⟩
      rw [ht1] at htt ⊢
      have htb : t1 + pos.length ≤ 1000000000 := by omega
      have HBA := Lib.hid (hb.alloc hb.size (.cells #[.int .i64 doc, .slice A pos.length C] 53))
      have HTT := Lib.hid htt
      clear hg hx hb htt hts ht1
      go_wp2
      go_roundw
      case rel => exact ⟨i + 1, by rw [HTT.out]; go_num, by go_num, by omega, HBA.out⟩
      case measure => simp [intOf]; omega
    · obtain rfl : i = ps.length := by omega
      have i1 : ¬ ((ps.length : Int) < (ps.length : Int)) := by omega
      rw [List.take_length]
      have HB := Lib.hid hb
      clear hb
      go_wp2
      go_ret
      exact ⟨rfl, HB.out⟩
theorem rnum_any (n : Nat) (w : World) (hn : n ≤ 9223372036854775807) :
    Calls Tryd.prog 56 #[.int .i64 n] w fun e w' => ∃ v, e = .returned v ∧ Own w' w.heap.size 5 v (bytesV (uvar n)) ∧ Below w.heap.size w w' := by
  have C1 := ruvar_any n w (by omega)
  have s1 : IntKind.u64.wrap (n : Int) = (n : Int) := by rw [IntKind.wrap_u64]; omega
  go_enter Tryd.func56, Tryd.ntmps56
  go_wp2_with fail
  refine C1.mono ?_
  rintro e w1 ⟨v, rfl, ho, hb⟩
  obtain ⟨A, N, K, rfl⟩ := own_sl ho
  go_wp2
  go_ret
  exact ⟨_, rfl, ho, hb⟩
end Go.Proofs.YthnpbfadblcicaaDoor

/- Plain: a list one longer. -/
namespace Go.Proofs.YthnpbfadblcicaaDoor
set_option linter.unusedVariables false
open Go.ChangeShapes Go.WideShapes Go.ChangeAt Go.RowKit

theorem take_one {α : Type} {l : List α} {i : Nat} (h : i < l.length) : l.take (i + 1) = l.take i ++ [l[i]] := by rw [List.take_add_one, List.getElem?_eq_getElem h]; rfl

theorem last_at {l : List Int} {i : Nat} (h : i < l.length) (h0 : 0 < i) : (l.take i).getLastD (-1) = l[i - 1] := by
  obtain ⟨k, rfl⟩ : ∃ k, i = k + 1 := ⟨i - 1, by omega⟩
  rw [take_one (by omega)]
  exact List.getLastD_concat ..
theorem anyNeg_snoc (l : List Int) (i : Nat) (h : i < l.length) : anyNeg (l.take (i + 1)) = (anyNeg (l.take i) || decide (l[i] < 0)) := by
  have h1 : l.take (i + 1) = l.take i ++ [l[i]] := by rw [List.take_add_one, List.getElem?_eq_getElem h]; rfl
  rw [h1]; unfold anyNeg; rw [List.any_append]; simp only [List.any_cons, List.any_nil, Bool.or_false]
end Go.Proofs.YthnpbfadblcicaaDoor

/- Plain: bit by bit what packN lays whole. -/
namespace Go.Proofs.YthnpbfadblcicaaDoor
set_option linter.unusedVariables false

/-- Behind T bits that make the number M: the whole bytes b, and c, what is left of it. -/
structure Bits (T M : Nat) (b : List UInt8) (h c : Nat) : Prop where
  lt : M < 2 ^ T
  b : b = leB (T / 8) M
  h : h = T % 8
  c : c = M / 256 ^ (T / 8)
theorem pow_split (T : Nat) : 2 ^ T = 256 ^ (T / 8) * 2 ^ (T % 8) := by
  rw [show (256 : Nat) = 2 ^ 8 by rfl, ← Nat.pow_mul, ← Nat.pow_add]; congr 1; omega
theorem bits_zero : Bits 0 0 [] 0 0 := ⟨by decide, rfl, rfl, by simp⟩
theorem Bits.clt {T M : Nat} {b : List UInt8} {h c : Nat} (B : Bits T M b h c) : c < 2 ^ (T % 8) := by
  have := B.lt
  rw [pow_split] at this
  rw [B.c, Nat.div_lt_iff_lt_mul (Nat.pow_pos (by decide))]
  rw [Nat.mul_comm]; exact this
theorem Bits.hlt {T M : Nat} {b : List UInt8} {h c : Nat} (B : Bits T M b h c) : h < 8 := by rw [B.h]; omega
theorem leB_add (k M q : Nat) : leB k (M + q * 256 ^ k) = leB k M := by
  rw [← leB_mod k (M + q * 256 ^ k), Nat.add_mul_mod_self_right, leB_mod]
theorem two_pow_lt (k : Nat) (h : k < 8) : 2 ^ k ≤ 128 := Nat.le_trans (Nat.pow_le_pow_right (by decide) (show k ≤ 7 by omega)) (by decide)
theorem Bits.step {T M : Nat} {b : List UInt8} {h c : Nat} (B : Bits T M b h c) (β : Nat) (hβ : β < 2) :
    c + β * 2 ^ h < 256 ∧ (h < 7 → Bits (T + 1) (M + β * 2 ^ T) b (h + 1) (c + β * 2 ^ h)) ∧ (h = 7 → Bits (T + 1) (M + β * 2 ^ T) (b ++ [UInt8.ofNat (c + β * 2 ^ h)]) 0 0) := by
  have hc := B.clt
  have hh := B.hlt
  have hp := pow_split T
  have hP : 0 < 256 ^ (T / 8) := Nat.pow_pos (by decide)
  have hM' : M + β * 2 ^ T < 2 ^ (T + 1) := by
    have h1 := B.lt
    have h2 : β * 2 ^ T ≤ 1 * 2 ^ T := Nat.mul_le_mul_right _ (by omega)
    rw [Nat.pow_succ]; omega
  have hc' : (M + β * 2 ^ T) / 256 ^ (T / 8) = c + β * 2 ^ h := by
    rw [hp, B.h, B.c, show β * (256 ^ (T / 8) * 2 ^ (T % 8)) = 256 ^ (T / 8) * (β * 2 ^ (T % 8)) by rw [Nat.mul_left_comm], Nat.add_mul_div_left _ _ hP]
  have hlo : c + β * 2 ^ h < 2 * 2 ^ h := by
    rw [← B.h] at hc
    have h2 : β * 2 ^ h ≤ 1 * 2 ^ h := Nat.mul_le_mul_right _ (by omega)
    omega
  have h256 : c + β * 2 ^ h < 256 := by have := two_pow_lt h hh; omega
  have hb' : leB (T / 8) (M + β * 2 ^ T) = b := by
    rw [hp, B.b, show β * (256 ^ (T / 8) * 2 ^ (T % 8)) = (β * 2 ^ (T % 8)) * 256 ^ (T / 8) by rw [Nat.mul_left_comm, Nat.mul_comm], leB_add]
  have hT := B.h
  refine ⟨h256, fun h7 => ⟨hM', ?_, ?_, ?_⟩, fun h7 => ⟨hM', ?_, ?_, ?_⟩⟩
  · rw [show (T + 1) / 8 = T / 8 by omega, hb']
  · omega
  · rw [show (T + 1) / 8 = T / 8 by omega, hc']
  · rw [show (T + 1) / 8 = T / 8 + 1 by omega, leB_succ, hb', hc', Nat.mod_eq_of_lt h256]
  · omega
  · rw [show (T + 1) / 8 = T / 8 + 1 by omega, Nat.pow_succ, ← Nat.div_div_eq_div_mul, hc', Nat.div_eq_of_lt h256]
theorem bit_next (x k Z A : Nat) : A + x % 2 ^ (k + 1) * 2 ^ Z = A + x % 2 ^ k * 2 ^ Z + x / 2 ^ k % 2 * 2 ^ (Z + k) := by
  rw [Nat.mod_pow_succ, Nat.add_mul, Nat.pow_add, Nat.add_assoc]
  congr 2
  rw [Nat.mul_comm (2 ^ k), Nat.mul_assoc, Nat.mul_comm (2 ^ k)]
theorem Bits.done {T M : Nat} {b : List UInt8} {h c : Nat} (B : Bits T M b h c) : (h = 0 → b = leB ((T + 7) / 8) M) ∧ (0 < h → b ++ [UInt8.ofNat c] = leB ((T + 7) / 8) M) := by
  have hT := B.h
  have hc := B.clt
  refine ⟨fun h0 => ?_, fun h0 => ?_⟩
  · rw [show (T + 7) / 8 = T / 8 by omega]; exact B.b
  · have h256 : c < 256 := by have := two_pow_lt (T % 8) (by omega); omega
    rw [show (T + 7) / 8 = T / 8 + 1 by omega, leB_succ, ← B.b, ← B.c, Nat.mod_eq_of_lt h256]
end Go.Proofs.YthnpbfadblcicaaDoor

/- The document's Width and Packed. -/
namespace Go.Proofs.YthnpbfadblcicaaDoor
set_option linter.unusedVariables false
open Go.ChangeShapes Go.WideShapes Go.ChangeAt Go.RowKit

theorem widL_snoc (l : List Nat) (i : Nat) (h : i < l.length) : widL (l.take (i + 1)) = max (widL (l.take i)) (Lib.bitLen l[i]) := by
  rw [take_one h, widL_append]; simp [widL]
theorem pow_le_bitLen {x m : Nat} (hx : x < 2 ^ 63) : 2 ^ m ≤ x ↔ m < Lib.bitLen x := by
  constructor
  · intro h
    have h1 := lt_bitLen x (by omega)
    have h2 : 2 ^ m < 2 ^ Lib.bitLen x := by omega
    exact (Nat.pow_lt_pow_iff_right (by decide)).1 h2
  · intro h
    apply Nat.le_of_not_lt
    intro hlt
    by_cases hm : m ≤ 64
    · have := Lib.bitLen_le x m hm hlt; omega
    · have := Lib.bitLen_le x 63 (by decide) hx; omega

set_option maxRecDepth 100000 in
set_option maxHeartbeats 1000000 in
theorem rwid_any (w : World) (a : Option Addr) (n c : Nat) (l : List Nat) (hr : Rd w (.slice a n c) (intL (natI l))) (hl : l.length ≤ 1000000000) (hf : ∀ x ∈ l, x < 2 ^ 63) :
    Calls Tryd.prog 77 #[.slice a n c] w fun e w' => e = .returned (.int .i64 (widL l : Nat)) ∧ w = w' := by
  obtain ⟨rfl, hg⟩ := rd_nat hr
  have HG := Lib.hid hg
  have HF := Lib.hid hf
  clear hg hr hf
  go_enter Tryd.func77, Tryd.ntmps77
  go_wp2
  go_loopw [3, 8] (fun s3 s8 wr => ∃ i : Nat, s8 = .int .i64 i ∧ i ≤ l.length ∧ s3 = .int .i64 (widL (l.take i) : Nat) ∧ w = wr) (fun _ s _ => l.length - (intOf s).toNat)
  case atStart => exact ⟨0, rfl, Nat.zero_le _, rfl, rfl⟩
  case round =>
    obtain ⟨i, rfl, hi, rfl, rfl⟩ := hrel
    by_cases hlt : i < l.length
    · obtain ⟨b, o, rfl, hg⟩ := HG.out (by omega)
      have hc := hg i hlt
      have hx := HF.out l[i] (List.getElem_mem hlt)
      have hsn := widL_snoc l i hlt
      have hw63 := widL_63 (l := l.take i) (fun x hx => HF.out x (List.mem_of_mem_take hx))
      obtain ⟨x, hxx⟩ : ∃ x, l[i] = x := ⟨_, rfl⟩
      obtain ⟨w0, hw0⟩ : ∃ w0, widL (l.take i) = w0 := ⟨_, rfl⟩
      rw [hxx] at hc hx hsn
      rw [hw0] at hsn hw63 ⊢
      have hbx := Lib.bitLen_le x 63 (by decide) hx
      have HPB := Lib.hid (fun m => pow_le_bitLen (m := m) hx)
      have HSN := Lib.hid hsn
      have HX := Lib.hid hx
      clear hg hxx hw0 hsn hx
      go_wp2
      go_loopw [3] (fun s3 wr => ∃ m : Nat, s3 = .int .i64 m ∧ w0 ≤ m ∧ m ≤ max w0 (Lib.bitLen x) ∧ w = wr) (fun s _ => 64 - (intOf s).toNat)
      case atStart => exact ⟨w0, rfl, Nat.le_refl _, by omega, rfl⟩
      case round =>
        obtain ⟨m, rfl, hm0, hm1, rfl⟩ := hrel
        have qs1 : (0 : Int) ≤ (m : Int) := by omega
        have qs2 : (m : Int) ≤ 64 := by omega
        by_cases hm : m < Lib.bitLen x
        · have h2 := (HPB.out m).2 hm
          have d1 : decide ((m : Int) < 63) = true := decide_eq_true (by omega)
          have e2 : (x : Int) / 2 ^ m = ((x / 2 ^ m : Nat) : Int) := by simp
          have h3 : 0 < x / 2 ^ m := Nat.div_pos h2 (Nat.pow_pos (by decide))
          have h4 : decide (x / 2 ^ m = 0) = false := decide_eq_false (by omega)
          have e3 : ((x : Int) / 2 ^ m != 0) = true := bne_iff_ne.2 (by rw [e2]; omega)
          clear e2 h3 h4 h2
          go_wp2
          go_roundw
          case rel => exact ⟨m + 1, by go_num, by omega, by omega, by first | rfl | trivial⟩
          case measure => simp [intOf]; omega
        · have hmm : m = max w0 (Lib.bitLen x) := by omega
          have h2 : x / 2 ^ m = 0 := Nat.div_eq_of_lt (Nat.lt_of_not_le (fun h => hm ((HPB.out m).1 h)))
          have e2 : (x : Int) / 2 ^ m = ((x / 2 ^ m : Nat) : Int) := by simp
          have e3 : ((x : Int) / 2 ^ m != 0) = false := by rw [e2, h2]; rfl
          have HM := Lib.hid hmm
          clear hmm h2 e2
          by_cases h63 : (m : Int) < 63
          · go_wp2
            go_roundw
            case rel => exact ⟨i + 1, by go_num, by omega, by rw [HSN.out, HM.out], by first | rfl | trivial⟩
            case measure => simp [intOf]; omega
          · go_wp2
            go_roundw
            case rel => exact ⟨i + 1, by go_num, by omega, by rw [HSN.out, HM.out], by first | rfl | trivial⟩
            case measure => simp [intOf]; omega
    · obtain rfl : i = l.length := by omega
      rw [List.take_length]
      go_wp2
      go_ret
      exact ⟨rfl, rfl⟩
end Go.Proofs.YthnpbfadblcicaaDoor
