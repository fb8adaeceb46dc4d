/- Merged: DocW, DocP, DocQ. -/
import Derived.Test.YtmmflhippbegaaaDoorZPutL
import Derived.WalkArith
/- The document's Word, Text, Rising and Width: the bytes of words, of texts, of rising lists; the width of a list. -/
namespace Go.Proofs.YtmmflhippbegaaaDoor
set_option linter.unusedVariables false
open Go.ChangeShapes Go.WideShapes Go.ChangeAt Go.RowKit

set_option maxRecDepth 100000 in
set_option maxHeartbeats 1000000 in
theorem rword_any (w : World) (m k : Nat) (hm : (m : Int) ≤ 18446744073709551615) (hk : k ≤ 8) :
    Calls Tryd.prog 58 #[.int .u64 m, .int .i64 k] w fun e w' => ∃ v, e = .returned v ∧ Own w' w.heap.size 5 v (bytesV (leB k m)) ∧ Below w.heap.size w w' := by
  go_enter Tryd.func58, Tryd.ntmps58
  go_wp2
  go_loopw [0, 5, 6] (fun u b s wr => ∃ i : Nat, s = .int .i64 i ∧ i ≤ k ∧ u = .int .u64 (m / 256 ^ i : Nat) ∧ Own wr w.heap.size 5 b (bytesV (leB i m)) ∧ Below w.heap.size w wr) (fun _ _ s _ => k - (intOf s).toNat)
  case atStart => exact ⟨0, rfl, Nat.zero_le _, by simp, own_empty _ _ _ (Nat.le_refl _), (Below.refl _ _).alloc (Nat.le_refl _) _⟩
  case round =>
    obtain ⟨i, rfl, hi, rfl, hown, hb⟩ := hrel
    have hb0 := hb.size
    have hl' : (bytesV (leB i m)).length < 1000000000000 := by rw [bytesV_length, leB_length]; omega
    have hqm : m / 256 ^ i ≤ m := Nat.div_le_self _ _
    have hnx : m / 256 ^ (i + 1) = m / 256 ^ i / 256 := by rw [Nat.pow_succ, Nat.div_div_eq_div_mul]
    have hsu := leB_succ i m
    obtain ⟨q, hq⟩ : ∃ q, m / 256 ^ i = q := ⟨_, rfl⟩
    rw [hq] at hqm hnx hsu ⊢
    have HNX := Lib.hid hnx
    have HSU := Lib.hid hsu
    clear hnx hsu hq
    by_cases hlt : i < k
    · go_wp2_with (at_builtin; with_reducible refine ap1 elBytes rfl hown hl' hb0 rfl _ _ rfl rfl rfl ?_)
      intro v' w1 hown1 hg1
      go_wp2
      go_roundw
      case rel =>
        refine ⟨i + 1, by go_num, by omega, by rw [HNX.out]; go_num, ?_, hb.grown hg1 hb0 (fun k hk => (hown.lt k hk).1)⟩
        rw [HSU.out, bytesV_snoc]; exact own_last hown1 (by rw [u8_ofNat]; omega)
      case measure => simp [intOf]; omega
    · obtain rfl : i = k := by omega
      go_wp2
      go_ret
      exact ⟨_, rfl, hown, hb⟩

set_option maxRecDepth 100000 in
theorem rtxt_any (w : World) (s : ByteArray) (hs : s.size ≤ 10000000000) :
    Calls Tryd.prog 61 #[.string s] w fun e w' => ∃ v, e = .returned v ∧ Own w' w.heap.size 5 v (bytesV (uvar s.size ++ s.data.toList)) ∧ Below w.heap.size w w' := by
  have hu := (uvar_le s.size (by omega)).2
  have C1 := ruvar_any s.size w (by omega)
  go_enter Tryd.func61, Tryd.ntmps61
  go_wp2_with fail
  refine C1.mono ?_
  rintro e w1 ⟨v1, rfl, ho, hb⟩
  have hl' : (bytesV (uvar s.size)).length + s.size < 1000000000001 := by rw [bytesV_length]; omega
  have hb1 := hb.size
  obtain ⟨av, nv, cv, rfl⟩ := own_sl ho
  go_wp2_with (at_builtin; with_reducible refine apS elBytes Tryd.underlying9 ho hl' hb1 rfl _ _ rfl rfl rfl ?_)
  intro v2 w2 g1 g2 g3 g4
  rw [← bytesV_append] at g1
  go_wp2
  go_ret
  exact ⟨_, rfl, g1, hb.grown g4 hb1 (fun k hk => (ho.lt k hk).1)⟩

/-- What the document answers for a rising list. -/
def RisO (l : List Int) (b : List UInt8) (k : Nat) : Prop := (anyNeg l = true → b = [] ∧ k = 8) ∧ (anyNeg l = false → ¬ rises l → b = [] ∧ k = 4) ∧ (anyNeg l = false → rises l → b = risB l ∧ k = 0)
theorem risO_neg {l : List Int} (h : anyNeg l = true) : RisO l [] 8 := ⟨fun _ => ⟨rfl, rfl⟩, fun h2 => absurd (h.symm.trans h2) (by decide), fun h2 => absurd (h.symm.trans h2) (by decide)⟩
theorem risO_no {l : List Int} (h : anyNeg l = false) (hr : ¬ rises l) : RisO l [] 4 := ⟨fun h2 => absurd (h2.symm.trans h) (by decide), fun _ _ => ⟨rfl, rfl⟩, fun _ h2 => absurd h2 hr⟩
theorem risO_ok {l : List Int} (h : anyNeg l = false) (hr : rises l) : RisO l (risB l) 0 := ⟨fun h2 => absurd (h2.symm.trans h) (by decide), fun _ h2 => absurd hr h2, fun _ _ => ⟨rfl, rfl⟩⟩
theorem take_one {α : Type} {l : List α} {i : Nat} (h : i < l.length) : l.take (i + 1) = l.take i ++ [l[i]] := by rw [List.take_add_one, List.getElem?_eq_getElem h]; rfl

theorem last_at {l : List Int} {i : Nat} (h : i < l.length) (h0 : 0 < i) : (l.take i).getLastD (-1) = l[i - 1] := by
  obtain ⟨k, rfl⟩ : ∃ k, i = k + 1 := ⟨i - 1, by omega⟩
  rw [take_one (by omega)]
  exact List.getLastD_concat ..

set_option maxRecDepth 100000 in
set_option maxHeartbeats 2000000 in
theorem rris_any (w : World) (a : Option Addr) (n c : Nat) (l : List Int) (hr : Rd w (.slice a n c) (intL l)) (hl : l.length ≤ 1000000000) (hf : FitL l) :
    Calls Tryd.prog 89 #[.slice a n c] w fun e w' => ∃ v b k, e = .returned (.tuple #[v, .int .i64 (k : Nat)]) ∧ RisO l b k ∧ Own w' w.heap.size 5 v (bytesV b) ∧ Below w.heap.size w w' := by
  obtain ⟨rfl, hg⟩ := rd_get hr
  have HG := Lib.hid hg
  have HF := Lib.hid hf
  have HR := Lib.hid hr
  have HU := Lib.hid (uvar_le l.length (by omega)).2
  clear hg hf hr
  go_enter Tryd.func89, Tryd.ntmps89
  go_wp2
  go_loopw [11] (fun s wr => ∃ i : Nat, s = .int .i64 i ∧ i ≤ l.length ∧ anyNeg (l.take i) = false ∧ w = wr) (fun s _ => l.length - (intOf s).toNat)
  case atStart => exact ⟨0, rfl, Nat.zero_le _, rfl, rfl⟩
  case round =>
    obtain ⟨i, rfl, hi, hno, rfl⟩ := hrel
    by_cases hlt : i < l.length
    · obtain ⟨b, o, rfl, hg⟩ := HG.out (by omega)
      have hc := hg i hlt
      obtain ⟨z, hz⟩ : ∃ z, l[i] = z := ⟨_, rfl⟩
      rw [hz] at hc
      have HZ := Lib.hid hz
      have HN := Lib.hid hno
      clear hg hz hno
      by_cases hn : z < 0
      · go_wp2
        have : anyNeg l = true := List.any_eq_true.2 ⟨z, by rw [← HZ.out]; exact List.getElem_mem hlt, by simpa using hn⟩
        go_ret2
        exact ⟨_, [], 8, rfl, risO_neg this, own_empty _ _ _ (Nat.le_refl _), (Below.refl _ _).alloc (Nat.le_refl _) _⟩
      · go_wp2
        go_roundw
        case rel =>
          refine ⟨i + 1, by go_num, by omega, ?_, by first | rfl | trivial⟩
          rw [anyNeg_snoc l i hlt, HN.out, HZ.out]; simp; omega
        case measure => simp [intOf]; omega
    · obtain rfl : i = l.length := by omega
      rw [List.take_length] at hno
      have HN := Lib.hid hno
      clear hno
      have C1 := ruvar_any l.length w (by omega)
      go_wp2_with fail
      refine C1.mono ?_
      rintro e w1 ⟨v1, rfl, ho, hb⟩
      clear C1
      have HO := Lib.hid ho
      have HB := Lib.hid hb
      clear ho hb
      go_wp2
      go_loopw [6, 25] (fun b s wr => ∃ i : Nat, s = .int .i64 i ∧ i ≤ l.length ∧ (∀ j, (h : j + 1 < l.length) → j + 1 < i → l[j] < l[j + 1]) ∧ Own wr w.heap.size 5 b (bytesV (uvar l.length ++ gapsB (-1) (l.take i))) ∧ Below w.heap.size w wr) (fun _ s _ => l.length - (intOf s).toNat)
      case atStart => exact ⟨0, rfl, Nat.zero_le _, fun j _ h => by omega, by simpa [gapsB] using HO.out, HB.out⟩
      case round =>
        obtain ⟨i, rfl, hi, hup, ho, hb⟩ := hrel
        have hb0 := hb.size
        have HUP := Lib.hid hup
        clear hup
        by_cases hlt : i < l.length
        · have hgn := gapsB_snoc (-1) (l.take i) l[i]
          rw [← take_one hlt] at hgn
          have hgl := gapsB_le (l := l.take i) (fun z hz => HF.out z (List.mem_of_mem_take hz)) (-1) (by omega) (fun z hz => neg_mem HN.out (List.mem_of_mem_take hz))
          rw [List.length_take, Nat.min_eq_left hi] at hgl
          have hll : (bytesV (uvar l.length ++ gapsB (-1) (l.take i))).length ≤ 10 + 10 * i := by rw [bytesV_length, List.length_append]; have := HU.out; omega
          obtain ⟨acc, hacc⟩ : ∃ acc, uvar l.length ++ gapsB (-1) (l.take i) = acc := ⟨_, rfl⟩
          have hnew : uvar l.length ++ gapsB (-1) (l.take (i + 1)) = acc ++ uvar (l[i] - (l.take i).getLastD (-1) - 1).toNat := by rw [hgn, ← List.append_assoc, hacc]
          rw [hacc] at ho hll
          have hz0 : 0 ≤ l[i] := neg_mem HN.out (List.getElem_mem hlt)
          have hzf := HF.out l[i] (List.getElem_mem hlt)
          have hrd := HR.out.below hb (Nat.le_refl _)
          obtain ⟨_, hg0⟩ := rd_get hrd
          obtain ⟨b, o, rfl, hg⟩ := hg0 (by omega)
          have hc := hg i hlt
          have hc0 := hg (i - 1) (by omega)
          obtain ⟨z, hz⟩ : ∃ z, l[i] = z := ⟨_, rfl⟩
          have HNEW := Lib.hid hnew
          have HZ := Lib.hid hz
          rw [hz] at hc hz0 hzf
          clear hgn hgl hnew hacc
          obtain ⟨zn, rfl⟩ : ∃ zn : Nat, z = zn := ⟨z.toNat, by omega⟩
          have HO2 := Lib.hid ho
          have HB2 := Lib.hid hb
          clear ho hb hg hg0 hrd hz
          by_cases h0 : i = 0
          · subst h0
            rw [Nat.add_zero] at hc
            have C2 := ruvar_any zn wr (by omega)
            have HU2 := Lib.hid (uvar_le zn (by omega)).2
            have HNEW2 := Lib.hid (show uvar l.length ++ gapsB (-1) (l.take (0 + 1)) = acc ++ uvar zn by
              rw [HNEW.out, HZ.out]; simp)
            clear HNEW
            go_wp2_with fail
            refine C2.mono ?_
            rintro e w2 ⟨v2, rfl, ho2, hb2⟩
            clear C2
            have hoa := HO2.out.below hb2 (Nat.le_refl _)
            have hrd2 := ho2.rd
            have HO1 := Lib.hid (bytesV_one (uvar zn))
            have hlen2 : (bytesV acc).length + (bytesV (uvar zn)).length < 1000000000001 := by rw [bytesV_length (uvar zn)]; have := HU2.out; omega
            have hz2 := Nat.le_trans hb0 hb2.size
            have HB3 := Lib.hid (HB2.out.trans (hb2.mono hb0))
            clear ho2 hb2
            go_wp2_with (at_builtin; with_reducible refine apN elBytes hoa hrd2 HO1.out hlen2 hz2 rfl _ _ rfl rfl rfl ?_)
            intro v3 w3 g1 g2 g3 g4
            rw [← bytesV_append] at g1
            have hb3 := HB3.out.grown g4 hz2 (fun k hk => (hoa.lt k hk).1)
            have HG1 := Lib.hid g1
            clear g1 g2 g3 g4 hoa hrd2
            go_wp2
            go_roundw
            case rel => exact ⟨0 + 1, by go_num, by omega, fun j _ h => by omega, by rw [HNEW2.out]; exact HG1.out, hb3⟩
            case measure => simp [intOf]; omega
          · have q1 : (0 : Int) ≤ (i : Int) - 1 := by omega
            have q2 : (1 : Int) ≤ i := by omega
            have q3 : (i : Int) < l.length := by omega
            have q4 : (i : Int) - 1 < l.length := by omega
            have q5 : IntKind.i64.wrap ((i : Int) - 1) = (i : Int) - 1 := IntWalk.i64_in _ (by omega)
            have q6 : ((i : Int) - 1).toNat = i - 1 := by omega
            have hla := last_at hlt (by omega)
            have hy0 : 0 ≤ l[i - 1] := neg_mem HN.out (List.getElem_mem _)
            have hyf := HF.out l[i - 1] (List.getElem_mem _)
            obtain ⟨y, hy⟩ : ∃ y, l[i - 1] = y := ⟨_, rfl⟩
            rw [hy] at hc0 hla hy0 hyf
            obtain ⟨yn, rfl⟩ : ∃ yn : Nat, y = yn := ⟨y.toNat, by omega⟩
            have HY := Lib.hid hy
            have HLA := Lib.hid hla
            clear hy hla
            by_cases hzy : zn ≤ yn
            · have d1 : decide (zn ≤ yn) = true := decide_eq_true hzy
              have hno : ¬ rises l := fun hr => by
                have := hr (i - 1) (by omega)
                simp only [show i - 1 + 1 = i by omega, HZ.out, HY.out] at this
                omega
              have HNO := Lib.hid hno
              clear hno
              go_wp2
              go_ret2
              exact ⟨_, [], 4, rfl, risO_no HN.out HNO.out, own_empty _ _ _ hb0, HB2.out.alloc hb0 _⟩
            · have d1 : decide (zn ≤ yn) = false := decide_eq_false hzy
              obtain ⟨d, hd⟩ : ∃ d, zn = yn + d + 1 := ⟨zn - yn - 1, by omega⟩
              have hdb : (d : Int) ≤ 9223372036854775807 := by omega
              have q7 : IntKind.i64.wrap ((zn : Int) - yn) = ((d + 1 : Nat) : Int) := by rw [show (zn : Int) - yn = ((d + 1 : Nat) : Int) by omega]; exact IntWalk.i64_in _ (by omega)
              have C2 := ruvar_any d wr (by omega)
              have HU2 := Lib.hid (uvar_le d (by omega)).2
              have HNEW2 := Lib.hid (show uvar l.length ++ gapsB (-1) (l.take (i + 1)) = acc ++ uvar d by
                rw [HNEW.out, HZ.out, HLA.out]; congr 2; omega)
              have HUP2 := Lib.hid (show ∀ j, (h : j + 1 < l.length) → j + 1 < i + 1 → l[j] < l[j + 1] from fun j h h2 => by
                by_cases e : j + 1 < i
                · exact HUP.out j h e
                · obtain rfl : i = j + 1 := by omega
                  have e1 := HZ.out
                  have e2 := HY.out
                  simp only [Nat.add_sub_cancel] at e2
                  rw [e1, e2]; omega)
              clear HNEW hd hzy
              go_wp2_with fail
              refine C2.mono ?_
              rintro e w2 ⟨v2, rfl, ho2, hb2⟩
              clear C2
              have hoa := HO2.out.below hb2 (Nat.le_refl _)
              have hrd2 := ho2.rd
              have HO1 := Lib.hid (bytesV_one (uvar d))
              have hlen2 : (bytesV acc).length + (bytesV (uvar d)).length < 1000000000001 := by rw [bytesV_length (uvar d)]; have := HU2.out; omega
              have hz2 := Nat.le_trans hb0 hb2.size
              have HB3 := Lib.hid (HB2.out.trans (hb2.mono hb0))
              clear ho2 hb2
              go_wp2_with (at_builtin; with_reducible refine apN elBytes hoa hrd2 HO1.out hlen2 hz2 rfl _ _ rfl rfl rfl ?_)
              intro v3 w3 g1 g2 g3 g4
              rw [← bytesV_append] at g1
              have hb3 := HB3.out.grown g4 hz2 (fun k hk => (hoa.lt k hk).1)
              have HG1 := Lib.hid g1
              clear g1 g2 g3 g4 hoa hrd2
              go_wp2
              go_roundw
              case rel => exact ⟨i + 1, by go_num, by omega, HUP2.out, by rw [HNEW2.out]; exact HG1.out, hb3⟩
              case measure => simp [intOf]; omega
        · obtain rfl : i = l.length := by omega
          rw [List.take_length] at ho
          have hrs : rises l := fun j hj => HUP.out j hj hj
          go_wp2
          go_ret2
          exact ⟨_, _, 0, rfl, risO_ok HN.out hrs, ho, hb⟩
end Go.Proofs.YtmmflhippbegaaaDoor

/- Plain: bit by bit what packN lays whole. -/
namespace Go.Proofs.YtmmflhippbegaaaDoor
set_option linter.unusedVariables false

/-- Behind T bits that make the number M: the whole bytes b, and c, what is left of it. -/
structure Bits (T M : Nat) (b : List UInt8) (h c : Nat) : Prop where
  lt : M < 2 ^ T
  b : b = leB (T / 8) M
  h : h = T % 8
  c : c = M / 256 ^ (T / 8)
theorem pow_split (T : Nat) : 2 ^ T = 256 ^ (T / 8) * 2 ^ (T % 8) := by
  rw [show (256 : Nat) = 2 ^ 8 by rfl, ← Nat.pow_mul, ← Nat.pow_add]; congr 1; omega
theorem bits_zero : Bits 0 0 [] 0 0 := ⟨by decide, rfl, rfl, by simp⟩
theorem Bits.clt {T M : Nat} {b : List UInt8} {h c : Nat} (B : Bits T M b h c) : c < 2 ^ (T % 8) := by
  have := B.lt
  rw [pow_split] at this
  rw [B.c, Nat.div_lt_iff_lt_mul (Nat.pow_pos (by decide))]
  rw [Nat.mul_comm]; exact this
theorem Bits.hlt {T M : Nat} {b : List UInt8} {h c : Nat} (B : Bits T M b h c) : h < 8 := by rw [B.h]; omega
theorem leB_add (k M q : Nat) : leB k (M + q * 256 ^ k) = leB k M := by
  rw [← leB_mod k (M + q * 256 ^ k), Nat.add_mul_mod_self_right, leB_mod]
theorem two_pow_lt (k : Nat) (h : k < 8) : 2 ^ k ≤ 128 := Nat.le_trans (Nat.pow_le_pow_right (by decide) (show k ≤ 7 by omega)) (by decide)
theorem Bits.step {T M : Nat} {b : List UInt8} {h c : Nat} (B : Bits T M b h c) (β : Nat) (hβ : β < 2) :
    c + β * 2 ^ h < 256 ∧ (h < 7 → Bits (T + 1) (M + β * 2 ^ T) b (h + 1) (c + β * 2 ^ h)) ∧ (h = 7 → Bits (T + 1) (M + β * 2 ^ T) (b ++ [UInt8.ofNat (c + β * 2 ^ h)]) 0 0) := by
  have hc := B.clt
  have hh := B.hlt
  have hp := pow_split T
  have hP : 0 < 256 ^ (T / 8) := Nat.pow_pos (by decide)
  have hM' : M + β * 2 ^ T < 2 ^ (T + 1) := by
    have h1 := B.lt
    have h2 : β * 2 ^ T ≤ 1 * 2 ^ T := Nat.mul_le_mul_right _ (by omega)
    rw [Nat.pow_succ]; omega
  have hc' : (M + β * 2 ^ T) / 256 ^ (T / 8) = c + β * 2 ^ h := by
    rw [hp, B.h, B.c, show β * (256 ^ (T / 8) * 2 ^ (T % 8)) = 256 ^ (T / 8) * (β * 2 ^ (T % 8)) by rw [Nat.mul_left_comm], Nat.add_mul_div_left _ _ hP]
  have hlo : c + β * 2 ^ h < 2 * 2 ^ h := by
    rw [← B.h] at hc
    have h2 : β * 2 ^ h ≤ 1 * 2 ^ h := Nat.mul_le_mul_right _ (by omega)
    omega
  have h256 : c + β * 2 ^ h < 256 := by have := two_pow_lt h hh; omega
  have hb' : leB (T / 8) (M + β * 2 ^ T) = b := by
    rw [hp, B.b, show β * (256 ^ (T / 8) * 2 ^ (T % 8)) = (β * 2 ^ (T % 8)) * 256 ^ (T / 8) by rw [Nat.mul_left_comm, Nat.mul_comm], leB_add]
  have hT := B.h
  refine ⟨h256, fun h7 => ⟨hM', ?_, ?_, ?_⟩, fun h7 => ⟨hM', ?_, ?_, ?_⟩⟩
  · rw [show (T + 1) / 8 = T / 8 by omega, hb']
  · omega
  · rw [show (T + 1) / 8 = T / 8 by omega, hc']
  · rw [show (T + 1) / 8 = T / 8 + 1 by omega, leB_succ, hb', hc', Nat.mod_eq_of_lt h256]
  · omega
  · rw [show (T + 1) / 8 = T / 8 + 1 by omega, Nat.pow_succ, ← Nat.div_div_eq_div_mul, hc', Nat.div_eq_of_lt h256]
theorem bit_next (x k Z A : Nat) : A + x % 2 ^ (k + 1) * 2 ^ Z = A + x % 2 ^ k * 2 ^ Z + x / 2 ^ k % 2 * 2 ^ (Z + k) := by
  rw [Nat.mod_pow_succ, Nat.add_mul, Nat.pow_add, Nat.add_assoc]
  congr 2
  rw [Nat.mul_comm (2 ^ k), Nat.mul_assoc, Nat.mul_comm (2 ^ k)]
theorem Bits.done {T M : Nat} {b : List UInt8} {h c : Nat} (B : Bits T M b h c) : (h = 0 → b = leB ((T + 7) / 8) M) ∧ (0 < h → b ++ [UInt8.ofNat c] = leB ((T + 7) / 8) M) := by
  have hT := B.h
  have hc := B.clt
  refine ⟨fun h0 => ?_, fun h0 => ?_⟩
  · rw [show (T + 7) / 8 = T / 8 by omega]; exact B.b
  · have h256 : c < 256 := by have := two_pow_lt (T % 8) (by omega); omega
    rw [show (T + 7) / 8 = T / 8 + 1 by omega, leB_succ, ← B.b, ← B.c, Nat.mod_eq_of_lt h256]

/-- What the document answers for a packed list. -/
def pckO (l : List Int) : List UInt8 × Nat :=
  if anyNeg l = true then ([], 8) else if l ≠ [] ∧ widL (natOf l) = 0 ∧ 65536 < l.length then ([], 3) else (pckB (natOf l), 0)
theorem pckO_neg {l : List Int} (h : anyNeg l = true) : pckO l = ([], 8) := by unfold pckO; rw [if_pos h]
theorem pckO_lim {l : List Int} (h : anyNeg l = false) (hw : widL (natOf l) = 0) (hb : 65536 < l.length) : pckO l = ([], 3) := by
  unfold pckO; rw [if_neg (by rw [h]; decide), if_pos ⟨fun e => by subst e; simp at hb, hw, hb⟩]
theorem pckO_ok {l : List Int} (h : anyNeg l = false) (hw : widL (natOf l) ≠ 0 ∨ l.length ≤ 65536) : pckO l = (pckB (natOf l), 0) := by
  unfold pckO; rw [if_neg (by rw [h]; decide), if_neg (by rintro ⟨_, h1, h2⟩; rcases hw with hw | hw; exact hw h1; omega)]
end Go.Proofs.YtmmflhippbegaaaDoor

/- The document's Width and Packed. -/
namespace Go.Proofs.YtmmflhippbegaaaDoor
set_option linter.unusedVariables false
open Go.ChangeShapes Go.WideShapes Go.ChangeAt Go.RowKit

theorem widL_snoc (l : List Nat) (i : Nat) (h : i < l.length) : widL (l.take (i + 1)) = max (widL (l.take i)) (Lib.bitLen l[i]) := by
  rw [take_one h, widL_append]; simp [widL]
theorem pow_le_bitLen {x m : Nat} (hx : x < 2 ^ 63) : 2 ^ m ≤ x ↔ m < Lib.bitLen x := by
  constructor
  · intro h
    have h1 := lt_bitLen x (by omega)
    have h2 : 2 ^ m < 2 ^ Lib.bitLen x := by omega
    exact (Nat.pow_lt_pow_iff_right (by decide)).1 h2
  · intro h
    apply Nat.le_of_not_lt
    intro hlt
    by_cases hm : m ≤ 64
    · have := Lib.bitLen_le x m hm hlt; omega
    · have := Lib.bitLen_le x 63 (by decide) hx; omega

set_option maxRecDepth 100000 in
set_option maxHeartbeats 1000000 in
theorem rwid_any (w : World) (a : Option Addr) (n c : Nat) (l : List Nat) (hr : Rd w (.slice a n c) (intL (natI l))) (hl : l.length ≤ 1000000000) (hf : ∀ x ∈ l, x < 2 ^ 63) :
    Calls Tryd.prog 99 #[.slice a n c] w fun e w' => e = .returned (.int .i64 (widL l : Nat)) ∧ w = w' := by
  obtain ⟨rfl, hg⟩ := rd_nat hr
  have HG := Lib.hid hg
  have HF := Lib.hid hf
  clear hg hr hf
  go_enter Tryd.func99, Tryd.ntmps99
  go_wp2
  go_loopw [3, 8] (fun s3 s8 wr => ∃ i : Nat, s8 = .int .i64 i ∧ i ≤ l.length ∧ s3 = .int .i64 (widL (l.take i) : Nat) ∧ w = wr) (fun _ s _ => l.length - (intOf s).toNat)
  case atStart => exact ⟨0, rfl, Nat.zero_le _, rfl, rfl⟩
  case round =>
    obtain ⟨i, rfl, hi, rfl, rfl⟩ := hrel
    by_cases hlt : i < l.length
    · obtain ⟨b, o, rfl, hg⟩ := HG.out (by omega)
      have hc := hg i hlt
      have hx := HF.out l[i] (List.getElem_mem hlt)
      have hsn := widL_snoc l i hlt
      have hw63 := widL_63 (l := l.take i) (fun x hx => HF.out x (List.mem_of_mem_take hx))
      obtain ⟨x, hxx⟩ : ∃ x, l[i] = x := ⟨_, rfl⟩
      obtain ⟨w0, hw0⟩ : ∃ w0, widL (l.take i) = w0 := ⟨_, rfl⟩
      rw [hxx] at hc hx hsn
      rw [hw0] at hsn hw63 ⊢
      have hbx := Lib.bitLen_le x 63 (by decide) hx
      have HPB := Lib.hid (fun m => pow_le_bitLen (m := m) hx)
      have HSN := Lib.hid hsn
      have HX := Lib.hid hx
      clear hg hxx hw0 hsn hx
      go_wp2
      go_loopw [3] (fun s3 wr => ∃ m : Nat, s3 = .int .i64 m ∧ w0 ≤ m ∧ m ≤ max w0 (Lib.bitLen x) ∧ w = wr) (fun s _ => 64 - (intOf s).toNat)
      case atStart => exact ⟨w0, rfl, Nat.le_refl _, by omega, rfl⟩
      case round =>
        obtain ⟨m, rfl, hm0, hm1, rfl⟩ := hrel
        have qs1 : (0 : Int) ≤ (m : Int) := by omega
        have qs2 : (m : Int) ≤ 64 := by omega
        by_cases hm : m < Lib.bitLen x
        · have h2 := (HPB.out m).2 hm
          have d1 : decide ((m : Int) < 63) = true := decide_eq_true (by omega)
          have e2 : (x : Int) / 2 ^ m = ((x / 2 ^ m : Nat) : Int) := by simp
          have h3 : 0 < x / 2 ^ m := Nat.div_pos h2 (Nat.pow_pos (by decide))
          have h4 : decide (x / 2 ^ m = 0) = false := decide_eq_false (by omega)
          have e3 : ((x : Int) / 2 ^ m != 0) = true := bne_iff_ne.2 (by rw [e2]; omega)
          clear e2 h3 h4 h2
          go_wp2
          go_roundw
          case rel => exact ⟨m + 1, by go_num, by omega, by omega, by first | rfl | trivial⟩
          case measure => simp [intOf]; omega
        · have hmm : m = max w0 (Lib.bitLen x) := by omega
          have h2 : x / 2 ^ m = 0 := Nat.div_eq_of_lt (Nat.lt_of_not_le (fun h => hm ((HPB.out m).1 h)))
          have e2 : (x : Int) / 2 ^ m = ((x / 2 ^ m : Nat) : Int) := by simp
          have e3 : ((x : Int) / 2 ^ m != 0) = false := by rw [e2, h2]; rfl
          have HM := Lib.hid hmm
          clear hmm h2 e2
          by_cases h63 : (m : Int) < 63
          · go_wp2
            go_roundw
            case rel => exact ⟨i + 1, by go_num, by omega, by rw [HSN.out, HM.out], by first | rfl | trivial⟩
            case measure => simp [intOf]; omega
          · go_wp2
            go_roundw
            case rel => exact ⟨i + 1, by go_num, by omega, by rw [HSN.out, HM.out], by first | rfl | trivial⟩
            case measure => simp [intOf]; omega
    · obtain rfl : i = l.length := by omega
      rw [List.take_length]
      go_wp2
      go_ret
      exact ⟨rfl, rfl⟩
end Go.Proofs.YtmmflhippbegaaaDoor
