/- posts: the document's Check, number, Total. -/
import Derived.Test.YthnpbfadblcicaaDoorZGood
import Derived.Test.YthnpbfadblcicaaDoorZNum
namespace Go.Proofs.YthnpbfadblcicaaDoor
set_option linter.unusedVariables false
open Go.ChangeShapes Go.WideShapes Go.ChangeAt Go.RowKit

set_option maxRecDepth 100000 in
set_option maxHeartbeats 2000000 in
theorem rchk8_any (w : World) (a : Option Addr) (n c : Nat) (ps : List PostV) (hr : RdPost w a n ps) (hf : FitP ps) (hl : ps.length ≤ 1000000000) (EA : Nat → Addr) (hS : Sent7 w EA) :
    Calls Tryd.prog 37 #[.slice a n c] w fun e w' => e = .returned (.int .i64 (checkV (-1) ps : Nat)) ∧ Below w.heap.size w w' := by
  obtain rfl := hr.1
  obtain ⟨G, hG⟩ : ∃ G, checkV (-1) ps = G := ⟨_, rfl⟩
  rw [hG]
  have HG := Lib.hid hG
  have HR := Lib.hid hr
  have HF := Lib.hid hf
  have HS := Lib.hid hS
  clear hr hf hS hG
  go_enter Tryd.func37, Tryd.ntmps37
  go_wp2
  go_loopw [3, 9] (fun s3 s9 wr => ∃ (i : Nat) (before : Int), s3 = .int .i64 before ∧ s9 = .int .i64 i ∧ i ≤ ps.length ∧ checkV before (ps.drop i) = G ∧ Below w.heap.size w wr) (fun _ s9 _ => ps.length - (intOf s9).toNat)
  case atStart => exact ⟨0, -1, rfl, rfl, Nat.zero_le _, HG.out, Below.refl _ _⟩
  case round =>
    obtain ⟨i, before, rfl, rfl, hi, hck, hb⟩ := hrel
    by_cases hlt : i < ps.length
    · obtain ⟨b, o, rfl, hg⟩ := (HR.out.below hb (Nat.le_refl _)).2 (by omega)
      obtain ⟨g0, A, C, g1, hrd⟩ := hg i hlt
      rw [checkV_drop hlt] at hck
      have hpl := (HF.out ps[i] (List.getElem_mem hlt)).2.2
      obtain ⟨x, hx⟩ : ∃ x, ps[i] = x := ⟨_, rfl⟩
      rw [hx] at g0 g1 hrd hck hpl
      obtain ⟨doc, pos⟩ := x
      simp only at g0 g1 hrd hck hpl
      have i1 : (i : Int) < (ps.length : Int) := by omega
      have hbA := hb.alloc hb.size (.cells #[.int .i64 doc, .slice A pos.length C] 53)
      have e1 := heap_alloc_new wr (.cells #[.int .i64 doc, .slice A pos.length C] 53)
      have C1 := rgood_any (wr.alloc (.cells #[.int .i64 doc, .slice A pos.length C] 53)) doc before A pos.length C pos (hrd.below ((Below.refl _ wr).alloc (Nat.le_refl _) _) (Nat.le_refl _)) (by omega) EA (HS.out.below hbA)
      obtain ⟨gv, hgv⟩ : ∃ gv, goodV before ⟨doc, pos⟩ = gv := ⟨_, rfl⟩
      rw [hgv] at C1 hck
      have HBA := Lib.hid hbA
      have HE1 := Lib.hid e1
      clear hg hrd hx hb hbA e1 hgv
      by_cases h0 : gv = 0
      · subst h0
        rw [if_pos rfl] at hck
        have HCK := Lib.hid hck
        clear hck
        go_wp2_with fail
        refine C1.mono ?_
        rintro e w5 ⟨rfl, hb5⟩
        clear C1
        have e5 := (hb5.block _ (lt_of_heap HE1.out)).trans HE1.out
        have c0 := blk_cell e5 0
        have HB5 := Lib.hid (HBA.out.trans (hb5.mono HBA.out.size))
        clear hb5 e5 g0 g1
        go_wp2
        go_roundw
        case rel => exact ⟨i + 1, doc, rfl, by go_num, by omega, HCK.out, HB5.out⟩
        case measure => simp [intOf]; omega
      · rw [if_neg h0] at hck
        subst hck
        have t0 : (((gv : Nat) : Int) != 0) = true := by simp; omega
        go_wp2_with fail
        refine C1.mono ?_
        rintro e w5 ⟨rfl, hb5⟩
        clear C1
        have HB5 := Lib.hid (HBA.out.trans (hb5.mono HBA.out.size))
        clear hb5 g0 g1
        go_wp2
        go_ret
        exact ⟨rfl, HB5.out⟩
    · obtain rfl : i = ps.length := by omega
      have i1 : ¬ ((ps.length : Int) < (ps.length : Int)) := by omega
      rw [List.drop_length] at hck
      have hck : 0 = G := hck
      subst hck
      have HB := Lib.hid hb
      clear hb
      go_wp2
      go_ret
      exact ⟨rfl, HB.out⟩
set_option maxRecDepth 100000 in
set_option maxHeartbeats 2000000 in
theorem rtot_any (w : World) (a : Option Addr) (n c : Nat) (ps : List PostV) (hr : RdPost w a n ps) (hl : ps.length ≤ 1000000000) (hT : totalV ps ≤ 1000000000) :
    Calls Tryd.prog 17 #[.slice a n c] w fun e w' => e = .returned (.int .i64 (totalV ps : Nat)) ∧ Below w.heap.size w w' := by
  obtain rfl := hr.1
  have HR := Lib.hid hr
  clear hr
  go_enter Tryd.func17, Tryd.ntmps17
  go_wp2
  go_loopw [3, 8] (fun s3 s8 wr => ∃ (i : Nat), s3 = .int .i64 (totalV (ps.take i) : Nat) ∧ s8 = .int .i64 i ∧ i ≤ ps.length ∧ Below w.heap.size w wr) (fun _ s8 _ => ps.length - (intOf s8).toNat)
  case atStart => exact ⟨0, rfl, rfl, Nat.zero_le _, Below.refl _ _⟩
  case round =>
    obtain ⟨i, rfl, rfl, hi, hb⟩ := hrel
    by_cases hlt : i < ps.length
    · obtain ⟨b, o, rfl, hg⟩ := (HR.out.below hb (Nat.le_refl _)).2 (by omega)
      obtain ⟨g0, A, C, g1, _⟩ := hg i hlt
      have htt := totalV_take ps i hlt
      have hts := totalV_split ps (i + 1)
      obtain ⟨x, hx⟩ : ∃ x, ps[i] = x := ⟨_, rfl⟩
      rw [hx] at g0 g1 htt
      obtain ⟨doc, pos⟩ := x
      simp only at g0 g1 htt
      have i1 : (i : Int) < (ps.length : Int) := by omega
      obtain ⟨t1, ht1⟩ : ∃ t1, totalV (ps.take i) = t1 := ⟨_, rfl⟩
      rw [ht1] at htt ⊢
      have htb : t1 + pos.length ≤ 1000000000 := by omega
      have HBA := Lib.hid (hb.alloc hb.size (.cells #[.int .i64 doc, .slice A pos.length C] 53))
      have HTT := Lib.hid htt
      clear hg hx hb htt hts ht1
      go_wp2
      go_roundw
      case rel => exact ⟨i + 1, by rw [HTT.out]; go_num, by go_num, by omega, HBA.out⟩
      case measure => simp [intOf]; omega
    · obtain rfl : i = ps.length := by omega
      have i1 : ¬ ((ps.length : Int) < (ps.length : Int)) := by omega
      rw [List.take_length]
      have HB := Lib.hid hb
      clear hb
      go_wp2
      go_ret
      exact ⟨rfl, HB.out⟩
theorem rnum_any (n : Nat) (w : World) (hn : n ≤ 9223372036854775807) :
    Calls Tryd.prog 56 #[.int .i64 n] w fun e w' => ∃ v, e = .returned v ∧ Own w' w.heap.size 5 v (bytesV (uvar n)) ∧ Below w.heap.size w w' := by
  have C1 := ruvar_any n w (by omega)
  have s1 : IntKind.u64.wrap (n : Int) = (n : Int) := by rw [IntKind.wrap_u64]; omega
  go_enter Tryd.func56, Tryd.ntmps56
  go_wp2_with fail
  refine C1.mono ?_
  rintro e w1 ⟨v, rfl, ho, hb⟩
  obtain ⟨A, N, K, rfl⟩ := own_sl ho
  go_wp2
  go_ret
  exact ⟨_, rfl, ho, hb⟩
end Go.Proofs.YthnpbfadblcicaaDoor
