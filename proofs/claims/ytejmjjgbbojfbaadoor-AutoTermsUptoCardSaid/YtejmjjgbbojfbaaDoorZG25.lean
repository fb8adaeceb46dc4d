/- Merged: RTerms, InsL, ImgP. -/
import Derived.Test.YtejmjjgbbojfbaaDoorZG9
import Derived.Test.YtejmjjgbbojfbaaDoorZG24
import Derived.Test.YtejmjjgbbojfbaaDoorZG11
import Derived.Test.YtejmjjgbbojfbaaDoorZG12
import Derived.Deep.RegionHeld3
import Derived.Test.YtejmjjgbbojfbaaDoorZDictP
/- The document's Terms. -/
namespace Go.Proofs.YtejmjjgbbojfbaaDoor
set_option linter.unusedVariables false
open Go.ChangeShapes Go.WideShapes Go.ChangeAt Go.RowKit

def hitK (M : Mach) (h x : List UInt8) : Bool := pre h x && accM M (x.drop h.length)
/-- The hits' numbers among the first k rows. -/
def hitsP (M : Mach) (h : List UInt8) (rows : List ByteArray) (k : Nat) : List Nat := (List.range k).filter fun i => hitK M h (rows.getD i ⟨#[]⟩).data.toList
theorem hitsP_hit {M : Mach} {h : List UInt8} {rows : List ByteArray} {k : Nat} (hk : k < rows.length) (hh : hitK M h rows[k].data.toList = true) : hitsP M h rows (k + 1) = hitsP M h rows k ++ [k] := by
  unfold hitsP
  rw [List.range_succ, List.filter_append]
  simp [hk, hh]
theorem hitsP_no {M : Mach} {h : List UInt8} {rows : List ByteArray} {k : Nat} (hk : k < rows.length) (hh : hitK M h rows[k].data.toList = false) : hitsP M h rows (k + 1) = hitsP M h rows k := by
  unfold hitsP
  rw [List.range_succ, List.filter_append]
  simp [hk, hh]
theorem hitsP_len (M : Mach) (h : List UInt8) (rows : List ByteArray) (k : Nat) : (hitsP M h rows k).length ≤ k := by
  unfold hitsP
  exact Nat.le_trans (List.length_filter_le _ _) (by simp)
theorem begB_pre (x h : ByteArray) : begB x h = pre h.data.toList x.data.toList := by
  have h1 : x.data.toList.length = x.size := Array.length_toList (xs := x.data)
  have h2 : h.data.toList.length = h.size := Array.length_toList (xs := h.data)
  unfold begB pre
  rw [ext_take, ba_list, h1, h2]
/-- The law's numbers are the hits' numbers. -/
theorem terms_hits (M : Mach) (h : List UInt8) (rows : List ByteArray) : (termsP M h (entsN rows rows.length) rows.length).map (·.1) = hitsP M h rows rows.length := by
  unfold termsP hitsP
  rw [List.map_map]
  have e : ((fun x : Nat × EntV => x.1) ∘ fun i => (i, entD (entsN rows rows.length) i)) = id := rfl
  rw [e, List.map_id]
  refine List.filter_congr fun i hi => ?_
  have hi : i < rows.length := List.mem_range.1 hi
  rw [entD_eq _ i (by rw [entsN_length]; exact hi), entsN_get]
  rfl
set_option maxRecDepth 100000 in
set_option maxHeartbeats 40000000 in
theorem rterms_any (w : World) (q0 q2 : Int) (q1 q5 q8 : ByteArray) (q3 q4 q6 q7 : Bool) (M : Mach) (hKA : ∀ W (x : ByteArray), x.size ≤ 1048576 → Calls Tryd.prog 20 #[.agg #[.int .i64 q0, .string q1, .int .i64 q2, .bool q3, .bool q4, .string q5, .bool q6, .bool q7, .string q8], .string x] W fun e W' => e = .returned (.bool (accM M x.data.toList)) ∧ Below W.heap.size W W')
    (A : Option Addr) (C : Nat) (rows : List ByteArray) (hr : Rd w (.slice A rows.length C) (strsV rows)) (hks : ∀ x ∈ rows, x.size ≤ 65) (hn : rows.length ≤ 1000000) (h : ByteArray) (hh : h.size ≤ 1000000000) :
    Calls Tryd.prog 39 #[.agg #[.int .i64 q0, .string q1, .int .i64 q2, .bool q3, .bool q4, .string q5, .bool q6, .bool q7, .string q8], .slice A rows.length C, .string h] w fun e w' => ∃ (A2 : Option Addr) (C2 : Nat), e = .returned (.slice A2 (hitsP M h.data.toList rows rows.length).length C2) ∧ Own w' w.heap.size 3 (.slice A2 (hitsP M h.data.toList rows rows.length).length C2) (natsV (hitsP M h.data.toList rows rows.length)) ∧ Below w.heap.size w w' := by
  have HR := Lib.hid (show ∀ X, Below w.heap.size w X → ∀ i (hi : i < rows.length), ∃ b o, A = some ⟨b, o, none⟩ ∧ X.cell? ⟨b, o + i, none⟩ = some (.string rows[i]) from fun X hb i hi => (rd_strs (hr.below hb (Nat.le_refl _))).2 i hi)
  have HKA := Lib.hid hKA
  have HKS := Lib.hid hks
  have HN := Lib.hid hn
  have HH := Lib.hid hh
  obtain ⟨ob, hob⟩ : ∃ ob, ob = Obj.cells #[.int .i64 q0, .string q1, .int .i64 q2, .bool q3, .bool q4, .string q5, .bool q6, .bool q7, .string q8] 41 := ⟨_, rfl⟩
  have hb1 : Below w.heap.size w (w.alloc ob) := (Below.refl _ _).alloc (Nat.le_refl _) _
  have hx1 := (heap_alloc_new w ob).trans (congrArg some hob)
  have HOB := Lib.hid hob
  have hz1 : (w.alloc ob).heap.size = w.heap.size + 1 := by simp
  clear hr hKA hks hn hh hob
  go_enter Tryd.func39, Tryd.ntmps39
  go_upto_region 1 with fail
  rw [← HOB.out]
  generalize w.alloc ob = W at hb1 hx1 hz1 ⊢
  obtain ⟨T, hT⟩ : ∃ T, T = w.heap.size := ⟨_, rfl⟩
  rw [← hT] at hx1 ⊢
  have hb2 : Below W.heap.size W (W.alloc (.cells #[] 3)) := (Below.refl _ _).alloc (Nat.le_refl _) _
  have H2 := Lib.hid (own_lit W w.heap.size 3 [] hb1.size (by decide))
  have HB2 := Lib.hid (hb1.trans (hb2.mono hb1.size))
  have HX1 := Lib.hid hx1
  have HBW := Lib.hid hb2
  clear hb2 hx1 hb1 hz1 hT
  go_wp2
  go_loopw [7, 13] (fun s7 s13 wr => ∃ (i : Nat) (A7 : Option Addr) (C7 : Nat), s13 = .int .i64 (i : Nat) ∧ i ≤ rows.length ∧ s7 = .slice A7 (hitsP M h.data.toList rows i).length C7 ∧ Own wr w.heap.size 3 (.slice A7 (hitsP M h.data.toList rows i).length C7) (natsV (hitsP M h.data.toList rows i)) ∧ Below w.heap.size w wr ∧ wr.heap[T]? = some (.cells #[.int .i64 q0, .string q1, .int .i64 q2, .bool q3, .bool q4, .string q5, .bool q6, .bool q7, .string q8] 41 (0, 0))) (fun _ s13 _ => rows.length - (intOf s13).toNat)
  case atStart => exact ⟨0, _, 0, rfl, Nat.zero_le _, rfl, H2.out, HB2.out, (HBW.out.block T (lt_of_heap HX1.out)).trans HX1.out⟩
  case round =>
    obtain ⟨i, A7, C7, rfl, hi, rfl, ho, hb, hx⟩ := hrel
    have hn9 := HN.out
    by_cases hlt : i < rows.length
    · obtain ⟨b, o, rfl, x1⟩ := HR.out wr hb i hlt
      have hks := HKS.out _ (List.getElem_mem hlt)
      have hhit := hitsP_hit (M := M) (h := h.data.toList) hlt
      have hno := hitsP_no (M := M) (h := h.data.toList) hlt
      obtain ⟨k, hk⟩ : ∃ k, rows[i] = k := ⟨_, rfl⟩
      rw [hk] at x1 hks hhit hno
      have i1 : (i : Int) < (rows.length : Int) := by omega
      have w2 : IntKind.i64.wrap ((i : Int) + 1) = ((i + 1 : Nat) : Int) := by rw [IntKind.wrap_i64]; omega
      have hll := hitsP_len M h.data.toList rows i
      have K1 : ∀ W', (W'.cell? ⟨T, 0, none⟩ = some (.int .i64 q0) ∧ W'.cell? ⟨T, 1, none⟩ = some (.string q1) ∧ W'.cell? ⟨T, 2, none⟩ = some (.int .i64 q2) ∧ W'.cell? ⟨T, 3, none⟩ = some (.bool q3) ∧ W'.cell? ⟨T, 4, none⟩ = some (.bool q4) ∧ W'.cell? ⟨T, 5, none⟩ = some (.string q5) ∧ W'.cell? ⟨T, 6, none⟩ = some (.bool q6) ∧ W'.cell? ⟨T, 7, none⟩ = some (.bool q7) ∧ W'.cell? ⟨T, 8, none⟩ = some (.string q8) ∧ Below wr.heap.size wr W') → Calls Tryd.prog 46 #[.string k, .string h] W' fun e W2 => e = .returned (.bool (begB k h)) ∧ (W2.cell? ⟨T, 0, none⟩ = some (.int .i64 q0) ∧ W2.cell? ⟨T, 1, none⟩ = some (.string q1) ∧ W2.cell? ⟨T, 2, none⟩ = some (.int .i64 q2) ∧ W2.cell? ⟨T, 3, none⟩ = some (.bool q3) ∧ W2.cell? ⟨T, 4, none⟩ = some (.bool q4) ∧ W2.cell? ⟨T, 5, none⟩ = some (.string q5) ∧ W2.cell? ⟨T, 6, none⟩ = some (.bool q6) ∧ W2.cell? ⟨T, 7, none⟩ = some (.bool q7) ∧ W2.cell? ⟨T, 8, none⟩ = some (.string q8) ∧ Below wr.heap.size wr W2) := fun W' hS =>
        (begins_any W' k h (by omega) (by have := HH.out; omega)).mono fun e W2 ⟨h1, h2⟩ => by subst h2; exact ⟨h1, hS⟩
      have K2 : ∀ W', (W'.cell? ⟨T, 0, none⟩ = some (.int .i64 q0) ∧ W'.cell? ⟨T, 1, none⟩ = some (.string q1) ∧ W'.cell? ⟨T, 2, none⟩ = some (.int .i64 q2) ∧ W'.cell? ⟨T, 3, none⟩ = some (.bool q3) ∧ W'.cell? ⟨T, 4, none⟩ = some (.bool q4) ∧ W'.cell? ⟨T, 5, none⟩ = some (.string q5) ∧ W'.cell? ⟨T, 6, none⟩ = some (.bool q6) ∧ W'.cell? ⟨T, 7, none⟩ = some (.bool q7) ∧ W'.cell? ⟨T, 8, none⟩ = some (.string q8) ∧ Below wr.heap.size wr W') → Calls Tryd.prog 20 #[.agg #[.int .i64 q0, .string q1, .int .i64 q2, .bool q3, .bool q4, .string q5, .bool q6, .bool q7, .string q8], .string (k.extract h.size k.size)] W' fun e W2 => e = .returned (.bool (accM M (k.extract h.size k.size).data.toList)) ∧ (W2.cell? ⟨T, 0, none⟩ = some (.int .i64 q0) ∧ W2.cell? ⟨T, 1, none⟩ = some (.string q1) ∧ W2.cell? ⟨T, 2, none⟩ = some (.int .i64 q2) ∧ W2.cell? ⟨T, 3, none⟩ = some (.bool q3) ∧ W2.cell? ⟨T, 4, none⟩ = some (.bool q4) ∧ W2.cell? ⟨T, 5, none⟩ = some (.string q5) ∧ W2.cell? ⟨T, 6, none⟩ = some (.bool q6) ∧ W2.cell? ⟨T, 7, none⟩ = some (.bool q7) ∧ W2.cell? ⟨T, 8, none⟩ = some (.string q8) ∧ Below wr.heap.size wr W2) := fun W' hS =>
        (HKA.out W' _ (by rw [ByteArray.size_extract]; omega)).mono fun e W2 ⟨h1, h2⟩ => ⟨h1, SN.keep hS h2⟩
      have hS : wr.drew.cell? ⟨T, 0, none⟩ = some (.int .i64 q0) ∧ wr.drew.cell? ⟨T, 1, none⟩ = some (.string q1) ∧ wr.drew.cell? ⟨T, 2, none⟩ = some (.int .i64 q2) ∧ wr.drew.cell? ⟨T, 3, none⟩ = some (.bool q3) ∧ wr.drew.cell? ⟨T, 4, none⟩ = some (.bool q4) ∧ wr.drew.cell? ⟨T, 5, none⟩ = some (.string q5) ∧ wr.drew.cell? ⟨T, 6, none⟩ = some (.bool q6) ∧ wr.drew.cell? ⟨T, 7, none⟩ = some (.bool q7) ∧ wr.drew.cell? ⟨T, 8, none⟩ = some (.string q8) ∧ Below wr.heap.size wr wr.drew := ⟨blk_cell hx 0, blk_cell hx 1, blk_cell hx 2, blk_cell hx 3, blk_cell hx 4, blk_cell hx 5, blk_cell hx 6, blk_cell hx 7, blk_cell hx 8, below_drewN (Below.refl _ _) 1⟩
      have HO := Lib.hid ho
      have HB := Lib.hid hb
      have HX := Lib.hid hx
      have HIL := Lib.hid hlt
      have hbp := begB_pre k h
      cases hP : begB k h with
      | false =>
        rw [hP] at K1 hbp
        have HEQ := Lib.hid (hno (by unfold hitK; rw [← hbp]; rfl))
        have HK1 := Lib.hid K1
        have HK2 := Lib.hid K2
        clear K1 K2 ho hb hx hlt hhit hno hbp hP hk
        go_upto_region 5 with fail
        refine wp_region_noPanic ?_
        refine wp_region_held_drew (S := (fun w' => w'.cell? ⟨T, 0, none⟩ = some (.int .i64 q0) ∧ w'.cell? ⟨T, 1, none⟩ = some (.string q1) ∧ w'.cell? ⟨T, 2, none⟩ = some (.int .i64 q2) ∧ w'.cell? ⟨T, 3, none⟩ = some (.bool q3) ∧ w'.cell? ⟨T, 4, none⟩ = some (.bool q4) ∧ w'.cell? ⟨T, 5, none⟩ = some (.string q5) ∧ w'.cell? ⟨T, 6, none⟩ = some (.bool q6) ∧ w'.cell? ⟨T, 7, none⟩ = some (.bool q7) ∧ w'.cell? ⟨T, 8, none⟩ = some (.string q8) ∧ Below wr.heap.size wr w')) (by kernel_rfl) hS (fun hHeld => ?_)
        refine wpAnyH_take (i := 0) (v := ?_) rfl (by kernel_rfl) (by kernel_rfl) (by kernel_rfl) (fun _ _ _ h => h) (Or.inl ⟨by kernel_rfl, ?_⟩) hHeld ?_
        rotate_left
        · intro w hSw
          go_simp
          try with_reducible rfl
        refine wpAnyH_take (i := 1) (v := ?_) rfl (by kernel_rfl) (by kernel_rfl) (by kernel_rfl) (fun _ _ _ h => h) (Or.inl ⟨by kernel_rfl, ?_⟩) hHeld ?_
        rotate_left
        · intro w hSw
          go_simp
          try with_reducible rfl
        refine wpAnyH_ready (rs := [2]) (by kernel_rfl) (by simp) ?_
        refine AllReadyH.cons rfl (fun KK hKK => ?_) ?_
        rotate_left
        · exact AllReadyH.nil
        rw [if_pos (by kernel_rfl)]
        go_wp2_with (go_at_call 46; refine (HK1.out _ hS).mono ?_; rintro e w' ⟨rfl, hS'⟩)
        refine hKK.out _ _ hS' (fun hHeld => ?_)
        clear hKK KK
        refine wpAnyH_take (i := 3) (v := ?_) rfl (by kernel_rfl) (by kernel_rfl) (by kernel_rfl) (fun _ _ _ h => h) (Or.inl ⟨by kernel_rfl, ?_⟩) hHeld ?_
        rotate_left
        · intro w hSw
          go_simp
          try with_reducible rfl
        refine wpAnyH_take (i := 4) (v := undef) rfl (by kernel_rfl) (by kernel_rfl) (by kernel_rfl) (fun _ _ _ h => h) (Or.inr ⟨by kernel_rfl, rfl⟩) hHeld ?_
        refine wpAnyH_take (i := 5) (v := undef) rfl (by kernel_rfl) (by kernel_rfl) (by kernel_rfl) (fun _ _ _ h => h) (Or.inr ⟨by kernel_rfl, rfl⟩) hHeld ?_
        refine wpAnyH_take (i := 6) (v := undef) rfl (by kernel_rfl) (by kernel_rfl) (by kernel_rfl) (fun _ _ _ h => h) (Or.inr ⟨by kernel_rfl, rfl⟩) hHeld ?_
        refine wpAnyH_take (i := 7) (v := undef) rfl (by kernel_rfl) (by kernel_rfl) (by kernel_rfl) (fun _ _ _ h => h) (Or.inr ⟨by kernel_rfl, rfl⟩) hHeld ?_
        refine wpAnyH_take (i := 8) (v := undef) rfl (by kernel_rfl) (by kernel_rfl) (by kernel_rfl) (fun _ _ _ h => h) (Or.inr ⟨by kernel_rfl, rfl⟩) hHeld ?_
        refine wpAnyH_take (i := 9) (v := undef) rfl (by kernel_rfl) (by kernel_rfl) (by kernel_rfl) (fun _ _ _ h => h) (Or.inr ⟨by kernel_rfl, rfl⟩) hHeld ?_
        refine wpAnyH_take (i := 10) (v := ?_) rfl (by kernel_rfl) (by kernel_rfl) (by kernel_rfl) (fun _ _ _ h => h) (Or.inl ⟨by kernel_rfl, ?_⟩) hHeld ?_
        rotate_left
        · intro w hSw
          go_simp
          try with_reducible rfl
        clear hHeld
        refine wpAnyH_done (by kernel_rfl) ?_ _
        refine NoPanic.normal ?_
        all_goals
          have hbz := hS'.2.2.2.2.2.2.2.2.2
          have HBZ := Lib.hid hbz
          clear hbz hS hS' hll hks
          simp only [Act.put, List.getElem_toArray, List.getElem_cons_zero, List.getElem_cons_succ, List.setIfInBounds_toArray, List.set_cons_zero, List.set_cons_succ]
          go_wp2
          go_roundw
          case rel => exact ⟨i + 1, A7, C7, by first | rfl | rw [w2], by have := HIL.out; omega, by rw [HEQ.out], by rw [HEQ.out]; exact HO.out.below HBZ.out (Nat.le_refl _), HB.out.trans (HBZ.out.mono HB.out.size), (HBZ.out.block T (lt_of_heap HX.out)).trans HX.out⟩
          case measure => have := HIL.out; simp [intOf]; omega
      | true =>
        rw [hP] at K1 hbp
        have hsz : h.size ≤ k.size := by
          unfold begB at hP
          rw [Bool.and_eq_true, decide_eq_true_eq] at hP; exact hP.1
        have hdr : (k.extract h.size k.size).data.toList = k.data.toList.drop h.data.toList.length := by
          rw [show h.data.toList.length = h.size from Array.length_toList (xs := h.data)]
          have h1 : k.data.toList.length = k.size := Array.length_toList (xs := k.data)
          have h2 : (k.extract h.size k.size).data.toList = (k.data.toList.drop h.size).take (k.size - h.size) := by
            rw [ByteArray.data_extract]; simp
          rw [h2, List.take_of_length_le (by rw [List.length_drop]; omega)]
        have hhk : hitK M h.data.toList k.data.toList = accM M (k.extract h.size k.size).data.toList := by
          unfold hitK; rw [← hbp, Bool.true_and, hdr]
        rw [hhk] at hhit hno
        cases hA : accM M (k.extract h.size k.size).data.toList with
        | false =>
          rw [hA] at K2
          have HEQ := Lib.hid (hno hA)
          have HK1 := Lib.hid K1
          have HK2 := Lib.hid K2
          clear K1 K2 ho hb hx hlt hhit hno hbp hP hk hdr hhk hA
          go_upto_region 5 with fail
          go_region_held3 (fun w' => w'.cell? ⟨T, 0, none⟩ = some (.int .i64 q0) ∧ w'.cell? ⟨T, 1, none⟩ = some (.string q1) ∧ w'.cell? ⟨T, 2, none⟩ = some (.int .i64 q2) ∧ w'.cell? ⟨T, 3, none⟩ = some (.bool q3) ∧ w'.cell? ⟨T, 4, none⟩ = some (.bool q4) ∧ w'.cell? ⟨T, 5, none⟩ = some (.string q5) ∧ w'.cell? ⟨T, 6, none⟩ = some (.bool q6) ∧ w'.cell? ⟨T, 7, none⟩ = some (.bool q7) ∧ w'.cell? ⟨T, 8, none⟩ = some (.string q8) ∧ Below wr.heap.size wr w') (with_reducible assumption)
            ((first | (go_at_call 46; refine (HK1.out _ (by assumption)).mono ?_; rintro e w' ⟨rfl, hS'⟩) | (go_at_call 20; refine (HK2.out _ (by assumption)).mono ?_; rintro e w' ⟨rfl, hS'⟩)))
          all_goals
            have hbz := hS'.2.2.2.2.2.2.2.2.2
            have HBZ := Lib.hid hbz
            clear hbz hS hS' hll hks
            go_wp2
            go_roundw
            case rel => exact ⟨i + 1, A7, C7, by first | rfl | rw [w2], by have := HIL.out; omega, by rw [HEQ.out], by rw [HEQ.out]; exact HO.out.below HBZ.out (Nat.le_refl _), HB.out.trans (HBZ.out.mono HB.out.size), (HBZ.out.block T (lt_of_heap HX.out)).trans HX.out⟩
            case measure => have := HIL.out; simp [intOf]; omega
        | true =>
          rw [hA] at K2
          have HEQ := Lib.hid (hhit hA)
          have HK1 := Lib.hid K1
          have HK2 := Lib.hid K2
          clear K1 K2 ho hb hx hlt hhit hno hbp hP hk hdr hhk hA
          go_upto_region 5 with fail
          go_region_held3 (fun w' => w'.cell? ⟨T, 0, none⟩ = some (.int .i64 q0) ∧ w'.cell? ⟨T, 1, none⟩ = some (.string q1) ∧ w'.cell? ⟨T, 2, none⟩ = some (.int .i64 q2) ∧ w'.cell? ⟨T, 3, none⟩ = some (.bool q3) ∧ w'.cell? ⟨T, 4, none⟩ = some (.bool q4) ∧ w'.cell? ⟨T, 5, none⟩ = some (.string q5) ∧ w'.cell? ⟨T, 6, none⟩ = some (.bool q6) ∧ w'.cell? ⟨T, 7, none⟩ = some (.bool q7) ∧ w'.cell? ⟨T, 8, none⟩ = some (.string q8) ∧ Below wr.heap.size wr w') (with_reducible assumption)
            ((first | (go_at_call 46; refine (HK1.out _ (by assumption)).mono ?_; rintro e w' ⟨rfl, hS'⟩) | (go_at_call 20; refine (HK2.out _ (by assumption)).mono ?_; rintro e w' ⟨rfl, hS'⟩)))
          all_goals
            have hbz := hS'.2.2.2.2.2.2.2.2.2
            have hoz := HO.out.below hbz (Nat.le_refl _)
            have hbb := HB.out.trans (hbz.mono HB.out.size)
            have hxz := (hbz.block T (lt_of_heap HX.out)).trans HX.out
            have hl9 : (natsV (hitsP M h.data.toList rows i)).length < 1000000000000 := by rw [natsV_length]; omega
            have hsz9 := hbb.size
            have HXZ := Lib.hid hxz
            have HBB := Lib.hid hbb
            clear hbz hbb hxz hS hS' hll hks
            go_wp2_with (at_builtin; with_reducible refine ap1' elIntG rfl hoz hl9 hsz9 rfl _ _ rfl rfl rfl ?_)
            intro v9 w9 hO9 hk9 hown9 hg9
            have hb9 := HBB.out.grown hg9 hsz9 (fun r hr => (hoz.lt r hr).1)
            have hx9 : w9.heap[T]? = some _ := (hg9.block T (lt_of_heap HXZ.out) (fun e => hoz.ne_type HXZ.out (by decide) e.symm)).trans HXZ.out
            rw [← natsV_snoc, ← HEQ.out] at hO9
            obtain ⟨a9, c9, rfl⟩ := own_slice hO9
            rw [natsV_length] at hO9 ⊢
            have HO9 := Lib.hid hO9
            have HB9 := Lib.hid hb9
            have HX9 := Lib.hid hx9
            clear hO9 hb9 hx9 hk9 hown9 hg9 hoz hl9 hsz9
            go_wp2
            go_roundw
            case rel => exact ⟨i + 1, a9, c9, by first | rfl | rw [w2], by have := HIL.out; omega, rfl, HO9.out, HB9.out, HX9.out⟩
            case measure => have := HIL.out; simp [intOf]; omega
    · obtain rfl : i = rows.length := by omega
      have i1 : ¬ (rows.length : Int) < (rows.length : Int) := by omega
      have HO := Lib.hid ho
      have HB := Lib.hid hb
      clear ho hb hx hlt hi hn9
      go_wp2
      go_ret
      exact ⟨A7, C7, rfl, HO.out, HB.out⟩
end Go.Proofs.YtejmjjgbbojfbaaDoor

/- opened, plain: the list while a text is put in. -/
namespace Go.Proofs.YtejmjjgbbojfbaaDoor
set_option linter.unusedVariables false
theorem ins_start {α : Type} (l : List α) (z : α) : l ++ [z] = l.take l.length ++ z :: l.drop l.length := by simp
theorem ins_set {α : Type} (l : List α) (y x : α) {j : Nat} (hj : j ≤ l.length) : (l.take j ++ y :: l.drop j).set j x = l.take j ++ x :: l.drop j := by
  have h : (l.take j).length = j := by rw [List.length_take]; omega
  rw [List.set_append_right _ _ (by omega), h, Nat.sub_self, List.set_cons_zero]
theorem ins_step {α : Type} (l : List α) {j : Nat} (h0 : 0 < j) (hj : j ≤ l.length) : l.take j ++ l[j - 1] :: l.drop j = l.take (j - 1) ++ l[j - 1] :: l.drop (j - 1) := by
  obtain ⟨k, rfl⟩ : ∃ k, j = k + 1 := ⟨j - 1, by omega⟩
  simp only [Nat.add_sub_cancel]
  have hk : k < l.length := by omega
  rw [List.take_succ_eq_append_getElem hk, List.append_assoc]
  congr 1
  rw [List.singleton_append]
  congr 1
  exact (List.drop_eq_getElem_cons hk).symm
theorem ins_get {α : Type} (l : List α) (y : α) {j : Nat} (h0 : 0 < j) (hj : j ≤ l.length) : (l.take j ++ y :: l.drop j)[j - 1]? = some l[j - 1] := by
  rw [List.getElem?_append_left (by rw [List.length_take]; omega), List.getElem?_take, if_pos (by omega), List.getElem?_eq_getElem (by omega)]
theorem ins_len {α : Type} (l : List α) (y : α) {j : Nat} (hj : j ≤ l.length) : (l.take j ++ y :: l.drop j).length = l.length + 1 := by simp; omega
theorem ins_mem {α : Type} {l : List α} {y : α} {j : Nat} {P : α → Prop} (h : ∀ x ∈ l, P x) (hy : P y) : ∀ x ∈ l.take j ++ y :: l.drop j, P x := fun x hx => by
  rcases List.mem_append.1 hx with hx | hx
  · exact h x (List.mem_of_mem_take hx)
  · rcases List.mem_cons.1 hx with rfl | hx
    · exact hy
    · exact h x (List.mem_of_mem_drop hx)
end Go.Proofs.YtejmjjgbbojfbaaDoor

/- dict, plain: how long an image is at most. -/
namespace Go.Proofs.YtejmjjgbbojfbaaDoor
set_option linter.unusedVariables false

/-- How long an image is at most. -/
theorem entB_most {last : List UInt8} {e : EntV} (he : entOk e = true) : (entB last e).length ≤ 125 := by
  have le := entOk_len he
  obtain ⟨nd, nt, na, ns⟩ := entOk_num he
  have hsl := shr_le last e.K
  have u := fun (n : Nat) (h : n < 2 ^ 64) => (uvar_le n h).2
  have u0 := u (shr last e.K) (by omega)
  have u1 := u (e.K.length - shr last e.K) (by omega)
  have u2 := u _ (numOk_lt nd)
  have u3 := u _ (numOk_lt nt)
  have u4 := u _ (numOk_lt na)
  have u5 := u _ (numOk_lt ns)
  unfold entB
  simp only [List.length_append, List.length_drop]; omega
theorem blkB_most : ∀ (l : List EntV) (last : List UInt8), (∀ e ∈ l, entOk e = true) → (blkB last l).length ≤ l.length * 125
  | [], _, _ => Nat.zero_le _
  | e :: l, last, ok => by
    have h1 := entB_most (last := last) (ok e (List.mem_cons_self ..))
    have h2 := blkB_most l e.K (fun x hx => ok x (List.mem_cons_of_mem _ hx))
    rw [blkB, List.length_append, List.length_cons]; omega
theorem chk_most : ∀ (n : Nat) (l : List EntV), l.length ≤ n → l.length ≤ 100000000 → (∀ e ∈ l, entOk e = true) → ((chk l).flatMap (blkB [])).length ≤ l.length * 125 ∧ ((chk l).flatMap (fun c => uvar (blkB [] c).length)).length ≤ l.length * 10 := by
  intro n
  induction n with
  | zero =>
    intro l hn _ _
    have e1 : l = [] := List.length_eq_zero_iff.1 (by omega)
    subst e1; rw [chk_nil]; exact ⟨Nat.le_refl _, Nat.le_refl _⟩
  | succ n ih =>
    intro l hn hm ok
    by_cases hz : l = []
    · subst hz; rw [chk_nil]; exact ⟨Nat.le_refl _, Nat.le_refl _⟩
    · have hp : 0 < l.length := List.length_pos_iff.2 hz
      obtain ⟨h1, h2⟩ := ih (l.drop 16) (by rw [List.length_drop]; omega) (by rw [List.length_drop]; omega) (fun e he => ok e (List.mem_of_mem_drop he))
      have h3 := blkB_most (l.take 16) [] (fun e he => ok e (List.mem_of_mem_take he))
      have hl : (l.take 16).length + (l.drop 16).length = l.length := by rw [List.length_take, List.length_drop]; omega
      have hu := (uvar_le (blkB [] (l.take 16)).length (by omega)).2
      have hl1 : 1 ≤ (l.take 16).length := by rw [List.length_take]; omega
      rw [chk_cons hz, List.flatMap_cons, List.flatMap_cons, List.length_append, List.length_append]
      omega
theorem image_most {l : List EntV} (h : l.length ≤ 1048576) (ok : ∀ e ∈ l, entOk e = true) : (imageB l).length ≤ 1000000000 := by
  obtain ⟨h1, h2⟩ := chk_most _ l (Nat.le_refl _) (by omega) ok
  have := (uvar_le l.length (by omega)).2
  unfold imageB
  rw [List.length_append, List.length_append]; omega
end Go.Proofs.YtejmjjgbbojfbaaDoor
