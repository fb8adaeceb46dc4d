/- AutoMetric: the number of edits is a distance. No condition. -/
import Derived.Test.YtejmjjgbbojfbaaRows
import Derived.Test.YtejmjjgbbojfbaaEdits
import Derived.SizedLaws
namespace Go.Proofs.Ytejmjjgbbojfbaa.autoMetric
open Go.ChangeShapes Go.WideShapes Go.ChangeAt Go.RowKit
open Go.ChangeMaps (open_string shut_string)

theorem ed2 : edI ⟨#[97, 98]⟩ ⟨#[98, 97]⟩ 9 = 2 := by
  have h : levF 5 ([97, 98] : List UInt8) [98, 97] = 2 := by decide +kernel
  rw [levF_eq _ _ _ (by decide)] at h
  show min ((lev ([97, 98] : List UInt8) [98, 97] : Nat) : Int) (max 9 0 + 1) = 2
  rw [h]; decide

def lv (a b : ByteArray) : Nat := lev a.data.toList b.data.toList
theorem far_eq (a b : ByteArray) (h : a.size ≤ 1000) (k : b.size ≤ 1000) : edI a b 1099511627776 = (lv a b : Nat) := by
  have := lev_max a b
  unfold edI lv; omega
theorem lv_symm (a b : ByteArray) : lv b a = lv a b := lev_symm _ _
theorem lv_left (x a b : ByteArray) : lv (x ++ a) (x ++ b) = lv a b := by
  unfold lv; rw [ByteArray.data_append, ByteArray.data_append, Array.toList_append, Array.toList_append, lev_append_left]
theorem lv_right (x a b : ByteArray) : lv (a ++ x) (b ++ x) = lv a b := by
  unfold lv; rw [ByteArray.data_append, ByteArray.data_append, Array.toList_append, Array.toList_append, lev_append_right]
theorem lv_beq (a b : ByteArray) : (((lv a b : Nat) : Int) == 0) = (a.toList == b.toList) := by
  rw [ByteArray.toList_eq, ByteArray.toList_eq]
  by_cases h : a.data.toList = b.data.toList
  · have := (lev_eq_zero (a := a.data.toList) (b := b.data.toList)).2 h
    rw [show lv a b = 0 from this, h]; simp
  · have h0 : lv a b ≠ 0 := fun e => h (lev_eq_zero.1 e)
    rw [beq_eq_false_iff_ne.2 h]; simp [h0]
theorem lv_len (a b : ByteArray) : a.size ≤ b.size + lv a b ∧ b.size ≤ a.size + lv a b := by
  exact lev_len a.data.toList b.data.toList

set_option maxRecDepth 100000 in
set_option maxHeartbeats 1000000 in
theorem small (a b c x : ByteArray) (w : World) (ha : a.size ≤ 300) (hb : b.size ≤ 300) (hc : c.size ≤ 300) (hx : x.size ≤ 300) :
    Calls Try.prog 4 #[.string a, .string b, .string c, .string x] w fun e w' => e = .returned (.bool true) ∧ Below w.heap.size w w' := by
  have l1 := lv_len a b
  have l2 : lv a b ≤ max a.size b.size := lev_max a b
  have l3 : lv a c ≤ lv a b + lv b c := lev_tri _ _ _
  have l4 : lv b c ≤ max b.size c.size := lev_max b c
  have l5 := l1.1
  have l6 := l1.2
  have l7 := lv_beq a b
  clear l1
  go_enter Try.func4, Try.ntmps4
  go_wp2_with fail
  refine (edits_any _ _ _ _ (by decide) (by decide) (by decide) (by decide)).mono ?_
  rintro e w1 ⟨rfl, h1⟩
  rw [ed2]
  go_wp2_with fail
  refine (edits_any _ _ _ _ (by omega) (by omega) (by decide) (by decide)).mono ?_
  rintro e w2 ⟨rfl, h2⟩
  rw [far_eq a b (by omega) (by omega)]
  go_wp2_with fail
  refine (edits_any _ _ _ _ (by omega) (by omega) (by decide) (by decide)).mono ?_
  rintro e w3 ⟨rfl, h3⟩
  rw [far_eq b a (by omega) (by omega), lv_symm]
  go_wp2_with fail
  refine (edits_any _ _ _ _ (by omega) (by omega) (by decide) (by decide)).mono ?_
  rintro e w4 ⟨rfl, h4⟩
  rw [far_eq b c (by omega) (by omega)]
  go_wp2_with fail
  refine (edits_any _ _ _ _ (by omega) (by omega) (by decide) (by decide)).mono ?_
  rintro e w5 ⟨rfl, h5⟩
  rw [far_eq a c (by omega) (by omega)]
  go_wp2_with fail
  refine (edits_any _ _ _ _ (by rw [ByteArray.size_append]; omega) (by rw [ByteArray.size_append]; omega) (by decide) (by decide)).mono ?_
  rintro e w6 ⟨rfl, h6⟩
  rw [far_eq _ _ (by rw [ByteArray.size_append]; omega) (by rw [ByteArray.size_append]; omega), lv_left]
  go_wp2_with fail
  refine (edits_any _ _ _ _ (by rw [ByteArray.size_append]; omega) (by rw [ByteArray.size_append]; omega) (by decide) (by decide)).mono ?_
  rintro e w7 ⟨rfl, h7⟩
  rw [far_eq _ _ (by rw [ByteArray.size_append]; omega) (by rw [ByteArray.size_append]; omega), lv_right]
  have hb : Below w.heap.size w w7 := by
    have k1 := h1.trans (h2.mono h1.size)
    have k2 := k1.trans (h3.mono k1.size)
    have k3 := k2.trans (h4.mono k2.size)
    have k4 := k3.trans (h5.mono k3.size)
    have k5 := k4.trans (h6.mono k4.size)
    exact k5.trans (h7.mono k5.size)
  clear h1 h2 h3 h4 h5 h6 h7
  go_wp2
  go_loopw [13] (fun s wr => ∃ m : Int, s = .int .i64 m ∧ -1 ≤ m ∧ m ≤ 5 ∧ Below w.heap.size w wr) (fun s _ => (5 - intOf s).toNat)
  case atStart => exact ⟨-1, rfl, by decide, by decide, hb⟩
  case round =>
    obtain ⟨m, rfl, hm1, hm2, hbel⟩ := hrel
    by_cases hlt : m ≤ 4
    · have he : edI a b m = min ((lv a b : Nat) : Int) (max m 0 + 1) := rfl
      have HE := Lib.hid he
      clear he l7
      go_wp2_with fail
      refine (edits_any _ _ _ _ (by omega) (by omega) (by omega) (by omega)).mono ?_
      rintro e w8 ⟨rfl, h8⟩
      rw [HE.out]
      go_wp2
      go_roundw
      case rel => exact ⟨m + 1, rfl, by omega, by omega, hbel.trans (h8.mono hbel.size)⟩
      case measure => simp [intOf]; omega
    · go_wp2
      go_ret
      exact ⟨rfl, hbel⟩

set_option maxRecDepth 100000 in
set_option maxHeartbeats 1000000 in
theorem great (a b c x : ByteArray) (w : World) (h : (300 < a.size ∨ 300 < b.size) ∨ (300 < c.size ∨ 300 < x.size)) :
    Calls Try.prog 4 #[.string a, .string b, .string c, .string x] w fun e w' => e = .returned (.bool true) ∧ Below w.heap.size w w' := by
  by_cases ha : 300 < a.size
  · go_enter Try.func4, Try.ntmps4
    go_wp2_with fail
    refine (edits_any _ _ _ _ (by decide) (by decide) (by decide) (by decide)).mono ?_
    rintro e w1 ⟨rfl, h1⟩
    rw [ed2]
    go_wp2
    go_ret
    exact ⟨rfl, h1⟩
  · by_cases hb : 300 < b.size
    · go_enter Try.func4, Try.ntmps4
      go_wp2_with fail
      refine (edits_any _ _ _ _ (by decide) (by decide) (by decide) (by decide)).mono ?_
      rintro e w1 ⟨rfl, h1⟩
      rw [ed2]
      go_wp2
      go_ret
      exact ⟨rfl, h1⟩
    · by_cases hc : 300 < c.size
      · go_enter Try.func4, Try.ntmps4
        go_wp2_with fail
        refine (edits_any _ _ _ _ (by decide) (by decide) (by decide) (by decide)).mono ?_
        rintro e w1 ⟨rfl, h1⟩
        rw [ed2]
        go_wp2
        go_ret
        exact ⟨rfl, h1⟩
      · have hx : 300 < x.size := by omega
        go_enter Try.func4, Try.ntmps4
        go_wp2_with fail
        refine (edits_any _ _ _ _ (by decide) (by decide) (by decide) (by decide)).mono ?_
        rintro e w1 ⟨rfl, h1⟩
        rw [ed2]
        go_wp2
        go_ret
        exact ⟨rfl, h1⟩

theorem walk (a b c x : ByteArray) (w : World) : Calls Try.prog 4 #[.string a, .string b, .string c, .string x] w fun e w' => e = .returned (.bool true) ∧ Below w.heap.size w w' := by
  by_cases h : (300 < a.size ∨ 300 < b.size) ∨ (300 < c.size ∨ 300 < x.size)
  · exact great a b c x w h
  · exact small a b c x w (by omega) (by omega) (by omega) (by omega)

theorem own : ownKnob Try.prog.godebug = none := by kernel_rfl
set_option linter.unusedVariables false
set_option maxRecDepth 100000 in
theorem lifted (os : Os) (started : os.Started) (H : Type) (enc : TypeId × Value → H) :
    ReturnsInHanded {} Try.checked os 4 .any (Rows.autoMetricSpec.pre6 enc Try.prog Try.f4 Rows.autoMetricRow.domain false) (Rows.autoMetricSpec.post enc Try.prog Try.f4 false true false false) := by
  refine returnsInHanded_of_change_sized (C := Try.checked) own started (by kernel_rfl) Try.func4
    (ChangeSpec.witness6 (enc := enc) (C := Try.checked) false ⟨#[], #[.string .empty, .string .empty, .string .empty, .string .empty], []⟩ 8 (by kernel_rfl) (by kernel_rfl) (by kernel_rfl) (by kernel_rfl)) ?_
  intro W base args ds gs before hval0 hW hcnd hsz0 _
  have hval : ∀ (j : Nat) t v, Try.f4.params[j]? = some t → args[j]? = some v → Value.okWide Try.prog W .any base t v := hval0
  have hW' := hW
  have hlt := hW.lt
  obtain ⟨p, q, hA0, hV, rfl, hfz, hnd⟩ := hW
  have hA : DataW.TrodAll enc Try.prog W 0 (fun _ => true) true Try.f4.params.toList args.toList ds p := hA0
  obtain ⟨rfl, rfl⟩ := trodVars_none hV
  simp only [List.append_nil] at hW' hlt
  have hsz : (DataW.weightsEach Try.prog (Try.f4.params.toList ++ Rows.autoMetricSpec.plain.varTypes Try.prog) (ds ++ [])).all (· ≤ reachBytes) = true := hsz0
  have hkeep : ∀ W', Below W.heap.size W W' → ∀ sp : Nat → Bool, (∀ x ∈ p, sp x.block = true) → DataW.TrodAll enc Try.prog W' 0 sp true Try.f4.params.toList args.toList ds p :=
    fun W' hb sp hsp => trodAll_keep (by kernel_rfl) hb sp _ _ _ _ (by kernel_rfl) hA hlt hsp
  rw [Try.params4] at hA hval hsz
  obtain ⟨v0, vs0, d0, ds0, p0, q0, hargs, rfl, rfl, h0, r0⟩ := trodAll_cons hA
  obtain ⟨v1, vs1, d1, ds1, p1, q1, rfl, rfl, rfl, h1, r1⟩ := trodAll_cons r0
  obtain ⟨v2, vs2, d2, ds2, p2, q2, rfl, rfl, rfl, h2, r2⟩ := trodAll_cons r1
  obtain ⟨v3, vs3, d3, ds3, p3, q3, rfl, rfl, rfl, h3, r3⟩ := trodAll_cons r2
  obtain ⟨rfl, rfl, rfl⟩ := trodAll_nil r3
  obtain rfl : args = #[v0, v1, v2, v3] := by cases args; simp_all
  obtain ⟨s0, rfl, rfl, rfl, m0⟩ := open_string Try.underlying9 (hval 0 9 v0 rfl rfl) h0
  obtain ⟨s1, rfl, rfl, rfl, m1⟩ := open_string Try.underlying9 (hval 1 9 v1 rfl rfl) h1
  obtain ⟨s2, rfl, rfl, rfl, m2⟩ := open_string Try.underlying9 (hval 2 9 v2 rfl rfl) h2
  obtain ⟨s3, rfl, rfl, rfl, m3⟩ := open_string Try.underlying9 (hval 3 9 v3 rfl rfl) h3
  have b0 : s0.data.toList.length ≤ reachBytes := sized_string hsz (j := 0) rfl rfl
  have b1 : s1.data.toList.length ≤ reachBytes := sized_string hsz (j := 1) rfl rfl
  have b2 : s2.data.toList.length ≤ reachBytes := sized_string hsz (j := 2) rfl rfl
  have b3 : s3.data.toList.length ≤ reachBytes := sized_string hsz (j := 3) rfl rfl
  simp only [reachBytes, Array.length_toList] at b0 b1 b2 b3
  refine (walk s0 s1 s2 s3 W).mono fun e W' ⟨he, hg⟩ => ?_
  subst he
  exact ⟨_, rfl, post_below (pa := _) (pv := []) hW' (fun _ _ _ => (trodAll_cons_mk (shut_bool Try.underlying4 _) trodAll_mk0)) (fun sp hsp => hkeep W' hg sp hsp) (fun _ _ => rfl) (by simp)
    hg (ok_one (by kernel_rfl) rfl (okWide_bool_mk Try.underlying4 _))⟩

theorem proved : Rows.AutoMetricSaid :=
  OpenClaim.holds_of_wide 4 Try.f4 rfl rfl rfl rfl rfl rfl rfl ⟨rfl, rfl, rfl, rfl, rfl⟩ rfl rfl rfl rfl rfl (by kernel_rfl) Try.func4 (by kernel_rfl)
    (of_decide_eq_true (by kernel_rfl)) (by unfold Func.isWrapper; first | (rw [if_pos (by decide +kernel)]; kernel_rfl) | (rw [if_neg (by decide +kernel)]; exact ⟨rfl, rfl⟩))
    (fun os started H enc _ => lifted os started H enc)
end Go.Proofs.Ytejmjjgbbojfbaa.autoMetric
