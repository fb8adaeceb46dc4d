/- AutoEdits: every Edits is the document's: the edit distance, cut at most + 1. No condition. -/
import Derived.Test.YtejmjjgbbojfbaaRows
import Derived.Test.YtejmjjgbbojfbaaEdits
import Derived.SizedLaws
namespace Go.Proofs.Ytejmjjgbbojfbaa.autoEdits
open Go.ChangeShapes Go.WideShapes Go.ChangeAt Go.RowKit
open Go.ChangeMaps (open_string shut_string)

theorem ed3 : edI ⟨#[107, 105, 116, 116, 101, 110]⟩ ⟨#[115, 105, 116, 116, 105, 110, 103]⟩ 5 = 3 := by
  have h : levF 14 ([107, 105, 116, 116, 101, 110] : List UInt8) [115, 105, 116, 116, 105, 110, 103] = 3 := by decide +kernel
  rw [levF_eq _ _ _ (by decide)] at h
  show min ((lev ([107, 105, 116, 116, 101, 110] : List UInt8) [115, 105, 116, 116, 105, 110, 103] : Nat) : Int) (max 5 0 + 1) = 3
  rw [h]; decide
theorem ed1 : edI ⟨#[107, 105, 116, 116, 101, 110]⟩ ⟨#[115, 105, 116, 116, 105, 110, 103]⟩ 1 = 2 := by
  have h : levF 14 ([107, 105, 116, 116, 101, 110] : List UInt8) [115, 105, 116, 116, 105, 110, 103] = 3 := by decide +kernel
  rw [levF_eq _ _ _ (by decide)] at h
  show min ((lev ([107, 105, 116, 116, 101, 110] : List UInt8) [115, 105, 116, 116, 105, 110, 103] : Nat) : Int) (max 1 0 + 1) = 2
  rw [h]; decide

theorem room_le (x y : Nat) (h : (x : Int) + 1 ≤ 1048576 / ((y : Int) + 1)) : x ≤ 1048576 ∧ y ≤ 1048576 := by
  have h1 : (1048576 : Int) / ((y : Int) + 1) ≤ 1048576 := Int.ediv_le_self _ (by omega)
  have h2 : (1048576 : Int) / ((y : Int) + 1) * ((y : Int) + 1) ≤ 1048576 := Int.ediv_mul_le _ (by omega)
  have h3 : (y : Int) + 1 ≤ 1048576 / ((y : Int) + 1) * ((y : Int) + 1) := by
    have := Int.mul_le_mul_of_nonneg_right (show (1 : Int) ≤ 1048576 / ((y : Int) + 1) by omega) (show (0 : Int) ≤ (y : Int) + 1 by omega)
    omega
  omega

set_option maxRecDepth 100000 in
theorem walk (a b : ByteArray) (most : Int) (wm : (Lit.int .i64 most).wf = true) (w : World) (ha : a.size ≤ 140737488351232) (hb : b.size ≤ 140737488351232) :
    Calls Try.prog 3 #[.string a, .string b, .int .i64 most] w fun e w' => e = .returned (.bool true) ∧ Below w.heap.size w w' := by
  obtain ⟨m0, m1⟩ : -9223372036854775808 ≤ most ∧ most ≤ 9223372036854775807 := by simpa [Lit.wf, IntKind.min, IntKind.max, IntKind.signed, IntKind.bits] using wm
  clear wm
  by_cases hr : (a.size : Int) + 1 ≤ 1048576 / ((b.size : Int) + 1)
  · obtain ⟨ra, rb⟩ := room_le _ _ hr
    go_enter Try.func3, Try.ntmps3
    go_wp2_with fail
    refine (edits_any _ _ _ _ (by decide) (by decide) (by decide) (by decide)).mono ?_
    rintro e w1 ⟨rfl, h1⟩
    rw [ed3]
    go_wp2_with fail
    refine (edits_any _ _ _ _ (by decide) (by decide) (by decide) (by decide)).mono ?_
    rintro e w2 ⟨rfl, h2⟩
    rw [ed1]
    go_wp2_with fail
    refine (edits_any _ _ _ _ ra rb m0 m1).mono ?_
    rintro e w3 ⟨rfl, h3⟩
    go_wp2_with fail
    refine (rEdits_any _ _ _ _ ra rb m0 m1).mono ?_
    rintro e w4 ⟨rfl, h4⟩
    go_wp2
    go_ret
    exact ⟨ret_bool (by simp), ((h1.trans (h2.mono h1.size)).trans (h3.mono (Nat.le_trans h1.size h2.size))).trans (h4.mono (Nat.le_trans h1.size (Nat.le_trans h2.size h3.size)))⟩
  · go_enter Try.func3, Try.ntmps3
    go_wp2_with fail
    refine (edits_any _ _ _ _ (by decide) (by decide) (by decide) (by decide)).mono ?_
    rintro e w1 ⟨rfl, h1⟩
    rw [ed3]
    go_wp2_with fail
    refine (edits_any _ _ _ _ (by decide) (by decide) (by decide) (by decide)).mono ?_
    rintro e w2 ⟨rfl, h2⟩
    rw [ed1]
    go_wp2
    go_ret
    exact ⟨rfl, h1.trans (h2.mono h1.size)⟩

theorem own : ownKnob Try.prog.godebug = none := by kernel_rfl
set_option linter.unusedVariables false
set_option maxRecDepth 100000 in
theorem lifted (os : Os) (started : os.Started) (H : Type) (enc : TypeId × Value → H) :
    ReturnsInHanded {} Try.checked os 3 .any (Rows.autoEditsSpec.pre6 enc Try.prog Try.f3 Rows.autoEditsRow.domain false) (Rows.autoEditsSpec.post enc Try.prog Try.f3 false true false false) := by
  refine returnsInHanded_of_change_sized (C := Try.checked) own started (by kernel_rfl) Try.func3
    (ChangeSpec.witness6 (enc := enc) (C := Try.checked) false ⟨#[], #[.string .empty, .string .empty, .int .i64 0], []⟩ 8 (by kernel_rfl) (by kernel_rfl) (by kernel_rfl) (by kernel_rfl)) ?_
  intro W base args ds gs before hval0 hW hcnd hsz0 _
  have hval : ∀ (j : Nat) t v, Try.f3.params[j]? = some t → args[j]? = some v → Value.okWide Try.prog W .any base t v := hval0
  have hW' := hW
  have hlt := hW.lt
  obtain ⟨p, q, hA0, hV, rfl, hfz, hnd⟩ := hW
  have hA : DataW.TrodAll enc Try.prog W 0 (fun _ => true) true Try.f3.params.toList args.toList ds p := hA0
  obtain ⟨rfl, rfl⟩ := trodVars_none hV
  simp only [List.append_nil] at hW' hlt
  have hsz : (DataW.weightsEach Try.prog (Try.f3.params.toList ++ Rows.autoEditsSpec.plain.varTypes Try.prog) (ds ++ [])).all (· ≤ reachBytes) = true := hsz0
  have hkeep : ∀ W', Below W.heap.size W W' → ∀ sp : Nat → Bool, (∀ x ∈ p, sp x.block = true) → DataW.TrodAll enc Try.prog W' 0 sp true Try.f3.params.toList args.toList ds p :=
    fun W' hb sp hsp => trodAll_keep (by kernel_rfl) hb sp _ _ _ _ (by kernel_rfl) hA hlt hsp
  rw [Try.params3] at hA hval hsz
  obtain ⟨v0, vs0, d0, ds0, p0, q0, hargs, rfl, rfl, h0, r0⟩ := trodAll_cons hA
  obtain ⟨v1, vs1, d1, ds1, p1, q1, rfl, rfl, rfl, h1, r1⟩ := trodAll_cons r0
  obtain ⟨v2, vs2, d2, ds2, p2, q2, rfl, rfl, rfl, h2, r2⟩ := trodAll_cons r1
  obtain ⟨rfl, rfl, rfl⟩ := trodAll_nil r2
  obtain rfl : args = #[v0, v1, v2] := by cases args; simp_all
  obtain ⟨s0, rfl, rfl, rfl, m0⟩ := open_string Try.underlying9 (hval 0 9 v0 rfl rfl) h0
  obtain ⟨s1, rfl, rfl, rfl, m1⟩ := open_string Try.underlying9 (hval 1 9 v1 rfl rfl) h1
  obtain ⟨a2, rfl, rfl, rfl, w2⟩ := open_int Try.underlying3 (hval 2 3 v2 rfl rfl) h2
  have b0 : s0.data.toList.length ≤ reachBytes := sized_string hsz (j := 0) rfl rfl
  have b1 : s1.data.toList.length ≤ reachBytes := sized_string hsz (j := 1) rfl rfl
  simp only [reachBytes, Array.length_toList] at b0 b1
  refine (walk s0 s1 a2 w2 W (by exact b0) (by exact b1)).mono fun e W' ⟨he, hg⟩ => ?_
  subst he
  exact ⟨_, rfl, post_below (pa := _) (pv := []) hW' (fun _ _ _ => (trodAll_cons_mk (shut_bool Try.underlying4 _) trodAll_mk0)) (fun sp hsp => hkeep W' hg sp hsp) (fun _ _ => rfl) (by simp)
    hg (ok_one (by kernel_rfl) rfl (okWide_bool_mk Try.underlying4 _))⟩

theorem proved : Rows.AutoEditsSaid :=
  OpenClaim.holds_of_wide 3 Try.f3 rfl rfl rfl rfl rfl rfl rfl ⟨rfl, rfl, rfl, rfl, rfl⟩ rfl rfl rfl rfl rfl (by kernel_rfl) Try.func3 (by kernel_rfl)
    (of_decide_eq_true (by kernel_rfl)) (by unfold Func.isWrapper; first | (rw [if_pos (by decide +kernel)]; kernel_rfl) | (rw [if_neg (by decide +kernel)]; exact ⟨rfl, rfl⟩))
    (fun os started H enc _ => lifted os started H enc)
end Go.Proofs.Ytejmjjgbbojfbaa.autoEdits
