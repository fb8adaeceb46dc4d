/- CodecZigs: Zig, Zag and UvarintLen of every number are the document's; each is the other's inverse. No condition. -/
import Derived.Test.YtmmflhippbegaaaRows
import Derived.Test.YtmmflhippbegaaaNum
namespace Go.Proofs.Ytmmflhippbegaaa.codecZigs
open Go.ChangeShapes Go.WideShapes Go.ChangeAt Go.RowKit

theorem own : ownKnob Try.prog.godebug = none := by kernel_rfl

set_option maxRecDepth 100000 in
set_option maxHeartbeats 1000000 in
theorem walk (a0 : Int) (a1 : Int) (w0 : (Lit.int .i64 a0).wf = true) (w1 : (Lit.int .u64 a1).wf = true) (w : World) :
    Calls Try.prog 4 #[.int .i64 a0, .int .u64 a1] w fun e w' => e = .returned (.bool true) ∧ Below w.heap.size w w' := by
  obtain ⟨b0, b1⟩ : -9223372036854775808 ≤ a0 ∧ a0 ≤ 9223372036854775807 := by simpa [Lit.wf, IntKind.min, IntKind.max, IntKind.signed, IntKind.bits] using w0
  obtain ⟨c0, c1⟩ : 0 ≤ a1 ∧ a1 ≤ 18446744073709551615 := by simpa [Lit.wf, IntKind.min, IntKind.max, IntKind.signed, IntKind.bits] using w1
  clear w0 w1
  obtain ⟨n, rfl⟩ : ∃ n : Nat, a1 = n := ⟨a1.toNat, by omega⟩
  have hz := zigI_bd a0 b0 b1
  have hg := zagI_bd n c0 c1
  obtain ⟨m, hm⟩ : ∃ m : Nat, zigI a0 = m := ⟨(zigI a0).toNat, by omega⟩
  have e1 := zag_zig a0
  have e2 := zig_zag n c0
  have z2 : zigI (-2) = 3 := by decide
  have u2 : (uvar 128).length = 2 := by rw [uvar_big (by omega), uvar_small (by omega)]; rfl
  have hl := (uvar_le n (by omega)).2
  have hl2 := (uvar_le m (by omega)).2
  rw [hm] at e1 hz
  obtain ⟨q, hq⟩ : ∃ q, zagI n = q := ⟨_, rfl⟩
  rw [hq] at e2 hg
  have M := Lib.hid hm; have E1 := Lib.hid e1; have E2 := Lib.hid e2; have Z2 := Lib.hid z2; have U2 := Lib.hid u2; have HQ := Lib.hid hq
  clear hm e1 e2 z2 u2 hq
  go_enter Try.func4, Try.ntmps4
  go_wp2_with fail
  refine (zig_any _ _ (by omega) (by omega)).mono ?_
  rintro e w' ⟨rfl, rfl⟩
  rw [Z2.out]
  go_wp2_with fail
  refine (ulen_any 128 _ (by omega)).mono ?_
  rintro e w' ⟨rfl, rfl⟩
  rw [U2.out]
  go_wp2_with fail
  refine (zig_any _ _ (by omega) (by omega)).mono ?_
  rintro e w' ⟨rfl, rfl⟩
  rw [M.out]
  go_wp2_with fail
  refine (zag_any _ _ (by omega) (by omega)).mono ?_
  rintro e w' ⟨rfl, rfl⟩
  rw [HQ.out]
  go_wp2_with fail
  refine (rzig_any _ _ (by omega) (by omega)).mono ?_
  rintro e w' ⟨rfl, rfl⟩
  rw [M.out]
  go_wp2_with fail
  refine (rzag_any _ _ (by omega) (by omega)).mono ?_
  rintro e w' ⟨rfl, rfl⟩
  rw [HQ.out]
  go_wp2_with fail
  refine (zag_any _ _ (by omega) (by omega)).mono ?_
  rintro e w' ⟨rfl, rfl⟩
  rw [E1.out]
  go_wp2_with fail
  refine (zig_any _ _ (by omega) (by omega)).mono ?_
  rintro e w' ⟨rfl, rfl⟩
  rw [E2.out]
  go_wp2_with fail
  refine (ulen_any n _ (by omega)).mono ?_
  rintro e w' ⟨rfl, rfl⟩
  go_wp2_with fail
  refine (ruvar_any n _ (by omega)).mono ?_
  rintro e w1 ⟨v1, rfl, o1, g1⟩
  obtain ⟨ao, cp, rfl⟩ := own_slice o1
  rw [bytesV_length]
  go_wp2_with fail
  refine (ulen_any m _ (by omega)).mono ?_
  rintro e w' ⟨rfl, rfl⟩
  go_wp2_with fail
  refine (rvar_any _ _ (by omega) (by omega)).mono ?_
  rintro e w2 ⟨v2, rfl, o2, g2⟩
  rw [M.out, Int.toNat_natCast] at o2
  obtain ⟨ao2, cp2, rfl⟩ := own_slice o2
  rw [bytesV_length]
  go_wp2
  go_ret
  exact ⟨rfl, g1.trans (g2.mono g1.size)⟩

set_option linter.unusedVariables false
set_option maxRecDepth 100000 in
theorem lifted (os : Os) (started : os.Started) (H : Type) (enc : TypeId × Value → H) :
    ReturnsInHanded {} Try.checked os 4 .any (Rows.codecZigsSpec.pre6 enc Try.prog Try.f4 Rows.codecZigsRow.domain false) (Rows.codecZigsSpec.post enc Try.prog Try.f4 false true false false) := by
  refine returnsInHanded_of_change (C := Try.checked) own started (by kernel_rfl) Try.func4
    (ChangeSpec.witness6 (enc := enc) (C := Try.checked) false ⟨#[], #[.int .i64 0, .int .u64 0], []⟩ 8 (by kernel_rfl) (by kernel_rfl) (by kernel_rfl) (by kernel_rfl)) ?_
  intro W base args ds gs before hval0 hW hcnd _
  have hval : ∀ (j : Nat) t v, Try.f4.params[j]? = some t → args[j]? = some v → Value.okWide Try.prog W .any base t v := hval0
  have hW' := hW
  obtain ⟨p, q, hA0, hV, rfl, hfz, hnd⟩ := hW
  have hA : DataW.TrodAll enc Try.prog W 0 (fun _ => true) true Try.f4.params.toList args.toList ds p := hA0
  rw [Try.params4] at hA hval
  obtain ⟨v0, vs0, d0, ds0, p0, q0, hargs, rfl, rfl, h0, r0⟩ := trodAll_cons hA
  obtain ⟨v1, vs1, d1, ds1, p1, q1, rfl, rfl, rfl, h1, r1⟩ := trodAll_cons r0
  obtain ⟨rfl, rfl, rfl⟩ := trodAll_nil r1
  obtain rfl : args = #[v0, v1] := by cases args; simp_all
  obtain ⟨rfl, rfl⟩ := trodVars_none hV
  obtain ⟨a0, rfl, rfl, rfl, w0⟩ := open_int Try.underlying2 (hval 0 2 v0 rfl rfl) h0
  obtain ⟨a1, rfl, rfl, rfl, w1⟩ := open_int Try.underlying37 (hval 1 37 v1 rfl rfl) h1
  clear hA0 hval0
  simp only [List.append_nil] at hW'
  have hfin : W.frozen? = W.frozen? := rfl
  refine (walk a0 a1 w0 w1 W).mono fun e W' ⟨he, hg⟩ => ?_
  subst he
  exact ⟨_, rfl, post_below (pa := []) (pv := []) hW' (fun _ _ _ => (trodAll_cons_mk (shut_bool Try.underlying4 _) trodAll_mk0)) (fun sp _ => (trodAll_cons_mk (shut_int Try.underlying2 w0) (trodAll_cons_mk (shut_int Try.underlying37 w1) trodAll_mk0))) (fun _ _ => rfl) rfl
    hg (ok_one (by kernel_rfl) rfl (okWide_bool_mk Try.underlying4 _))⟩

theorem proved : Rows.CodecZigsSaid :=
  OpenClaim.holds_of_wide 4 Try.f4 rfl rfl rfl rfl rfl rfl rfl ⟨rfl, rfl, rfl, rfl, rfl⟩ rfl rfl rfl rfl rfl (by kernel_rfl) Try.func4 (by kernel_rfl)
    (of_decide_eq_true (by kernel_rfl)) (by unfold Func.isWrapper; first | (rw [if_pos (by decide +kernel)]; kernel_rfl) | (rw [if_neg (by decide +kernel)]; exact ⟨rfl, rfl⟩))
    (fun os started H enc _ => lifted os started H enc)
end Go.Proofs.Ytmmflhippbegaaa.codecZigs
